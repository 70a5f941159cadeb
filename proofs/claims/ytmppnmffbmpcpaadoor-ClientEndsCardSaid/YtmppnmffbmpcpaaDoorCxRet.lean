/- The symbolic layer: results that stand in a cell and beside it; loads whose order beside stores is open. -/
import Derived.Test.YtmppnmffbmpcpaaDoorCxMore
set_option linter.unusedVariables false
set_option linter.unusedSimpArgs false
namespace Go.Vm
open Go.RowKit

section
variable {E : Env} {N : Nat} {ds : List Deferred} {φ : Fr} {m : AM}
theorem retc2 {S : CR → AM → Prop} {k : List Item} {t u : Nat} {T : TypeId} {x p y : AV} (h : ev N φ (.tmp t) = p) (hl : aload E m T p = some x) (h2 : ev N φ (.tmp u) = y) (hs : S (.ret (.tup [x, y])) m) : RunJ E N ds (.code .ret :: k) φ m (BodyR E [.cell t T, .tmp u] N S) := by
  refine run_ret ⟨.tup [x, y], ?_, hs⟩
  subst h h2
  show (aresults E [.cell t T, .tmp u] (frL N φ) m) = some (.tup [x, ev N φ (.tmp u)])
  have h1 : (frL N φ).getD t (.v undef) = ev N φ (.tmp t) := by rw [← frL_ev]; rfl
  have h2 : (frL N φ).getD u (.v undef) = ev N φ (.tmp u) := by rw [← frL_ev]; rfl
  simp only [aresults, List.mapM_cons, List.mapM_nil, aresult, h1, h2, hl]
  rfl
theorem retc3 {S : CR → AM → Prop} {k : List Item} {t u v : Nat} {T : TypeId} {x p y z : AV} (h : ev N φ (.tmp t) = p) (hl : aload E m T p = some x) (h2 : ev N φ (.tmp u) = y) (h3 : ev N φ (.tmp v) = z) (hs : S (.ret (.tup [x, y, z])) m) : RunJ E N ds (.code .ret :: k) φ m (BodyR E [.cell t T, .tmp u, .tmp v] N S) := by
  refine run_ret ⟨.tup [x, y, z], ?_, hs⟩
  subst h h2 h3
  show (aresults E [.cell t T, .tmp u, .tmp v] (frL N φ) m) = some (.tup [x, ev N φ (.tmp u), ev N φ (.tmp v)])
  have h1 : (frL N φ).getD t (.v undef) = ev N φ (.tmp t) := by rw [← frL_ev]; rfl
  have h2 : (frL N φ).getD u (.v undef) = ev N φ (.tmp u) := by rw [← frL_ev]; rfl
  have h3 : (frL N φ).getD v (.v undef) = ev N φ (.tmp v) := by rw [← frL_ev]; rfl
  simp only [aresults, List.mapM_cons, List.mapM_nil, aresult, h1, h2, h3, hl]
  rfl
theorem al2 {t : TypeId} {s k off L : Nat} {l : AM} {cells xs : List AV} {e : TypeId} {p : Bool} (hL : m.length = L) (ht : tagg E t = some true) (hs : tsize E t = some s) (hk : l[k]? = some (.wr cells e p)) (hc : (cells.drop off).take s = xs) (hl : xs.length = s) : aload E (mx m l) t (.ptr (L + k) off) = some (.agg xs) := ald_agg ht hs (mx_get hL hk) hc hl

/-- Pairs whose order is open. -/
def DynAll (E : Env) (ops : Array Oper) (recs : List Sy.SRec) : List (Nat × Nat) → Prop
  | [] => True
  | ij :: l => (∀ r q, recs[ij.1]? = some r → recs[ij.2]? = some q → DynOk E ops r q) ∧ DynAll E ops recs l
theorem DynAll.mem {ops : Array Oper} {recs : List Sy.SRec} : ∀ {l : List (Nat × Nat)}, DynAll E ops recs l → ∀ ij ∈ l, ∀ r q, recs[ij.1]? = some r → recs[ij.2]? = some q → DynOk E ops r q
  | [], _, ij, h => by cases h
  | x :: l, ⟨h1, h2⟩, ij, h => by
    rcases List.mem_cons.1 h with rfl | h
    · exact h1
    · exact DynAll.mem h2 ij h
theorem dyn_at {ops : Array Oper} {recs : List Sy.SRec} {i j : Nat} {r q : Sy.SRec} (hr : recs[i]? = some r) (hq : recs[j]? = some q) (h : DynOk E ops r q) : ∀ r' q', recs[i]? = some r' → recs[j]? = some q' → DynOk E ops r' q' := fun r' q' hr' hq' => by
  rw [hr] at hr'; rw [hq] at hq'
  obtain rfl := Option.some.inj hr'
  obtain rfl := Option.some.inj hq'
  exact h
/-- A look ahead of a store elsewhere. -/
theorem dyn_ahead {ops : Array Oper} {recs : List Sy.SRec} {i j i1 j1 : Nat} {o q : Oper} {φ1 : Fr} {a2 : AF} {fn : FuncId} {x y : AV} {m1 m1' m2 m2' : AM} {b1 b2 : Bool} (hr : recs[i]? = some ⟨i1, o, frL N φ1, m1, x, m1', false, b1⟩) (hq : recs[j]? = some ⟨j1, q, a2, m2, y, m2', true, b2⟩)
    (hg : o.guard = none) (hc : isFnCall o = false) (h : aop E noCall fn (ev N φ1) m2' o = some (.ret x m2')) : ∀ r' q', recs[i]? = some r' → recs[j]? = some q' → DynOk E ops r' q' :=
  dyn_at hr hq (.inr ⟨rfl, rfl, stepG_of (step_aop h hc) (wanted_none hg φ1)⟩)
/-- A look behind a store elsewhere. -/
theorem dyn_behind {ops : Array Oper} {recs : List Sy.SRec} {i j i1 j1 : Nat} {o q : Oper} {φ1 : Fr} {a2 : AF} {fn : FuncId} {x y : AV} {m1 m1' m2 m2' : AM} {b1 b2 : Bool} (hr : recs[i]? = some ⟨j1, q, a2, m2, y, m2', true, b2⟩) (hq : recs[j]? = some ⟨i1, o, frL N φ1, m1, x, m1', false, b1⟩)
    (hg : o.guard = none) (hc : isFnCall o = false) (h : aop E noCall fn (ev N φ1) m2 o = some (.ret x m2)) : ∀ r' q', recs[i]? = some r' → recs[j]? = some q' → DynOk E ops r' q' :=
  dyn_at hr hq (.inl ⟨rfl, rfl, stepG_of (step_aop h hc) (wanted_none hg φ1)⟩)
end
end Go.Vm
