/- What the condition on the package's variables gives the machine: the errors' cells, the arrays' cells. -/
import Derived.Test.YtmppnmffbmpcpaaDoorVmExF
import Derived.LaidLaws
import Derived.LaidHandle
import Derived.WalkKit
set_option linter.unusedVariables false
set_option linter.unusedSimpArgs false
namespace Go.Vm
open Go.RowKit

def litVal : Lit → Value
  | .bool b => .bool b
  | .int k n => .int k n
  | .float k b => .float k b
  | .string s => .string ⟨s.toArray⟩
  | .nil => undef

section
variable {H : Type} {enc : TypeId × Value → H} {P : Program} {W : World} {base : Nat} {sp : Nat → Bool} {held : Bool}

theorem lit_of_trod {fuel : Nat} {e : TypeId} {cs : List Value} {x : Lit} {p : List MemPlace} (h : DataW.trod enc P W base sp held fuel e cs = some (.lit x, p)) : cs = [litVal x] := by
  cases fuel with
  | zero => simp [DataW.trod] at h
  | succ fuel =>
    unfold DataW.trod at h
    split at h
    · simp only [Option.some.injEq, Prod.mk.injEq, DataW.lit.injEq] at h
      rw [← h.1]; rfl
    · split at h
      · rename_i hc
        simp only [Option.some.injEq, Prod.mk.injEq, DataW.lit.injEq] at h
        rw [← h.1, ← hc.1]; rfl
      · cases h
    · split at h
      · rename_i hc
        simp only [Option.some.injEq, Prod.mk.injEq, DataW.lit.injEq] at h
        rw [← h.1, ← hc.1]; rfl
      · cases h
    · split at h
      · simp only [Option.some.injEq, Prod.mk.injEq, DataW.lit.injEq] at h
        rw [← h.1]
        simp [litVal]
      · cases h
    case h_14 =>
      split at h
      · split at h
        · simp only [Option.bind_eq_some_iff] at h
          obtain ⟨en, _, h⟩ := h
          split at h
          · simp at h
          · cases h
        · cases h
      · cases h
    all_goals first
      | (simp at h; done)
      | (simp only [Option.map_eq_some_iff, Prod.mk.injEq, reduceCtorEq, false_and, and_false, exists_false] at h; done)
      | (dsimp only at h
         split at h
         · simp only [Option.bind_eq_some_iff, Option.map_eq_some_iff, Prod.mk.injEq, reduceCtorEq, false_and, and_false, exists_false] at h
         · cases h)
      | (split at h
         · split at h
           · simp only [Option.bind_eq_some_iff] at h
             obtain ⟨_, _, h⟩ := h
             dsimp only at h
             split at h
             · simp at h
             · cases h
           · cases h
         · cases h)
      | (split at h
         · simp only [Option.map_eq_some_iff, Prod.mk.injEq, reduceCtorEq, false_and, and_false, exists_false] at h
         · cases h)
      | (split at h
         · simp at h
         · simp only [Option.map_eq_some_iff, Prod.mk.injEq, reduceCtorEq, false_and, and_false, exists_false] at h
         · cases h)
      | (split at h <;> simp at h)

theorem mapM_get {α β : Type} {f : α → Option β} : ∀ {l : List α} {xs : List β}, l.mapM f = some xs → ∀ (i : Nat) y, xs[i]? = some y → ∃ a, l[i]? = some a ∧ f a = some y
  | [], xs, h, i, y, hy => by
    simp only [List.mapM_nil] at h
    obtain rfl := Option.some.inj h
    simp at hy
  | a :: l, xs, h, i, y, hy => by
    rw [List.mapM_cons] at h
    simp only [Option.bind_eq_bind, Option.bind_eq_some_iff] at h
    obtain ⟨z, hz, s, hs, h⟩ := h
    obtain rfl := Option.some.inj h
    cases i with
    | zero =>
      simp only [List.getElem?_cons_zero, Option.some.injEq] at hy
      exact ⟨a, rfl, hy ▸ hz⟩
    | succ i =>
      simp only [List.getElem?_cons_succ] at hy ⊢
      exact mapM_get hs i y hy

theorem arr_of_trod {fuel : Nat} {t e : TypeId} {n : Nat} {cs : List Value} {ds : List (DataW H)} {p : List MemPlace} (ht : P.underlying t = some (.array n e)) (hc : P.cellsOf e = 1)
    (h : DataW.trod enc P W base sp held fuel t cs = some (.agg ds, p)) : ∀ (i : Nat) x, ds[i]? = some (.lit x) → cs[i]? = some (litVal x) := by
  cases fuel with
  | zero => simp [DataW.trod] at h
  | succ fuel =>
    unfold DataW.trod at h
    simp only [ht] at h
    split at h
    case isFalse => cases h
    simp only [Option.map_eq_some_iff, Prod.mk.injEq, DataW.agg.injEq] at h
    obtain ⟨xs, hxs, rfl, _⟩ := h
    intro i x hx
    simp only [List.getElem?_map, Option.map_eq_some_iff] at hx
    obtain ⟨y, hy, hyx⟩ := hx
    obtain ⟨j, hj, hf⟩ := mapM_get hxs i y hy
    have hji : j = i := by
      obtain ⟨hlt, he⟩ := List.getElem?_eq_some_iff.1 hj
      simpa using he.symm
    obtain ⟨y1, y2⟩ := y
    simp only at hyx
    subst hyx
    have hl := lit_of_trod hf
    rw [hc, Nat.mul_one, hji] at hl
    have : ((cs.drop i).take 1)[0]? = some (litVal x) := by rw [hl]; rfl
    rw [List.getElem?_take, if_pos (by omega), List.getElem?_drop, Nat.add_zero] at this
    exact this

theorem laid_one {w : World} : ∀ {l : List (String × DataW Unit)} {ps : List MemPlace}, DataW.LaidVars P w l ps → ∀ (i : Nat) n d, l[i]? = some (n, d) →
    ∃ g t cs fuel p, P.globalNamed n = some g ∧ (P.globals[g]?).map (·.type) = some t ∧ w.var? P n = some cs ∧ DataW.trod (fun _ => ()) P w 0 (fun _ => true) false fuel t cs.toList = some (d, p) ∧
      (∀ x ∈ p, x ∈ ps) ∧ ∀ x ∈ MemPlace.row ⟨g, 0, none⟩ cs.size, x ∈ ps
  | [], ps, h, i, n, d, hi => by simp at hi
  | (m, e) :: r, ps, h, i, n, d, hi => by
    obtain ⟨g, t, cs, fuel, p, q, h1, h2, h3, h4, h5, rfl⟩ := h
    cases i with
    | zero =>
      simp only [List.getElem?_cons_zero, Option.some.injEq, Prod.mk.injEq] at hi
      obtain ⟨rfl, rfl⟩ := hi
      exact ⟨g, t, cs, fuel, p, h1, h2, h3, h4, fun x hx => by simp [hx], fun x hx => by simp [hx]⟩
    | succ i =>
      simp only [List.getElem?_cons_succ] at hi
      obtain ⟨g', t', cs', f', p', k1, k2, k3, k4, k5, k6⟩ := laid_one h5 i n d hi
      exact ⟨g', t', cs', f', p', k1, k2, k3, k4, fun x hx => by simp [k5 x hx], fun x hx => by simp [k6 x hx]⟩

theorem laid_two {w : World} : ∀ {l : List (String × DataW Unit)} {ps : List MemPlace}, DataW.LaidVars P w l ps → ps.Nodup → ∀ (i j : Nat) n d n' d', i < j → l[i]? = some (n, d) → l[j]? = some (n', d') →
    ∃ g t cs fuel p g' t' cs' fuel' p', P.globalNamed n = some g ∧ (P.globals[g]?).map (·.type) = some t ∧ w.var? P n = some cs ∧ DataW.trod (fun _ => ()) P w 0 (fun _ => true) false fuel t cs.toList = some (d, p) ∧
      P.globalNamed n' = some g' ∧ (P.globals[g']?).map (·.type) = some t' ∧ w.var? P n' = some cs' ∧ DataW.trod (fun _ => ()) P w 0 (fun _ => true) false fuel' t' cs'.toList = some (d', p') ∧ (∀ x ∈ p, x ∉ p') ∧
      (∀ x ∈ p, x ∈ ps) ∧ (∀ x ∈ MemPlace.row ⟨g, 0, none⟩ cs.size, x ∈ ps) ∧ (∀ x ∈ p', x ∈ ps) ∧ ∀ x ∈ MemPlace.row ⟨g', 0, none⟩ cs'.size, x ∈ ps
  | [], ps, h, hn, i, j, n, d, n', d', hij, hi, hj => by simp at hi
  | (m, e) :: r, ps, h, hn, i, j, n, d, n', d', hij, hi, hj => by
    obtain ⟨g, t, cs, fuel, p, q, h1, h2, h3, h4, h5, rfl⟩ := h
    cases j with
    | zero => omega
    | succ j =>
      simp only [List.getElem?_cons_succ] at hj
      cases i with
      | zero =>
        simp only [List.getElem?_cons_zero, Option.some.injEq, Prod.mk.injEq] at hi
        obtain ⟨rfl, rfl⟩ := hi
        obtain ⟨g', t', cs', f', p', k1, k2, k3, k4, k5, k6⟩ := laid_one h5 j n' d' hj
        refine ⟨g, t, cs, fuel, p, g', t', cs', f', p', h1, h2, h3, h4, k1, k2, k3, k4, fun x hx hx' => ?_, fun x hx => by simp [hx], fun x hx => by simp [hx], fun x hx => by simp [k5 x hx], fun x hx => by simp [k6 x hx]⟩
        exact (List.nodup_append.1 hn).2.2 x (by simp [hx]) x (k5 x hx') rfl
      | succ i =>
        simp only [List.getElem?_cons_succ] at hi
        obtain ⟨g, t, cs, fuel, p, g', t', cs', fuel', p', k1, k2, k3, k4, k5, k6, k7, k8, k9, k10, k11, k12, k13⟩ := laid_two h5 (List.nodup_append.1 hn).2.1 i j n d n' d' (by omega) hi hj
        exact ⟨g, t, cs, fuel, p, g', t', cs', fuel', p', k1, k2, k3, k4, k5, k6, k7, k8, k9, fun x hx => by simp [k10 x hx], fun x hx => by simp [k11 x hx], fun x hx => by simp [k12 x hx], fun x hx => by simp [k13 x hx]⟩

def isErr : DataW Unit → Bool
  | .iface nm (.ptr (.agg [.lit (.string _)])) => nm == "*errors.errorString"
  | _ => false
theorem isErr_eq {d : DataW Unit} (h : isErr d = true) : ∃ t, d = .iface "*errors.errorString" (.ptr (.agg [.lit (.string t)])) := by
  unfold isErr at h
  split at h
  · exact ⟨_, by rw [eq_of_beq h]⟩
  · cases h

/-- The types behind an error of errors.New's make. -/
structure ErrTypes (P : Program) (ti tp te ts : TypeId) : Prop where
  iface : ∃ ms, P.underlying ti = some (.interface ms)
  row : ∀ u, P.typeName? 3 u = some "*errors.errorString" → u = tp
  ptr : P.underlying tp = some (.pointer te)
  str : ∃ f : Field, P.underlying te = some (.struct #[f]) ∧ f.type = ts ∧ f.offset = 0
  string : P.underlying ts = some .string
  one : P.cellsOf te = 1
  one' : P.cellsOf ts = 1

theorem err_one {w : World} {l : List (String × DataW Unit)} (hL : laidMet P l w) {ti tp te ts : TypeId} (hT : ErrTypes P ti tp te ts) {n : String} {cs : Array Value} {g fuel : Nat} {t : List UInt8} {p ps : List MemPlace}
    (hok : ∀ b off, MemPlace.cell b off ∈ ps → (∃ c t, w.heap[b]? = some (.cells c t (0, 0))) ∧ ∀ u v, w.cell? ⟨b, off, none⟩ = some (.iface u v) → Value.okWide P w .any 0 u v)
    (hg : P.globalNamed n = some g) (hv : w.var? P n = some cs) (h : DataW.trod (fun _ => ()) P w 0 (fun _ => true) false fuel ti cs.toList = some (.iface "*errors.errorString" (.ptr (.agg [.lit (.string t)])), p))
    (hp : ∀ x ∈ p, x ∈ ps) (hr : ∀ x ∈ MemPlace.row ⟨g, 0, none⟩ cs.size, x ∈ ps) :
    ∃ a c ty, w.cell? ⟨g, 0, none⟩ = some (.iface tp (.pointer (some a))) ∧ w.heap[a.block]? = some (.cells c ty (0, 0)) ∧ p = [.cell a.block a.off] := by
  obtain ⟨ms, hms⟩ := hT.iface
  obtain ⟨f, hf, hft, hfo⟩ := hT.str
  have hcell : ∀ off, w.cell? ⟨g, off, none⟩ = cs[off]? := fun off => World.var?_cell hg hv off
  obtain ⟨a, s, e1, e2, _, _, rfl⟩ := errorString_of_trod hms hT.row hT.ptr hf hft hfo hT.string hT.one hT.one' h (fun u v hc => by
    have hcs : cs = #[.iface u v] := by rw [← Array.toArray_toList (xs := cs), hc]
    refine (hok g 0 (hr _ ?_)).2 u v ?_
    · rw [hcs]; simp [MemPlace.row]
    · rw [hcell, hcs]; rfl)
  have hcs : cs = #[.iface tp (.pointer (some a))] := by rw [← Array.toArray_toList (xs := cs), e1]
  have hrow : MemPlace.row a 1 = [.cell a.block a.off] := by simp [MemPlace.row]
  rw [hrow] at hp
  obtain ⟨⟨c, ty, hb⟩, _⟩ := hok a.block a.off (hp _ (by simp))
  exact ⟨a, c, ty, by rw [hcell, hcs]; rfl, hb, hrow⟩

/-- What is known at first: all that stands in memory. -/
def g0 (W : World) (V : Nat → Value) : G := ⟨fun a => W.cell? a, fun _ => none, fun _ => none, fun i => (W.cell? ⟨i, 0, none⟩).getD undef, V⟩

theorem sent_of_laid {E : Env} {V : Nat → Value} {l : List (String × DataW Unit)} (hL : laidMet E.P l W) {ti te ts : TypeId} (hT : ErrTypes E.P ti E.errT te ts)
    (hs : ∀ i, E.sent i = true → ∃ (k : Nat) (n : String) (d : DataW Unit), l[k]? = some (n, d) ∧ isErr d = true ∧ E.P.globalNamed n = some i ∧ (E.P.globals[i]?).map (·.type) = some ti) : Sent E W (g0 W V) := by
  have hL' := hL
  obtain ⟨ps, hv, hn, hok⟩ := hL
  have one : ∀ i, E.sent i = true → ∃ a c ty, W.cell? ⟨i, 0, none⟩ = some (.iface E.errT (.pointer (some a))) ∧ W.heap[a.block]? = some (.cells c ty (0, 0)) := by
    intro i hi
    obtain ⟨k, n, d, hk, hd, hg, ht⟩ := hs i hi
    obtain ⟨t, rfl⟩ := isErr_eq hd
    obtain ⟨g, t', cs, fuel, p, h1, h2, h3, h4, h5, h6⟩ := laid_one hv k n _ hk
    obtain rfl := Option.some.inj (hg.symm.trans h1)
    obtain rfl := Option.some.inj (ht.symm.trans h2)
    obtain ⟨a, c, ty, e1, e2, _⟩ := err_one hL' hT hok hg h3 h4 h5 h6
    exact ⟨a, c, ty, e1, e2⟩
  have key : ∀ i j, E.sent i = true → E.sent j = true → (g0 W V).U i = (g0 W V).U j → ∀ (k k' : Nat) n n' d d', k < k' → l[k]? = some (n, d) → l[k']? = some (n', d') → isErr d = true → isErr d' = true → E.P.globalNamed n = some i → E.P.globalNamed n' = some j →
      (E.P.globals[i]?).map (·.type) = some ti → (E.P.globals[j]?).map (·.type) = some ti → False := by
    intro i j hi hj hu k k' n n' d d' hlt hk hk' hd hd' hg hg' ht ht'
    obtain ⟨t, rfl⟩ := isErr_eq hd
    obtain ⟨t', rfl⟩ := isErr_eq hd'
    obtain ⟨g, u, cs, fuel, p, g', u', cs', fuel', p', k1, k2, k3, k4, k5, k6, k7, k8, k9, k10, k11, k12, k13⟩ := laid_two hv hn k k' n _ n' _ hlt hk hk'
    obtain rfl := Option.some.inj (hg.symm.trans k1)
    obtain rfl := Option.some.inj (hg'.symm.trans k5)
    obtain rfl := Option.some.inj (ht.symm.trans k2)
    obtain rfl := Option.some.inj (ht'.symm.trans k6)
    obtain ⟨a, c, ty, e1, _, e3⟩ := err_one hL' hT hok hg k3 k4 k10 k11
    obtain ⟨a', c', ty', e1', _, e3'⟩ := err_one hL' hT hok hg' k7 k8 k12 k13
    simp only [g0, e1, e1', Option.getD_some, Value.iface.injEq, Value.pointer.injEq, Option.some.injEq, true_and] at hu
    subst hu
    exact k9 (.cell a.block a.off) (by rw [e3]; simp) (by rw [e3']; simp)
  refine ⟨fun i hi => ?_, fun i hi => ?_, fun i j hi hj he => ?_⟩
  · obtain ⟨a, c, ty, h1, h2⟩ := one i hi
    simp only [g0, h1, Option.getD_some]
  · obtain ⟨a, c, ty, h1, h2⟩ := one i hi
    exact ⟨a, c, ty, by simp only [g0, h1, Option.getD_some], (Array.getElem?_eq_some_iff.1 h2).1, h2⟩
  · obtain ⟨k, n, d, hk, hd, hg, ht⟩ := hs i hi
    obtain ⟨k', n', d', hk', hd', hg', ht'⟩ := hs j hj
    rcases Nat.lt_trichotomy k k' with hlt | rfl | hgt
    · exact (key i j hi hj he k k' n n' d d' hlt hk hk' hd hd' hg hg' ht ht').elim
    · rw [hk] at hk'
      obtain ⟨rfl, rfl⟩ := Prod.mk.inj (Option.some.inj hk')
      exact Option.some.inj (hg.symm.trans hg')
    · exact (key j i hj hi he.symm k' k n' n d' d hgt hk' hk hd' hd hg' hg ht' ht).elim

/-- The machine may begin. -/
theorem Inv.begin {E : Env} {V : Nat → Value} (hf : ∀ f ∈ E.facts, FactOk E.P V f) (hs : Sent E W (g0 W V)) (hg : ∀ i cs, E.glob i = some cs → ∀ off v, cs[off]? = some v → W.cell? ⟨i, off, none⟩ = some v) : Inv E W (g0 W V) [] W :=
  ⟨Below.refl _ _, fun a v h => h, hg, fun i ti h => (nomatch h), fun i b hb => by simp at hb, fun i j bi bj ti tj _ hb => by simp at hb, fun b o h => (nomatch h), hs, hf⟩

/-- An array of plain values, in memory. -/
theorem arr_in_memory {l : List (String × DataW Unit)} (hL : laidMet P l W) {k : Nat} {n : String} {ds : List (DataW Unit)} (hk : l[k]? = some (n, .agg ds)) {i : Nat} {t e : TypeId} {m : Nat} (hg : P.globalNamed n = some i) (ht : (P.globals[i]?).map (·.type) = some t)
    (ha : P.underlying t = some (.array m e)) (hc : P.cellsOf e = 1) {vs : List Lit} (hd : ds = vs.map .lit) : ∀ off v, (vs.map litVal)[off]? = some v → W.cell? ⟨i, off, none⟩ = some v := by
  obtain ⟨ps, hv, hn, hok⟩ := hL
  obtain ⟨g, t', cs, fuel, p, h1, h2, h3, h4, _, _⟩ := laid_one hv k n _ hk
  obtain rfl := Option.some.inj (hg.symm.trans h1)
  obtain rfl := Option.some.inj (ht.symm.trans h2)
  intro off v hv'
  simp only [List.getElem?_map, Option.map_eq_some_iff] at hv'
  obtain ⟨x, hx, rfl⟩ := hv'
  have := arr_of_trod ha hc h4 off x (by rw [hd, List.getElem?_map, hx]; rfl)
  rw [World.var?_cell hg h3 off, ← Array.getElem?_toList]
  exact this
end
end Go.Vm
