/- The symbolic layer: pieces of texts and slices, runs in a memory of their own, comparisons with nil. -/
import Derived.Test.YtmppnmffbmpcpaaDoorCxStep
set_option linter.unusedVariables false
set_option linter.unusedSimpArgs false
namespace Go.Vm
open Go.RowKit

section
variable {E : Env} {call : ACall} {fn : FuncId} {ρ : Operand → AV} {m : AM} {d : Option Tmp} {ty : TypeId} {pos : String} {aft : Array Edge} {gd : Option (Nat × Bool)}

theorem bstr_extract (l : List UInt8) (a b : Nat) : (bstr l).extract a b = bstr ((l.take b).drop a) := by
  apply ByteArray.ext
  rw [ByteArray.data_extract]
  apply Array.ext'
  simp [List.extract_eq_take_drop, List.drop_take]

/-- A bound of a piece. -/
def Bnd (ρ : Operand → AV) (x : Option Operand) (dflt n : Nat) : Prop :=
  match x with
  | none => n = dflt
  | some a => ∃ k i, ρ a = .v (.int k i) ∧ i = (n : Int)

theorem a_slice_str {t : TypeId} {x : Operand} {lo hi : Option Operand} {l : List UInt8} {a b : Nat} (ht : E.P.underlying t = some .string) (hx : ρ x = .v (.string (bstr l))) (hlo : Bnd ρ lo 0 a) (hhi : Bnd ρ hi l.length b) (hab : a ≤ b) (hb : b ≤ l.length) :
    aop E call fn ρ m ⟨d, .slice t x lo hi none, ty, pos, aft, gd⟩ = some (.ret (.v (.string (bstr ((l.take b).drop a)))) m) := by
  have hz : (bstr l).size = l.length := by simp [bstr, ByteArray.size]
  have hf : flatOp E ρ m ⟨d, .slice t x lo hi none, ty, pos, aft, gd⟩ = some (.ret (.v (.string (bstr ((l.take b).drop a)))) m) := by
    cases lo with
    | none =>
      simp only [Bnd] at hlo
      subst hlo
      cases hi with
      | none =>
        simp only [Bnd] at hhi
        subst hhi
        refine flat1 (by simp [Op.operands, hx, AV.flat]) ?_
        simp [execOp, hx, AV.flat, Instr.sliceAt, Instr.slice, Instr.sliceBounds, pr_bind, pr_map, pr_pure, pr_underlying ht, hz, bstr_extract]
      | some h =>
        obtain ⟨k, i, h1, rfl⟩ := hhi
        refine flat1 (by simp [Op.operands, hx, h1, AV.flat]) ?_
        simp [execOp, hx, h1, AV.flat, Instr.sliceAt, Instr.slice, Instr.sliceBounds, Instr.sliceBound, asIntOf, pr_bind, pr_map, pr_pure, pr_underlying ht, hz, bstr_extract, hb]
    | some o =>
      obtain ⟨k, i, h1, rfl⟩ := hlo
      cases hi with
      | none =>
        simp only [Bnd] at hhi
        subst hhi
        refine flat1 (by simp [Op.operands, hx, h1, AV.flat]) ?_
        simp [execOp, hx, h1, AV.flat, Instr.sliceAt, Instr.slice, Instr.sliceBounds, Instr.sliceBound, asIntOf, pr_bind, pr_map, pr_pure, pr_underlying ht, hz, bstr_extract, hab]
      | some h =>
        obtain ⟨k2, i2, h2, rfl⟩ := hhi
        refine flat1 (by simp [Op.operands, hx, h1, h2, AV.flat]) ?_
        simp [execOp, hx, h1, h2, AV.flat, Instr.sliceAt, Instr.slice, Instr.sliceBounds, Instr.sliceBound, asIntOf, pr_bind, pr_map, pr_pure, pr_underlying ht, hz, bstr_extract, hab, hb]
  simp only [aop, hf]

theorem x_idx_arr {t e : TypeId} {x ix : Operand} {es j off n k : Nat} {kd : IntKind} {i : Int} (ht : E.P.underlying t = some (.array n e)) (hs : tsize E e = some es) (hx : ρ x = .ptr j off) (hix : ρ ix = .v (.int kd i)) (hi : i = (k : Nat)) (hk : k < n) :
    aop E call fn ρ m ⟨d, .indexAddr t x ix, ty, pos, aft, gd⟩ = some (.ret (.ptr j (off + k * es)) m) := a_indexAddr (by rw [hx, hix]; exact aia_arr ht hs hi hk)
theorem x_idx_sl {t e : TypeId} {x ix : Operand} {es n k : Nat} {kd : IntKind} {i : Int} {cells l : List AV} {cap own : Option Nat} (ht : E.P.underlying t = some (.slice e)) (hs : tsize E e = some es) (h0 : 0 < es) (hx : ρ x = .sl cells es n cap own) (hix : ρ ix = .v (.int kd i)) (hi : i = (k : Nat)) (hk : k < n) (hn : n * es ≤ cells.length) (hl : (cells.drop (k * es)).take es = l) :
    aop E call fn ρ m ⟨d, .indexAddr t x ix, ty, pos, aft, gd⟩ = some (.ret (.ep l) m) := a_indexAddr (by rw [hx, hix]; exact aia_sl ht hs h0 hi hk hn hl)

theorem a_extract_v {x : Operand} {i : Nat} {vs : Array Value} {y : Value} (hx : ρ x = .v (.tuple vs)) (hi : vs[i]? = some y) : aop E call fn ρ m ⟨d, .extract x i, ty, pos, aft, gd⟩ = some (.ret (.v y) m) := by
  have hf : flatOp E ρ m ⟨d, .extract x i, ty, pos, aft, gd⟩ = some (.ret (.v y) m) := by
    refine flat1 (by simp [Op.operands, hx, AV.flat]) ?_
    simp [execOp, hx, AV.flat, Instr.extract, pr_bind, pr_map, pr_pure, hi]
  simp only [aop, hx, hf]
end

section
variable {E : Env} {N : Nat} {ds : List Deferred} {ops : Array Oper} {rest : List Oper} {φ : Fr} {m : AM} {K : Fr → AM → Prop} {R : CX → Fr → AM → Prop} {dst : Option Tmp} {ty : TypeId} {pos : String} {aft : Array Edge}

/-- A slice, nil or not: what is nil is empty. -/
theorem step_isnil {ρ : Operand → AV} {x y : Operand} {t yt e : TypeId} {cells : List AV} {es n : Nat} {cap own : Option Nat} {gd : Option (Nat × Bool)} (ht : E.P.underlying t = some (.slice e)) (hx : ρ x = .sl cells es n cap own) (hy : ρ y = .v (.slice none 0 0)) :
    StepS E ρ ⟨dst, .binOp .eql t x y yt, ty, pos, aft, gd⟩ m fun r n' => n' = m ∧ ∃ b, r = .ret (.v (.bool b)) ∧ (b = true → cells = []) := by
  refine ⟨fun w0 g act w hi hρ KK QQ h1 h2 => ?_⟩
  have hrx := hρ x (by simp [Op.operands])
  have hry := hρ y (by simp [Op.operands])
  rw [hx] at hrx
  rw [hy] at hry
  simp only [Rep] at hrx hry
  obtain ⟨A, c, l, hv, hc1, hc2, hc3, hc4, hl, hk, ho⟩ := hrx
  unfold Oper.wp
  have hrun : (execOp act.eval ⟨dst, .binOp .eql t x y yt, ty, pos, aft, gd⟩).run E.P w = .ok (.value (.bool A.isNone)) w := by
    have heq : ∀ q, (Op.equalIn (q + 1) t (.slice A n c) (.slice none 0 0)).run E.P w = .ok A.isNone w := fun q => by
      cases A with
      | none => simp [Op.equalIn, run_underlying ht]
      | some a => simp [Op.equalIn, run_underlying ht]
    simp only [execOp, hv, hry, binOp, eqGuard]
    have : Op.equal t (.slice A n c) (.slice none 0 0) = Op.equalIn (9999 + 1) t (.slice A n c) (.slice none 0 0) := rfl
    rw [this]
    simp [heq 9999]
  rw [hrun]
  refine h1 (.v (.bool A.isNone)) m _ w g ⟨rfl, _, rfl, fun hn => ?_⟩ (.refl g) hi (by simp only [Rep])
  cases A with
  | some a => cases hn
  | none =>
    cases cells with
    | nil => rfl
    | cons a r =>
      have hlen := hl.length
      cases l with
      | nil => simp at hlen
      | cons v s =>
        obtain ⟨ad, had, _⟩ := hk 0 v rfl
        cases had
theorem ops_isnil {x y : Operand} {t yt e : TypeId} {cells : List AV} {es n : Nat} {cap own : Option Nat} (ht : E.P.underlying t = some (.slice e)) (hx : ev N φ x = .sl cells es n cap own) (hy : ev N φ y = .v (.slice none 0 0))
    (h : ∀ b, (b = true → cells = []) → OpsJ E N ds ops rest (fput φ dst (.v (.bool b))) m K R) : OpsJ E N ds ops (⟨dst, .binOp .eql t x y yt, ty, pos, aft, none⟩ :: rest) φ m K R :=
  ops_step (step_isnil ht hx hy) rfl (fun z n' ⟨h1, b, h2, h3⟩ => by subst h1; obtain rfl := CR.ret.inj h2; exact h b h3) fun z n' ⟨_, b, h2, _⟩ => by cases h2

/-- A call that comes to one thing. -/
theorem ops_det {j : FuncId} {args : Array Operand} {tys : Array TypeId} {x : AV} {m' : AM} (hs : Spec E j (args.toList.map (ev N φ)) m fun r n => r = .ret x ∧ n = m') (h : OpsJ E N ds ops rest (fput φ dst x) m' K R) :
    OpsJ E N ds ops (⟨dst, .call ⟨.value (.func j), args, tys⟩, ty, pos, aft, none⟩ :: rest) φ m K R :=
  ops_call hs (fun y n hy => by obtain ⟨h1, rfl⟩ := hy; obtain rfl := CR.ret.inj h1; exact h) fun y n hy => by obtain ⟨h1, _⟩ := hy; cases h1
theorem Spec.mx {f : FuncId} {args : List AV} {S : CR → AM → Prop} (h : Spec E f args (mx m []) S) : Spec E f args m S := by rw [← mx_nil] at h; exact h

/-- .. behind a guard that lets it by. -/
theorem ops_pure_yes {f : FuncId} {args : Array Operand} {tys : Array TypeId} {x : AV} {j t : Nat} {want b : Bool} (hj : (ops[j]?).bind (·.dst) = some t) (hv : ev N φ (.tmp t) = .v (.bool b)) (hb : b = want) (hs : Pure E f (args.toList.map (ev N φ)) (.ret x)) (h : OpsJ E N ds ops rest (fput φ dst x) m K R) :
    OpsJ E N ds ops (⟨dst, .call ⟨.value (.func f), args, tys⟩, ty, pos, aft, some (j, want)⟩ :: rest) φ m K R :=
  ops_step (step_call (first := []) (captured := []) rfl rfl (.inr ⟨#[], #[], rfl, rfl, rfl⟩) (by simpa using hs m)) ⟨t, hj, .inl ⟨b, hv, by rw [hb]; simp⟩⟩
    (fun y m' hy => by obtain ⟨h1, rfl⟩ := hy; obtain rfl := CR.ret.inj h1; exact h) fun y m' hy => by obtain ⟨h1, _⟩ := hy; cases h1
theorem opsd_pure_yes {bs : Array Nat} {restd : List (Nat × Oper)} {recs : List Sy.SRec} {pn : Option (Sy.SRec × Nat)} {Rd : AV → Fr → AM → Prop} {i : Nat} {f : FuncId} {args : Array Operand} {tys : Array TypeId} {x : AV} {j t : Nat} {want b : Bool} (hj : (ops[j]?).bind (·.dst) = some t) (ht : Nat.ble (t + 1) N = true) (hv : ev N φ (.tmp t) = .v (.bool b)) (hb : b = want) (hs : Pure E f (args.toList.map (ev N φ)) (.ret x))
    (hk : OpsD E N ops bs restd (recs ++ [⟨i, ⟨dst, .call ⟨.value (.func f), args, tys⟩, ty, pos, aft, some (j, want)⟩, frL N φ, m, x, m, false, true⟩]) pn (fput φ dst x) m K Rd) :
    OpsD E N ops bs ((i, ⟨dst, .call ⟨.value (.func f), args, tys⟩, ty, pos, aft, some (j, want)⟩) :: restd) recs pn φ m K Rd := by
  have hw := wants_fr (N := N) (ops := ops) (o := ⟨dst, .call ⟨.value (.func f), args, tys⟩, ty, pos, aft, some (j, want)⟩) (φ := φ) rfl hj (Nat.le_of_ble_eq_true ht) (y := true) (.inl ⟨b, hv, by rw [hb]; simp⟩)
  have key : ∀ M, Sy.StepG E ops ⟨dst, .call ⟨.value (.func f), args, tys⟩, ty, pos, aft, some (j, want)⟩ (frL N φ) M x M := fun M =>
    stepG_of (step_call (first := []) (captured := []) rfl rfl (.inr ⟨#[], #[], rfl, rfl, rfl⟩) (by simpa using hs M)) hw
  exact opsd_step false true (key m) (fun _ => rfl) (fun _ => key) (fun e => by cases e) hk

/-! ### Ends -/
theorem ret1 {S : CR → AM → Prop} {k : List Item} {t : Nat} {x : AV} (h : ev N φ (.tmp t) = x) (hs : S (.ret x) m) : RunJ E N ds (.code .ret :: k) φ m (BodyR E [.tmp t] N S) := by
  refine run_ret ⟨_, rfl, ?_⟩
  subst h
  show S (.ret (aeval (frL N φ) (.tmp t))) m
  rw [frL_ev]
  exact hs
theorem ret2 {S : CR → AM → Prop} {k : List Item} {t u : Nat} {x y : AV} (h : ev N φ (.tmp t) = x) (h2 : ev N φ (.tmp u) = y) (hs : S (.ret (.tup [x, y])) m) : RunJ E N ds (.code .ret :: k) φ m (BodyR E [.tmp t, .tmp u] N S) := by
  refine run_ret ⟨_, rfl, ?_⟩
  subst h h2
  show S (.ret (.tup [aeval (frL N φ) (.tmp t), aeval (frL N φ) (.tmp u)])) m
  rw [frL_ev]
  exact hs
theorem ret3 {S : CR → AM → Prop} {k : List Item} {t u v : Nat} {x y z : AV} (h : ev N φ (.tmp t) = x) (h2 : ev N φ (.tmp u) = y) (h3 : ev N φ (.tmp v) = z) (hs : S (.ret (.tup [x, y, z])) m) : RunJ E N ds (.code .ret :: k) φ m (BodyR E [.tmp t, .tmp u, .tmp v] N S) := by
  refine run_ret ⟨_, rfl, ?_⟩
  subst h h2 h3
  show S (.ret (.tup [aeval (frL N φ) (.tmp t), aeval (frL N φ) (.tmp u), aeval (frL N φ) (.tmp v)])) m
  rw [frL_ev]
  exact hs
/-- A result that stands in a cell. -/
theorem retc {S : CR → AM → Prop} {k : List Item} {t : Nat} {T : TypeId} {x p : AV} (h : ev N φ (.tmp t) = p) (hl : aload E m T p = some x) (hs : S (.ret x) m) : RunJ E N ds (.code .ret :: k) φ m (BodyR E [.cell t T] N S) := by
  refine run_ret ⟨x, ?_, hs⟩
  subst h
  show (aresults E [.cell t T] (frL N φ) m) = some x
  have : (frL N φ).getD t (.v undef) = ev N φ (.tmp t) := by rw [← frL_ev]; rfl
  simp only [aresults, List.mapM_cons, List.mapM_nil, aresult, this, hl]
  rfl

/-! ### A run in a memory of its own -/
theorem Inv.fresh0 {w0 : World} {g : G} {w : World} (hi : Inv E w0 g m w) : Inv E w { g with T := fun _ => none, X := fun _ => none } [] w := by
  refine ⟨Below.refl _ _, hi.kcell, hi.glob, fun i ti ht => (by cases ht), fun i b hb => (by simp at hb), fun i j bi bj ti tj _ h => (by simp at h), fun b o hx => (by cases hx), ⟨hi.sent.1, fun i hs => ?_, hi.sent.3⟩, hi.fact⟩
  obtain ⟨a, c, ty, h1, h2, h3⟩ := hi.sent.2 i hs
  exact ⟨a, c, ty, h1, Nat.lt_of_lt_of_le h2 hi.below.size, (hi.below.block _ h2).trans h3⟩
theorem Inv.after {w0 : World} {g g1 : G} {w w' : World} {m1 : AM} (hi : Inv E w0 g m w) (h1 : Inv E w g1 m1 w') : Inv E w0 g m w' := by
  have hh : ∀ b, b < w.heap.size → w'.heap[b]? = w.heap[b]? := fun b hb => h1.below.block b hb
  have hc : ∀ a v, g.K a = some v → w'.cell? a = some v := fun a v hk => by
    rw [World.cell?_of_block (hh a.block (hi.klt hk))]; exact hi.kcell a v hk
  refine ⟨(hi.below.trans (h1.below.mono hi.below.size)), hc, hi.glob, fun i ti ht => ?_, fun i b hb ha => ?_, hi.apart, fun b o hx => ?_, hi.sent, hi.fact⟩
  · obtain ⟨a1, a2, a3⟩ := hi.dom i ti ht
    exact ⟨a1, a2, Nat.lt_of_lt_of_le a3 h1.below.size⟩
  · obtain ⟨ti, ht, hk⟩ := hi.live i b hb ha
    exact ⟨ti, ht, hk.keep (.refl g) (hh _ (hi.dom i ti ht).2.2) fun _ _ h => h⟩
  · obtain ⟨a1, a2⟩ := hi.ext b o hx
    exact ⟨(hh _ (Array.getElem?_eq_some_iff.1 a1).1).trans a1, a2⟩
theorem Nf.at0 {x : AV} (h : Nf 0 x) {g g' : G} {v : Value} (hk : g'.K = g.K) (hu : g'.U = g.U) (hv : g'.V = g.V) (hr : Rep g x v) : Rep g' x v := by
  have h1 := h g v hr
  refine Rep.msub (g := g.trim 0) ⟨fun a u ha => ?_, fun i t ht => ?_, hu, hv⟩ _ h1
  · rw [hk]; exact ha
  · simp only [G.trim, Nat.not_lt_zero, if_false] at ht
    cases ht
/-- What comes to an exact value in a memory of its own comes to it in every memory. -/
theorem Pure.fresh {f : FuncId} {args : List AV} {v : Value} (ha : ∀ x ∈ args, Nf 0 x) (h : Spec E f args [] fun r _ => r = .ret (.v v)) : Pure E f args (.ret (.v v)) := fun m => by
  refine ⟨h.1, fun w0 g w vs hi hr => ?_⟩
  have hi0 := hi.fresh0
  have hr0 : RepL { g with T := fun _ => none, X := fun _ => none } args vs := .of_get hr.length fun j a u hja hju => by
    obtain ⟨u', hu', hra⟩ := hr.get hja
    rw [hju] at hu'
    obtain rfl := Option.some.inj hu'
    exact (ha a (List.mem_of_getElem? hja)).at0 (g := g) rfl rfl rfl hra
  refine Calls.mono (h.2 w _ w vs hi0 hr0) fun e w' ⟨r, m', g', hs, hle, hi', hrest⟩ => ?_
  subst hs
  obtain ⟨u, rfl, hu⟩ := hrest
  simp only [Rep] at hu
  subst hu
  exact ⟨.ret (.v u), m, g, ⟨rfl, rfl⟩, .refl g, hi.after hi', u, rfl, by simp only [Rep]⟩
def retV : Option ARes → Option Value
  | some (.ret a _) => a.flat
  | _ => none
theorem Le.flat {a : AV} {v : Value} (h : a.flat = some v) : Le a (.v v) := fun g y hr => by
  simp only [Rep]; exact Rep.flat a h hr
/-- A closed run. -/
theorem Pure.run (he : EnvOk E) {n : Nat} {f : FuncId} {args : List AV} {v : Value} (ha : ∀ x ∈ args, Nf 0 x) (h : retV (acall E n f args []) = some v) : Pure E f args (.ret (.v v)) := by
  refine Pure.fresh ha ?_
  unfold retV at h
  split at h
  · rename_i a m' he'
    refine (Spec.of_call he he').trim fun r m1 ⟨h1, h2⟩ => ⟨[], m1, .ret (.v v), by simp, rfl, fun i b hb => by simp at hb, ?_, Nf.v, rfl⟩
    subst h1
    exact Le.flat h
  · cases h
end

/-! ### Structs and arrays -/
/-- A table of types says this of a struct: its zero, and of each field where it stands, how many cells it has, and whether it is an aggregate. -/
structure StT (E : Env) (t : TypeId) (z : Value) (pl : List (Nat × Nat × Bool)) : Prop where
  tz : tzero E t = some z
  fld : ∃ fs, E.P.underlying t = some (.struct fs) ∧ fs.size = pl.length ∧ ∀ (f : Nat) o s a, pl[f]? = some (o, s, a) → ∃ fd, fs[f]? = some fd ∧ fd.offset = o ∧ tsize E fd.type = some s ∧ tagg E fd.type = some a
structure ArT (E : Env) (t n e s : Nat) (z : Value) : Prop where
  tz : tzero E t = some z
  u : E.P.underlying t = some (.array n e)
  s : tsize E e = some s

def plOf (E : Env) (d : TypeDesc) : List (Option (Nat × Nat × Bool)) :=
  match d with
  | .struct fs => (List.range fs.size).map fun i => (fs[i]?).bind fun f => (tsize E f.type).bind fun s => (tagg E f.type).map fun a => (f.offset, s, a)
  | _ => [none]
theorem stT_of {E : Env} {t : TypeId} {z : Value} {pl : List (Nat × Nat × Bool)} (hz : tzero E t = some z) (h : (E.P.underlying t).map (plOf E) = some (pl.map some)) : StT E t z pl := by
  refine ⟨hz, ?_⟩
  cases hu : E.P.underlying t with
  | none => rw [hu] at h; cases h
  | some dsc =>
    rw [hu] at h
    have h' := Option.some.inj h
    cases dsc with
    | struct fs =>
      simp only [plOf] at h'
      have hlen := congrArg List.length h'
      simp only [List.length_map, List.length_range] at hlen
      refine ⟨fs, rfl, hlen, fun f o s a hf => ?_⟩
      have hfl := (List.getElem?_eq_some_iff.1 hf).1
      have h2 := congrArg (·[f]?) h'
      simp only [List.getElem?_map, hf, Option.map_some] at h2
      rw [List.getElem?_range (by omega)] at h2
      simp only [Option.map_some, Option.some.injEq] at h2
      cases hfd : fs[f]? with
      | none => rw [hfd] at h2; cases h2
      | some fd =>
        rw [hfd, Option.bind_some] at h2
        cases hs : tsize E fd.type with
        | none => rw [hs] at h2; cases h2
        | some s' =>
          rw [hs, Option.bind_some] at h2
          cases ha : tagg E fd.type with
          | none => rw [ha] at h2; cases h2
          | some a' =>
            rw [ha] at h2
            simp only [Option.map_some, Option.some.injEq, Prod.mk.injEq] at h2
            obtain ⟨h3, h4, h5⟩ := h2
            exact ⟨fd, rfl, h3, by rw [hs, h4], by rw [ha, h5]⟩
    | _ => cases pl with
      | nil => cases h'
      | cons a r => simp [plOf] at h'

section
variable {E : Env} {call : ACall} {fn : FuncId} {ρ : Operand → AV} {m : AM} {d : Option Tmp} {ty : TypeId} {pos : String} {aft : Array Edge} {gd : Option (Nat × Bool)}
theorem x_fld {t : TypeId} {z : Value} {pl : List (Nat × Nat × Bool)} {x : Operand} {f i off o s : Nat} {a : Bool} (hT : StT E t z pl) (hx : ρ x = .ptr i off) (hf : pl[f]? = some (o, s, a)) (h0 : Nat.ble 1 s = true) :
    aop E call fn ρ m ⟨d, .fieldAddr t x f, ty, pos, aft, gd⟩ = some (.ret (.ptr i (off + o)) m) := by
  obtain ⟨fs, hu, hsz, h⟩ := hT.fld
  obtain ⟨fd, h1, h2, h3, h4⟩ := h f o s a hf
  have h0' := Nat.le_of_ble_eq_true h0
  rw [← h2]
  exact x_field hu h3 hx h1 (by omega)
theorem x_fldE {t : TypeId} {z : Value} {pl : List (Nat × Nat × Bool)} {x : Operand} {f o s : Nat} {a : Bool} {cells l : List AV} (hT : StT E t z pl) (hx : ρ x = .ep cells) (hf : pl[f]? = some (o, s, a)) (h0 : Nat.ble 1 s = true) (hl : (cells.drop o).take s = l) :
    aop E call fn ρ m ⟨d, .fieldAddr t x f, ty, pos, aft, gd⟩ = some (.ret (.ep l) m) := by
  obtain ⟨fs, hu, hsz, h⟩ := hT.fld
  obtain ⟨fd, h1, h2, h3, h4⟩ := h f o s a hf
  have h0' := Nat.le_of_ble_eq_true h0
  subst h2
  exact a_fieldAddr (by rw [hx]; exact afa_ep hu h1 h3 (by omega) hl)
theorem x_fldA {t : TypeId} {z : Value} {pl : List (Nat × Nat × Bool)} {x : Operand} {f o s : Nat} {cells : List AV} {y : AV} (hT : StT E t z pl) (hx : ρ x = .agg cells) (hf : pl[f]? = some (o, s, false)) (hy : cells[o]? = some y) :
    aop E call fn ρ m ⟨d, .field t x f, ty, pos, aft, gd⟩ = some (.ret y m) := by
  obtain ⟨fs, hu, hsz, h⟩ := hT.fld
  obtain ⟨fd, h1, h2, h3, h4⟩ := h f o s _ hf
  refine a_field hx ?_
  simp [afield, hu, h1, apart, h3, h4, h2, hy]
theorem x_fldB {t : TypeId} {z : Value} {pl : List (Nat × Nat × Bool)} {x : Operand} {f o s : Nat} {cells l : List AV} (hT : StT E t z pl) (hx : ρ x = .agg cells) (hf : pl[f]? = some (o, s, true)) (hy : (cells.drop o).take s = l) :
    aop E call fn ρ m ⟨d, .field t x f, ty, pos, aft, gd⟩ = some (.ret (.agg l) m) := by
  obtain ⟨fs, hu, hsz, h⟩ := hT.fld
  obtain ⟨fd, h1, h2, h3, h4⟩ := h f o s _ hf
  refine a_field hx ?_
  simp [afield, hu, h1, apart, h3, h4, h2, hy]
theorem afill_place {p q : Nat → Option (Nat × Nat)} : ∀ (ps : List (Nat × AV)) (cells : List AV), (∀ x ∈ ps, p x.1 = q x.1) → afill p cells ps = afill q cells ps
  | [], _, _ => rfl
  | (i, x) :: r, cells, h => by
    unfold afill
    rw [h (i, x) (by simp)]
    cases q i with
    | none => rfl
    | some os =>
      simp only
      split
      · rfl
      · exact afill_place r _ fun y hy => h y (by simp [hy])
theorem x_build {t : TypeId} {z : Value} {pl : List (Nat × Nat × Bool)} {ps : Array (Nat × Operand)} {qs : List (Nat × AV)} {out : List AV} (hT : StT E t z pl) (hq : (ps.toList.map fun (i, x) => (i, ρ x)) = qs) (hin : (qs.all fun x => Nat.blt x.1 pl.length) = true)
    (hf : afill (fun i => (pl[i]?).map fun q => (q.1, q.2.1)) (z.cells.toList.map .v) qs = some out) : aop E call fn ρ m ⟨d, .build t ps, ty, pos, aft, gd⟩ = some (.ret (.agg out) m) := by
  obtain ⟨fs, hu, hsz, h⟩ := hT.fld
  refine a_build ?_
  rw [hq]
  have hall : (fs.toList.all fun f => (tsize E f.type).isSome) = true := by
    rw [List.all_eq_true]
    intro fd hfd
    obtain ⟨j, hj, rfl⟩ := List.mem_iff_getElem.1 hfd
    have hj' : j < pl.length := by rw [← hsz]; simpa using hj
    cases hp : pl[j]? with
    | none => rw [List.getElem?_eq_none_iff] at hp; omega
    | some q =>
      obtain ⟨o, s, a⟩ := q
      obtain ⟨fd, h1, h2, h3, h4⟩ := h j o s a hp
      rw [← Array.getElem?_toList, List.getElem?_eq_getElem hj] at h1
      rw [Option.some.inj h1, h3]; rfl
  simp only [abuild, hT.tz, hu, hall, Bool.true_eq_false, if_false]
  rw [afill_place (q := fun i => (pl[i]?).map fun q => (q.1, q.2.1)) _ _ fun x hx => ?_, hf]
  · rfl
  · have hx' := List.all_eq_true.1 hin x hx
    have hlt : x.1 < pl.length := by simpa using hx'
    cases hp : pl[x.1]? with
    | none => rw [List.getElem?_eq_none_iff] at hp; omega
    | some q =>
      obtain ⟨o, s, a⟩ := q
      obtain ⟨fd, h1, h2, h3, h4⟩ := h x.1 o s a hp
      simp [h1, h2, h3]

/-! ### nil slices; room made ahead -/
theorem x_len_nil {x : Operand} {t e : TypeId} (ht : E.P.underlying t = some (.slice e)) (hx : ρ x = .v (.slice none 0 0)) : aop E call fn ρ m ⟨d, .call ⟨.builtin .len, #[x], #[t]⟩, ty, pos, aft, gd⟩ = some (.ret (.v (.int .i64 0)) m) := by
  have hb : flatOp E ρ m ⟨d, .call ⟨.builtin .len, #[x], #[t]⟩, ty, pos, aft, gd⟩ = some (.ret (.v (.int .i64 0)) m) := by
    refine flat1 (by simp [Op.operands, Call.operands, hx, AV.flat]) ?_
    simp [execOp, resolve, invoke, builtin, Builtin.len_, hx, AV.flat, pr_bind, pr_pure, pr_map, pr_underlying ht, goInt]
  simp only [aop, hb]
theorem x_cap_nil {x : Operand} {t e : TypeId} (ht : E.P.underlying t = some (.slice e)) (hx : ρ x = .v (.slice none 0 0)) : aop E call fn ρ m ⟨d, .call ⟨.builtin .cap, #[x], #[t]⟩, ty, pos, aft, gd⟩ = some (.ret (.v (.int .i64 0)) m) := by
  have hb : flatOp E ρ m ⟨d, .call ⟨.builtin .cap, #[x], #[t]⟩, ty, pos, aft, gd⟩ = some (.ret (.v (.int .i64 0)) m) := by
    refine flat1 (by simp [Op.operands, Call.operands, hx, AV.flat]) ?_
    simp [execOp, resolve, invoke, builtin, Builtin.cap_, hx, AV.flat, pr_bind, pr_pure, pr_map, pr_underlying ht, goInt]
  simp only [aop, hb]
theorem pr_size {P : Program} {t : TypeId} {s : Nat} (h : (P.info? t).map (·.size) = some s) : pureRun P (sizeOf t) = some (.inl s) := by
  obtain ⟨i, hi, rfl⟩ := Option.map_eq_some_iff.1 h
  unfold sizeOf typeInfo
  simp [program, pr_bind, pr_map, pureRun, hi, pr_pure]
theorem x_slnil {t e : TypeId} {es : Nat} {x h : Operand} {k : IntKind} (ht : E.P.underlying t = some (.slice e)) (hs : tsize E e = some es) (hx : ρ x = .v (.slice none 0 0)) (hh : ρ h = .v (.int k 0)) :
    aop E call fn ρ m ⟨d, .slice t x none (some h) none, ty, pos, aft, gd⟩ = some (.ret (.v (.slice none 0 0)) m) := by
  have hf : flatOp E ρ m ⟨d, .slice t x none (some h) none, ty, pos, aft, gd⟩ = some (.ret (.v (.slice none 0 0)) m) := by
    refine flat1 (by simp [Op.operands, hx, hh, AV.flat]) ?_
    simp [execOp, hx, hh, AV.flat, Instr.sliceAt, Instr.slice, Instr.sliceBounds, Instr.sliceBound, asIntOf, pr_bind, pr_map, pr_pure, pr_underlying ht, pr_size hs]
  simp only [aop, hf]
theorem flat_none_run {o : Oper} {w w' : World} {v : Value} (h : (execOp (fun x => ((ρ x).flat).getD undef) o).run E.P w = .ok (.value v) w') (hne : w'.heap.size ≠ w.heap.size) : flatOp E ρ m o = none := by
  unfold flatOp
  split
  · cases hp : pureRun E.P (execOp (fun x => ((ρ x).flat).getD undef) o) with
    | none => rfl
    | some r =>
      cases r with
      | inl nx =>
        have := pureRun_ok _ hp w
        rw [h] at this
        simp only [Result.ok.injEq] at this
        exact absurd (by rw [this.2]) hne
      | inr x =>
        have := pureRun_panic _ hp w
        rw [h] at this
        cases this
  · rfl
theorem x_appz {a b : Operand} {sT xT e : TypeId} {es bytes : Nat} {z : Value} {kd : IntKind} {n : Int} (hT : SlT E sT e es bytes z) (hxT : E.P.underlying xT = some (.int kd)) (ha : ρ a = .v (.slice none 0 0)) (hb : ρ b = .v (.int .i64 n)) (h0 : 0 < n) (hb1 : n.toNat * bytes ≤ maxBytes) (hb2 : n.toNat ≤ maxLen) :
    aop E call fn ρ m ⟨d, .call ⟨.builtin .append, #[a, b], #[sT, xT]⟩, ty, pos, aft, gd⟩ = some (.ret (.ref m.length 0 es n.toNat none) (m ++ [.wr (zeros z n.toNat) e true])) := by
  obtain ⟨info, hi, hsz⟩ := Option.map_eq_some_iff.1 hT.s
  have hby : info.bytes = bytes := by have := hT.b; unfold tbytes at this; rw [hi] at this; simpa using this
  have hze : info.zero = some z := by have := hT.tz; unfold tzero at this; rw [hi] at this; simpa using this
  have hrun := fun (w : World) => run_append_zeros (P := E.P) (w := w) (ats := #[sT, xT]) (ty := ty) rfl rfl hT.u hxT hi hze n h0 (by rw [hsz]; exact hT.pos) (by rw [hby]; exact hb1) hb2
  have hf : flatOp E ρ m ⟨d, .call ⟨.builtin .append, #[a, b], #[sT, xT]⟩, ty, pos, aft, gd⟩ = none := by
    refine flat_none_run (w := default) (v := .slice (some ⟨(default : World).heap.size, 0, none⟩) n.toNat (grownCap default n.toNat 0 e)) (w' := World.alloc (World.drew default) (.cells (Builtin.zeroCells z.cells n.toNat ++ Builtin.zeroCells z.cells (grownCap default n.toNat 0 e - n.toNat)) e)) ?_ ?_
    · simp [execOp, resolve, invoke, builtin, ha, hb, AV.flat, hrun default]
    · simp
  have hpre : ¬ (es = 0 ∨ z.cells.size ≠ es ∨ n ≤ 0 ∨ n.toNat * bytes > maxBytes ∨ n.toNat > maxLen) := by
    have := hT.pos
    rw [hT.zs]; simp only [not_or]; refine ⟨by omega, by simp, by omega, by omega, by omega⟩
  simp only [aop, hf, abuiltin, List.map_cons, List.map_nil, ha, hb, List.getElem?_toArray, List.getElem?_cons_zero, List.getElem?_cons_succ, Option.bind_some, hxT, aappendZeros, hT.u, hT.s, hT.b, hT.tz, if_neg hpre]
theorem x_slref0 {t e : TypeId} {es n i : Nat} {x h : Operand} {k : IntKind} (ht : E.P.underlying t = some (.slice e)) (hs : tsize E e = some es) (h0 : 0 < es) (hx : ρ x = .ref i 0 es n none) (hh : ρ h = .v (.int k 0)) :
    aop E call fn ρ m ⟨d, .slice t x none (some h) none, ty, pos, aft, gd⟩ = some (.ret (.ref i 0 es 0 none) m) := by
  have hf : flatOp E ρ m ⟨d, .slice t x none (some h) none, ty, pos, aft, gd⟩ = none := by
    unfold flatOp; rw [if_neg]; simp [Op.operands, hx, AV.flat]
  have hes : ¬ (es = 0 ∨ es ≠ es) := by simp; omega
  simp [aop, hf, aslice, ht, hs, hx, hh, hes, abounds, asNat]
  omega
theorem one_at {α : Type} {l : List α} {k : Nat} {x : α} (h : l[k]? = some x) : (l.drop (k * 1)).take 1 = [x] := by
  rw [Nat.mul_one]
  obtain ⟨h1, h2⟩ := List.getElem?_eq_some_iff.1 h
  rw [List.drop_eq_getElem_cons h1, h2]; rfl
theorem Acc.base {m0 m1 m2 : AM} {e : TypeId} {es : Nat} {cells : List AV} {x : AV} (he : Ext m0 m1) (h : Acc m1 m2 e es cells x) : Acc m0 m2 e es cells x := by
  have hl := he.le
  obtain ⟨h0, hh⟩ := h
  refine ⟨he.trans h0, ?_⟩
  rcases hh with h1 | ⟨n, cap, t, cs, h1, h2, h3, h4, h5⟩ | h1 | ⟨i, zs, h1, h2, h3, h4⟩
  · exact .inl h1
  · exact .inr (.inl ⟨n, cap, t, cs, h1, h2, h3, h4, by omega⟩)
  · exact .inr (.inr (.inl h1))
  · exact .inr (.inr (.inr ⟨i, zs, h1, h2, h3, by omega⟩))

/-- An element of a package's array. -/
theorem x_idx_glob {t e : TypeId} {x ix : Operand} {es g0 off n k : Nat} {kd : IntKind} {i : Int} (ht : E.P.underlying t = some (.array n e)) (hs : tsize E e = some es) (hx : ρ x = .v (.pointer (some ⟨g0, off, none⟩))) (hix : ρ ix = .v (.int kd i)) (hi : i = (k : Nat)) (hk : k < n) (hn : Nat.blt 1 n = true) :
    aop E call fn ρ m ⟨d, .indexAddr t x ix, ty, pos, aft, gd⟩ = some (.ret (.v (.pointer (some ⟨g0, off + k * es, none⟩))) m) := a_indexAddr (by rw [hx, hix]; exact aia_glob ht hs hi hk (by simpa using hn))
theorem x_load_glob {a : Operand} {t : TypeId} {s i off : Nat} {cs : List Value} {v : Value} (ht : tagg E t = some false) (hs : tsize E t = some s) (ha : ρ a = .v (.pointer (some ⟨i, off, none⟩))) (hi : E.sent i = false) (hg : E.glob i = some cs) (hv : cs[off]? = some v) :
    aop E call fn ρ m ⟨d, .load t a, ty, pos, aft, gd⟩ = some (.ret (.v v) m) := a_load (by rw [ha]; exact ald_glob ht hs hi hg hv)

/-! ### Slice literals of many elements -/
def enumA (k : Nat) : List AV → List (Nat × AV)
  | [] => []
  | x :: r => (k, x) :: enumA (k + 1) r
theorem zeros_succ (z : Value) (n : Nat) : zeros z (n + 1) = z.cells.toList.map AV.v ++ zeros z n := by simp [zeros, List.replicate_succ]
theorem fill_enum {s : Nat} {z : Value} (hz : z.cells.size = s) : ∀ (xs : List AV) (done : List AV) (k : Nat), done.length = k * s → (∀ x ∈ xs, x.cells.length = s) → afill (fun i => some (i * s, s)) (done ++ zeros z xs.length) (enumA k xs) = some (done ++ xs.flatMap AV.cells)
  | [], done, k, _, _ => by simp [enumA, afill, zeros]
  | x :: r, done, k, hd, hx => by
    have hxs := hx x (by simp)
    have hzl : (z.cells.toList.map AV.v).length = s := by simp [hz]
    unfold enumA afill
    simp only
    rw [if_neg (by
      rw [List.length_append, List.length_cons, zeros_succ, List.length_append, hzl, hd]
      simp only [not_or]
      exact ⟨fun h => h hxs, by omega⟩)]
    have hp : putAt (done ++ zeros z (x :: r).length) (k * s) x.cells = (done ++ x.cells) ++ zeros z r.length := by
      unfold putAt
      rw [List.length_cons, zeros_succ, ← hd, hxs, List.take_left', List.drop_append, List.drop_eq_nil_of_le (by omega), List.nil_append]
      · rw [show done.length + s - done.length = (z.cells.toList.map AV.v).length by rw [hzl]; omega, List.drop_left', List.append_assoc]
        rfl
      · rfl
    rw [hp, fill_enum hz r (done ++ x.cells) (k + 1) (by rw [List.length_append, hd, hxs, Nat.add_mul]; omega) fun y hy => hx y (by simp [hy])]
    simp
/-- A slice literal of others, all elements given. -/
theorem x_lit_all {t e : TypeId} {n s : Nat} {ps : Array (Nat × Operand)} {cells : List AV} {bytes : Nat} {z : Value} {m : AM} (xs : List AV) (hT : SlT E t e s bytes z) (he : isByte E e = false) (hlit : E.lit fn = false) (hn : Nat.ble (n * s) 16777216 = true) (hxn : xs.length = n)
    (hq : (ps.toList.map fun (i, x) => (i, ρ x)) = enumA 0 xs) (hx : (xs.all fun x => Nat.beq x.cells.length s) = true) (hc : xs.flatMap AV.cells = cells) :
    aop E call fn ρ m ⟨d, .buildSlice t n ps, ty, pos, aft, gd⟩ = some (.ret (.sl cells s n (some n) none) m) := by
  refine x_lit hT he hlit hn ?_
  rw [hq, ← hxn, ← hc]
  have := fill_enum hT.zs xs [] 0 (by simp) fun x hxm => Nat.eq_of_beq_eq_true (List.all_eq_true.1 hx x hxm)
  simpa using this
end
end Go.Vm
