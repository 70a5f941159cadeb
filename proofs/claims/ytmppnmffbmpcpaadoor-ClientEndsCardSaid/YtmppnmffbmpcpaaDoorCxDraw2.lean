/- The symbolic layer: regions that draw their order: the rules. -/
import Derived.Test.YtmppnmffbmpcpaaDoorCxDraw
set_option linter.unusedVariables false
set_option linter.unusedSimpArgs false
namespace Go.Vm
open Go.RowKit Go.Vm.Sy

def enumF (k : Nat) : List Oper → List (Nat × Oper)
  | [] => []
  | o :: r => (k, o) :: enumF (k + 1) r
theorem enumF_get : ∀ (l : List Oper) (k : Nat) p, p ∈ enumF k l → k ≤ p.1 ∧ l[p.1 - k]? = some p.2
  | [], k, p, h => by simp [enumF] at h
  | o :: r, k, p, h => by
    simp only [enumF, List.mem_cons] at h
    rcases h with rfl | h
    · simp
    · obtain ⟨h1, h2⟩ := enumF_get r (k + 1) p h
      refine ⟨by omega, ?_⟩
      rw [show p.1 - k = (p.1 - (k + 1)) + 1 by omega, List.getElem?_cons_succ]
      exact h2

/-- What is known of a step without looking at what it comes to. -/
abbrev Key := Nat × Bool × Bool
def _root_.Go.Vm.Sy.SRec.key (r : SRec) : Key := (r.i, r.mv, r.free)

def pairStat (ops : Array Oper) (bs : Array Nat) (ks : List Key) (r q : Key) : Bool :=
  if r.2.1 then
    if q.2.1 then
      if (ops[q.1]?).any floats then ks.all fun s => match (ops[q.1]?).bind (·.dst) with
        | some d => !((ops[s.1]?).any fun o => (o.looksAt ops).contains d) || (bs.getD s.1 0).testBit r.1
        | none => true
      else (bs.getD q.1 0).testBit r.1
    else (bs.getD q.1 0).testBit r.1 || q.2.2
  else if q.2.1 then (bs.getD q.1 0).testBit r.1 || r.2.2 else true
def pairBack (bs : Array Nat) (r q : Key) : Bool := r.1 != q.1 && !(bs.getD r.1 0).testBit q.1

/-- The pairs of steps that must be looked at. -/
def dynPairs (ops : Array Oper) (bs : Array Nat) (all : List Key) (u : Nat) : List Key → List (Nat × Nat)
  | [] => []
  | r :: rest => ((List.range rest.length).filterMap fun j => match rest[j]? with
      | some q => if pairStat ops bs all r q then none else some (u, u + 1 + j)
      | none => none) ++ dynPairs ops bs all (u + 1) rest
def backs (bs : Array Nat) : List Key → Bool
  | [] => true
  | r :: rest => rest.all (pairBack bs r) && backs bs rest
def panStat (bs : Array Nat) (ks : List Key) : Option (Nat × Nat) → Bool
  | none => true
  | some (p, k) => (ks.take k).all (fun r => !r.2.1 || (bs.getD p 0).testBit r.1) && (ks.drop k).all (fun q => !q.2.1 && !(bs.getD p 0).testBit q.1) && ks.all fun r => r.1 != p && !(bs.getD r.1 0).testBit p
def coverStat (ops : Array Oper) (bs : Array Nat) (ks : List Key) (pn : Option (Nat × Nat)) : Bool :=
  (List.range ops.size).all fun i => ks.any (·.1 == i) || (match pn with
    | some (p, _) => (bs.getD i 0).testBit p || i == p
    | none => false)
def drawChk (ops : Array Oper) (bs : Array Nat) (ks : List Key) (pn : Option (Nat × Nat)) : Bool :=
  backs bs ks && panStat bs ks pn && coverStat ops bs ks pn

/-- What two steps must say of each other where their order is open. -/
def DynOk (E : Env) (ops : Array Oper) (r q : SRec) : Prop :=
  (r.mv = true ∧ q.mv = false ∧ StepG E ops q.o q.a r.m q.x r.m) ∨ (r.mv = false ∧ q.mv = true ∧ StepG E ops r.o r.a q.m' r.x q.m')

theorem dynPairs_spec {ops : Array Oper} {bs : Array Nat} {all : List Key} : ∀ (ks : List Key) (u : Nat) {i j : Nat} {r q : Key}, i < j → ks[i]? = some r → ks[j]? = some q → pairStat ops bs all r q = true ∨ (u + i, u + j) ∈ dynPairs ops bs all u ks
  | [], _, i, j, r, q, _, hr, _ => by simp at hr
  | x :: ks, u, i, j, r, q, hij, hr, hq => by
    cases j with
    | zero => omega
    | succ j =>
      simp only [List.getElem?_cons_succ] at hq
      cases i with
      | zero =>
        simp only [List.getElem?_cons_zero, Option.some.injEq] at hr
        subst hr
        by_cases hp : pairStat ops bs all x q = true
        · exact .inl hp
        · right
          simp only [dynPairs, List.mem_append, List.mem_filterMap]
          left
          exact ⟨j, List.mem_range.2 (List.getElem?_eq_some_iff.1 hq).1, by rw [hq]; simp only [if_neg hp]; congr 2; omega⟩
      | succ i =>
        simp only [List.getElem?_cons_succ] at hr
        rcases dynPairs_spec ks (u + 1) (Nat.lt_of_succ_lt_succ hij) hr hq with h | h
        · exact .inl h
        · right
          simp only [dynPairs, List.mem_append]
          right
          rw [show u + (i + 1) = u + 1 + i by omega, show u + (j + 1) = u + 1 + j by omega]
          exact h
theorem backs_spec {bs : Array Nat} : ∀ (ks : List Key), backs bs ks = true → ∀ {i j : Nat} {r q : Key}, i < j → ks[i]? = some r → ks[j]? = some q → pairBack bs r q = true
  | [], _, i, j, r, q, _, hr, _ => by simp at hr
  | x :: ks, h, i, j, r, q, hij, hr, hq => by
    simp only [backs, Bool.and_eq_true] at h
    cases j with
    | zero => omega
    | succ j =>
      simp only [List.getElem?_cons_succ] at hq
      cases i with
      | zero =>
        simp only [List.getElem?_cons_zero, Option.some.injEq] at hr
        subst hr
        exact List.all_eq_true.1 h.1 q (List.mem_of_getElem? hq)
      | succ i =>
        simp only [List.getElem?_cons_succ] at hr
        exact backs_spec ks h.2 (Nat.lt_of_succ_lt_succ hij) hr hq

section
variable {E : Env} {N : Nat} {ds : List Deferred} {ops : Array Oper} {bs : Array Nat}

/-- The steps 'todo' of a region that draws its order; 'recs': those ahead of them. -/
def OpsD (E : Env) (N : Nat) (ops : Array Oper) (bs : Array Nat) (todo : List (Nat × Oper)) (recs : List SRec) (pn : Option (SRec × Nat)) (φ : Fr) (m : AM) (K : Fr → AM → Prop) (R : AV → Fr → AM → Prop) : Prop :=
  (∀ p ∈ todo, ops[p.1]? = some p.2) → ∃ recs' pn' φ' m', (∀ a0 m0, Sy.TrFacts E ops a0 m0 recs pn (frL N φ) m → Sy.TrFacts E ops a0 m0 recs' pn' (frL N φ') m') ∧
    drawChk ops bs (recs'.map SRec.key) (pn'.map fun p => (p.1.i, p.2)) = true ∧ (∀ ij ∈ dynPairs ops bs (recs'.map SRec.key) 0 (recs'.map SRec.key), ∀ r q, recs'[ij.1]? = some r → recs'[ij.2]? = some q → DynOk E ops r q) ∧
    (match pn' with
      | none => K φ' m'
      | some (p, _) => R p.x φ' p.m')

theorem frL_put {φ : Fr} {dst : Option Tmp} {x : AV} : aput (frL N φ) dst x = frL N (fput φ dst x) := by
  cases dst with
  | none => rfl
  | some d =>
    simp only [aput, fput, frL]
    apply List.ext_getElem?
    intro j
    rw [List.getElem?_set]
    simp only [List.getElem?_map, List.length_map, List.length_range]
    by_cases hj : j < N
    · rw [List.getElem?_range hj]
      by_cases hd : d = j
      · subst hd
        simp [upd, hj]
      · have hd' : ¬ j = d := fun e => hd e.symm
        simp [upd, hd, hd']
    · rw [List.getElem?_eq_none (by simpa using hj)]
      by_cases hd : d = j
      · subst hd; simp [hj]
      · simp [hd]

theorem stepG_of {φ : Fr} {m m' : AM} {o : Oper} {x : AV} (hs : StepS E (ev N φ) o m fun r n => r = .ret x ∧ n = m') (hw : Region.wanted o (ayielded ops (frL N φ)) = true) : StepG E ops o (frL N φ) m x m' := by
  refine ⟨fun w0 g act w hi hl i ho K Q hK => ?_⟩
  obtain ⟨h1, h2⟩ := look_eval hl
  unfold wpOp
  rw [ho]
  simp only
  rw [if_pos (by rw [← h2]; exact hw)]
  left
  rw [frL_ev] at h1
  refine hs.run w0 g act w hi h1 _ _ (fun y n v w' g' hy hle hi' hr => ?_) fun y n v w' g' hy => ?_
  · obtain ⟨hy1, rfl⟩ := hy
    obtain rfl := CR.ret.inj hy1
    exact hK v w' g' hle hi' hr
  · obtain ⟨hy1, _⟩ := hy
    cases hy1
theorem stepG_no {φ : Fr} {m : AM} {o : Oper} (hw : Region.wanted o (ayielded ops (frL N φ)) = false) : StepG E ops o (frL N φ) m (.v undef) m := by
  refine ⟨fun w0 g act w hi hl i ho K Q hK => ?_⟩
  obtain ⟨h1, h2⟩ := look_eval hl
  unfold wpOp
  rw [ho]
  simp only
  rw [if_neg (by rw [← h2, hw]; simp)]
  exact hK undef w g (.refl g) hi (by simp only [Rep])
theorem panG_of {φ : Fr} {m m' : AM} {o : Oper} {x : AV} (hs : StepS E (ev N φ) o m fun r n => r = .pan x ∧ n = m') (hw : Region.wanted o (ayielded ops (frL N φ)) = true) : PanG E ops o (frL N φ) m x m' := by
  refine ⟨fun w0 g act w hi hl i ho K Q hK => ?_⟩
  obtain ⟨h1, h2⟩ := look_eval hl
  unfold wpOp
  rw [ho]
  simp only
  rw [if_pos (by rw [← h2]; exact hw)]
  left
  rw [frL_ev] at h1
  refine hs.run w0 g act w hi h1 _ _ (fun y n v w' g' hy => ?_) fun y n v w' g' hy hle hi' hr => ?_
  · obtain ⟨hy1, _⟩ := hy
    cases hy1
  · obtain ⟨hy1, rfl⟩ := hy
    obtain rfl := CR.pan.inj hy1
    exact hK v w' g' hle hi' hr

variable {rest : List (Nat × Oper)} {recs : List SRec} {pn : Option (SRec × Nat)} {φ : Fr} {m : AM} {K : Fr → AM → Prop} {R : AV → Fr → AM → Prop} {i : Nat} {o : Oper}

theorem opsd_nil (hc : drawChk ops bs (recs.map SRec.key) none = true) (hd : dynPairs ops bs (recs.map SRec.key) 0 (recs.map SRec.key) = []) (h : K φ m) : OpsD E N ops bs [] recs none φ m K R := fun _ =>
  ⟨recs, none, φ, m, fun _ _ h => h, hc, fun ij hij => (by rw [hd] at hij; cases hij), h⟩
theorem opsd_nil_dyn {l : List (Nat × Nat)} (hc : drawChk ops bs (recs.map SRec.key) none = true) (hd : dynPairs ops bs (recs.map SRec.key) 0 (recs.map SRec.key) = l) (hl : ∀ ij ∈ l, ∀ r q, recs[ij.1]? = some r → recs[ij.2]? = some q → DynOk E ops r q) (h : K φ m) : OpsD E N ops bs [] recs none φ m K R := fun _ =>
  ⟨recs, none, φ, m, fun _ _ h => h, hc, fun ij hij => by rw [hd] at hij; exact hl ij hij, h⟩
theorem opsd_nil_pan {p : SRec} {k : Nat} (hc : drawChk ops bs (recs.map SRec.key) (some (p.i, k)) = true) (hd : dynPairs ops bs (recs.map SRec.key) 0 (recs.map SRec.key) = []) (h : R p.x φ p.m') : OpsD E N ops bs [] recs (some (p, k)) φ m K R := fun _ =>
  ⟨recs, some (p, k), φ, m, fun _ _ h => h, hc, fun ij hij => (by rw [hd] at hij; cases hij), h⟩

theorem opsd_step {x : AV} {m' : AM} (mv fr : Bool) (hs : StepG E ops o (frL N φ) m x m') (hm : mv = false → m' = m) (hfr : fr = true → ∀ M, StepG E ops o (frL N φ) M x M)
    (hfl : floats o = true → mv = true ∧ ∃ e z, o.op = .alloc e ∧ tzero E e = some z ∧ x = .ptr m.length 0 ∧ m' = m ++ [.wr (z.cells.toList.map .v) e false])
    (h : OpsD E N ops bs rest (recs ++ [⟨i, o, frL N φ, m, x, m', mv, fr⟩]) pn (fput φ o.dst x) (if mv then m' else m) K R) : OpsD E N ops bs ((i, o) :: rest) recs pn φ m K R := fun hall => by
  obtain ⟨recs', pn', φ', m2, h1, h2⟩ := h fun p hp => hall p (by simp [hp])
  refine ⟨recs', pn', φ', m2, fun a0 m0 ht => h1 a0 m0 ?_, h2⟩
  rw [← frL_put]
  exact ht.snoc (hall (i, o) (by simp)) hs hm hfr hfl

theorem step_aop {fn : FuncId} {x : AV} {m' : AM} (h : aop E noCall fn (ev N φ) m o = some (.ret x m')) (hc : isFnCall o = false) : StepS E (ev N φ) o m fun r n => r = .ret x ∧ n = m' := step_of_good h hc

theorem wanted_none (hg : o.guard = none) (φ : Fr) : Region.wanted o (ayielded ops (frL N φ)) = true := by unfold Region.wanted; rw [hg]

/-- An operation that does not look at memory. -/
theorem opsd_free {fn : FuncId} {x : AV} (h : ∀ M, aop E noCall fn (ev N φ) M o = some (.ret x M)) (hc : isFnCall o = false) (hg : o.guard = none) (hfl : floats o = false)
    (hk : OpsD E N ops bs rest (recs ++ [⟨i, o, frL N φ, m, x, m, false, true⟩]) pn (fput φ o.dst x) m K R) : OpsD E N ops bs ((i, o) :: rest) recs pn φ m K R :=
  opsd_step false true (stepG_of (step_aop (h m) hc) (wanted_none hg φ)) (fun _ => rfl) (fun _ M => stepG_of (step_aop (h M) hc) (wanted_none hg φ)) (fun e => by rw [hfl] at e; cases e) hk
/-- An operation that looks at memory and leaves it. -/
theorem opsd_look {fn : FuncId} {x : AV} (h : aop E noCall fn (ev N φ) m o = some (.ret x m)) (hc : isFnCall o = false) (hg : o.guard = none) (hfl : floats o = false)
    (hk : OpsD E N ops bs rest (recs ++ [⟨i, o, frL N φ, m, x, m, false, false⟩]) pn (fput φ o.dst x) m K R) : OpsD E N ops bs ((i, o) :: rest) recs pn φ m K R :=
  opsd_step false false (stepG_of (step_aop h hc) (wanted_none hg φ)) (fun _ => rfl) (fun e => by cases e) (fun e => by rw [hfl] at e; cases e) hk
/-- An operation that turns memory. -/
theorem opsd_turn {fn : FuncId} {x : AV} {m' : AM} (h : aop E noCall fn (ev N φ) m o = some (.ret x m')) (hc : isFnCall o = false) (hg : o.guard = none) (hfl : floats o = false)
    (hk : OpsD E N ops bs rest (recs ++ [⟨i, o, frL N φ, m, x, m', true, false⟩]) pn (fput φ o.dst x) m' K R) : OpsD E N ops bs ((i, o) :: rest) recs pn φ m K R :=
  opsd_step true false (stepG_of (step_aop h hc) (wanted_none hg φ)) (fun e => by cases e) (fun e => by cases e) (fun e => by rw [hfl] at e; cases e) hk
theorem wants_fr {φ : Fr} {j t : Nat} {want y : Bool} (hg : o.guard = some (j, want)) (hj : (ops[j]?).bind (·.dst) = some t) (ht : t < N) (hv : (∃ b, ev N φ (.tmp t) = .v (.bool b) ∧ y = (b == want)) ∨ (ev N φ (.tmp t) = .v undef ∧ y = false)) :
    Region.wanted o (ayielded ops (frL N φ)) = y := by
  unfold Region.wanted
  rw [hg]
  simp only
  have : ∀ z, ev N φ (.tmp t) = z → ayielded ops (frL N φ) j = (match some z with | some (.v (.bool b)) => some b | _ => none) := fun z hz => by
    unfold ayielded
    rw [hj, Option.bind_some]
    simp only [frL, List.getElem?_map]
    rw [List.getElem?_range ht]
    simp only [ev, if_pos ht] at hz
    simp only [Option.map_some, hz]
    rfl
  rcases hv with ⟨b, hb, rfl⟩ | ⟨hu, rfl⟩
  · rw [this _ hb]
    cases b <;> cases want <;> rfl
  · rw [this _ hu]
    rfl
/-- .. behind a guard that lets it by. -/
theorem opsd_free_yes {fn : FuncId} {x : AV} {j t : Nat} {want b : Bool} (hgd : o.guard = some (j, want)) (hj : (ops[j]?).bind (·.dst) = some t) (ht : Nat.ble (t + 1) N = true) (hv : ev N φ (.tmp t) = .v (.bool b)) (hb : b = want)
    (h : ∀ M, aop E noCall fn (ev N φ) M o = some (.ret x M)) (hc : isFnCall o = false) (hfl : floats o = false)
    (hk : OpsD E N ops bs rest (recs ++ [⟨i, o, frL N φ, m, x, m, false, true⟩]) pn (fput φ o.dst x) m K R) : OpsD E N ops bs ((i, o) :: rest) recs pn φ m K R :=
  have hw := wants_fr hgd hj (Nat.le_of_ble_eq_true ht) (.inl ⟨b, hv, by rw [hb]; simp⟩)
  opsd_step false true (stepG_of (step_aop (h m) hc) hw) (fun _ => rfl) (fun _ M => stepG_of (step_aop (h M) hc) hw) (fun e => by rw [hfl] at e; cases e) hk
theorem opsd_look_yes {fn : FuncId} {x : AV} {j t : Nat} {want b : Bool} (hgd : o.guard = some (j, want)) (hj : (ops[j]?).bind (·.dst) = some t) (ht : Nat.ble (t + 1) N = true) (hv : ev N φ (.tmp t) = .v (.bool b)) (hb : b = want)
    (h : aop E noCall fn (ev N φ) m o = some (.ret x m)) (hc : isFnCall o = false) (hfl : floats o = false)
    (hk : OpsD E N ops bs rest (recs ++ [⟨i, o, frL N φ, m, x, m, false, false⟩]) pn (fput φ o.dst x) m K R) : OpsD E N ops bs ((i, o) :: rest) recs pn φ m K R :=
  have hw := wants_fr hgd hj (Nat.le_of_ble_eq_true ht) (.inl ⟨b, hv, by rw [hb]; simp⟩)
  opsd_step false false (stepG_of (step_aop h hc) hw) (fun _ => rfl) (fun e => by cases e) (fun e => by rw [hfl] at e; cases e) hk
theorem opsd_not {j t : Nat} {want b : Bool} (hgd : o.guard = some (j, want)) (hj : (ops[j]?).bind (·.dst) = some t) (ht : Nat.ble (t + 1) N = true) (hv : ev N φ (.tmp t) = .v (.bool b)) (hb : b = !want) (hfl : floats o = false)
    (hk : OpsD E N ops bs rest (recs ++ [⟨i, o, frL N φ, m, .v undef, m, false, true⟩]) pn (fput φ o.dst (.v undef)) m K R) : OpsD E N ops bs ((i, o) :: rest) recs pn φ m K R :=
  have hw := wants_fr hgd hj (Nat.le_of_ble_eq_true ht) (y := false) (.inl ⟨b, hv, by rw [hb]; cases want <;> rfl⟩)
  opsd_step false true (stepG_no hw) (fun _ => rfl) (fun _ M => stepG_no hw) (fun e => by rw [hfl] at e; cases e) hk
theorem opsd_und {j t : Nat} {want : Bool} (hgd : o.guard = some (j, want)) (hj : (ops[j]?).bind (·.dst) = some t) (ht : Nat.ble (t + 1) N = true) (hv : ev N φ (.tmp t) = .v undef) (hfl : floats o = false)
    (hk : OpsD E N ops bs rest (recs ++ [⟨i, o, frL N φ, m, .v undef, m, false, true⟩]) pn (fput φ o.dst (.v undef)) m K R) : OpsD E N ops bs ((i, o) :: rest) recs pn φ m K R :=
  have hw := wants_fr hgd hj (Nat.le_of_ble_eq_true ht) (y := false) (.inr ⟨hv, rfl⟩)
  opsd_step false true (stepG_no hw) (fun _ => rfl) (fun _ M => stepG_no hw) (fun e => by rw [hfl] at e; cases e) hk
/-- A new variable. -/
theorem opsd_alloc {t : TypeId} {z : Value} {cs : List AV} {d : Option Tmp} {ty : TypeId} {pos : String} {aft : Array Edge} (hz : tzero E t = some z) (hcs : z.cells.toList.map AV.v = cs)
    (hk : OpsD E N ops bs rest (recs ++ [⟨i, ⟨d, .alloc t, ty, pos, aft, none⟩, frL N φ, m, .ptr m.length 0, m ++ [.wr cs t false], true, false⟩]) pn (fput φ d (.ptr m.length 0)) (m ++ [.wr cs t false]) K R) :
    OpsD E N ops bs ((i, ⟨d, .alloc t, ty, pos, aft, none⟩) :: rest) recs pn φ m K R := by
  refine opsd_step true false (stepG_of (step_aop (fn := 0) (a_alloc hz hcs) rfl) (wanted_none rfl φ)) (fun e => by cases e) (fun e => by cases e) (fun _ => ⟨rfl, t, z, rfl, hz, rfl, by rw [hcs]⟩) hk
/-- A call that changes nothing that was there. -/
theorem opsd_pure {j : FuncId} {args : Array Operand} {tys : Array TypeId} {dst : Option Tmp} {ty : TypeId} {pos : String} {aft : Array Edge} {x : AV} (hs : Pure E j (args.toList.map (ev N φ)) (.ret x))
    (hk : OpsD E N ops bs rest (recs ++ [⟨i, ⟨dst, .call ⟨.value (.func j), args, tys⟩, ty, pos, aft, none⟩, frL N φ, m, x, m, false, true⟩]) pn (fput φ dst x) m K R) :
    OpsD E N ops bs ((i, ⟨dst, .call ⟨.value (.func j), args, tys⟩, ty, pos, aft, none⟩) :: rest) recs pn φ m K R := by
  have key : ∀ M, StepG E ops ⟨dst, .call ⟨.value (.func j), args, tys⟩, ty, pos, aft, none⟩ (frL N φ) M x M := fun M =>
    stepG_of (step_call (first := []) (captured := []) rfl rfl (.inr ⟨#[], #[], rfl, rfl, rfl⟩) (by simpa using hs M)) (wanted_none rfl φ)
  exact opsd_step false true (key m) (fun _ => rfl) (fun _ => key) (fun e => by cases e) hk
/-- A call that turns memory. -/
theorem opsd_call {j : FuncId} {args : Array Operand} {tys : Array TypeId} {dst : Option Tmp} {ty : TypeId} {pos : String} {aft : Array Edge} {x : AV} {m' : AM} (hs : Spec E j (args.toList.map (ev N φ)) m fun r n => r = .ret x ∧ n = m')
    (hk : OpsD E N ops bs rest (recs ++ [⟨i, ⟨dst, .call ⟨.value (.func j), args, tys⟩, ty, pos, aft, none⟩, frL N φ, m, x, m', true, false⟩]) pn (fput φ dst x) m' K R) :
    OpsD E N ops bs ((i, ⟨dst, .call ⟨.value (.func j), args, tys⟩, ty, pos, aft, none⟩) :: rest) recs pn φ m K R :=
  opsd_step true false (stepG_of (step_call (first := []) (captured := []) rfl rfl (.inr ⟨#[], #[], rfl, rfl, rfl⟩) (by simpa using hs)) (wanted_none rfl φ)) (fun e => by cases e) (fun e => by cases e) (fun e => by cases e) hk
/-- .. that panics: what hangs on it is left out. -/
theorem opsd_call_pan {j : FuncId} {args : Array Operand} {tys : Array TypeId} {dst : Option Tmp} {ty : TypeId} {pos : String} {aft : Array Edge} {x : AV} {m' : AM} (hs : Spec E j (args.toList.map (ev N φ)) m fun r n => r = .pan x ∧ n = m')
    (hk : OpsD E N ops bs rest recs (some (⟨i, ⟨dst, .call ⟨.value (.func j), args, tys⟩, ty, pos, aft, none⟩, frL N φ, m, x, m', true, false⟩, recs.length)) φ m K R) :
    OpsD E N ops bs ((i, ⟨dst, .call ⟨.value (.func j), args, tys⟩, ty, pos, aft, none⟩) :: rest) recs none φ m K R := fun hall => by
  obtain ⟨recs', pn', φ', m2, h1, h2⟩ := hk fun p hp => hall p (by simp [hp])
  refine ⟨recs', pn', φ', m2, fun a0 m0 ht => h1 a0 m0 ⟨ht.all, fun p k hp => ?_, ht.fr, ht.mem⟩, h2⟩
  obtain ⟨rfl, rfl⟩ := Prod.mk.inj (Option.some.inj hp)
  exact ⟨Nat.le_refl _, hall (i, ⟨dst, .call ⟨.value (.func j), args, tys⟩, ty, pos, aft, none⟩) (by simp), ht.fr, ht.mem, panG_of (step_call (first := []) (captured := []) rfl rfl (.inr ⟨#[], #[], rfl, rfl, rfl⟩) (by simpa using hs)) (wanted_none rfl φ)⟩
theorem opsd_skip (hk : OpsD E N ops bs rest recs pn φ m K R) : OpsD E N ops bs ((i, o) :: rest) recs pn φ m K R := fun hall =>
  hk fun p hp => hall p (by simp [hp])

theorem run_draw {id : Nat} {k : List Item} {Rr : CX → Fr → AM → Prop} (hmix : E.P.follows .mixedOrders = true) (hst : drawStatic ops (ahead ops.toList).toArray = true)
    (h : OpsD E N ops (ahead ops.toList).toArray (enumF 0 ops.toList) [] none φ m (fun φ m => RunJ E N [] k φ m Rr) (fun x φ m => Rr (.pan x) φ m)) : RunJ E N [] (.code (.region id ops true) :: k) φ m Rr := by
  obtain ⟨recs, pn, φ', m', htr, hchk, hdyn, hend⟩ := h fun p hp => by
    have := (enumF_get ops.toList 0 p hp).2
    simpa using this
  have hT := htr (frL N φ) m ⟨fun u r hr => (by simp at hr), fun p k hp => (by cases hp), by simp [Sy.frAt], by simp [Sy.memAt]⟩
  have hkey : ∀ (u : Nat) (r : SRec), recs[u]? = some r → (recs.map SRec.key)[u]? = some r.key := fun u r hr => by rw [List.getElem?_map, hr]; rfl
  have hki : ∀ (u : Nat) (r : SRec), recs[u]? = some r → ops[r.i]? = some r.o := fun u r hr => (hT.all u r hr).1
  simp only [drawChk, Bool.and_eq_true] at hchk
  obtain ⟨⟨hb, hp⟩, hcov⟩ := hchk
  have hF : Sy.Facts E ops (ahead ops.toList).toArray (frL N φ) m recs pn (frL N φ') m' := by
    refine ⟨hT, fun i o ho => static_facts hst ho, fun u v r q huv hr hq => ?_, fun p k hpn => ?_, fun i hi => ?_⟩
    · have h1 := backs_spec _ hb huv (hkey u r hr) (hkey v q hq)
      simp only [pairBack, SRec.key, Bool.and_eq_true, bne_iff_ne, Bool.not_eq_true'] at h1
      refine ⟨h1.1, fun hbit => (by unfold Sy.Bit at hbit; rw [h1.2] at hbit; cases hbit), ?_⟩
      rcases dynPairs_spec (ops := ops) (bs := (ahead ops.toList).toArray) (all := recs.map SRec.key) _ 0 huv (hkey u r hr) (hkey v q hq) with h2 | h2
      · simp only [pairStat, SRec.key, hki u r hr, hki v q hq, Option.any_some, Option.bind_some] at h2
        cases hrm : r.mv with
        | true =>
          simp only [hrm, if_true] at h2 ⊢
          cases hqm : q.mv with
          | true =>
            simp only [hqm, if_true] at h2 ⊢
            cases hf : floats q.o with
            | true =>
              simp only [hf, if_true] at h2 ⊢
              intro s hs d hd hl
              obtain ⟨w, hw, rfl⟩ := List.mem_iff_getElem.1 hs
              have hsw : recs[w]? = some recs[w] := List.getElem?_eq_getElem hw
              have h3 := List.all_eq_true.1 h2 _ (List.mem_map_of_mem (f := SRec.key) hs)
              rw [hd] at h3
              simp only [SRec.key, hki w _ hsw, Option.any_some, Bool.or_eq_true, Bool.not_eq_true'] at h3
              rcases h3 with h3 | h3
              · exact absurd (by simpa using hl) (by simpa using h3)
              · exact h3
            | false =>
              simp only [hf, Bool.false_eq_true, if_false] at h2 ⊢
              exact h2
          | false =>
            simp only [hqm, Bool.false_eq_true, if_false, Bool.or_eq_true] at h2 ⊢
            rcases h2 with h2 | h2
            · exact .inl h2
            · exact .inr ((hT.all v q hq).2.2.2.2.2.1 h2 _)
        | false =>
          simp only [hrm, Bool.false_eq_true, if_false] at h2 ⊢
          cases hqm : q.mv with
          | true =>
            simp only [hqm, if_true, Bool.or_eq_true] at h2 ⊢
            rcases h2 with h2 | h2
            · exact .inl h2
            · exact .inr ((hT.all u r hr).2.2.2.2.2.1 h2 _)
          | false => simp only [Bool.false_eq_true, if_false]
      · rw [Nat.zero_add, Nat.zero_add] at h2
        rcases hdyn _ h2 r q hr hq with ⟨h3, h4, h5⟩ | ⟨h3, h4, h5⟩
        · rw [h3, h4]
          simp only [if_true, Bool.false_eq_true, if_false]
          exact .inr h5
        · rw [h3, h4]
          simp only [if_true, Bool.false_eq_true, if_false]
          exact .inr h5
    · subst hpn
      simp only [Option.map_some, panStat, Bool.and_eq_true] at hp
      obtain ⟨⟨h1, h2⟩, h3⟩ := hp
      refine ⟨fun u r hr hu hl => ?_, fun u r hr hu => ?_, fun u r hr => ?_⟩
      · have hm : r.key ∈ (recs.map SRec.key).take k := List.mem_of_getElem? (i := u) (by rw [List.getElem?_take, if_pos hu]; exact hkey u r hr)
        have := List.all_eq_true.1 h1 _ hm
        simp only [SRec.key, hl, Bool.not_true, Bool.false_or] at this
        exact this
      · have hm : r.key ∈ (recs.map SRec.key).drop k := List.mem_of_getElem? (i := u - k) (by rw [List.getElem?_drop, show k + (u - k) = u by omega]; exact hkey u r hr)
        have := List.all_eq_true.1 h2 _ hm
        simp only [SRec.key, Bool.and_eq_true, Bool.not_eq_true'] at this
        exact ⟨this.1, fun hb => by unfold Sy.Bit at hb; rw [this.2] at hb; cases hb⟩
      · have := List.all_eq_true.1 h3 _ (List.mem_of_getElem? (hkey u r hr))
        simp only [SRec.key, Bool.and_eq_true, bne_iff_ne, Bool.not_eq_true'] at this
        exact ⟨this.1, fun hb => by unfold Sy.Bit at hb; rw [this.2] at hb; cases hb⟩
    · have h1 := List.all_eq_true.1 hcov i (List.mem_range.2 hi)
      simp only [Bool.or_eq_true] at h1
      rcases h1 with h1 | h1
      · obtain ⟨kk, hkk, he⟩ := List.any_eq_true.1 h1
        obtain ⟨r, hr, rfl⟩ := List.mem_map.1 hkk
        obtain ⟨u, hu, rfl⟩ := List.mem_iff_getElem.1 hr
        exact .inl ⟨u, _, List.getElem?_eq_getElem hu, by simpa [SRec.key] using he⟩
      · cases pn with
        | none => simp at h1
        | some p =>
          simp only [Option.map_some, Bool.or_eq_true] at h1
          rcases h1 with h1 | h1
          · exact .inr (.inl (by simpa [Sy.skippedS] using h1))
          · exact .inr (.inr ⟨p.1, p.2, rfl, by simpa using h1⟩)
  refine run_of_wp fun w0 g act w hi hf => ?_
  have hlen := hf.list.length
  simp only [Array.length_toList] at hlen
  refine wp_region_any hmix (Sy.draw_any (w0 := w0) (ds := []) hF (Q := Post E w0 g N [] (joinR (fun φ m => RunJ E N [] k φ m Rr) fun x φ m => (∃ v, x = .pan v) ∧ Rr x φ m)) (g0 := g) ?_ ?_ _ _ act _ ?_ ⟨g, 0, fun _ => 0, ?_⟩)
  · intro hpn g2 act2 w2 hle hi2 hr2 hd2
    subst hpn
    refine ⟨.normal, φ', m', g2, hend, hle, hi2, rfl, ⟨?_, fun t v hv => ?_, hd2⟩⟩
    · have := hr2.length
      simp only [frL, List.length_map, List.length_range, Array.length_toList] at this
      exact this.symm
    · obtain ⟨a, ha, hra⟩ := hr2.get' (by rw [Array.getElem?_toList]; exact hv)
      simp only [frL, List.getElem?_map] at ha
      cases hrg : (List.range N)[t]? with
      | none => rw [hrg] at ha; cases ha
      | some s =>
        rw [hrg] at ha
        have hs := List.getElem?_eq_some_iff.1 hrg
        obtain ⟨h1, h2⟩ := hs
        rw [List.getElem_range] at h2
        subst h2
        obtain rfl := Option.some.inj ha
        exact hra
  · intro p kk hpn g2 act2 w2 v hle hi2 hv hd2
    subst hpn
    exact ⟨.pan p.x, φ', p.m', g2, ⟨⟨_, rfl⟩, hend⟩, hle, hi2, v, rfl, hv, hd2, .inl rfl⟩
  · have : ∀ n, Sy.unl (List.replicate n false) = n := fun n => by simp [Sy.unl]
    rw [Array.toList_replicate, this]
    exact Nat.le_refl _
  · have hno : ∀ j, ¬ Sy.Listed (Array.replicate ops.size false) j := fun j => by
      unfold Sy.Listed
      rw [Array.getD_eq_getD_getElem?, Array.getElem?_replicate]
      split <;> simp
    refine ⟨.refl g, by simpa [Sy.memAt] using hi.drew, by simp, fun i j hl => absurd hl (hno i), fun p k _ => hno _, hlen.symm, hf.3, Nat.zero_le _, fun u r _ hu => absurd hu (Nat.not_lt_zero _), fun u r _ _ _ _ => hno _,
      fun u r _ hl => absurd hl (hno _), fun t v x hv hx _ => ?_, fun b o hb => hb, fun u r _ hl => absurd hl (hno _), fun u u' r r' _ _ hl => absurd hl (hno _)⟩
    obtain ⟨v', hv', hr⟩ := hf.list.get hx
    rw [Array.getElem?_toList, hv] at hv'
    exact Option.some.inj hv' ▸ hr
end
end Go.Vm
