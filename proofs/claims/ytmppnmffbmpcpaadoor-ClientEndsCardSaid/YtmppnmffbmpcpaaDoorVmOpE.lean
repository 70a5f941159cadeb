/- The abstract machine: append of noughts, copy, slice expressions, conversions, lengths. -/
import Derived.Test.YtmppnmffbmpcpaaDoorVmOpD
set_option linter.unusedVariables false
set_option linter.unusedSimpArgs false
namespace Go.Vm
open Go.RowKit
section
variable {E : Env} {w0 : World} {g : G} {m : AM} {w : World}

theorem run_append_zeros {P : Program} {ats : Array TypeId} {ty sT xT e : TypeId} {info : TypeInfo} {z : Value} {kd : IntKind} (h0 : ats[0]? = some sT) (h1 : ats[1]? = some xT) (hu : P.underlying sT = some (.slice e)) (hx : P.underlying xT = some (.int kd))
    (hinfo : P.info? e = some info) (hz : info.zero = some z) (n : Int) (hn0 : 0 < n) (hs0 : 0 < info.size) (hbytes : n.toNat * info.bytes ≤ maxBytes) (h63 : n.toNat ≤ maxLen) :
    (Builtin.append_ ats ty #[.slice none 0 0, .int .i64 n]).run P w = .ok (.slice (some ⟨w.heap.size, 0, none⟩) n.toNat (grownCap w n.toNat 0 e))
      (w.drew.alloc (.cells (Builtin.zeroCells z.cells n.toNat ++ Builtin.zeroCells z.cells (grownCap w n.toNat 0 e - n.toNat)) e)) := by
  have hwn : IntKind.i64.wrap n = n := by simp only [maxLen] at h63; rw [IntKind.wrap_i64]; omega
  have hnn : n < 0 ↔ False := by simp; omega
  have hnb : ¬ n * (info.bytes : Int) > 2 ^ 48 := by
    have : ((n.toNat * info.bytes : Nat) : Int) ≤ 140737488355328 := by simp only [maxBytes] at hbytes; omega
    rw [Int.natCast_mul, show ((n.toNat : Nat) : Int) = n by omega] at this
    omega
  have h63' : ¬ (((0 + n.toNat : Nat) : Int) > IntKind.i64.max ∧ (true = true ∨ info.bytes = 0)) := by simp [IntKind.max, IntKind.signed, IntKind.bits]; simp only [maxLen] at h63; omega
  have h48 : ¬ (Builtin.nextslicecap (0 + n.toNat) 0 * info.bytes > 2 ^ 48) := by
    have := growslice_fits (need := 0 + n.toNat) (old := 0) (bytes := info.bytes) (by omega) (by simpa only [maxBytes, Nat.zero_add] using hbytes)
    omega
  have hti : ∀ W, (typeInfo e).run P W = .ok info W := fun W => by simp [typeInfo, hinfo]
  have hask : ∀ n W, (askRoom n).run P W = .ok () W := fun n W => by unfold askRoom; split <;> simp [mark, Sem.run]
  have hch : (choose (.appendCap (0 + n.toNat) 0 e)).run P w = .ok (grownCap w (0 + n.toNat) 0 e) w.drew := by simp [choose, Sem.run, Question.forced, grownCap]
  have hzv : ∀ W, (zeroValue e).run P W = .ok z W := fun W => by simp [zeroValue, hti, hz]
  have hfc : ∀ W, (Builtin.firstCells info.size 0 (.slice none 0 0)).run P W = .ok #[] W := fun W => by simp [Builtin.firstCells]
  have hns : ¬ n.toNat * info.size = 0 := by
    intro hc
    rcases Nat.mul_eq_zero.1 hc with hc | hc <;> omega
  simp only [Builtin.append_, h0, h1, List.getElem?_toArray, List.getElem?_cons_zero, List.getElem?_cons_succ, Sem.run_bind, run_underlying hu, run_underlying hx, Result.andThen_ok, sizeOf, Sem.run_pure, hti]
  simp only [if_true, Sem.run_bind, asInt, asIntOf, Sem.run_pure, Result.andThen_ok, hwn, hti]
  rw [if_neg (by omega)]
  simp only [Sem.run_bind, Result.andThen_ok, hti]
  rw [if_neg hnb]
  simp only [Sem.run_bind, Sem.run_pure, Result.andThen_ok]
  rw [if_neg (by omega)]
  simp only [Sem.run_bind, hti, Result.andThen_ok]
  rw [if_neg (by simpa using h63')]
  simp only [Sem.run_bind, hti, Result.andThen_ok]
  rw [if_neg h48]
  simp only [Sem.run_bind, hti, Result.andThen_ok, hch, hask, hfc, Bool.not_true, Bool.false_eq_true, if_false]
  rw [if_neg hns]
  simp only [Sem.run_bind, hti, Result.andThen_ok, hzv, newRow, newObj, Sem.run, Sem.run_pure, World.alloc_eq, Nat.zero_add, Array.empty_append]
  rfl

theorem zeroCells_list (z : Value) (n : Nat) (hz : 0 < z.cells.size) : (Builtin.zeroCells z.cells n).toList = (List.replicate n z.cells.toList).flatten := by
  have := zeros_eq z z.cells.size n hz rfl
  unfold Builtin.zeroCells
  rw [this]

theorem appendZeros_good (hi : Inv E w0 g m w) {ats : Array TypeId} {ty sT xT : TypeId} {kd : IntKind} (h0 : ats[0]? = some sT) (h1 : ats[1]? = some xT) (hux : E.P.underlying xT = some (.int kd))
    {d x : AV} {vd vx : Value} {res : ARes} (h : aappendZeros E m sT d x = some res) (hd : Rep g d vd) (hx : Rep g x vx) :
    ∃ a m' v w' g', res = .ret a m' ∧ (Builtin.append_ ats ty #[vd, vx]).run E.P w = .ok v w' ∧ g.le g' ∧ Inv E w0 g' m' w' ∧ Rep g' a v := by
  unfold aappendZeros at h
  split at h
  case h_2 => cases h
  rename_i e n hu
  simp only [Rep] at hd hx
  subst hd; subst hx
  split at h
  case h_2 => cases h
  rename_i es bytes z hs hb hz
  split at h
  · cases h
  rename_i hc
  simp only [not_or, Decidable.not_not, Nat.not_lt, Int.not_le] at hc
  obtain ⟨hes, hzs, hn0, hbytes, h63⟩ := hc
  obtain rfl := Option.some.inj h
  obtain ⟨info, hinfo, hb'⟩ := info_of hb
  have hs' : info.size = es := by
    obtain ⟨i2, h2, h3⟩ := info_of hs
    rw [hinfo] at h2
    obtain rfl := Option.some.inj h2
    exact h3
  have hz' : info.zero = some z := by
    simp only [tzero, hinfo, Option.bind_some] at hz
    exact hz
  subst hs'; subst hb'
  have hrun := run_append_zeros (w := w) (ty := ty) h0 h1 hu hux hinfo hz' n hn0 (by omega) hbytes h63
  obtain ⟨hg1, hg2⟩ := grownCap_le w n.toNat 0 e h63
  have hzl := (zeros_rep g z n.toNat).length
  have hzc : (Builtin.zeroCells z.cells n.toNat ++ Builtin.zeroCells z.cells (grownCap w n.toNat 0 e - n.toNat)).toList.take (zeros z n.toNat).length = (List.replicate n.toNat z.cells.toList).flatten := by
    rw [Array.toList_append, zeroCells_list z _ (by omega), hzl, List.take_append_of_le_length (Nat.le_refl _), List.take_length]
  obtain ⟨g', k1, k2, k3⟩ := hi.drew.newWr (cells := zeros z n.toNat) (cs := Builtin.zeroCells z.cells n.toNat ++ Builtin.zeroCells z.cells (grownCap w n.toNat 0 e - n.toNat)) (e := e) (p := true)
    (by rw [hzc]; exact zeros_rep g z n.toNat) (by simp)
  refine ⟨_, _, _, _, g', rfl, hrun, k1, k2, ?_⟩
  simp only [Rep]
  refine ⟨_, grownCap w n.toNat 0 e, rfl, k3, hg2, hg1, fun _ hq => (nomatch hq), ?_⟩
  simp only [Array.size_append, size_zeroCells', hzs, ← Nat.add_mul]
  rw [Nat.add_sub_cancel' hg1]
  omega

theorem copy_good (hi : Inv E w0 g m w) {ats : Array TypeId} {ty dT : TypeId} (h0 : ats[0]? = some dT) {d x : AV} {vd vx : Value} {res : ARes} (h : acopy E m dT d x = some res) (hd : Rep g d vd) (hx : Rep g x vx) :
    ∃ a m' v w' g', res = .ret a m' ∧ (Builtin.copy_ ats ty #[vd, vx]).run E.P w = .ok v w' ∧ g.le g' ∧ Inv E w0 g' m' w' ∧ Rep g' a v := by
  unfold acopy at h
  split at h
  case h_2 => cases h
  rename_i e hu
  split at h
  case h_2 => cases h
  rename_i es hs
  split at h
  · cases h
  rename_i hes
  split at h
  case h_2 => cases h
  rename_i ys i off es' n cap hys
  simp only at h
  split at h
  case h_2 => cases h
  rename_i cells e' p hmi
  split at h
  case isFalse => cases h
  rename_i hc
  obtain ⟨rfl, hyl, hle, hone⟩ := hc
  obtain rfl := Option.some.inj h
  obtain ⟨k, l, hl, hlen, hrl, hrf⟩ := source_run' hi hys hx
  have hyk : ys.length / es' = k := by rw [hl.length, hlen]; exact Nat.mul_div_cancel _ (by omega)
  simp only [Rep] at hd
  obtain ⟨ti, c, rfl, hT, hcm, hnc, hcap, hroom⟩ := hd
  rw [hyk]
  have hkl : min k n * es' ≤ l.length := by rw [hlen]; exact Nat.mul_le_mul_right _ (Nat.min_le_left _ _)
  have hkn : min k n * es' ≤ n * es' := Nat.mul_le_mul_right _ (Nat.min_le_right _ _)
  have hl2 := hl.take (min k n * es')
  have hone2 : (ys.take (min k n * es')).all AV.one = true := List.all_eq_true.2 fun a ha => List.all_eq_true.1 hone a (List.mem_of_mem_take ha)
  obtain ⟨q1, q2⟩ := hi.put hmi hT hl2 hone2 (off := off) (by rw [List.length_take]; omega)
  have hsrc : (Builtin.firstCells es' (min k n) vx).run E.P w = .ok (l.take (min k n * es')).toArray w := hrf w (fun _ => rfl) (min k n) (Nat.min_le_left _ _)
  have hlenr := hrl w
  refine ⟨_, _, .int .i64 ((min k n : Nat) : Int), w.setCells ti.block off (l.take (min k n * es')), g, rfl, ?_, .refl g, q2, by simp only [Rep]⟩
  rcases q1 0 with q1 | q1
  · simp only [Builtin.copy_, h0, List.getElem?_toArray, List.getElem?_cons_zero, List.getElem?_cons_succ, Sem.run_bind, run_underlying hu, Result.andThen_ok, hlenr, run_tsize hs]
    rw [show Nat.min k n = min k n from rfl, hsrc]
    simp only [Result.andThen_ok, List.toList_toArray, Sem.run_bind]
    rw [q1]
    simp [goInt]
  · exact absurd rfl q1

/-! ### Slice expressions -/
def ORep (g : G) : Option AV → Option Value → Prop
  | none, y => y = none
  | some a, y => ∃ v, y = some v ∧ Rep g a v

theorem sliceBound_run {P : Program} {a : AV} {v : Value} {k y : Nat} (h : asNat a = some k) (ha : Rep g a v) (hk : k ≤ y) (code : BoundsCode) (w : World) : (Instr.sliceBound v y code).run P w = .ok k w := by
  obtain ⟨kd, n, rfl, h0, rfl⟩ := asNat_rep h ha
  simp only [Instr.sliceBound, asIntOf, Sem.run_bind, Sem.run_pure, Result.andThen_ok]
  rw [if_pos ⟨h0, by omega⟩]
  simp

theorem bounds_run {P : Program} {len c : Nat} {lo hi' mx : Option AV} {vlo vhi vmx : Option Value} {cap : Option Nat} {l h : Nat} {mm : Option Nat} (hab : abounds len lo hi' mx cap = some (l, h, mm)) (hlo : ORep g lo vlo) (hhi : ORep g hi' vhi) (hmx : ORep g mx vmx)
    (hlc : len ≤ c) (hcap : ∀ k, cap = some k → c = k) (b : Bool) (w : World) :
    ∃ M, (Instr.sliceBounds b len c vlo vhi vmx).run P w = .ok (l, h, M) w ∧ l ≤ h ∧ h ≤ M ∧ M ≤ c ∧ (∀ k, mm = some k → M = k) ∧ (mm = none → M = c ∧ cap = none ∧ h ≤ len) ∧ (cap = none → h ≤ len) := by
  have hcg : cap.getD len ≤ c := by
    cases cap with
    | none => exact hlc
    | some k => rw [hcap k rfl]; exact Nat.le_refl _
  unfold abounds at hab
  simp only [Option.bind_eq_some_iff] at hab
  obtain ⟨m', h1, hh, h2, ll, h3, hif⟩ := hab
  split at hif
  case isFalse => cases hif
  rename_i hc
  obtain ⟨c1, c2, c3, c4⟩ := hc
  simp only [Option.some.injEq, Prod.mk.injEq] at hif
  obtain ⟨rfl, rfl, rfl⟩ := hif
  have hcn : cap = none → hh ≤ len := fun e => by
    subst e
    cases m' with
    | none => simpa using c2
    | some q => simp only [Option.getD_some, Option.getD_none] at c2 c3; omega
  cases mx with
  | none =>
    simp only [ORep] at hmx
    subst hmx
    simp only [Option.some.injEq] at h1
    subst h1
    simp only [Option.getD_none] at c2
    have hhrun : (match vhi with | some v => Instr.sliceBound v c (if b = true then BoundsCode.sliceAcap else BoundsCode.sliceAlen) | none => pure len : Sem Nat).run P w = .ok hh w := by
      cases hi' with
      | none =>
        simp only [ORep] at hhi
        subst hhi
        simp only [Option.some.injEq] at h2
        subst h2
        simp
      | some a =>
        simp only [ORep] at hhi
        obtain ⟨v, rfl, ha⟩ := hhi
        exact sliceBound_run h2 ha (by omega) _ w
    have hlrun : (match vlo with | some v => Instr.sliceBound v hh (if (none : Option Value).isSome = true then BoundsCode.slice3C else BoundsCode.sliceB) | none => pure 0 : Sem Nat).run P w = .ok ll w := by
      cases lo with
      | none =>
        simp only [ORep] at hlo
        subst hlo
        simp only [Option.some.injEq] at h3
        subst h3
        simp
      | some a =>
        simp only [ORep] at hlo
        obtain ⟨v, rfl, ha⟩ := hlo
        exact sliceBound_run h3 ha c1 _ w
    refine ⟨c, ?_, c1, by omega, Nat.le_refl _, hcap, fun e => ⟨rfl, e, hcn e⟩, hcn⟩
    cases vhi <;> cases vlo <;> simp_all [Instr.sliceBounds]
  | some am =>
    simp only [ORep] at hmx
    obtain ⟨vm, rfl, ham⟩ := hmx
    simp only [Option.map_eq_some_iff] at h1
    obtain ⟨q, hq, rfl⟩ := h1
    simp only [Option.getD_some] at c2 c3
    cases hi' with
    | none => simp at c4
    | some ah =>
      simp only [ORep] at hhi
      obtain ⟨vh, rfl, hah⟩ := hhi
      have r1 := fun code => sliceBound_run (P := P) hq ham (show q ≤ c by omega) code w
      have r2 := fun code => sliceBound_run (P := P) h2 hah c2 code w
      refine ⟨q, ?_, c1, c2, by omega, fun k hk => by simpa using hk, fun e => (by cases e), hcn⟩
      cases lo with
      | none =>
        simp only [ORep] at hlo
        subst hlo
        simp only [Option.some.injEq] at h3
        subst h3
        simp [Instr.sliceBounds, r1, r2]
      | some a =>
        simp only [ORep] at hlo
        obtain ⟨v, rfl, ha⟩ := hlo
        have r3 := fun code => sliceBound_run (P := P) h3 ha c1 code w
        simp [Instr.sliceBounds, r1, r2, r3]

theorem slice_good (hi : Inv E w0 g m w) {lit : Bool} {t : TypeId} {x : AV} {lo hi' mx : Option AV} {v : Value} {vlo vhi vmx : Option Value} {res : ARes} (h : aslice E lit m t x lo hi' mx = some res)
    (hx : Rep g x v) (hlo : ORep g lo vlo) (hhi : ORep g hi' vhi) (hmx : ORep g mx vmx) :
    ∃ a m' u w' g', res = .ret a m' ∧ (Instr.sliceAt t v vlo vhi vmx).run E.P w = .ok u w' ∧ g.le g' ∧ Inv E w0 g' m' w' ∧ Rep g' a u := by
  unfold aslice at h
  split at h
  · rename_i e hu
    split at h
    case h_2 => cases h
    rename_i es hs
    have hsl : ∀ (a : Option Addr) (n c l hh M : Nat), (Instr.sliceBounds true n c vlo vhi vmx).run E.P w = .ok (l, hh, M) w →
        (Instr.sliceAt t (.slice a n c) vlo vhi vmx).run E.P w = .ok (.slice (if M = l then a else a.map (·.add (l * es))) (hh - l) (M - l)) w := fun a n c l hh M hb => by
      simp only [Instr.sliceAt, Sem.run_bind, run_underlying hu, Result.andThen_ok, Instr.slice, hb, run_tsize hs, Sem.run_pure]
    split at h
    · rename_i cells es' n cap own
      split at h
      · cases h
      rename_i hc0
      simp only [not_or, Decidable.not_not, Nat.not_lt] at hc0
      obtain ⟨rfl, hes, hcl⟩ := hc0
      simp only [Option.bind_eq_some_iff] at h
      obtain ⟨⟨l, hh, mm⟩, hab, h⟩ := h
      simp only at h
      split at h
      case isFalse => cases h
      rename_i hhe
      obtain rfl := Option.some.inj h
      simp only [Rep] at hx
      obtain ⟨A, c, lv, rfl, hcm, hnc, hcc, hcap, hlv, hk, hown⟩ := hx
      obtain ⟨M, hb, b1, b2, b3, b4, b5, b6⟩ := bounds_run (P := E.P) (w := w) hab hlo hhi hmx hnc hcap true
      refine ⟨_, m, _, w, g, rfl, hsl A n c l hh M hb, .refl g, hi, ?_⟩
      have hlvl := hlv.length
      have hMc : M * es' ≤ c * es' := Nat.mul_le_mul_right _ b3
      have hlM : l * es' ≤ M * es' := Nat.mul_le_mul_right _ (by omega)
      -- the cells that stay known
      have key : ∃ lv', RepL g (cut cells es' l mm) lv' ∧ lv'.length ≤ (M - l) * es' ∧ ∀ j u, lv'[j]? = some u → lv[l * es' + j]? = some u := by
        cases mm with
        | some k =>
          have hMk := b4 k rfl
          subst hMk
          refine ⟨(lv.take (M * es')).drop (l * es'), (hlv.take _).drop _, ?_, fun j u hj => ?_⟩
          · rw [List.length_drop, List.length_take, Nat.sub_mul]; omega
          · rw [List.getElem?_drop, List.getElem?_take] at hj
            split at hj
            · exact hj
            · cases hj
        | none =>
          obtain ⟨e1, e2, _⟩ := b5 rfl
          subst e1
          refine ⟨lv.drop (l * es'), hlv.drop _, ?_, fun j u hj => ?_⟩
          · rw [List.length_drop, Nat.sub_mul]; omega
          · rw [List.getElem?_drop] at hj; exact hj
      obtain ⟨lv', k1, k2, k3⟩ := key
      have hmv : ∀ j u, lv'[j]? = some u → M ≠ l := fun j u hj e => by
        have := (List.getElem?_eq_some_iff.1 hj).1
        rw [e, Nat.sub_self, Nat.zero_mul] at k2
        omega
      simp only [Rep]
      refine ⟨_, M - l, lv', rfl, by omega, by omega, by rw [k1.length]; exact k2, fun q hq => ?_, k1, fun j u hj => ?_, fun t' ht' => ?_⟩
      · simp only [Option.map_eq_some_iff] at hq
        obtain ⟨k, hk', rfl⟩ := hq
        rw [b4 k hk']
      · rw [if_neg (hmv j u hj)]
        obtain ⟨ad, rfl, hkk⟩ := hk _ u (k3 j u hj)
        exact ⟨_, rfl, by rw [add_add']; exact hkk⟩
      · split at ht'
        · rename_i hcnd
          obtain ⟨e1, e2, e3⟩ := hcnd
          obtain ⟨ad, ti, rfl, hsp, hT, hbk, hwm, hrm⟩ := hown t' ht'
          subst e1
          by_cases hl0 : l = 0
          · subst hl0
            refine ⟨ad, ti, ?_, hsp, hT, hbk, by simpa using hwm, ?_⟩
            · simp [Addr.add]
            · have : (M - 0) * es' ≤ c * es' := by simpa using hMc
              omega
          · have hMl : M ≠ l := by omega
            refine ⟨ad.add (l * es'), ti, by rw [if_neg hMl]; rfl, by rw [add_of_spot hsp], hT, by rw [add_of_spot hsp]; exact hbk, ?_, ?_⟩
            · rw [add_of_spot hsp, hwm]
              simp only
              have : l * es' ≤ hh * es' := Nat.mul_le_mul_right _ b1
              rw [Nat.sub_mul]
              omega
            · rw [add_of_spot hsp]
              simp only
              rw [Nat.sub_mul]
              omega
        · cases ht'
    · rename_i i off es' n cap
      split at h
      · cases h
      rename_i hc0
      simp only [not_or, Decidable.not_not] at hc0
      obtain ⟨hes, rfl⟩ := hc0
      simp only [Option.bind_eq_some_iff] at h
      obtain ⟨⟨l, hh, mm⟩, hab, h⟩ := h
      simp only at h
      simp only [Rep] at hx
      obtain ⟨ti, c, rfl, hT, hcm, hnc, hcap, hroom⟩ := hx
      obtain ⟨M, hb, b1, b2, b3, b4, b5, b6⟩ := bounds_run (P := E.P) (w := w) hab hlo hhi hmx hnc hcap true
      have hMc : M * es' ≤ c * es' := Nat.mul_le_mul_right _ b3
      have hlM : l * es' ≤ M * es' := Nat.mul_le_mul_right _ (by omega)
      have hmmk : ∀ q, mm.map (· - l) = some q → M - l = q := fun q hq => by
        simp only [Option.map_eq_some_iff] at hq
        obtain ⟨k, hk', rfl⟩ := hq
        rw [b4 k hk']
      split at h
      · rename_i hcnd
        obtain rfl := Option.some.inj h
        refine ⟨_, m, _, w, g, rfl, hsl _ n c l hh M hb, .refl g, hi, ?_⟩
        have haddr : (if M = l then (some ⟨ti.block, off, none⟩ : Option Addr) else (some ⟨ti.block, off, none⟩ : Option Addr).map (·.add (l * es'))) = some ⟨ti.block, off + l * es', none⟩ := by
          rcases hcnd with rfl | hlt
          · simp [Addr.add]
          · rw [if_neg (by omega)]; simp [add_none]
        rw [haddr]
        simp only [Rep]
        exact ⟨ti, M - l, rfl, hT, by omega, by omega, hmmk, by rw [Nat.sub_mul]; omega⟩
      · rename_i hcnd
        obtain rfl := Option.some.inj h
        refine ⟨_, m, _, w, g, rfl, hsl _ n c l hh M hb, .refl g, hi, ?_⟩
        simp only [Rep]
        have hhl : hh = l := by omega
        exact ⟨_, M - l, [], by rw [hhl, Nat.sub_self], by omega, by omega, by simp, hmmk, .nil, fun j u hj => by simp at hj, fun _ hq => (nomatch hq)⟩
    · cases h
  · rename_i n e hu
    split at h
    case h_2 => cases h
    rename_i es i off hs
    split at h
    · cases h
    rename_i hes
    simp only [not_or, Nat.not_lt] at hes
    obtain ⟨hes, hnm⟩ := hes
    simp only [Option.bind_eq_some_iff] at h
    obtain ⟨⟨l, hh, mm⟩, hab, h⟩ := h
    simp only at h
    simp only [Rep] at hx
    obtain ⟨ti, rfl, hT⟩ := hx
    obtain ⟨M, hb, b1, b2, b3, b4, b5, b6⟩ := bounds_run (P := E.P) (w := w) hab hlo hhi hmx (Nat.le_refl n) (fun k hk => by simpa using hk) false
    have hmm : mm = some M := by
      cases mm with
      | none => obtain ⟨_, e2, _⟩ := b5 rfl; cases e2
      | some k => rw [b4 k rfl]
    subst hmm
    have hMc : M * es ≤ n * es := Nat.mul_le_mul_right _ b3
    have hlM : l * es ≤ M * es := Nat.mul_le_mul_right _ (by omega)
    have hmmk : ∀ q, (some M).map (· - l) = some q → M - l = q := fun q hq => by simpa using hq
    have hsl : (Instr.sliceAt t (.pointer (some ⟨ti.block, off, none⟩)) vlo vhi vmx).run E.P w = .ok (.slice (some (if M = l then ⟨ti.block, off, none⟩ else (⟨ti.block, off, none⟩ : Addr).add (l * es))) (hh - l) (M - l)) w := by
      simp only [Instr.sliceAt, Sem.run_bind, run_underlying hu, Result.andThen_ok, Instr.sureAddr, Sem.run_pure, hb, run_tsize hs]
    split at h
    · rename_i hcnd
      obtain rfl := Option.some.inj h
      have hhl : hh = l := by omega
      refine ⟨_, m, _, w, g, rfl, hsl, .refl g, hi, ?_⟩
      simp only [Rep]
      exact ⟨_, M - l, [], by rw [hhl, Nat.sub_self], by omega, by omega, by simp, hmmk, .nil, fun j u hj => by simp at hj, fun _ hq => (nomatch hq)⟩
    · rename_i hcnd
      have haddr : (if M = l then (⟨ti.block, off, none⟩ : Addr) else (⟨ti.block, off, none⟩ : Addr).add (l * es)) = ⟨ti.block, off + l * es, none⟩ := by
        have hcnd' : l = 0 ∨ l < hh := by omega
        rcases hcnd' with rfl | hlt
        · simp [Addr.add]
        · rw [if_neg (by omega)]; exact add_none _ _ _
      rw [haddr] at hsl
      -- the cells that are known, once the block is never written again
      have frz : ∀ (g' : G) (cells : List AV) (lv : List Value), RepL g' cells lv → off + n * es ≤ cells.length → (∀ j u, lv[j]? = some u → g'.K ⟨ti.block, j, none⟩ = some u) →
          Rep g' (.sl (cut (cells.drop off) es l (some M)) es (hh - l) ((some M).map (· - l)) none) (.slice (some ⟨ti.block, off + l * es, none⟩) (hh - l) (M - l)) := fun g' cells lv hlv hle hk => by
        simp only [Rep, cut]
        have hll := hlv.length
        refine ⟨_, M - l, (((lv.drop off).take (M * es)).drop (l * es)), rfl, by omega, by omega, ?_, hmmk, ((hlv.drop off).take _).drop _, fun j u hj => ⟨_, rfl, ?_⟩, fun _ hq => (nomatch hq)⟩
        · rw [List.length_drop, List.length_take, Nat.sub_mul]; omega
        · rw [add_none]
          apply hk
          rw [List.getElem?_drop, List.getElem?_take] at hj
          split at hj
          · rw [List.getElem?_drop] at hj
            rw [show off + l * es + j = off + (l * es + j) by omega]
            exact hj
          · cases hj
      split at h
      · rename_i cells e' p hmi
        obtain ⟨cs, fr, q1, q2, q3, q4, q5, q6⟩ := hi.wr hmi hT
        have q4l := q4.length
        rw [List.length_take] at q4l
        split at h
        case isFalse => cases h
        rename_i hle
        have hcs : cells.length ≤ cs.size := by simpa using (show cells.length ≤ cs.toList.length by omega)
        split at h
        · obtain rfl := Option.some.inj h
          refine ⟨_, m, _, w, g, rfl, hsl, .refl g, hi, ?_⟩
          simp only [Rep]
          exact ⟨ti, M - l, rfl, hT, by omega, by omega, hmmk, by rw [Nat.sub_mul]; omega⟩
        · split at h
          · cases h
          · rename_i hp
            obtain rfl := Option.some.inj h
            have hp' : p = false := by simpa using hp
            have hcl := q5 hp'
            have htk : cs.toList.take cells.length = cs.toList := List.take_of_length_le (by rw [hcl]; simp)
            rw [htk] at q4
            have hle' : g.le (g.commit ti.block 0 cs.toList) := G.le_commit fun o _ _ => q6 o
            have hK : ∀ j u, cs.toList[j]? = some u → (g.commit ti.block 0 cs.toList).K ⟨ti.block, j, none⟩ = some u := fun j u hj => by
              have hjl := (List.getElem?_eq_some_iff.1 hj).1
              simp only [G.commit]
              rw [if_pos ⟨by trivial, by trivial, by omega, by omega⟩]
              simpa using hj
            have hinv := hi.turn (nb := .frz cells e') (g' := g.commit ti.block 0 cs.toList) hmi rfl hT hi.below (Nat.le_refl _) (fun _ _ _ => rfl) hle' rfl (fun a v hk => by
                simp only [G.commit] at hk
                split at hk
                · rename_i hc
                  obtain ⟨h1, h2, _, _⟩ := hc
                  obtain ⟨ab, ao, as⟩ := a
                  simp only at h1 h2
                  subst h1; subst h2
                  exact .inr ⟨rfl, by rw [cell_of_heap q1]; simpa using hk⟩
                · rename_i hc
                  refine .inl ⟨fun e1 => ?_, hk⟩
                  have hcell := hi.kcell a v hk
                  have hs' : a.spot = none := by
                    cases hsp : a.spot with
                    | none => rfl
                    | some _ =>
                      rw [World.cell?] at hcell
                      rw [e1, q1] at hcell
                      simp [hsp] at hcell
                  have := q6 a.off
                  obtain ⟨ab, ao, as⟩ := a
                  simp only at e1 hs'
                  subst e1; subst hs'
                  rw [this] at hk
                  cases hk)
              (show BlkOk _ w (.frz cells e') ti from ⟨cs, fr, q1, q2, q3, RepL.mono hle' _ q4, fun o u ho => hK o u (by simpa using ho)⟩)
            exact ⟨_, _, _, w, _, rfl, hsl, hle', hinv, frz _ cells cs.toList (RepL.mono hle' _ q4) hle hK⟩
      · rename_i cells e' hmi
        split at h
        case isFalse => cases h
        rename_i hle
        obtain rfl := Option.some.inj h
        obtain ⟨tj, htj, cs, fr, q1, q2, q3, q4, q5⟩ := hi.live i _ hmi rfl
        obtain rfl := Option.some.inj (hT.symm.trans htj)
        exact ⟨_, _, _, w, _, rfl, hsl, .refl g, hi, frz _ cells cs.toList q4 hle fun j u hj => q5 j u (by simpa using hj)⟩
      · cases h
  · cases h
end
end Go.Vm
