/- The abstract machine: structs, arrays and slices that are made; slice expressions; lengths; conversions. -/
import Derived.Test.YtmppnmffbmpcpaaDoorVmOpB
set_option linter.unusedVariables false
set_option linter.unusedSimpArgs false
namespace Go.Vm
open Go.RowKit
section
variable {E : Env} {w0 : World} {g : G} {m : AM} {w : World}

theorem run_mapM_list {α β : Type} {P : Program} {w : World} {f : α → Sem β} {r : α → β} : ∀ {l : List α}, (∀ x ∈ l, (f x).run P w = .ok (r x) w) → (l.mapM f).run P w = .ok (l.map r) w
  | [], _ => by simp
  | x :: l, h => by
    have h1 := h x (by simp)
    have h2 := run_mapM_list (l := l) fun y hy => h y (by simp [hy])
    simp [List.mapM_cons, h1, h2]
theorem run_mapM {α β : Type} {P : Program} {w : World} {f : α → Sem β} {r : α → β} {l : Array α} (h : ∀ x ∈ l.toList, (f x).run P w = .ok (r x) w) : (l.mapM f).run P w = .ok (l.map r) w := by
  obtain ⟨l⟩ := l
  have := run_mapM_list h
  rw [List.mapM_toArray]
  simp only [map_eq_pure_bind, Sem.run_bind, this, Result.andThen_ok, Sem.run_pure, List.map_toArray]

theorem pairs_rep {ps : List (Nat × Operand)} {ρa : Operand → AV} {ρ : Operand → Value} (h : ∀ x ∈ ps, Rep g (ρa x.2) (ρ x.2)) :
    (ps.map fun x => (x.1, ρa x.2)).length = (ps.map fun x => (x.1, ρ x.2)).length ∧ ∀ (j : Nat) p q, (ps.map fun x => (x.1, ρa x.2))[j]? = some p → (ps.map fun x => (x.1, ρ x.2))[j]? = some q → p.1 = q.1 ∧ Rep g p.2 q.2 := by
  refine ⟨by simp, fun j p q hp hq => ?_⟩
  simp only [List.getElem?_map, Option.map_eq_some_iff] at hp hq
  obtain ⟨x, hx, rfl⟩ := hp
  obtain ⟨y, hy, rfl⟩ := hq
  rw [hx] at hy
  obtain rfl := Option.some.inj hy
  exact ⟨rfl, h x (List.mem_iff_getElem?.2 ⟨j, hx⟩)⟩

theorem build_run {t : TypeId} {ps : List (Nat × AV)} {qs : List (Nat × Value)} {x : AV} (h : abuild E t ps = some x) (hn : ps.length = qs.length)
    (hq : ∀ (j : Nat) p q, ps[j]? = some p → qs[j]? = some q → p.1 = q.1 ∧ Rep g p.2 q.2) (w : World) : ∃ u, (Instr.build t qs.toArray).run E.P w = .ok u w ∧ Rep g x u := by
  unfold abuild at h
  split at h
  · rename_i z fs hz hu
    split at h
    · cases h
    · rename_i hall
      simp only [Option.map_eq_some_iff] at h
      obtain ⟨out, hf, rfl⟩ := h
      obtain ⟨l', h1, h2⟩ := fill_rep hf (RepL.of_vals z.cells.toList) hn hq
      have hall' : ∀ f ∈ fs.toList, (tsize E f.type).isSome = true := fun f hf => List.all_eq_true.1 (Bool.not_eq_false _ ▸ hall) f hf
      have hm : (fs.mapM (fun (f : Field) => do pure (f.offset, ← sizeOf f.type)) : Sem (Array (Nat × Nat))).run E.P w = .ok (fs.map fun (f : Field) => (f.offset, (tsize E f.type).getD 0)) w := run_mapM fun f hf => by
        obtain ⟨s, hs⟩ := Option.isSome_iff_exists.1 (hall' f hf)
        simp [run_tsize hs, hs]
      have hpl : (fun (i : Nat) => (fs[i]?).bind fun (f : Field) => (tsize E f.type).map fun s => (f.offset, s)) = (fun (i : Nat) => (fs.map fun (f : Field) => (f.offset, (tsize E f.type).getD 0))[i]?) := by
        funext i
        rw [Array.getElem?_map]
        cases hfi : fs[i]? with
        | none => rfl
        | some f =>
          obtain ⟨s, hs⟩ := Option.isSome_iff_exists.1 (hall' f (by simpa using Array.mem_of_getElem? hfi))
          simp [hs]
      rw [hpl] at h1
      refine ⟨.agg l'.toArray, ?_, by simp only [Rep]; exact ⟨_, rfl, h2⟩⟩
      simp only [Instr.build, Sem.run_bind, run_tzero hz, Result.andThen_ok, run_underlying hu, hm]
      have e1 : z.cells = z.cells.toList.toArray := by simp
      rw [e1, h1]
      simp
  · rename_i z nn e hz hu
    simp only [Option.bind_eq_some_iff, Option.map_eq_some_iff] at h
    obtain ⟨s, hs, out, hf, rfl⟩ := h
    obtain ⟨l', h1, h2⟩ := fill_rep hf (RepL.of_vals z.cells.toList) hn hq
    refine ⟨.agg l'.toArray, ?_, by simp only [Rep]; exact ⟨_, rfl, h2⟩⟩
    simp only [Instr.build, Sem.run_bind, run_tzero hz, Result.andThen_ok, run_underlying hu, run_tsize hs]
    have e1 : z.cells = z.cells.toList.toArray := by simp
    rw [e1, h1]
    simp
  · cases h

theorem zeros_eq (z : Value) (s len : Nat) (hs : 0 < s) (hz : z.cells.size = s) : ((Array.range (len * s)).map fun i => z.cells[i % z.cells.size]!) = ((List.replicate len z.cells.toList).flatten).toArray := by
  apply Array.ext'
  simp only [Array.toList_map, Array.toList_range, List.toList_toArray]
  induction len with
  | zero => simp
  | succ n ih =>
    rw [List.replicate_succ', List.flatten_append, ← ih, Nat.succ_mul, List.range_add, List.map_append, List.map_map]
    congr 1
    simp only [List.flatten_cons, List.flatten_nil, List.append_nil]
    apply List.ext_getElem
    · simp [hz]
    · intro i h1 h2
      simp only [List.length_map, List.length_range] at h1
      simp only [List.getElem_map, List.getElem_range, Function.comp, hz, Array.getElem_toList]
      rw [Nat.mul_comm, Nat.mul_add_mod, Nat.mod_eq_of_lt h1, getElem!_pos z.cells i (by omega)]
theorem zeros_rep (g : G) (z : Value) (len : Nat) : RepL g (zeros z len) ((List.replicate len z.cells.toList).flatten) := by
  have : zeros z len = ((List.replicate len z.cells.toList).flatten).map AV.v := by
    unfold zeros
    induction len with
    | zero => rfl
    | succ n ih => rw [List.replicate_succ, List.flatten_cons, ih, List.replicate_succ, List.flatten_cons, List.map_append]
  rw [this]
  exact .of_vals _
theorem zeros_length (z : Value) (len : Nat) : (zeros z len).length = len * z.cells.size := by
  have h := (zeros_rep (g := ⟨fun _ => none, fun _ => none, fun _ => none, fun _ => undef, fun _ => undef⟩) z len).length
  rw [h]
  clear h
  induction len with
  | zero => simp
  | succ n ih => rw [List.replicate_succ, List.flatten_cons, List.length_append, ih, Nat.succ_mul, Array.length_toList]; omega
theorem afill_length {place : Nat → Option (Nat × Nat)} : ∀ {ps : List (Nat × AV)} {cells out : List AV}, afill place cells ps = some out → out.length = cells.length
  | [], _, _, h => by simp only [afill, Option.some.injEq] at h; rw [h]
  | (i, x) :: r, cells, out, h => by
    simp only [afill] at h
    split at h
    · cases h
    · split at h
      · cases h
      · rename_i hc
        rw [afill_length h]
        simp [putAt]
        omega

/-- A slice over a whole new block. -/
theorem ref_new {g' : G} {i b wm len cap es : Nat} (hT : g'.T i = some ⟨b, wm, cap * es⟩) (h1 : len ≤ cap) (h2 : cap ≤ maxLen) : Rep g' (.ref i 0 es len (some cap)) (.slice (some ⟨b, 0, none⟩) len cap) := by
  simp only [Rep]
  exact ⟨_, cap, rfl, hT, h2, h1, fun k hk => by simpa using hk, by simp⟩

theorem buildSlice_good (hi : Inv E w0 g m w) {lit : Bool} {t : TypeId} {len : Nat} {ps : List (Nat × AV)} {qs : List (Nat × Value)} {res : ARes} (h : abuildSlice E lit m t len ps = some res)
    (hn : ps.length = qs.length) (hq : ∀ (j : Nat) p q, ps[j]? = some p → qs[j]? = some q → p.1 = q.1 ∧ Rep g p.2 q.2) :
    ∃ a m' v w' g', res = .ret a m' ∧ (Instr.buildSlice t len qs.toArray).run E.P w = .ok v w' ∧ g.le g' ∧ Inv E w0 g' m' w' ∧ Rep g' a v := by
  unfold abuildSlice at h
  split at h
  · rename_i e hu
    split at h
    · rename_i s z hs hz
      split at h
      · cases h
      · rename_i hc
        simp only [not_or, Decidable.not_not, Nat.not_lt] at hc
        obtain ⟨hs0, hzs, hlen⟩ := hc
        simp only [Option.map_eq_some_iff] at h
        obtain ⟨cells, hf, h⟩ := h
        obtain ⟨l', h1, h2⟩ := fill_rep hf (zeros_rep g z len) hn hq
        have hcl : cells.length = len * s := by rw [afill_length hf, zeros_length, hzs]
        have hl' := h2.length
        have hrun : (Instr.buildSlice t len qs.toArray).run E.P w = .ok (.slice (some ⟨w.heap.size, 0, none⟩) len len) (w.alloc (.cells l'.toArray e)) := by
          have h24 : ¬ len * s > 2 ^ 24 := by omega
          by_cases h0 : len * s = 0
          · have hl0 : len = 0 := by rcases Nat.mul_eq_zero.1 h0 with h | h <;> omega
            subst hl0
            simp only [List.replicate_zero, List.flatten_nil] at h1
            simp only [Instr.buildSlice, Sem.run_bind, run_underlying hu, Result.andThen_ok, run_tsize hs, if_neg h24, if_pos h0, Sem.run_pure]
            have hr0 : ∀ f : Nat → Value, (Array.range (0 * s)).map f = #[] := fun f => Array.eq_empty_of_size_eq_zero (by simp)
            rw [hr0, h1]
            simp only [Sem.run_bind, run_newRow, Result.andThen_ok, Sem.run_pure]
          · simp only [Instr.buildSlice, Sem.run_bind, run_underlying hu, Result.andThen_ok, run_tsize hs, if_neg h24, if_neg h0, Sem.run_pure, run_tzero hz]
            rw [zeros_eq z s len (by omega) hzs, h1]
            simp only [Sem.run_bind, run_newRow, Result.andThen_ok, Sem.run_pure]
        split at h
        · obtain ⟨g', k1, k2, k3⟩ := hi.newWr (cells := cells) (cs := l'.toArray) (e := e) (p := false) (by rw [hl']; simpa using h2) (by simp [hl'])
          subst h
          refine ⟨_, _, _, _, g', rfl, hrun, k1, k2, ref_new (wm := 0) ?_ (Nat.le_refl _) (by simp only [maxLen]; have := Nat.le_mul_of_pos_right len (show 0 < s by omega); omega)⟩
          rw [k3]; simp [← hl', hcl]
        · have hcap : len ≤ maxLen := by simp only [maxLen]; have := Nat.le_mul_of_pos_right len (show 0 < s by omega); omega
          split at h
          · obtain ⟨g', k1, k2, k3, k4⟩ := hi.newTok (cs := l'.toArray) (e := e) l'.length (by simp)
            subst h
            refine ⟨_, _, _, _, g', rfl, hrun, k1, k2, ?_⟩
            simp only [Rep]
            refine ⟨_, len, l', rfl, hcap, Nat.le_refl _, by omega, fun k hk => by simpa using hk, RepL.mono k1 _ h2, fun j v hj => ⟨_, rfl, ?_⟩, fun t' ht' => ?_⟩
            · rw [add_none, Nat.zero_add]
              exact k4 j v (by simpa using hj)
            · obtain rfl := Option.some.inj ht'
              exact ⟨_, _, rfl, rfl, k3, rfl, by simp; omega, by simp; omega⟩
          · obtain ⟨g', k1, k2, k4⟩ := hi.newConst (cs := l'.toArray) (e := e)
            subst h
            refine ⟨_, _, _, _, g', rfl, hrun, k1, k2, ?_⟩
            simp only [Rep]
            refine ⟨_, len, l', rfl, hcap, Nat.le_refl _, by omega, fun k hk => by simpa using hk, RepL.mono k1 _ h2, fun j v hj => ⟨_, rfl, ?_⟩, fun t' ht' => by cases ht'⟩
            rw [add_none, Nat.zero_add]
            exact k4 j v (by simpa using hj)
    · cases h
  · cases h

theorem makeSlice_good (hi : Inv E w0 g m w) {t : TypeId} {l c : AV} {vl vc : Value} {res : ARes} (h : amakeSlice E m t l c = some res) (hl : Rep g l vl) (hc : Rep g c vc) :
    ∃ a m' v w' g', res = .ret a m' ∧ (Instr.makeSlice t vl vc).run E.P w = .ok v w' ∧ g.le g' ∧ Inv E w0 g' m' w' ∧ Rep g' a v := by
  unfold amakeSlice at h
  split at h
  · rename_i e l c hu
    simp only [Rep] at hl hc
    subst hl; subst hc
    split at h
    · rename_i s b z hs hb hz
      split at h
      · cases h
      · rename_i hcnd
        simp only [not_or, Decidable.not_not, Nat.not_lt, Int.not_lt] at hcnd
        obtain ⟨hs0, hzs, hl0, hlc, hcm, hbc⟩ := hcnd
        obtain rfl := Option.some.inj h
        obtain ⟨i, hinfo, rfl⟩ := info_of hb
        simp only [maxLen] at hcm
        have hwl : IntKind.i64.wrap l = l := by rw [IntKind.wrap_i64]; omega
        have hwc : IntKind.i64.wrap c = c := by rw [IntKind.wrap_i64]; omega
        have hask : ∀ n, (askRoom n).run E.P w = .ok () w := fun n => by unfold askRoom; split <;> simp [mark, Sem.run]
        have hc1 : ¬ ((decide (c < 0) || decide ((i.bytes : Int) * c > 2 ^ 48)) = true ∨ (l < 0 ∨ l > c)) := by
          simp only [Bool.or_eq_true, decide_eq_true_eq]
          omega
        have hrun : (Instr.makeSlice t (.int .i64 l) (.int .i64 c)).run E.P w = .ok (.slice (some ⟨w.heap.size, 0, none⟩) l.toNat c.toNat) (w.alloc (.cells ((List.replicate c.toNat z.cells.toList).flatten).toArray e)) := by
          have hti : (typeInfo e).run E.P w = .ok i w := by simp [typeInfo, hinfo]
          simp only [Instr.makeSlice, Sem.run_bind, run_underlying hu, Result.andThen_ok, asInt, asIntOf, Sem.run_pure, hti, hwl, hwc]
          rw [if_neg (by simpa [or_assoc] using hc1)]
          simp only [Sem.run_bind, hask, Result.andThen_ok, run_tsize hs]
          by_cases h0 : c.toNat * s = 0
          · have hl0 : c.toNat = 0 := by rcases Nat.mul_eq_zero.1 h0 with h | h <;> omega
            have hr0 : ∀ f : Nat → Value, (Array.range 0).map f = #[] := fun f => Array.eq_empty_of_size_eq_zero (by simp)
            simp [h0, hl0, run_newRow, hr0]
          · rw [if_neg h0]
            simp only [Sem.run_bind, run_tzero hz, Result.andThen_ok, Sem.run_pure]
            rw [zeros_eq z s _ (by omega) hzs]
            simp only [run_newRow, Sem.run_bind, Result.andThen_ok, Sem.run_pure]
        obtain ⟨g', k1, k2, k3⟩ := hi.newWr (cells := zeros z c.toNat) (cs := ((List.replicate c.toNat z.cells.toList).flatten).toArray) (e := e) (p := false) (by
            rw [(zeros_rep g z c.toNat).length, List.toList_toArray, List.take_length]; exact zeros_rep g z c.toNat) (by rw [(zeros_rep g z c.toNat).length]; simp)
        refine ⟨_, _, _, _, g', rfl, hrun, k1, k2, ref_new (wm := 0) ?_ (by omega) (by simp only [maxLen]; omega)⟩
        rw [k3]
        simp only [Option.some.injEq, TI.mk.injEq, true_and, List.size_toArray]
        rw [← (zeros_rep g z c.toNat).length, zeros_length, hzs]
    · cases h
  · cases h
end
end Go.Vm
