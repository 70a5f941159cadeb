/- The abstract machine: append, copy. -/
import Derived.Test.YtmppnmffbmpcpaaDoorVmOpC
set_option linter.unusedVariables false
set_option linter.unusedSimpArgs false
namespace Go.Vm
open Go.RowKit
section
variable {E : Env} {w0 : World} {g : G} {m : AM} {w : World}

theorem content_rep (hi : Inv E w0 g m w) {es : Nat} {x : AV} {ys : List AV} {v : Value} (h : content m es x = some ys) (hx : Rep g x v) :
    ∃ A n c l, v = .slice A n c ∧ RepL g ys l ∧ l.length = n * es ∧ ∀ j u, l[j]? = some u → ∃ ad, A = some ad ∧ w.cell? (ad.add j) = some u := by
  unfold content at h
  split at h
  · obtain rfl := Option.some.inj h
    simp only [Rep] at hx
    subst hx
    exact ⟨_, _, _, [], rfl, .nil, by simp, fun j u hj => by simp at hj⟩
  · rename_i cells es' n cp ow
    split at h
    · rename_i hc
      obtain ⟨rfl, hle⟩ := hc
      obtain rfl := Option.some.inj h
      simp only [Rep] at hx
      obtain ⟨A, c, l, rfl, _, _, _, _, hl, hk, _⟩ := hx
      have hll := hl.length
      refine ⟨A, n, c, l.take (n * es'), rfl, hl.take _, by rw [List.length_take]; omega, fun j u hj => ?_⟩
      obtain ⟨ad, ha, hk'⟩ := hk j u (by rw [List.getElem?_take] at hj; split at hj; exact hj; cases hj)
      exact ⟨ad, ha, hi.kcell _ _ hk'⟩
    · cases h
  · rename_i i off es' n cp
    split at h
    · rename_i hes
      subst hes
      simp only [Option.bind_eq_some_iff] at h
      obtain ⟨cs, hcs, h⟩ := h
      split at h
      · rename_i hle
        obtain rfl := Option.some.inj h
        simp only [Rep] at hx
        obtain ⟨ti, c, rfl, ht, _⟩ := hx
        obtain ⟨l, hl, hcell⟩ := hi.cellsAt hcs ht
        have hll := hl.length
        refine ⟨_, n, c, (l.drop off).take (n * es'), rfl, (hl.drop off).take _, by rw [List.length_take, List.length_drop]; omega, fun j u hj => ⟨_, rfl, ?_⟩⟩
        rw [add_none]
        exact hcell _ u (by rw [List.getElem?_take] at hj; split at hj; rw [List.getElem?_drop] at hj; exact hj; cases hj)
      · cases h
    · cases h
  · cases h

theorem byteVals_rep (g : G) (s : ByteArray) : RepL g (byteVals s) (s.data.toList.map fun b => Value.int .u8 b.toNat) := by
  unfold byteVals
  have : (s.data.toList.map fun b => AV.v (.int .u8 b.toNat)) = (s.data.toList.map fun b => Value.int .u8 b.toNat).map AV.v := by rw [List.map_map]; rfl
  rw [this]
  exact .of_vals _

theorem source_run' (hi : Inv E w0 g m w) {es : Nat} {x : AV} {ys : List AV} {v : Value} (h : source m es x = some ys) (hx : Rep g x v) :
    ∃ n l, RepL g ys l ∧ l.length = n * es ∧ (∀ W, (Builtin.lenOf v).run E.P W = .ok n W) ∧ ∀ W : World, (∀ a, W.cell? a = w.cell? a) → ∀ k, k ≤ n → (Builtin.firstCells es k v).run E.P W = .ok (l.take (k * es)).toArray W := by
  unfold source at h
  split at h
  · rename_i s
    split at h
    · rename_i h1
      subst h1
      obtain rfl := Option.some.inj h
      simp only [Rep] at hx
      subst hx
      refine ⟨s.size, _, byteVals_rep g s, by rw [List.length_map, Nat.mul_one]; rfl, fun W => by simp [Builtin.lenOf], fun W _ k hk => ?_⟩
      simp only [Builtin.firstCells, Sem.run_pure, Nat.mul_one]
      congr 1
      apply Array.ext'
      have hks : k ≤ s.data.size := hk
      simp [ByteArray.data_extract, Array.toList_extract, List.extract_eq_take_drop, List.map_take, Nat.min_eq_left hks]
    · cases h
  · obtain ⟨A, n, c, l, rfl, hl, hlen, hcell⟩ := content_rep hi h hx
    refine ⟨n, l, hl, hlen, fun W => by simp [Builtin.lenOf], fun W hW k hk => ?_⟩
    cases A with
    | none =>
      have : l = [] := by
        cases l with
        | nil => rfl
        | cons u r => obtain ⟨ad, ha, _⟩ := hcell 0 u rfl; cases ha
      subst this
      simp [Builtin.firstCells]
    | some ad =>
      have hkl : (l.take (k * es)).length = k * es := by
        rw [List.length_take, hlen]
        exact Nat.min_eq_left (Nat.mul_le_mul_right _ hk)
      simp only [Builtin.firstCells]
      have := run_loadCells_list (P := E.P) W ad (l.take (k * es)) fun j u hj => by
        obtain ⟨ad', e, hc⟩ := hcell j u (by rw [List.getElem?_take] at hj; split at hj; exact hj; cases hj)
        obtain rfl := Option.some.inj e
        rw [hW]
        exact hc
      rw [hkl] at this
      exact this
theorem source_run (hi : Inv E w0 g m w) {es : Nat} {x : AV} {ys : List AV} {v : Value} (h : source m es x = some ys) (hx : Rep g x v) :
    ∃ n l, RepL g ys l ∧ l.length = n * es ∧ (∀ W, (Builtin.lenOf v).run E.P W = .ok n W) ∧ ∀ W : World, (∀ a, W.cell? a = w.cell? a) → (Builtin.firstCells es n v).run E.P W = .ok l.toArray W := by
  obtain ⟨n, l, h1, h2, h3, h4⟩ := source_run' hi h hx
  refine ⟨n, l, h1, h2, h3, fun W hW => ?_⟩
  have := h4 W hW n (Nat.le_refl _)
  rwa [← h2, List.take_length] at this

/-! ### What append does, in the model's own words -/
section
variable {P : Program} {ats : Array TypeId} {ty sT xT e : TypeId} {info : TypeInfo} {z : Value} {k : Nat} {vx : Value} {news : List Value}
theorem run_append_idle (h0 : ats[0]? = some sT) (h1 : ats[1]? = some xT) (hu : P.underlying sT = some (.slice e)) {dx : TypeDesc} (hx : P.underlying xT = some dx) (hdx : (∀ kd, dx ≠ .int kd))
 (hinfo : P.info? e = some info)
 (hlen : ∀ W, (Builtin.lenOf vx).run P W = .ok k W) (hk : k = 0) (hnews : (Builtin.firstCells info.size k vx).run P w = .ok #[] w) (base : Option Addr) (n c : Nat) (hn : n ≤ c) :
    (Builtin.append_ ats ty #[.slice base n c, vx]).run P w = .ok (.slice base n c) w := by
  subst hk
  have hti : (typeInfo e).run P w = .ok info w := by simp [typeInfo, hinfo]
  simp only [Builtin.append_, h0, h1, List.getElem?_toArray, List.getElem?_cons_zero, List.getElem?_cons_succ, Sem.run_bind, run_underlying hu, run_underlying hx, Result.andThen_ok, sizeOf, Sem.run_pure, hti]
  simp only [Bool.false_eq_true, if_false, Sem.run_bind, hlen, Result.andThen_ok, Nat.add_zero, hn, if_true, Bool.not_false, hnews]
  cases base <;> simp [storeCells]
theorem run_append_room (h0 : ats[0]? = some sT) (h1 : ats[1]? = some xT) (hu : P.underlying sT = some (.slice e)) {dx : TypeDesc} (hx : P.underlying xT = some dx) (hdx : (∀ kd, dx ≠ .int kd))
 (hinfo : P.info? e = some info)
 (hlen : ∀ W, (Builtin.lenOf vx).run P W = .ok k W) (a : Addr) (n c : Nat) (hfit : n + k ≤ c) (hnews : (Builtin.firstCells info.size k vx).run P w = .ok news.toArray w) {w' : World}
    (hst : (storeCells (a.add (n * info.size)) news).run P w = .ok () w') :
    (Builtin.append_ ats ty #[.slice (some a) n c, vx]).run P w = .ok (.slice (some a) (n + k) c) w' := by
  have hti : (typeInfo e).run P w = .ok info w := by simp [typeInfo, hinfo]
  simp only [Builtin.append_, h0, h1, List.getElem?_toArray, List.getElem?_cons_zero, List.getElem?_cons_succ, Sem.run_bind, run_underlying hu, run_underlying hx, Result.andThen_ok, sizeOf, Sem.run_pure, hti]
  simp only [Bool.false_eq_true, if_false, Sem.run_bind, hlen, Result.andThen_ok, hfit, if_true, Bool.not_false, hnews, List.toList_toArray, hst, Sem.run_pure]
theorem run_append_more (h0 : ats[0]? = some sT) (h1 : ats[1]? = some xT) (hu : P.underlying sT = some (.slice e)) {dx : TypeDesc} (hx : P.underlying xT = some dx) (hdx : (∀ kd, dx ≠ .int kd))
 (hinfo : P.info? e = some info) (hz : info.zero = some z)
 (hlen : ∀ W, (Builtin.lenOf vx).run P W = .ok k W) (base : Option Addr) (n c : Nat) (olds : List Value) (hfit : ¬ n + k ≤ c) (hbytes : (n + k) * info.bytes ≤ maxBytes) (h63 : n + k ≤ maxLen)
    (holds : (Builtin.firstCells info.size n (.slice base n c)).run P w.drew = .ok olds.toArray w.drew) (hnews : (Builtin.firstCells info.size k vx).run P w.drew = .ok news.toArray w.drew) :
    (Builtin.append_ ats ty #[.slice base n c, vx]).run P w = .ok (.slice (some ⟨w.heap.size, 0, none⟩) (n + k) (grownCap w (n + k) c e))
      (w.drew.alloc (.cells (olds.toArray ++ news.toArray ++ Builtin.zeroCells z.cells (grownCap w (n + k) c e - (n + k))) e)) := by
  have h63' : ¬ (((n + k : Nat) : Int) > IntKind.i64.max ∧ (false = true ∨ info.bytes = 0)) := by simp [IntKind.max, IntKind.signed, IntKind.bits]; simp only [maxLen] at h63; omega
  have h48 : ¬ (Builtin.nextslicecap (n + k) c * info.bytes > 2 ^ 48) := by
    have := growslice_fits (need := n + k) (old := c) (bytes := info.bytes) (by omega) (by simpa only [maxBytes] using hbytes)
    omega
  have hti : ∀ W, (typeInfo e).run P W = .ok info W := fun W => by simp [typeInfo, hinfo]
  have hask : ∀ n W, (askRoom n).run P W = .ok () W := fun n W => by unfold askRoom; split <;> simp [mark, Sem.run]
  have hch : (choose (.appendCap (n + k) c e)).run P w = .ok (grownCap w (n + k) c e) w.drew := by simp [choose, Sem.run, Question.forced, grownCap]
  have hzv : ∀ W, (zeroValue e).run P W = .ok z W := fun W => by simp [zeroValue, hti, hz]
  simp only [Builtin.append_, h0, h1, List.getElem?_toArray, List.getElem?_cons_zero, List.getElem?_cons_succ, Sem.run_bind, run_underlying hu, run_underlying hx, Result.andThen_ok, sizeOf, Sem.run_pure, hti]
  simp only [Bool.false_eq_true, if_false, Sem.run_bind, hlen, Result.andThen_ok, hfit, hti]
  rw [if_neg (by simpa using h63')]
  simp only [Sem.run_bind, hti, Result.andThen_ok]
  rw [if_neg h48]
  simp only [Sem.run_bind, hti, Result.andThen_ok, hch, hask, holds, Bool.not_false, if_true, hnews, hzv, newRow, newObj, Sem.run, Sem.run_pure, World.alloc_eq]
  rfl
end

theorem size_zeroCells' (z : Array Value) (n : Nat) : (Builtin.zeroCells z n).size = n * z.size := by simp [Builtin.zeroCells]

/-- A new array, in either form. -/
theorem grow_new (hi : Inv E w0 g m w) (lin : Bool) {e : TypeId} {es n c : Nat} {cells : List AV} {l : List Value} {rest : Array Value} (hl : RepL g cells l) (hn : l.length = n * es) (hr : rest.size = (c - n) * es) (hnc : n ≤ c) (hc : c ≤ maxLen) :
    ∃ a m' g', grow lin m e es n cells = .ret a m' ∧ g.le g' ∧ Inv E w0 g' m' (w.alloc (.cells (l.toArray ++ rest) e)) ∧ Rep g' a (.slice (some ⟨w.heap.size, 0, none⟩) n c) := by
  have hll := hl.length
  have hsz : (l.toArray ++ rest).size = c * es := by
    rw [Array.size_append, List.size_toArray, hn, hr, ← Nat.add_mul]
    congr 1
    omega
  have htk : (l.toArray ++ rest).toList.take l.length = l := by simp
  cases lin with
  | true =>
    obtain ⟨g', k1, k2, k3⟩ := hi.newWr (cells := cells) (cs := l.toArray ++ rest) (e := e) (p := true) (by rw [hll, htk]; exact hl) (by simp)
    refine ⟨_, _, g', rfl, k1, k2, ?_⟩
    simp only [Rep]
    exact ⟨_, c, rfl, k3, hc, hnc, fun _ hk => (nomatch hk), by simp only [hsz]; omega⟩
  | false =>
    obtain ⟨g', k1, k2, k3, k4⟩ := hi.newTok (cs := l.toArray ++ rest) (e := e) l.length (by simp)
    refine ⟨_, _, g', rfl, k1, k2, ?_⟩
    simp only [Rep]
    refine ⟨_, c, l, rfl, hc, hnc, by rw [hll, hn]; exact Nat.mul_le_mul_right _ hnc, fun _ hk => (nomatch hk), RepL.mono k1 _ hl, fun j v hj => ⟨_, rfl, ?_⟩, fun t ht => ?_⟩
    · rw [add_none, Nat.zero_add]
      exact k4 j v (by rw [htk]; exact hj)
    · obtain rfl := Option.some.inj ht
      exact ⟨_, _, rfl, rfl, k3, rfl, by simp [hn], by simp only [hsz]; omega⟩

theorem grownCap_le (w : World) (need old : Nat) (e : TypeId) (h : need ≤ maxLen) : need ≤ grownCap w need old e ∧ grownCap w need old e ≤ maxLen :=
  ⟨grownCap_ge w need old e, grownCap_le_maxLen w need old e h⟩

theorem append_good (hi : Inv E w0 g m w) {lin : Bool} {ats : Array TypeId} {ty sT xT : TypeId} {dx : TypeDesc} (h0 : ats[0]? = some sT) (h1 : ats[1]? = some xT) (hux : E.P.underlying xT = some dx) (hdx : ∀ kd, dx ≠ .int kd)
    {d x : AV} {vd vx : Value} {res : ARes} (h : aappend E lin m sT d x = some res) (hd : Rep g d vd) (hx : Rep g x vx) :
    ∃ a m' v w' g', res = .ret a m' ∧ (Builtin.append_ ats ty #[vd, vx]).run E.P w = .ok v w' ∧ g.le g' ∧ Inv E w0 g' m' w' ∧ Rep g' a v := by
  unfold aappend at h
  split at h
  case h_2 => cases h
  rename_i e hu
  split at h
  case h_2 => cases h
  rename_i es bytes z hs hb hz
  split at h
  · cases h
  rename_i hc0
  simp only [not_or, Decidable.not_not] at hc0
  obtain ⟨hes, hzs⟩ := hc0
  split at h
  · cases h
  rename_i ys hys
  simp only at h
  split at h
  · cases h
  rename_i hc1
  simp only [not_or, Decidable.not_not, Bool.not_eq_false] at hc1
  obtain ⟨hyl, hone⟩ := hc1
  obtain ⟨k, l, hl, hlen, hrl, hrf⟩ := source_run hi hys hx
  have hyk : ys.length / es = k := by rw [hl.length, hlen]; exact Nat.mul_div_cancel _ (by omega)
  rw [hyk] at h
  obtain ⟨info, hinfo, hb'⟩ := info_of hb
  have hs' : info.size = es := by
    obtain ⟨i2, h2, h3⟩ := info_of hs
    rw [hinfo] at h2
    obtain rfl := Option.some.inj h2
    exact h3
  have hz' : info.zero = some z := by
    simp only [tzero, hinfo, Option.bind_some] at hz
    exact hz
  subst hs'
  subst hb'
  split at h
  · rename_i hk0
    have hrun0 : ∀ base n c, n ≤ c → (Builtin.append_ ats ty #[.slice base n c, vx]).run E.P w = .ok (.slice base n c) w := fun base n c hn =>
      run_append_idle h0 h1 hu hux hdx hinfo hrl hk0 (by
        have := hrf w fun _ => rfl
        have hl0 : l = [] := List.eq_nil_of_length_eq_zero (by rw [hlen, hk0, Nat.zero_mul])
        rw [hl0] at this
        exact this) base n c hn
    split at h
    · simp only [Rep] at hd
      subst hd
      obtain rfl := Option.some.inj h
      exact ⟨_, _, _, w, g, rfl, hrun0 none 0 0 (Nat.le_refl _), .refl g, hi, by simp only [Rep]⟩
    · obtain rfl := Option.some.inj h
      have hd' := hd
      simp only [Rep] at hd
      obtain ⟨A, c, l', rfl, _, hn, _⟩ := hd
      exact ⟨_, _, _, w, g, rfl, hrun0 A _ c hn, .refl g, hi, hd'⟩
    · obtain rfl := Option.some.inj h
      have hd' := hd
      simp only [Rep] at hd
      obtain ⟨ti, c, rfl, _, _, hn, _⟩ := hd
      exact ⟨_, _, _, w, g, rfl, hrun0 _ _ c hn, .refl g, hi, hd'⟩
    · cases h
  rename_i hk0
  have hrfd : (Builtin.firstCells info.size k vx).run E.P w.drew = .ok l.toArray w.drew := hrf w.drew fun _ => rfl
  split at h
  · -- nil
    simp only [Rep] at hd
    subst hd
    split at h
    · rename_i hc2
      obtain ⟨hbytes, h63⟩ := hc2
      obtain rfl := Option.some.inj h
      have hrun := run_append_more (w := w) (ty := ty) h0 h1 hu hux hdx hinfo hz' hrl (news := l) none 0 0 [] (by omega) (by simpa using hbytes) (by simpa using h63) (by simp [Builtin.firstCells]) hrfd
      simp only [Nat.zero_add, List.nil_append, Array.empty_append] at hrun
      obtain ⟨hg1, hg2⟩ := grownCap_le w k 0 e h63
      obtain ⟨a, m', g', k1, k2, k3, k4⟩ := grow_new hi.drew lin (e := e) (es := info.size) (n := k) (c := grownCap w k 0 e) (rest := Builtin.zeroCells z.cells (grownCap w k 0 e - k)) hl hlen (by rw [size_zeroCells', hzs]) hg1 hg2
      exact ⟨a, m', _, _, g', k1, hrun, k2, k3, k4⟩
    · cases h
  · -- what is known
    rename_i cells es' n cap own
    split at h
    · cases h
    rename_i hc2
    simp only [not_or, Decidable.not_not, Nat.not_lt] at hc2
    obtain ⟨rfl, hcl, hbytes, h63⟩ := hc2
    have hd' := hd
    simp only [Rep] at hd
    obtain ⟨A, c, lc, rfl, hcm, hnc, hcc, hcap, hlc, hlk, hown⟩ := hd
    have hlcl := hlc.length
    -- the arm that makes a new array
    have more : ∀ (lin' : Bool) (m2 : AM), Inv E w0 g m2 w → ¬ n + k ≤ c → ∃ a m' v w' g', grow lin' m2 e info.size (n + k) (cells.take (n * info.size) ++ ys) = .ret a m' ∧
        (Builtin.append_ ats ty #[.slice A n c, vx]).run E.P w = .ok v w' ∧ g.le g' ∧ Inv E w0 g' m' w' ∧ Rep g' a v := fun lin' m2 hi2 hnf => by
      have holds : (Builtin.firstCells info.size n (.slice A n c)).run E.P w.drew = .ok (lc.take (n * info.size)).toArray w.drew := by
        cases A with
        | none =>
          have : lc = [] := by
            cases lc with
            | nil => rfl
            | cons u r => obtain ⟨ad, ha, _⟩ := hlk 0 u rfl; cases ha
          subst this
          simp [Builtin.firstCells]
        | some ad =>
          have hlt : (lc.take (n * info.size)).length = n * info.size := by rw [List.length_take]; omega
          simp only [Builtin.firstCells]
          have := run_loadCells_list (P := E.P) w.drew ad (lc.take (n * info.size)) fun j u hj => by
            obtain ⟨ad', e', hc⟩ := hlk j u (by rw [List.getElem?_take] at hj; split at hj; exact hj; cases hj)
            obtain rfl := Option.some.inj e'
            exact hi.drew.kcell _ _ hc
          rw [hlt] at this
          exact this
      have hrun := run_append_more (w := w) (ty := ty) h0 h1 hu hux hdx hinfo hz' hrl (news := l) A n c (lc.take (n * info.size)) hnf hbytes h63 holds hrfd
      obtain ⟨hg1, hg2⟩ := grownCap_le w (n + k) c e h63
      obtain ⟨a, m', g', k1, k2, k3, k4⟩ := grow_new hi2.drew lin' (e := e) (es := info.size) (n := n + k) (c := grownCap w (n + k) c e) (rest := Builtin.zeroCells z.cells (grownCap w (n + k) c e - (n + k)))
        ((hlc.take (n * info.size)).append hl) (by rw [List.length_append, List.length_take, hlen, Nat.add_mul]; omega) (by rw [size_zeroCells', hzs]) hg1 hg2
      refine ⟨a, m', _, _, g', k1, hrun, k2, ?_, k4⟩
      simpa using k3
    split at h
    · rename_i t
      split at h
      · rename_i hmt
        obtain rfl := Option.some.inj h
        by_cases hfit : n + k ≤ c
        · obtain ⟨ad, ti, rfl, hsp, hT, hblk, hwm, hroom⟩ := hown t rfl
          obtain ⟨tj, htj, cs, eb, fr, hh, hcs, hunf, hkn⟩ := hi.live t _ hmt rfl
          obtain rfl := Option.some.inj (hT.symm.trans htj)
          have hlen' : ti.wm + l.length ≤ ti.size := by
            rw [hwm, hlen]
            have : (n + k) * info.size ≤ c * info.size := Nat.mul_le_mul_right _ hfit
            rw [Nat.add_mul] at this
            omega
          have hst : (storeCells (ad.add (n * info.size)) l).run E.P w = .ok () (w.setCells ti.block ti.wm l) := by
            rw [add_of_spot hsp, ← hblk, ← hwm]
            have := run_storeCells_cells (P := E.P) ti.block ti.wm l 0 w (fun j hj => by rw [cell_of_heap hh, Array.getElem?_eq_getElem (by omega)]; rfl) (fun j hj => frozen_of_heap hh hunf (by omega)) (oneCells hl hone)
            simpa using this
          have hrun := run_append_room (w := w) (ty := ty) h0 h1 hu hux hdx hinfo hrl ad n c hfit (hrf w fun _ => rfl) hst
          obtain ⟨hd1, hd2, hd3⟩ := hi.dom t ti hT
          have hno : ¬ Owned g (m.set t .dead) ti.block := hi.killed hmt rfl hT
          have hw := (hi.kill t).write hd2 hno ti.wm l fun off h1' _ => hkn off h1'
          obtain ⟨cs', q1, q2, q3⟩ := setCells_heap ti.block eb fr l ti.wm w cs hh (by omega)
          have hnew : ∀ j v, l[j]? = some v → (w.setCells ti.block ti.wm l).cell? ⟨ti.block, ti.wm + j, none⟩ = some v := fun j v hj => by
            rw [cell_of_heap q1]
            have hjl := (List.getElem?_eq_some_iff.1 hj).1
            rw [← Array.getElem?_toList, q3, List.append_assoc, List.getElem?_append_right (by simp; omega)]
            simp only [List.length_take, Array.length_toList]
            rw [Nat.min_eq_left (by omega), show ti.wm + j - ti.wm = j by omega, List.getElem?_append_left hjl]
            exact hj
          have hadopt := hw.adopt (b := ti.block) hd2 (by rw [setCells_size]; exact hd3) hno (ti.wm + l.length) ti.size ti.wm l (fun off h1' _ => hkn off h1') hnew .tok
          have hok : BlkOk ((g.bind (m.set t .dead).length ⟨ti.block, ti.wm + l.length, ti.size⟩).commit ti.block ti.wm l) (w.setCells ti.block ti.wm l) .tok ⟨ti.block, ti.wm + l.length, ti.size⟩ := by
            refine ⟨cs', eb, fr, q1, by rw [q2, hcs], by rw [q2]; exact hunf, fun off ho => ?_⟩
            simp only [G.commit]
            simp only at ho
            rw [if_neg (by omega)]
            exact hkn off (by omega)
          obtain ⟨p1, p2⟩ := hadopt hok
          refine ⟨_, _, _, _, _, rfl, hrun, p1, p2, ?_⟩
          simp only [Rep]
          refine ⟨some ad, c, lc.take (n * info.size) ++ l, rfl, hcm, hfit, ?_, fun _ hq => (nomatch hq), ((RepL.mono p1 _ hlc).take _).append (RepL.mono p1 _ hl), fun j v hj => ⟨ad, rfl, ?_⟩, fun t' ht' => ?_⟩
          · rw [List.length_append, List.length_take, hl.length, hlen]
            have : (n + k) * info.size ≤ c * info.size := Nat.mul_le_mul_right _ hfit
            rw [Nat.add_mul] at this
            omega
          · by_cases hj1 : j < n * info.size
            · rw [List.getElem?_append_left (by rw [List.length_take]; omega), List.getElem?_take, if_pos hj1] at hj
              obtain ⟨ad', e', hk'⟩ := hlk j v hj
              obtain rfl := Option.some.inj e'
              exact p1.1 _ _ hk'
            · rw [List.getElem?_append_right (by rw [List.length_take]; omega), List.length_take, Nat.min_eq_left (by omega)] at hj
              have hjl := (List.getElem?_eq_some_iff.1 hj).1
              rw [add_of_spot hsp]
              simp only [G.commit]
              rw [if_pos ⟨hblk.symm, by trivial, by omega, by omega⟩]
              rw [show ad.off + j - ti.wm = j - n * info.size by omega]
              exact hj
          · obtain rfl := Option.some.inj ht'
            refine ⟨ad, ⟨ti.block, ti.wm + l.length, ti.size⟩, by trivial, hsp, by simp [G.commit, G.bind], hblk, ?_, hroom⟩
            simp only
            rw [hwm, hlen, Nat.add_mul]
            omega
        · obtain ⟨a, m', v, w', g', q1, q2, q3, q4, q5⟩ := more false _ (hi.kill t) hfit
          exact ⟨a, m', v, w', g', q1, q2, q3, q4, q5⟩
      · cases h
    · split at h
      · rename_i hcn
        obtain rfl := Option.some.inj h
        have hcn' : c = n := hcap n hcn
        exact more lin m hi (by omega)
      · cases h
  · -- a block that may be written
    rename_i i off es' n cap
    split at h
    case h_2 => cases h
    rename_i cells e' p hmi
    split at h
    · cases h
    rename_i hc2
    simp only [not_or, Decidable.not_not, Nat.not_lt] at hc2
    obtain ⟨rfl, hcl, hbytes, h63⟩ := hc2
    have hd' := hd
    simp only [Rep] at hd
    obtain ⟨ti, c, rfl, hT, hcm, hnc, hcap, hroom⟩ := hd
    obtain ⟨cs, fr, hh, hcs, hunf, hrl', hpart, hkn⟩ := hi.wr hmi hT
    have hcl' := hrl'.length
    rw [List.length_take] at hcl'
    have hcell : ∀ j u, (cs.toList.take cells.length)[j]? = some u → w.cell? ⟨ti.block, j, none⟩ = some u := fun j u hj => by
      rw [cell_of_heap hh]
      rw [List.getElem?_take] at hj
      split at hj
      · simpa using hj
      · cases hj
    have olds : RepL g ((cells.drop off).take (n * info.size)) (((cs.toList.take cells.length).drop off).take (n * info.size)) := (hrl'.drop off).take _
    have more : ∀ (m2 : AM), Inv E w0 g m2 w → ¬ n + k ≤ c → ∃ a m' v w' g', grow lin m2 e info.size (n + k) ((cells.drop off).take (n * info.size) ++ ys) = .ret a m' ∧
        (Builtin.append_ ats ty #[.slice (some ⟨ti.block, off, none⟩) n c, vx]).run E.P w = .ok v w' ∧ g.le g' ∧ Inv E w0 g' m' w' ∧ Rep g' a v := fun m2 hi2 hnf => by
      have hlt : (((cs.toList.take cells.length).drop off).take (n * info.size)).length = n * info.size := by rw [← olds.length, List.length_take, List.length_drop]; omega
      have holds : (Builtin.firstCells info.size n (.slice (some ⟨ti.block, off, none⟩) n c)).run E.P w.drew = .ok (((cs.toList.take cells.length).drop off).take (n * info.size)).toArray w.drew := by
        simp only [Builtin.firstCells]
        have := run_loadCells_list (P := E.P) w.drew ⟨ti.block, off, none⟩ (((cs.toList.take cells.length).drop off).take (n * info.size)) fun j u hj => by
          rw [add_none]
          exact hcell _ u (by rw [List.getElem?_take] at hj; split at hj; rw [List.getElem?_drop] at hj; exact hj; cases hj)
        rw [hlt] at this
        exact this
      have hrun := run_append_more (w := w) (ty := ty) h0 h1 hu hux hdx hinfo hz' hrl (news := l) _ n c _ hnf hbytes h63 holds hrfd
      obtain ⟨hg1, hg2⟩ := grownCap_le w (n + k) c e h63
      obtain ⟨a, m', g', k1, k2, k3, k4⟩ := grow_new hi2.drew lin (e := e) (es := info.size) (n := n + k) (c := grownCap w (n + k) c e) (rest := Builtin.zeroCells z.cells (grownCap w (n + k) c e - (n + k)))
        (olds.append hl) (by rw [List.length_append, hlt, hlen, Nat.add_mul]) (by rw [size_zeroCells', hzs]) hg1 hg2
      refine ⟨a, m', _, _, g', k1, hrun, k2, ?_, k4⟩
      simpa using k3
    have hst : n + k ≤ c → off + n * info.size + l.length ≤ cs.size → (Builtin.append_ ats ty #[.slice (some ⟨ti.block, off, none⟩) n c, vx]).run E.P w = .ok (.slice (some ⟨ti.block, off, none⟩) (n + k) c) (w.setCells ti.block (off + n * info.size) l) := fun hfit hle =>
      run_append_room (w := w) (ty := ty) h0 h1 hu hux hdx hinfo hrl _ n c hfit (hrf w fun _ => rfl) (by
        rw [add_none]
        have := run_storeCells_cells (P := E.P) ti.block (off + n * info.size) l 0 w (fun j hj => by rw [cell_of_heap hh, Array.getElem?_eq_getElem (by omega)]; rfl) (fun j hj => frozen_of_heap hh hunf (by omega)) (oneCells hl hone)
        simpa using this)
    have hroom' : n + k ≤ c → off + n * info.size + l.length ≤ cs.size := fun hfit => by
      have : (n + k) * info.size ≤ c * info.size := Nat.mul_le_mul_right _ hfit
      rw [Nat.add_mul] at this
      omega
    split at h
    · rename_i c'
      have hcc : c = c' := hcap c' rfl
      subst hcc
      split at h
      · rename_i hfit
        split at h
        · rename_i hle
          obtain rfl := Option.some.inj h
          have hxl : off + n * info.size + ys.length ≤ cells.length := by rw [hl.length, hlen]; rw [Nat.add_mul] at hle; omega
          obtain ⟨q1, q2⟩ := hi.put hmi hT hl hone hxl
          refine ⟨_, _, _, _, g, rfl, hst hfit (hroom' hfit), .refl g, q2, ?_⟩
          simp only [Rep]
          exact ⟨ti, c, rfl, hT, hcm, hfit, hcap, hroom⟩
        · cases h
      · rename_i hfit
        obtain rfl := Option.some.inj h
        exact more m hi hfit
    · split at h
      · rename_i hoff
        obtain ⟨rfl, rfl, rfl⟩ := hoff
        obtain rfl := Option.some.inj h
        have e0 : (cells.drop 0).take (n * info.size) = cells.take (n * info.size) := by simp
        by_cases hfit : n + k ≤ c
        · have hle := hroom' hfit
          simp only [Nat.zero_add] at hle
          obtain ⟨hd1, hd2, hd3⟩ := hi.dom i ti hT
          have hno : ¬ Owned g (m.set i .dead) ti.block := hi.killed hmi rfl hT
          have hw := (hi.kill i).write hd2 hno (n * info.size) l fun off' _ _ => hkn off'
          obtain ⟨cs', q1, q2, q3⟩ := setCells_heap ti.block e' fr l (n * info.size) w cs hh hle
          have hrun := hst hfit (by simpa using hle)
          simp only [Nat.zero_add] at hrun
          have hnl : n * info.size ≤ cells.length := by simpa using hcl
          have olds0 : RepL g (cells.take (n * info.size)) (cs.toList.take (n * info.size)) := by
            have := hrl'.take (n * info.size)
            rwa [List.take_take, Nat.min_eq_left hnl] at this
          have hwhole : cs'.toList.take (n * info.size + l.length) = cs.toList.take (n * info.size) ++ l := by
            rw [q3, List.take_append_of_le_length (by simp; omega)]
            exact List.take_of_length_le (by simp; omega)
          have hall : RepL g (cells.take (n * info.size) ++ ys) (cs.toList.take (n * info.size) ++ l) := olds0.append hl
          have hsize : n * info.size + l.length = (n + k) * info.size := by rw [hlen, Nat.add_mul]
          have hcn : (n + k) * info.size ≤ c * info.size := Nat.mul_le_mul_right _ hfit
          cases lin with
          | true =>
            have hadopt := hw.adopt (b := ti.block) hd2 (by rw [setCells_size]; exact hd3) hno 0 ti.size 0 [] (fun _ _ h => absurd h (by simp)) (fun j v h => by simp at h) (.wr (cells.take (n * info.size) ++ ys) e' true)
            have hle' : g.le ((g.bind (m.set i .dead).length ⟨ti.block, 0, ti.size⟩).commit ti.block 0 []) := (G.le_bind (hi.kill i).fresh).trans (G.le_commit (by simp))
            have hok : BlkOk ((g.bind (m.set i .dead).length ⟨ti.block, 0, ti.size⟩).commit ti.block 0 []) (w.setCells ti.block (n * info.size) l) (.wr (cells.take (n * info.size) ++ ys) e' true) ⟨ti.block, 0, ti.size⟩ := by
              refine ⟨cs', fr, q1, by rw [q2, hcs], by rw [q2]; exact hunf, ?_, fun h => (by cases h), fun off' => ?_⟩
              · rw [hall.length, List.length_append, List.length_take, Array.length_toList, Nat.min_eq_left (by omega), hwhole]
                exact RepL.mono hle' _ hall
              · simp only [G.commit, List.length_nil, Nat.add_zero]
                rw [if_neg (by omega)]
                exact hkn off'
            obtain ⟨p1, p2⟩ := hadopt hok
            refine ⟨_, _, _, _, _, rfl, hrun, p1, p2, ?_⟩
            simp only [Rep]
            exact ⟨⟨ti.block, 0, ti.size⟩, c, rfl, by simp [G.commit, G.bind], hcm, hfit, fun _ hq => (nomatch hq), by simp only; omega⟩
          | false =>
            have hcellw : ∀ j v, (cs.toList.take (n * info.size) ++ l)[j]? = some v → (w.setCells ti.block (n * info.size) l).cell? ⟨ti.block, 0 + j, none⟩ = some v := fun j v hj => by
              rw [← hwhole, List.getElem?_take] at hj
              split at hj
              · rw [cell_of_heap q1, Nat.zero_add]
                simpa using hj
              · cases hj
            have hadopt := hw.adopt (b := ti.block) hd2 (by rw [setCells_size]; exact hd3) hno (n * info.size + l.length) ti.size 0 (cs.toList.take (n * info.size) ++ l) (fun off' _ _ => hkn off') hcellw .tok
            have hok : BlkOk ((g.bind (m.set i .dead).length ⟨ti.block, n * info.size + l.length, ti.size⟩).commit ti.block 0 (cs.toList.take (n * info.size) ++ l)) (w.setCells ti.block (n * info.size) l) .tok ⟨ti.block, n * info.size + l.length, ti.size⟩ := by
              refine ⟨cs', e', fr, q1, by rw [q2, hcs], by rw [q2]; exact hunf, fun off' ho => ?_⟩
              simp only [G.commit]
              simp only at ho
              rw [if_neg (by rw [List.length_append, List.length_take, Array.length_toList, Nat.min_eq_left (by omega)]; omega)]
              exact hkn off'
            obtain ⟨p1, p2⟩ := hadopt hok
            refine ⟨_, _, _, _, _, rfl, hrun, p1, p2, ?_⟩
            simp only [Rep]
            refine ⟨some ⟨ti.block, 0, none⟩, c, cs.toList.take (n * info.size) ++ l, rfl, hcm, hfit, by rw [hall.length, List.length_append, List.length_take, Array.length_toList, Nat.min_eq_left (by omega)]; omega, fun _ hq => (nomatch hq), RepL.mono p1 _ hall, fun j v hj => ⟨_, rfl, ?_⟩, fun t' ht' => ?_⟩
            · have hjl := (List.getElem?_eq_some_iff.1 hj).1
              rw [add_none, Nat.zero_add]
              simp only [G.commit]
              rw [if_pos ⟨by trivial, by trivial, by omega, by omega⟩]
              simpa using hj
            · obtain rfl := Option.some.inj ht'
              exact ⟨⟨ti.block, 0, none⟩, ⟨ti.block, n * info.size + l.length, ti.size⟩, by trivial, by trivial, by simp [G.commit, G.bind], by trivial, by simp only; omega, by simp only; omega⟩
        · obtain ⟨a, m', v, w', g', q1, q2, q3, q4, q5⟩ := more _ (hi.kill i) hfit
          rw [e0] at q1
          exact ⟨a, m', v, w', g', q1, q2, q3, q4, q5⟩
      · cases h
  · cases h
end
end Go.Vm
