/- The abstract machine: each operation of the plain kinds does what the model's operation does. -/
import Derived.Test.YtmppnmffbmpcpaaDoorVmInv
import Derived.WalkKit
set_option linter.unusedVariables false
set_option linter.unusedSimpArgs false
namespace Go.Vm
open Go.RowKit

/-- What an operation (no call of a function) comes to is what is told of it. -/
def Good (E : Env) (w0 : World) (g : G) (r : Result Next) : ARes → Prop
  | .ret a m' => ∃ v w' g', (r = .ok (.value v) w' ∨ (r = .ok .skip w' ∧ v = undef)) ∧ g.le g' ∧ Inv E w0 g' m' w' ∧ Rep g' a v
  | .pan x m' => ∃ w' g', r = .halt (.panic x) w' ∧ g.le g' ∧ Inv E w0 g' m' w'

section
variable {E : Env} {w0 : World} {g : G} {m : AM} {w : World}

theorem Good.same {a : AV} {v : Value} {r : Result Next} (hr : r = .ok (.value v) w) (hi : Inv E w0 g m w) (ha : Rep g a v) : Good E w0 g r (.ret a m) :=
  ⟨v, w, g, .inl hr, .refl g, hi, ha⟩

theorem add_none (b o j : Nat) : (⟨b, o, none⟩ : Addr).add j = ⟨b, o + j, none⟩ := by unfold Addr.add; split <;> simp_all
theorem add_add' (a : Addr) (i j : Nat) : (a.add i).add j = a.add (i + j) := by
  unfold Addr.add
  by_cases hi : i = 0 <;> by_cases hj : j = 0 <;> simp [hi, hj, Nat.add_assoc]
theorem add_of_spot {a : Addr} (h : a.spot = none) (j : Nat) : a.add j = ⟨a.block, a.off + j, none⟩ := by
  obtain ⟨b, o, s⟩ := a
  simp only at h
  subst h
  exact add_none b o j

/-! ### The program's tables -/
theorem info_of {β : Type} {t : TypeId} {f : TypeInfo → β} {x : β} (h : (E.P.info? t).map f = some x) : ∃ i, E.P.info? t = some i ∧ f i = x := by
  simpa [Option.map_eq_some_iff] using h
theorem run_tsize {t : TypeId} {s : Nat} (h : tsize E t = some s) (w : World) : (sizeOf t).run E.P w = .ok s w := by
  obtain ⟨i, hi, rfl⟩ := info_of h
  simp [sizeOf, typeInfo, hi]
theorem run_tzero {t : TypeId} {z : Value} (h : tzero E t = some z) (w : World) : (zeroValue t).run E.P w = .ok z w := by
  unfold tzero at h
  simp only [Option.bind_eq_some_iff] at h
  obtain ⟨i, hi, hz⟩ := h
  simp [zeroValue, typeInfo, hi, hz]
theorem run_tagg {t : TypeId} {b : Bool} (h : tagg E t = some b) (w : World) : (isAgg t).run E.P w = .ok b w := by
  unfold tagg at h
  simp only [Option.map_eq_some_iff] at h
  obtain ⟨d, hd, rfl⟩ := h
  cases d <;> simp [isAgg, run_underlying hd]

/-! ### Exact operands -/
theorem flat_good {ρa : Operand → AV} {ρ : Operand → Value} {o : Oper} {res : ARes} (hs : ∀ cs b, o.op ≠ .select cs b) (hρ : ∀ x ∈ o.op.operands, Rep g (ρa x) (ρ x))
    (h : flatOp E ρa m o = some res) (hi : Inv E w0 g m w) : Good E w0 g ((execOp ρ o).run E.P w) res := by
  unfold flatOp at h
  split at h
  · rename_i hall
    have he : execOp ρ o = execOp (fun x => ((ρa x).flat).getD undef) o := execOp_congr o hs fun x hx => by
      obtain ⟨i, hi, rfl⟩ := Array.mem_iff_getElem.1 hx
      have := (Array.all_eq_true.1 hall) i hi
      obtain ⟨v, hv⟩ := Option.isSome_iff_exists.1 this
      rw [hv]
      exact Rep.flat _ hv (hρ _ hx)
    rw [he]
    split at h
    · rename_i v hv
      obtain rfl := Option.some.inj h
      exact .same (pureRun_ok _ hv w) hi (by simp only [Rep])
    · rename_i x hx
      obtain rfl := Option.some.inj h
      exact ⟨w, g, pureRun_panic _ hx w, .refl g, hi⟩
    · cases h
  · cases h

/-! ### Loads and stores -/
theorem Inv.wr (h : Inv E w0 g m w) {i : Nat} {cells : List AV} {e : TypeId} {p : Bool} (hi : m[i]? = some (.wr cells e p)) {ti : TI} (ht : g.T i = some ti) :
    ∃ cs fr, w.heap[ti.block]? = some (.cells cs e fr) ∧ cs.size = ti.size ∧ Unfr fr cs.size ∧ RepL g cells (cs.toList.take cells.length) ∧ (p = false → cells.length = cs.size) ∧ ∀ off, g.K ⟨ti.block, off, none⟩ = none := by
  obtain ⟨tj, htj, hk⟩ := h.live i _ hi rfl
  obtain rfl := Option.some.inj (ht.symm.trans htj)
  exact hk
theorem cell_of_heap {b : Nat} {cs : Array Value} {e : TypeId} {fr : Nat × Nat} (h : w.heap[b]? = some (.cells cs e fr)) (off : Nat) : w.cell? ⟨b, off, none⟩ = cs[off]? := by
  simp [World.cell?, h]
theorem frozen_of_heap {b : Nat} {cs : Array Value} {e : TypeId} {fr : Nat × Nat} (h : w.heap[b]? = some (.cells cs e fr)) (hu : Unfr fr cs.size) {off : Nat} (ho : off < cs.size) : w.frozen? ⟨b, off, none⟩ = false := by
  obtain ⟨lo, hi⟩ := fr
  simp only [Unfr] at hu
  simp only [World.frozen?, h, Bool.and_eq_false_iff, decide_eq_false_iff_not]
  omega

theorem Inv.cellsAt (h : Inv E w0 g m w) {i : Nat} {cells : List AV} (hc : Vm.cellsAt m i = some cells) {ti : TI} (ht : g.T i = some ti) :
    ∃ l, RepL g cells l ∧ ∀ j u, l[j]? = some u → w.cell? ⟨ti.block, j, none⟩ = some u := by
  unfold Vm.cellsAt at hc
  split at hc
  · rename_i cells' e p hi
    obtain rfl := Option.some.inj hc
    obtain ⟨cs, fr, h1, _, _, h4, _⟩ := h.wr hi ht
    refine ⟨_, h4, fun j u hj => ?_⟩
    rw [cell_of_heap h1]
    rw [List.getElem?_take] at hj
    split at hj
    · simpa using hj
    · cases hj
  · rename_i cells' e hi
    obtain rfl := Option.some.inj hc
    obtain ⟨tj, htj, cs, fr, h1, _, _, h4, _⟩ := h.live i _ hi rfl
    obtain rfl := Option.some.inj (ht.symm.trans htj)
    exact ⟨_, h4, fun j u hj => by rw [cell_of_heap h1]; simpa using hj⟩
  · cases hc

theorem behind_rep (hi : Inv E w0 g m w) {a : AV} {v : Value} {cells : List AV} (h : behind E m a = some cells) (ha : Rep g a v) :
    ∃ ad l, v = .pointer (some ad) ∧ RepL g cells l ∧ ∀ j u, l[j]? = some u → w.cell? (ad.add j) = some u := by
  cases a with
  | v x =>
    simp only [Rep] at ha
    subst ha
    cases v with
    | pointer p =>
      cases p with
      | none => simp [behind] at h
      | some ad =>
        simp only [behind] at h
        split at h
        · cases h
        · rename_i hs
          have hsp : ad.spot = none := by simpa using hs
          split at h
          · rename_i hsent
            split at h
            · rename_i ho
              obtain rfl := Option.some.inj h
              obtain ⟨b, off, sp⟩ := ad
              simp only at hsp ho hsent
              subst hsp; subst ho
              have hc := hi.kcell _ _ (hi.sent.cell b hsent)
              obtain ⟨a, c, ty, hu, _⟩ := hi.sent.ptr b hsent
              refine ⟨_, [g.U b], rfl, .cons (by simp only [Rep]; exact ⟨trivial, _, _, hu⟩) .nil, fun j u hj => ?_⟩
              cases j with
              | zero =>
                simp only [List.getElem?_cons_zero, Option.some.injEq] at hj
                subst hj
                rw [add_none]
                exact hc
              | succ j => simp at hj
            · cases h
          simp only [Option.map_eq_some_iff] at h
          obtain ⟨cs, hg, rfl⟩ := h
          refine ⟨ad, cs.drop ad.off, rfl, .of_vals _, fun j u hj => ?_⟩
          rw [add_of_spot hsp]
          rw [List.getElem?_drop] at hj
          exact hi.kcell _ _ (hi.glob _ cs hg _ u hj)
    | _ => simp [behind] at h
  | ep cs =>
    simp only [behind, Option.some.injEq] at h
    subst h
    simp only [Rep] at ha
    obtain ⟨ad, l, rfl, hl, hk⟩ := ha
    exact ⟨ad, l, rfl, hl, fun j u hj => hi.kcell _ _ (hk j u hj)⟩
  | ptr i off =>
    simp only [behind, Option.map_eq_some_iff] at h
    obtain ⟨cs, hc, rfl⟩ := h
    simp only [Rep] at ha
    obtain ⟨ti, rfl, ht⟩ := ha
    obtain ⟨l, hl, hcell⟩ := hi.cellsAt hc ht
    refine ⟨_, l.drop off, rfl, hl.drop off, fun j u hj => ?_⟩
    rw [add_none]
    exact hcell _ u (by rw [← hj, List.getElem?_drop])
  | _ => simp [behind] at h

theorem load_run (hi : Inv E w0 g m w) {t : TypeId} {a x : AV} {v : Value} (h : aload E m t a = some x) (ha : Rep g a v) :
    ∃ ad u, v = .pointer (some ad) ∧ (loadVar t ad).run E.P w = .ok u w ∧ Rep g x u := by
  unfold aload at h
  simp only [Option.bind_eq_some_iff] at h
  obtain ⟨cells, hb, hg⟩ := h
  obtain ⟨ad, l, rfl, hl, hc⟩ := behind_rep hi hb ha
  refine ⟨ad, ?_⟩
  unfold gather at hg
  split at hg
  · rename_i s hagg hsz
    split at hg
    · rename_i hle
      obtain rfl := Option.some.inj hg
      have hlen := hl.length
      have hrun := run_loadCells_list (P := E.P) w ad (l.take s) fun j u hj => hc j u (by rw [List.getElem?_take] at hj; split at hj; exact hj; cases hj)
      have hts : (l.take s).length = s := by rw [List.length_take]; omega
      rw [hts] at hrun
      refine ⟨.agg (l.take s).toArray, rfl, ?_, ?_⟩
      · simp [loadVar, run_tagg hagg, run_tsize hsz, hrun]
      · simp only [Rep]
        exact ⟨_, rfl, hl.take s⟩
    · cases hg
  · rename_i s hagg hsz
    cases cells with
    | nil => simp at hg
    | cons c r =>
      simp at hg
      subst hg
      obtain ⟨u, s', rfl, h1, _⟩ := hl.cons_inv
      have h0 := hc 0 u rfl
      have : ad.add 0 = ad := by simp [Addr.add]
      rw [this] at h0
      exact ⟨u, rfl, by simp [loadVar, run_tagg hagg, load, h0, Sem.run], h1⟩
  · cases hg

theorem setCells_heap (b : Nat) (e : TypeId) (fr : Nat × Nat) : ∀ (l : List Value) (lo : Nat) (w : World) (cs : Array Value), w.heap[b]? = some (.cells cs e fr) → lo + l.length ≤ cs.size →
    ∃ cs' : Array Value, (w.setCells b lo l).heap[b]? = some (.cells cs' e fr) ∧ cs'.size = cs.size ∧ cs'.toList = cs.toList.take lo ++ l ++ cs.toList.drop (lo + l.length)
  | [], lo, w, cs, h, _ => ⟨cs, h, rfl, by simp⟩
  | v :: r, lo, w, cs, h, hl => by
    simp only [List.length_cons] at hl
    obtain ⟨cs', h1, h2, h3⟩ := setCells_heap b e fr r (lo + 1) (w.setCell ⟨b, lo, none⟩ v) (cs.setIfInBounds lo v) (by simp [World.setCell, Array.getElem?_modify, h]) (by simp; omega)
    refine ⟨cs', h1, by simpa using h2, ?_⟩
    rw [h3]
    have hlt : lo < cs.toList.length := by simp; omega
    simp only [Array.toList_setIfInBounds, List.length_cons]
    rw [List.take_add_one, List.take_set_of_le (Nat.le_refl _), List.drop_set_of_lt (by omega), List.getElem?_set_self hlt, show lo + 1 + r.length = lo + (r.length + 1) by omega]
    simp
theorem setCells_size (b : Nat) : ∀ (l : List Value) (lo : Nat) (w : World), (w.setCells b lo l).heap.size = w.heap.size
  | [], _, _ => rfl
  | v :: r, lo, w => (setCells_size b r _ _).trans (by simp)
theorem setCells_other (b : Nat) : ∀ (l : List Value) (lo : Nat) (w : World) (k : Nat), k ≠ b → (w.setCells b lo l).heap[k]? = w.heap[k]?
  | [], _, _, _, _ => rfl
  | v :: r, lo, w, k, hk => (setCells_other b r _ _ k hk).trans (Below.heap_setCell w ⟨b, lo, none⟩ v k hk)
theorem setCells_below {B : Nat} {a : World} (b : Nat) (hb : B ≤ b) : ∀ (l : List Value) (lo : Nat) (w : World), Below B a w → Below B a (w.setCells b lo l)
  | [], _, _, h => h
  | v :: r, lo, w, h => setCells_below b hb r _ _ (h.setCell (p := ⟨b, lo, none⟩) hb v)

theorem oneCell_of {a : AV} {v : Value} (h : Rep g a v) (k : a.one = true) : v.oneCell' = true := by
  obtain ⟨h1, h2⟩ := h.one k
  cases v <;> simp_all [Value.oneCell']
theorem oneCells {cs : List AV} {l : List Value} (h : RepL g cs l) (k : cs.all AV.one = true) : ∀ v ∈ l, v.oneCell' = true := by
  intro v hv
  obtain ⟨j, hj⟩ := List.mem_iff_getElem?.1 hv
  obtain ⟨a, ha, hr⟩ := h.get' hj
  exact oneCell_of hr (List.all_eq_true.1 k a (List.mem_iff_getElem?.2 ⟨j, ha⟩))

/-- Cells written into a block that may be written. -/
theorem Inv.put (hi : Inv E w0 g m w) {i : Nat} {cells : List AV} {e : TypeId} {p : Bool} (hm : m[i]? = some (.wr cells e p)) {ti : TI} (ht : g.T i = some ti)
    {xs : List AV} {l : List Value} (hx : RepL g xs l) (ho : xs.all AV.one = true) {off : Nat} (hle : off + xs.length ≤ cells.length) :
    (∀ i0, (storeCells ⟨ti.block, off, none⟩ l i0).run E.P w = .ok () (w.setCells ti.block (off + i0) l) ∨ i0 ≠ 0) ∧
    Inv E w0 g (m.set i (.wr (putAt cells off xs) e p)) (w.setCells ti.block off l) := by
  obtain ⟨cs, fr, h1, h2, h3, h4, h5, h6⟩ := hi.wr hm ht
  have hxl := hx.length
  have h4l := h4.length
  rw [List.length_take] at h4l
  have hcs : cells.length ≤ cs.size := by simpa using (show cells.length ≤ cs.toList.length by omega)
  obtain ⟨_, hB, hlt⟩ := hi.dom i ti ht
  refine ⟨fun i0 => ?_, ?_⟩
  · by_cases h0 : i0 = 0
    · subst h0
      refine .inl (run_storeCells_cells (P := E.P) ti.block off l 0 w (fun j hj => ?_) (fun j hj => ?_) (oneCells hx ho))
      · rw [cell_of_heap h1, Array.getElem?_eq_getElem (by omega)]; rfl
      · exact frozen_of_heap h1 h3 (by omega)
    · exact .inr h0
  · obtain ⟨cs', k1, k2, k3⟩ := setCells_heap ti.block e fr l off w cs h1 (by omega)
    refine hi.turn hm rfl ht (setCells_below _ hB _ _ _ hi.below) (by rw [setCells_size]; exact Nat.le_refl _) (fun k _ hk => setCells_other _ _ _ _ k hk) (.refl g) rfl
      (fun a v hk => .inl ⟨fun he => ?_, hk⟩) ?_
    · have hc := hi.kcell a v hk
      have hs : a.spot = none := by
        cases hsp : a.spot with
        | none => rfl
        | some _ =>
          rw [World.cell?] at hc
          rw [he, h1] at hc
          simp [hsp] at hc
      have := h6 a.off
      obtain ⟨ab, ao, as⟩ := a
      simp only at he hs
      subst he; subst hs
      rw [this] at hk
      cases hk
    · refine ⟨cs', fr, k1, by rw [k2, h2], by rw [k2]; exact h3, ?_, fun hp => by rw [k2, ← h5 hp]; simp [putAt]; omega, h6⟩
      have hpl : (putAt cells off xs).length = cells.length := by simp [putAt]; omega
      rw [hpl, k3]
      have hput := h4.putAt hx off
      refine RepL.of_get ?_ fun j a v ha hv => ?_
      · simp [hpl]; omega
      · obtain ⟨u, hu, hr⟩ := hput.get ha
        have : u = v := by
          have hj : j < cells.length := by rw [← hpl]; exact (List.getElem?_eq_some_iff.1 ha).1
          rw [List.getElem?_take, if_pos hj] at hv
          rw [← hxl] at hu hv
          by_cases c1 : j < off
          · rw [List.getElem?_append_left (by simp; omega), List.getElem?_append_left (by simp; omega)] at hu hv
            simp [List.getElem?_take, c1, hj] at hu hv
            rw [hu] at hv; exact Option.some.inj hv
          · by_cases c2 : j < off + xs.length
            · rw [List.getElem?_append_left (by simp; omega), List.getElem?_append_right (by simp; omega)] at hu hv
              simp only [List.length_take, Array.length_toList] at hu hv
              rw [Nat.min_eq_left (by omega)] at hu hv
              rw [hu] at hv; exact Option.some.inj hv
            · rw [List.getElem?_append_right (by simp; omega)] at hu hv
              simp only [List.length_append, List.length_take, Array.length_toList, List.getElem?_drop] at hu hv
              rw [Nat.min_eq_left (by omega)] at hu hv
              rw [List.getElem?_take, if_pos (by omega)] at hu
              rw [hu] at hv; exact Option.some.inj hv
        exact this ▸ hr

theorem store_run (hi : Inv E w0 g m w) {t : TypeId} {a x : AV} {va vx : Value} {m' : AM} (h : astore E m t a x = some m') (ha : Rep g a va) (hx : Rep g x vx) :
    ∃ ad w', va = .pointer (some ad) ∧ (storeVar t ad vx).run E.P w = .ok () w' ∧ Inv E w0 g m' w' := by
  cases a with
  | ptr i off =>
    simp only [astore] at h
    split at h
    · rename_i cells e p s hm hs
      split at h
      · rename_i hc
        obtain ⟨hlen, hle, hone⟩ := hc
        obtain rfl := Option.some.inj h
        simp only [Rep] at ha
        obtain ⟨ti, rfl, ht⟩ := ha
        have hxc := hx.cells
        obtain ⟨k1, k2⟩ := hi.put hm ht hxc hone (off := off) (by omega)
        refine ⟨_, _, rfl, ?_, k2⟩
        have hsz : vx.cells.size = s := by rw [← Array.length_toList, ← hxc.length]; exact hlen
        rcases k1 0 with k1 | k1
        · simp only [storeVar]
          simp [run_tsize hs, hsz, k1]
        · exact absurd rfl k1
      · cases h
    · cases h
  | _ => simp [astore] at h
end
end Go.Vm
