/- The abstract machine: operations that make memory, and addresses. -/
import Derived.Test.YtmppnmffbmpcpaaDoorVmOpA
set_option linter.unusedVariables false
set_option linter.unusedSimpArgs false
namespace Go.Vm
open Go.RowKit
section
variable {E : Env} {w0 : World} {g : G} {m : AM} {w : World}

theorem not_owned_new (hi : Inv E w0 g m w) {b : Nat} (hb : w.heap.size ≤ b) : ¬ Owned g m b := by
  rintro (⟨i, bi, ti, _, _, ht, rfl⟩ | hx)
  · have := (hi.dom i ti ht).2.2
    omega
  · obtain ⟨o, ho⟩ := Option.isSome_iff_exists.1 hx
    have := (Array.getElem?_eq_some_iff.1 (hi.ext b o ho).1).1
    omega
theorem K_new (hi : Inv E w0 g m w) {b off : Nat} (hb : w.heap.size ≤ b) : g.K ⟨b, off, none⟩ = none := by
  cases hk : g.K ⟨b, off, none⟩ with
  | none => rfl
  | some v => have := hi.klt hk; simp only at this; omega
theorem heap_new (w : World) (o : Obj) : (w.alloc o).heap[w.heap.size]? = some o := by
  show (w.heap.push o)[w.heap.size]? = _
  simp

/-- A new block that may be written. -/
theorem Inv.newWr (hi : Inv E w0 g m w) {cells : List AV} {cs : Array Value} {e : TypeId} {p : Bool} (hr : RepL g cells (cs.toList.take cells.length)) (hp : p = false → cells.length = cs.size) :
    ∃ g', g.le g' ∧ Inv E w0 g' (m ++ [.wr cells e p]) (w.alloc (.cells cs e)) ∧ g'.T m.length = some ⟨w.heap.size, 0, cs.size⟩ := by
  have h := (hi.alloc (.cells cs e)).adopt (b := w.heap.size) hi.size (by simp) (not_owned_new hi (Nat.le_refl _)) 0 cs.size 0 [] (fun _ _ h => absurd h (by simp)) (fun j v h => by simp at h) (.wr cells e p)
  have hle : g.le ((g.bind m.length ⟨w.heap.size, 0, cs.size⟩).commit w.heap.size 0 []) := (G.le_bind hi.fresh).trans (G.le_commit (by simp))
  have hok : BlkOk ((g.bind m.length ⟨w.heap.size, 0, cs.size⟩).commit w.heap.size 0 []) (w.alloc (.cells cs e)) (.wr cells e p) ⟨w.heap.size, 0, cs.size⟩ := by
    refine ⟨cs, (0, 0), heap_new w _, rfl, .inl rfl, RepL.mono hle _ hr, hp, fun off => ?_⟩
    simp only [G.commit, List.length_nil, Nat.add_zero]
    rw [if_neg (by omega)]
    exact K_new hi (Nat.le_refl _)
  exact ⟨_, (h hok).1, (h hok).2, by simp [G.commit, G.bind]⟩

/-- A new array whose first cells are never written again. -/
theorem Inv.newTok (hi : Inv E w0 g m w) {cs : Array Value} {e : TypeId} (k : Nat) (hk : k ≤ cs.size) :
    ∃ g', g.le g' ∧ Inv E w0 g' (m ++ [.tok]) (w.alloc (.cells cs e)) ∧ g'.T m.length = some ⟨w.heap.size, k, cs.size⟩ ∧
      ∀ j v, (cs.toList.take k)[j]? = some v → g'.K ⟨w.heap.size, j, none⟩ = some v := by
  have hl : (cs.toList.take k).length = k := by simp; omega
  have h := (hi.alloc (.cells cs e)).adopt (b := w.heap.size) hi.size (by simp) (not_owned_new hi (Nat.le_refl _)) k cs.size 0 (cs.toList.take k) (fun off _ _ => K_new hi (Nat.le_refl _)) (fun j v h => by
    rw [cell_of_heap (heap_new w _), Nat.zero_add]
    rw [List.getElem?_take] at h
    split at h
    · simpa using h
    · cases h) .tok
  have hok : BlkOk ((g.bind m.length ⟨w.heap.size, k, cs.size⟩).commit w.heap.size 0 (cs.toList.take k)) (w.alloc (.cells cs e)) .tok ⟨w.heap.size, k, cs.size⟩ := by
    refine ⟨cs, e, (0, 0), heap_new w _, rfl, .inl rfl, fun off ho => ?_⟩
    simp only [G.commit, hl]
    simp only at ho
    rw [if_neg (by omega)]
    exact K_new hi (Nat.le_refl _)
  refine ⟨_, (h hok).1, (h hok).2, by simp [G.commit, G.bind], fun j v hj => ?_⟩
  have hjk : j < k := by have := (List.getElem?_eq_some_iff.1 hj).1; omega
  simp only [G.commit, hl]
  rw [if_pos (by simp; exact hjk)]
  simpa using hj

/-- A new array none of whose cells is ever written again, and that no number stands for. -/
theorem Inv.newConst (hi : Inv E w0 g m w) {cs : Array Value} {e : TypeId} :
    ∃ g', g.le g' ∧ Inv E w0 g' m (w.alloc (.cells cs e)) ∧ ∀ j v, cs.toList[j]? = some v → g'.K ⟨w.heap.size, j, none⟩ = some v := by
  have hle : g.le (g.commit w.heap.size 0 cs.toList) := G.le_commit fun off _ _ => K_new hi (Nat.le_refl _)
  have ha := hi.alloc (.cells cs e)
  refine ⟨_, hle, ⟨ha.below, fun a v hk => ?_, fun i c hg off v ho => hle.1 _ _ (ha.glob i c hg off v ho), ha.dom, fun i b hb hb' => ?_, ha.apart, fun b o hx => ?_, ha.sent.mono hle.sub, by rw [hle.5]; exact ha.fact⟩, fun j v hj => ?_⟩
  rotate_left 2
  · obtain ⟨h1, h2, h3, h4⟩ := ha.ext b o hx
    refine ⟨h1, h2, fun off => ?_, h4⟩
    have hb := (Array.getElem?_eq_some_iff.1 (hi.ext b o hx).1).1
    simp only [G.commit]
    rw [if_neg (fun hc => by have := hc.1; omega)]
    exact h3 off
  rotate_left 1
  · simp only [G.commit] at hk
    split at hk
    · rename_i hc
      obtain ⟨h1, h2, _, _⟩ := hc
      obtain ⟨ab, ao, as⟩ := a
      simp only at h1 h2
      subst h1; subst h2
      rw [cell_of_heap (heap_new w _)]
      simpa using hk
    · exact ha.kcell a v hk
  · obtain ⟨ti, ht, hk⟩ := ha.live i b hb hb'
    refine ⟨ti, ht, hk.keep hle rfl fun off v hv => ?_⟩
    simp only [G.commit] at hv
    rw [if_neg (fun hc => by have := (hi.dom i ti ht).2.2; omega)] at hv
    exact hv
  · have hjl := (List.getElem?_eq_some_iff.1 hj).1
    simp only [G.commit]
    rw [if_pos (by simp at hjl ⊢; exact hjl)]
    simpa using hj

theorem run_newVar (P : Program) (w : World) (t : TypeId) (v : Value) : (newVar t v).run P w = .ok ⟨w.heap.size, 0, none⟩ (w.alloc (.cells v.cells t)) := by
  simp [newVar, newRow, newObj, Sem.run]
theorem run_newRow (P : Program) (w : World) (t : TypeId) (cs : Array Value) : (newRow t cs).run P w = .ok ⟨w.heap.size, 0, none⟩ (w.alloc (.cells cs t)) := by
  simp [newRow, newObj, Sem.run]

theorem alloc_good (hi : Inv E w0 g m w) {t : TypeId} {z : Value} (hz : tzero E t = some z) :
    ∃ v w' g', (Instr.alloc t true (.tuple #[])).run E.P w = .ok v w' ∧ g.le g' ∧ Inv E w0 g' (m ++ [.wr (z.cells.toList.map .v) t false]) w' ∧ Rep g' (.ptr m.length 0) v := by
  obtain ⟨g', h1, h2, h3⟩ := hi.newWr (cells := z.cells.toList.map .v) (cs := z.cells) (e := t) (p := false) (by simp only [List.length_map]; rw [List.take_length]; exact .of_vals _) (by simp)
  refine ⟨.pointer (some ⟨w.heap.size, 0, none⟩), _, g', ?_, h1, h2, ?_⟩
  · simp [Instr.alloc, run_tzero hz, run_newVar]
  · simp only [Rep]; exact ⟨_, rfl, h3⟩

theorem box_good (hi : Inv E w0 g m w) {t : TypeId} {a : AV} {v : Value} (ha : Rep g a v) :
    ∃ u w' g', (Instr.box t v).run E.P w = .ok u w' ∧ g.le g' ∧ Inv E w0 g' (m ++ [.wr a.cells t false]) w' ∧ Rep g' (.ptr m.length 0) u := by
  have hc := ha.cells
  obtain ⟨g', h1, h2, h3⟩ := hi.newWr (cells := a.cells) (cs := v.cells) (e := t) (p := false) (by rw [hc.length, List.take_length]; exact hc) (by simp [hc.length])
  refine ⟨.pointer (some ⟨w.heap.size, 0, none⟩), _, g', ?_, h1, h2, ?_⟩
  · simp [Instr.box, run_newVar]
  · simp only [Rep]; exact ⟨_, rfl, h3⟩

/-! ### Addresses, parts -/
theorem asNat_rep {a : AV} {v : Value} {k : Nat} (h : asNat a = some k) (ha : Rep g a v) : ∃ kd n, v = .int kd n ∧ 0 ≤ n ∧ n.toNat = k := by
  unfold asNat at h
  split at h
  · split at h
    · rename_i kd n h0
      obtain rfl := Option.some.inj h
      simp only [Rep] at ha
      exact ⟨_, _, ha, h0, rfl⟩
    · cases h
  · cases h

theorem fieldAddr_run {t : TypeId} {x a : AV} {v : Value} {f : Nat} (h : afieldAddr E t x f = some a) (hx : Rep g x v) (w : World) :
    ∃ u, (Instr.fieldAt t v f).run E.P w = .ok u w ∧ Rep g a u := by
  unfold afieldAddr at h
  split at h
  · rename_i fs hu
    split at h
    · rename_i fd hf
      split at h
      · rename_i s hs
        split at h
        · cases h
        · rename_i hs0
          have hplace : ∀ ad, (fieldPlace ad fd).run E.P w = .ok (ad.add fd.offset) w := fun ad => by simp [fieldPlace, run_tsize hs, hs0]
          cases x with
          | ptr i off =>
            simp only [Option.some.injEq] at h
            subst h
            simp only [Rep] at hx
            obtain ⟨ti, rfl, ht⟩ := hx
            refine ⟨.pointer (some ⟨ti.block, off + fd.offset, none⟩), ?_, ?_⟩
            · simp [Instr.fieldAt, run_underlying hu, hf, Instr.sureAddr, hplace, add_none]
            · simp only [Rep]; exact ⟨ti, rfl, ht⟩
          | ep cells =>
            simp only [Option.some.injEq] at h
            subst h
            simp only [Rep] at hx
            obtain ⟨ad, l, rfl, hl, hk⟩ := hx
            refine ⟨.pointer (some (ad.add fd.offset)), ?_, ?_⟩
            · simp [Instr.fieldAt, run_underlying hu, hf, Instr.sureAddr, hplace]
            · simp only [Rep]
              refine ⟨_, _, rfl, (hl.drop fd.offset).take s, fun j u hj => ?_⟩
              rw [add_add']
              exact hk _ u (by rw [List.getElem?_take] at hj; split at hj; rw [List.getElem?_drop] at hj; exact hj; cases hj)
          | _ => simp at h
      · cases h
    · cases h
  · cases h

theorem indexAddr_run {t : TypeId} {x ix a : AV} {v vi : Value} (h : aindexAddr E t x ix = some a) (hx : Rep g x v) (hix : Rep g ix vi) (w : World) :
    ∃ u, (Instr.indexAt t v vi).run E.P w = .ok u w ∧ Rep g a u := by
  unfold aindexAddr at h
  split at h
  · rename_i k e hk hu
    obtain ⟨kd, n, rfl, h0, rfl⟩ := asNat_rep hk hix
    split at h
    · rename_i es cells es' nn cp ow hs
      split at h
      · rename_i hc
        obtain ⟨rfl, hpos, hlt, hle⟩ := hc
        obtain rfl := Option.some.inj h
        simp only [Rep] at hx
        obtain ⟨A, c, l, rfl, h1, h2, h3, h4, hl, h5, h6⟩ := hx
        have hle2 : (n.toNat + 1) * es' ≤ cells.length := Nat.le_trans (Nat.mul_le_mul_right _ hlt) hle
        have hll := hl.length
        have hl0 : 0 < l.length := by rw [Nat.add_mul] at hle2; omega
        obtain ⟨ad, rfl, _⟩ := h5 0 l[0] (List.getElem?_eq_getElem hl0)
        refine ⟨.pointer (some (ad.add (n.toNat * es'))), ?_, ?_⟩
        · simp [Instr.indexAt, asIntOf, run_underlying hu, h0, show n < (nn : Int) by omega, run_tsize hs]
        · simp only [Rep]
          refine ⟨_, _, rfl, (hl.drop _).take es', fun j u hj => ?_⟩
          rw [add_add']
          obtain ⟨ad', e', hk'⟩ := h5 (n.toNat * es' + j) u (by rw [List.getElem?_take] at hj; split at hj; rw [List.getElem?_drop] at hj; exact hj; cases hj)
          obtain rfl := Option.some.inj e'
          exact hk'
      · cases h
    · rename_i es i off es' nn cp hs
      split at h
      · rename_i hc
        obtain ⟨rfl, hlt⟩ := hc
        obtain rfl := Option.some.inj h
        simp only [Rep] at hx
        obtain ⟨ti, c, rfl, ht, _⟩ := hx
        refine ⟨.pointer (some ⟨ti.block, off + n.toNat * es', none⟩), ?_, ?_⟩
        · simp [Instr.indexAt, asIntOf, run_underlying hu, h0, show n < (nn : Int) by omega, run_tsize hs, add_none]
        · simp only [Rep]; exact ⟨ti, rfl, ht⟩
      · cases h
    · cases h
  · rename_i k nn e hk hu
    obtain ⟨kd, n, rfl, h0, rfl⟩ := asNat_rep hk hix
    split at h
    · rename_i es i off hs
      split at h
      · rename_i hlt
        obtain rfl := Option.some.inj h
        simp only [Rep] at hx
        obtain ⟨ti, rfl, ht⟩ := hx
        refine ⟨.pointer (some ⟨ti.block, off + n.toNat * es, none⟩), ?_, ?_⟩
        · simp [Instr.indexAt, asIntOf, run_underlying hu, h0, show n < (nn : Int) by omega, run_tsize hs, add_none, Instr.sureAddr]
        · simp only [Rep]; exact ⟨ti, rfl, ht⟩
      · cases h
    · rename_i es cells hs
      split at h
      · rename_i hlt
        obtain rfl := Option.some.inj h
        simp only [Rep] at hx
        obtain ⟨ad, l, rfl, hl, hk⟩ := hx
        refine ⟨.pointer (some (ad.add (n.toNat * es))), ?_, ?_⟩
        · simp [Instr.indexAt, asIntOf, run_underlying hu, h0, show n < (nn : Int) by omega, run_tsize hs, Instr.sureAddr]
        · simp only [Rep]
          refine ⟨_, _, rfl, (hl.drop _).take es, fun j u hj => ?_⟩
          rw [add_add']
          exact hk _ u (by rw [List.getElem?_take] at hj; split at hj; rw [List.getElem?_drop] at hj; exact hj; cases hj)
      · cases h
    · rename_i es ad hs
      split at h
      · rename_i hc
        obtain ⟨_, hlt, hsp⟩ := hc
        obtain rfl := Option.some.inj h
        simp only [Rep] at hx
        subst hx
        refine ⟨.pointer (some (ad.add (n.toNat * es))), ?_, ?_⟩
        · simp [Instr.indexAt, asIntOf, run_underlying hu, h0, show n < (nn : Int) by omega, run_tsize hs, Instr.sureAddr]
        · simp only [Rep]
      · cases h
    · cases h
  · cases h

theorem part_run {t : TypeId} {cells : List AV} {l : List Value} {off : Nat} {x : AV} (h : apart E t cells off = some x) (hl : RepL g cells l) (w : World) :
    ∃ u, (part t l.toArray off).run E.P w = .ok u w ∧ Rep g x u := by
  unfold apart at h
  split at h
  · rename_i s hagg hs
    obtain rfl := Option.some.inj h
    refine ⟨.agg (l.toArray.extract off (off + s)), ?_, ?_⟩
    · simp [part, run_tagg hagg, run_tsize hs]
    · simp only [Rep]
      refine ⟨(l.drop off).take s, ?_, (hl.drop off).take s⟩
      simp [List.extract_toArray, List.extract_eq_take_drop]
  · rename_i s hagg hs
    obtain ⟨u, hu, hr⟩ := hl.get h
    exact ⟨u, by simp [part, run_tagg hagg, hu], hr⟩
  · cases h

theorem field_run {t : TypeId} {cs : List AV} {x : AV} {v : Value} {f : Nat} (h : afield E t (.agg cs) f = some x) (hx : Rep g (.agg cs) v) (w : World) :
    ∃ u, (Instr.field t v f).run E.P w = .ok u w ∧ Rep g x u := by
  unfold afield at h
  split at h
  · rename_i fs cs' hu he
    obtain rfl := AV.agg.inj he
    simp only [Option.bind_eq_some_iff] at h
    obtain ⟨fd, hf, hp⟩ := h
    simp only [Rep] at hx
    obtain ⟨l, rfl, hl⟩ := hx
    obtain ⟨u, h1, h2⟩ := part_run hp hl w
    exact ⟨u, by simp [Instr.field, run_underlying hu, hf, asAgg, h1], h2⟩
  · cases h

theorem index_run {t : TypeId} {cs : List AV} {x ix : AV} {v vi : Value} (h : aindex E t (.agg cs) ix = some x) (hx : Rep g (.agg cs) v) (hix : Rep g ix vi) (w : World) :
    ∃ u, (Instr.index t v vi).run E.P w = .ok u w ∧ Rep g x u := by
  unfold aindex at h
  split at h
  · rename_i nn e cs' k hu he hk
    obtain rfl := AV.agg.inj he
    obtain ⟨kd, n, rfl, h0, rfl⟩ := asNat_rep hk hix
    split at h
    · rename_i hlt
      simp only [Option.bind_eq_some_iff] at h
      obtain ⟨es, hs, hp⟩ := h
      simp only [Rep] at hx
      obtain ⟨l, rfl, hl⟩ := hx
      obtain ⟨u, h1, h2⟩ := part_run hp hl w
      exact ⟨u, by simp [Instr.index, asIntOf, run_underlying hu, h0, show n < (nn : Int) by omega, run_tsize hs, h1], h2⟩
    · cases h
  · cases h

/-! ### Building -/
theorem fill_rep {place : Nat → Option (Nat × Nat)} : ∀ {ps : List (Nat × AV)} {qs : List (Nat × Value)} {cells out : List AV} {l : List Value}, afill place cells ps = some out → RepL g cells l →
    ps.length = qs.length → (∀ (j : Nat) p q, ps[j]? = some p → qs[j]? = some q → p.1 = q.1 ∧ Rep g p.2 q.2) → ∃ l', Instr.fill place l.toArray qs = some l'.toArray ∧ RepL g out l'
  | [], [], cells, out, l, h, hl, _, _ => by
    simp only [afill, Option.some.injEq] at h
    subst h
    exact ⟨l, rfl, hl⟩
  | (i, x) :: r, (i', v) :: s, cells, out, l, h, hl, hn, hq => by
    obtain ⟨he, hr⟩ := hq 0 (i, x) (i', v) rfl rfl
    simp only at he hr
    subst he
    simp only [afill] at h
    split at h
    · cases h
    · rename_i off size hp
      split at h
      · cases h
      · rename_i hc
        simp only [not_or, Decidable.not_not, Nat.not_lt] at hc
        obtain ⟨hc1, hc2⟩ := hc
        have hxc := hr.cells
        have hvs : v.cells.size = size := by rw [← Array.length_toList, ← hxc.length]; exact hc1
        have hll := hl.length
        obtain ⟨l', h1, h2⟩ := fill_rep (qs := s) h (hl.putAt hxc off) (by simpa using hn) fun j p q hj hq' => hq (j + 1) p q (by simpa using hj) (by simpa using hq')
        refine ⟨l', ?_, h2⟩
        simp only [Instr.fill, hp]
        rw [if_neg (by simp [hvs]; omega)]
        have hfold : (v.cells.zipIdx.foldl (fun cs (x : Value × Nat) => cs.setIfInBounds (off + x.2) x.1) l.toArray) = (l.take off ++ v.cells.toList ++ l.drop (off + v.cells.toList.length)).toArray := by
          have gen : ∀ (vs : List Value) (k : Nat) (acc : List Value), off + k + vs.length ≤ acc.length →
              (vs.zipIdx k).foldl (fun cs (x : Value × Nat) => cs.setIfInBounds (off + x.2) x.1) acc.toArray = (acc.take (off + k) ++ vs ++ acc.drop (off + k + vs.length)).toArray := by
            intro vs
            induction vs with
            | nil => intro k acc _; simp
            | cons u us ih =>
              intro k acc hle
              simp only [List.length_cons] at hle
              have hlt : off + k < acc.length := by omega
              simp only [List.zipIdx_cons, List.foldl_cons, List.setIfInBounds_toArray]
              rw [ih (k + 1) (acc.set (off + k) u) (by simp; omega)]
              rw [show off + (k + 1) = off + k + 1 by omega, List.take_add_one, List.take_set_of_le (Nat.le_refl _), List.drop_set_of_lt (by omega), List.getElem?_set_self hlt,
                show off + k + 1 + us.length = off + k + (us.length + 1) by omega]
              simp
          have := gen v.cells.toList 0 l (by rw [Array.length_toList, hvs]; omega)
          simp only [Nat.add_zero] at this
          rw [← this, ← Array.foldl_toList]
          simp [Array.toList_zipIdx]
        rw [show (Array.foldl (fun cs (x : Value × Nat) => match x with | (c, j) => cs.setIfInBounds (off + j) c) l.toArray v.cells.zipIdx) = (l.take off ++ v.cells.toList ++ l.drop (off + v.cells.toList.length)).toArray from hfold]
        exact h1
  | [], _ :: _, _, _, _, _, _, hn, _ => by simp at hn
  | _ :: _, [], _, _, _, _, _, hn, _ => by simp at hn
end
end Go.Vm
