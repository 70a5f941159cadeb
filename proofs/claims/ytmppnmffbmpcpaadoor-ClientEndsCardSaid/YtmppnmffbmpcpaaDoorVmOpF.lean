/- The abstract machine: conversions, lengths, maps, comparisons with nil. -/
import Derived.Test.YtmppnmffbmpcpaaDoorVmOpE
set_option linter.unusedVariables false
set_option linter.unusedSimpArgs false
namespace Go.Vm
open Go.RowKit
section
variable {E : Env} {w0 : World} {g : G} {m : AM} {w : World}

theorem isByte_eq {e : TypeId} (h : isByte E e = true) : E.P.underlying e = some (.int .u8) := by
  unfold isByte at h
  split at h
  · assumption
  · cases h

/-- The mark behind an array's end: nothing that is known turns. -/
theorem Inv.marked (hi : Inv E w0 g m w) {b : Nat} (hb : w0.heap.size ≤ b) (hX : g.X b = none) {cs : Array Value} {e : TypeId} {fr : Nat × Nat} (hh : w.heap[b]? = some (.cells cs e fr)) : Inv E w0 g m (w.freeze ⟨b, cs.size, none⟩ 1) := by
  have hheap : ∀ k, (w.freeze ⟨b, cs.size, none⟩ 1).heap[k]? = if k = b then some (.cells cs e (if fr.1 == fr.2 then (cs.size, cs.size + 1) else (min fr.1 cs.size, max fr.2 (cs.size + 1)))) else w.heap[k]? := fun k => by
    simp only [World.freeze, if_neg (show ¬ (1 : Nat) = 0 by omega), Array.getElem?_modify]
    by_cases hk : k = b
    · subst hk
      rw [if_pos rfl, if_pos rfl, hh]
      obtain ⟨lo, hi'⟩ := fr
      simp
    · rw [if_neg (fun e => hk e.symm), if_neg hk]
  have hsz : (w.freeze ⟨b, cs.size, none⟩ 1).heap.size = w.heap.size := by simp [World.freeze]
  have hcell : ∀ a, (w.freeze ⟨b, cs.size, none⟩ 1).cell? a = w.cell? a := fun a => by
    simp only [World.cell?, hheap]
    by_cases hk : a.block = b
    · rw [if_pos hk, hk, hh]
    · rw [if_neg hk]
  have hun : ∀ n, n ≤ cs.size → Unfr fr n → Unfr (if fr.1 == fr.2 then (cs.size, cs.size + 1) else (min fr.1 cs.size, max fr.2 (cs.size + 1))) n := fun n hn hu => by
    unfold Unfr at hu ⊢
    split
    · exact .inr hn
    · rename_i hne
      rcases hu with h | h
      · rw [h] at hne; simp at hne
      · right; simp only; omega
  refine ⟨⟨?_, ?_, ?_, ?_, fun k hk => ?_⟩, fun a v hk => by rw [hcell]; exact hi.kcell a v hk, hi.glob, fun i ti ht => by rw [hsz]; exact hi.dom i ti ht, fun i bi hbi ha => ?_, hi.apart, fun b' o hx =>
    let ⟨h1, h2⟩ := hi.ext b' o hx; ⟨by rw [hheap, if_neg (fun e => by rw [e, hX] at hx; cases hx)]; exact h1, h2⟩, hi.sent, hi.fact⟩
  · simpa [World.freeze] using hi.below.os
  · simpa [World.freeze] using hi.below.tape
  · simpa [World.freeze] using hi.below.output
  · rw [hsz]; exact hi.below.size
  · rw [hheap, if_neg (by omega)]; exact hi.below.block k hk
  · obtain ⟨ti, ht, hk⟩ := hi.live i bi hbi ha
    refine ⟨ti, ht, ?_⟩
    by_cases hb' : ti.block = b
    · cases bi with
      | dead => trivial
      | tok =>
        obtain ⟨cs', e', fr', h1, h2, h3, h4⟩ := hk
        rw [hb', hh] at h1
        obtain ⟨rfl, rfl, rfl⟩ := by simpa using h1
        exact ⟨cs, e, _, by rw [hheap, if_pos hb'], h2, hun _ (Nat.le_refl _) h3, h4⟩
      | wr cells e' p =>
        obtain ⟨cs', fr', h1, h2, h3, h4⟩ := hk
        rw [hb', hh] at h1
        obtain ⟨rfl, rfl, rfl⟩ := by simpa using h1
        exact ⟨cs, _, by rw [hheap, if_pos hb'], h2, hun _ (Nat.le_refl _) h3, h4⟩
      | frz cells e' =>
        obtain ⟨cs', fr', h1, h2, h3, h4⟩ := hk
        rw [hb', hh] at h1
        obtain ⟨rfl, rfl, rfl⟩ := by simpa using h1
        exact ⟨cs, _, by rw [hheap, if_pos hb'], h2, hun _ (Nat.le_refl _) h3, h4⟩
      | map es clock =>
        obtain ⟨ents, h1, _⟩ := hk
        rw [hb', hh] at h1
        cases h1
    · exact hk.keep (.refl g) (by rw [hheap, if_neg hb']) fun _ _ h => h

theorem bytes_list {cs : List AV} {l : List Value} : ∀ {bs : List UInt8}, bytesOf cs = some bs → RepL g cs l → ∃ ns : List Int, l = ns.map (Value.int .u8) ∧ bs = ns.map fun n => UInt8.ofNat n.toNat := by
  induction cs generalizing l with
  | nil =>
    intro bs h hl
    simp only [bytesOf, Option.some.injEq] at h
    exact ⟨[], by rw [hl.nil_inv]; rfl, h.symm⟩
  | cons a r ih =>
    intro bs h hl
    obtain ⟨v, s, rfl, h1, h2⟩ := hl.cons_inv
    unfold bytesOf at h
    split at h
    · rename_i he; cases he
    · rename_i n r' he
      obtain ⟨rfl, rfl⟩ := List.cons.inj he
      simp only [Option.map_eq_some_iff] at h
      obtain ⟨bs', hb, rfl⟩ := h
      obtain ⟨ns, rfl, rfl⟩ := ih hb h2
      simp only [Rep] at h1
      exact ⟨n :: ns, by rw [h1]; rfl, rfl⟩
    · cases h

theorem run_toString {P : Program} {W : World} (ns : List Int) (A : Option Addr) (n c : Nat) (hn : ns.length = n) (hc : ∀ j u, (ns.map (Value.int .u8))[j]? = some u → ∃ ad, A = some ad ∧ W.cell? (ad.add j) = some u) :
    (Conv.bytesToString (.slice A n c)).run P W = .ok (.string ⟨(ns.map fun n => UInt8.ofNat n.toNat).toArray⟩) W := by
  have gen : ∀ (ns : List Int) (s : ByteArray), ns.foldl (fun r n => r.push (UInt8.ofNat n.toNat)) s = ⟨s.data ++ (ns.map fun n => UInt8.ofNat n.toNat).toArray⟩ := by
    intro ns
    induction ns with
    | nil => intro s; simp
    | cons a r ih =>
      intro s
      rw [List.foldl_cons, ih]
      simp [ByteArray.push]
  cases A with
  | none =>
    have : ns = [] := by
      cases ns with
      | nil => rfl
      | cons a r => obtain ⟨ad, h, _⟩ := hc 0 _ rfl; cases h
    subst this
    simp [Conv.bytesToString]
    rfl
  | some ad =>
    have hl := run_loadCells_list (P := P) W ad (ns.map (Value.int .u8)) fun j u hj => by
      obtain ⟨ad', e, h⟩ := hc j u hj
      obtain rfl := Option.some.inj e
      exact h
    rw [List.length_map, hn] at hl
    rw [run_bytesToString W ad n c ns hl, gen]
    simp

theorem convert_good (hi : Inv E w0 g m w) {s d : TypeId} {x : AV} {v : Value} {res : ARes} (h : aconvert E m s d x = some res) (hx : Rep g x v) :
    ∃ a m' u w' g', res = .ret a m' ∧ (convert s d v).run E.P w = .ok u w' ∧ g.le g' ∧ Inv E w0 g' m' w' ∧ Rep g' a u := by
  unfold aconvert at h
  split at h
  · rename_i ds e t hus hd
    split at h
    case isFalse => cases h
    rename_i hb
    obtain ⟨hb, hlen⟩ := hb
    obtain rfl := Option.some.inj h
    have hbe := isByte_eq hb
    simp only [Rep] at hx
    subst hx
    let cs : Array Value := (t.data.map fun (b : UInt8) => Value.int .u8 b.toNat) ++ Array.replicate (grownCap w t.size 0 e - t.size) (Value.int .u8 0)
    have htk : cs.toList.take t.size = t.data.toList.map fun (b : UInt8) => Value.int .u8 b.toNat := by
      show ((t.data.map fun (b : UInt8) => Value.int .u8 b.toNat) ++ Array.replicate (grownCap w t.size 0 e - t.size) (Value.int .u8 0)).toList.take t.size = _
      rw [Array.toList_append, List.take_append_of_le_length (by rw [Array.length_toList, Array.size_map]; exact Nat.le_refl _), Array.toList_map, List.take_of_length_le (by rw [List.length_map, Array.length_toList]; exact Nat.le_refl _)]
    have hcs : cs.size = grownCap w t.size 0 e := by
      have := grownCap_ge w t.size 0 e
      show ((t.data.map fun (b : UInt8) => Value.int .u8 b.toNat) ++ Array.replicate (grownCap w t.size 0 e - t.size) (Value.int .u8 0)).size = _
      rw [Array.size_append, Array.size_map, Array.size_replicate]
      show t.size + _ = _
      omega
    have hsz : t.size ≤ cs.size := by rw [hcs]; exact grownCap_ge w t.size 0 e
    have hcm : cs.size ≤ maxLen := by
      rw [hcs]
      exact grownCap_le_maxLen w t.size 0 e hlen
    obtain ⟨g', k1, k2, k3, k4⟩ := hi.drew.newTok (cs := cs) (e := e) t.size hsz
    have hX : g'.X w.heap.size = none := by
      rw [k1.3]
      cases hx : g.X w.heap.size with
      | none => rfl
      | some o => exact absurd (Array.getElem?_eq_some_iff.1 (hi.ext _ o hx).1).1 (Nat.lt_irrefl _)
    have hm := k2.marked (b := w.heap.size) hi.size hX (heap_new w.drew _)
    have hrun : (convert s d (.string t)).run E.P w = .ok (.slice (some ⟨w.heap.size, 0, none⟩) t.size (grownCap w t.size 0 e)) ((w.drew.alloc (.cells cs e)).freeze ⟨w.heap.size, cs.size, none⟩ 1) := by
      have hch : (choose (.appendCap t.size 0 e)).run E.P w = .ok (grownCap w t.size 0 e) w.drew := by simp [choose, Sem.run, Question.forced, grownCap]
      have hsh : (w.drew.alloc (.cells cs e)).shape? w.heap.size = some (e, cs.size) := by
        have := heap_new w.drew (.cells cs e)
        simp only [World.size_drew] at this
        simp only [World.shape?, this]
      have hmk : (markStringish ⟨w.heap.size, 0, none⟩).run E.P (w.drew.alloc (.cells cs e)) = .ok () ((w.drew.alloc (.cells cs e)).freeze ⟨w.heap.size, cs.size, none⟩ 1) := by
        simp [markStringish, shape, Sem.run, hsh, freeze]
      have hnr := run_newRow E.P w.drew e cs
      simp only [World.size_drew] at hnr
      have hcv : (convert s d (.string t)).run E.P w = (Conv.stringToBytes e t).run E.P w := by
        simp [convert, run_underlying hus, run_underlying hd, run_underlying hbe]
      rw [hcv]
      simp only [Conv.stringToBytes, Sem.run_bind, hch, Result.andThen_ok]
      rw [show (t.data.map fun (b : UInt8) => Value.int .u8 b.toNat) ++ Array.replicate (grownCap w t.size 0 e - t.size) (Value.int .u8 0) = cs from rfl, hnr]
      simp only [Result.andThen_ok, hmk, Sem.run_pure]
    refine ⟨_, _, _, _, g', rfl, hrun, k1, hm, ?_⟩
    simp only [Rep]
    refine ⟨_, grownCap w t.size 0 e, _, rfl, by rw [← hcs]; exact hcm, by rw [← hcs]; exact hsz, ?_, fun _ hq => (nomatch hq), byteVals_rep g' t, fun j v hj => ⟨_, rfl, ?_⟩, fun t' ht' => ?_⟩
    · rw [(byteVals_rep g' t).length, List.length_map, Nat.mul_one, ← hcs]
      exact hsz
    · rw [add_none, Nat.zero_add]
      exact k4 j v (by rw [htk]; exact hj)
    · obtain rfl := Option.some.inj ht'
      exact ⟨_, _, by trivial, by trivial, k3, by trivial, by simp, by simp [hcs]⟩
  · rename_i e e2 cells es n cap t hs hd
    split at h
    case isFalse => cases h
    rename_i hc
    obtain ⟨rfl, hb⟩ := hc
    obtain rfl := Option.some.inj h
    have hbe := isByte_eq hb
    have hx' := hx
    simp only [Rep] at hx
    obtain ⟨A, c, l, rfl, h1, h2, h3, h4, h5, h6, h7⟩ := hx
    obtain ⟨ad, ti, rfl, hsp, hT, hbk, _⟩ := h7 t rfl
    obtain ⟨_, hB, hlt⟩ := hi.dom t ti hT
    have hrun : ∀ w', (markStringish ad).run E.P w = .ok () w' → (convert s s (.slice (some ad) n c)).run E.P w = .ok (.slice (some ad) n c) w' := fun w' hm => by
      have hse : e = e2 := by
        rw [hs] at hd
        exact (TypeDesc.slice.inj (Option.some.inj hd))
      subst hse
      simp [convert, run_underlying hs, run_underlying hbe, hm]
    cases hsh : w.shape? ad.block with
    | none =>
      exact ⟨_, m, _, w, g, rfl, hrun w (by simp [markStringish, shape, Sem.run, hsh]), .refl g, hi, hx'⟩
    | some p =>
      obtain ⟨eb, nb⟩ := p
      have hh : ∃ cs fr, w.heap[ad.block]? = some (.cells cs eb fr) ∧ cs.size = nb := by
        unfold World.shape? at hsh
        split at hsh
        · rename_i cs e' fr hcs
          simp only [Option.some.injEq, Prod.mk.injEq] at hsh
          obtain ⟨rfl, rfl⟩ := hsh
          exact ⟨cs, fr, hcs, rfl⟩
        · cases hsh
      obtain ⟨cs, fr, hh, rfl⟩ := hh
      exact ⟨_, m, _, _, g, rfl, hrun _ (by simp [markStringish, shape, Sem.run, hsh, freeze]), .refl g, hi.marked (by rw [← hbk]; exact hB) (by cases hx0 : g.X ad.block with | none => rfl | some o => exact absurd hbk ((hi.ext _ o hx0).2.2.2 t ti hT)) hh, hx'⟩
  · rename_i e hs hd
    split at h
    case isFalse => cases h
    rename_i hb
    have hbe := isByte_eq hb
    simp only [Option.map_eq_some_iff, Option.bind_eq_some_iff] at h
    obtain ⟨bs, ⟨cs, hcs, hbs⟩, rfl⟩ := h
    obtain ⟨A, n, c, l, rfl, hl, hlen, hcell⟩ := content_rep hi hcs hx
    obtain ⟨ns, rfl, rfl⟩ := bytes_list hbs hl
    have hrun := run_toString (P := E.P) (W := w) ns A n c (by simpa using hlen) hcell
    refine ⟨_, m, .string ⟨(ns.map fun n => UInt8.ofNat n.toNat).toArray⟩, w, g, rfl, ?_, .refl g, hi, by simp only [Rep]⟩
    rw [run_convert_bytes_string w s d e A n c hs hbe hd, hrun]
  · cases h
end
end Go.Vm
