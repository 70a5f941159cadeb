/- The abstract machine: operations that leave the memory as it is; variables made ahead of their turn. -/
import Derived.Test.YtmppnmffbmpcpaaDoorVmExB
set_option linter.unusedVariables false
set_option linter.unusedSimpArgs false
namespace Go.Vm
open Go.RowKit
section
variable {E : Env} {w0 : World} {g : G} {m m' : AM} {w : World}

theorem flatOp_keep {ρ : Operand → AV} {o : Oper} {x : AV} (h : flatOp E ρ m o = some (.ret x m')) : m' = m := by
  unfold flatOp at h
  split at h
  · split at h
    · simp only [Option.some.injEq, ARes.ret.injEq] at h; exact h.2.symm
    · simp at h
    · cases h
  · cases h

theorem map_keep {α : Type} {o : Option α} {f : α → AV} {x : AV} (h : (o.map fun a => ARes.ret (f a) m) = some (.ret x m')) : m' = m := by
  simp only [Option.map_eq_some_iff, ARes.ret.injEq] at h
  obtain ⟨_, _, _, h⟩ := h
  exact h.symm

theorem aslice_keep {lit : Bool} {t : TypeId} {x : AV} {lo hi mx : Option AV} {y : AV} (h : aslice E lit m t x lo hi mx = some (.ret y m')) (hl : lit = true ∨ ∀ n e, E.P.underlying t ≠ some (.array n e)) : m' = m := by
  unfold aslice at h
  split at h
  · split at h
    case h_2 => cases h
    split at h
    · split at h
      · cases h
      · simp only [Option.bind_eq_some_iff] at h
        obtain ⟨⟨l, hh, mm⟩, _, h⟩ := h
        split at h
        · simp only [Option.some.injEq, ARes.ret.injEq] at h; exact h.2.symm
        · cases h
    · split at h
      · cases h
      · simp only [Option.bind_eq_some_iff] at h
        obtain ⟨⟨l, hh, mm⟩, _, h⟩ := h
        split at h <;> (simp only [Option.some.injEq, ARes.ret.injEq] at h; exact h.2.symm)
    · cases h
  · rename_i n e hu
    rcases hl with rfl | hl
    · split at h
      case h_2 => cases h
      split at h
      · cases h
      · simp only [Option.bind_eq_some_iff] at h
        obtain ⟨⟨l, hh, mm⟩, _, h⟩ := h
        split at h
        · simp only [Option.some.injEq, ARes.ret.injEq] at h; exact h.2.symm
        · split at h
          · split at h
            · simp only [if_true, Option.some.injEq, ARes.ret.injEq] at h; exact h.2.symm
            · cases h
          · split at h
            · simp only [Option.some.injEq, ARes.ret.injEq] at h; exact h.2.symm
            · cases h
          · cases h
    · exact absurd hu (hl n e)
  · cases h

theorem aconvert_keep {s d : TypeId} {x y : AV} (h : aconvert E m s d x = some (.ret y m')) (hl : ∀ e, E.P.underlying d ≠ some (.slice e)) : m' = m := by
  unfold aconvert at h
  split at h
  · rename_i hd; exact absurd hd (hl _)
  · rename_i hd; exact absurd hd (hl _)
  · split at h
    · exact map_keep h
    · cases h
  · cases h

/-- What is silent leaves the memory as it is. -/
theorem silent_keep {call : ACall} {fn : FuncId} {ρ : Operand → AV} {o : Oper} {x : AV} (hl : loud E fn o = false) (h : aop E call fn ρ m o = some (.ret x m')) : m' = m := by
  obtain ⟨dst, op, ty, pos, after, guard⟩ := o
  cases op with
  | move a => simp only [aop, Option.some.injEq, ARes.ret.injEq] at h; exact h.2.symm
  | assign a => simp only [aop, Option.some.injEq, ARes.ret.injEq] at h; exact h.2.symm
  | pick c a b =>
    simp only [aop] at h
    split at h
    · simp only [Option.some.injEq, ARes.ret.injEq] at h; exact h.2.symm
    · cases h
  | build t ps => exact map_keep h
  | buildSlice t n ps =>
    simp only [aop, abuildSlice] at h
    simp only [loud, Bool.or_eq_false_iff] at hl
    obtain ⟨hl1, hl2⟩ := hl
    split at h
    case h_2 => cases h
    rename_i e hu
    rw [hu] at hl2
    simp only at hl2
    split at h
    case h_2 => cases h
    split at h
    · cases h
    · simp only [Option.map_eq_some_iff] at h
      obtain ⟨cells, _, h⟩ := h
      rw [hl1, hl2] at h
      simp only [Bool.false_eq_true, if_false, ARes.ret.injEq] at h
      exact h.2.symm
  | load t a => exact map_keep h
  | makeFunc f a b => simp only [aop, Option.some.injEq, ARes.ret.injEq] at h; exact h.2.symm
  | slice t a lo hi mx =>
    simp only [aop] at h
    split at h
    · rename_i r hr
      rw [h] at hr
      exact flatOp_keep hr
    · refine aslice_keep h ?_
      simp only [loud, Bool.and_eq_false_iff, Bool.not_eq_false'] at hl
      rcases hl with hl | hl
      · exact .inl hl
      · exact .inr fun n e he => by rw [he] at hl; simp at hl
  | fieldAddr t a f => exact map_keep h
  | indexAddr t a i => exact map_keep h
  | field t a f =>
    simp only [aop] at h
    split at h
    · exact map_keep h
    · exact flatOp_keep h
  | index t a i =>
    simp only [aop] at h
    split at h
    · exact map_keep h
    · exact flatOp_keep h
  | extract t i =>
    simp only [aop] at h
    split at h
    · exact map_keep (f := fun a => a) h
    · exact flatOp_keep h
  | sliceToArrayPointer t a =>
    simp only [aop] at h
    split at h
    · split at h
      · simp only [Option.some.injEq, ARes.ret.injEq] at h; exact h.2.symm
      · cases h
    · split at h
      · simp only [Option.some.injEq, ARes.ret.injEq] at h; exact h.2.symm
      · cases h
    · cases h
  | nilCheck a =>
    simp only [aop] at h
    split at h
    · simp only [Option.some.injEq, ARes.ret.injEq] at h; exact h.2.symm
    · simp only [Option.some.injEq, ARes.ret.injEq] at h; exact h.2.symm
    · simp only [Option.some.injEq, ARes.ret.injEq] at h; exact h.2.symm
    · exact flatOp_keep h
  | binOp op t a b s =>
    simp only [aop] at h
    split at h
    · rename_i r hr
      rw [h] at hr
      exact flatOp_keep hr
    split at h
    · simp only [Option.some.injEq, ARes.ret.injEq] at h; exact h.2.symm
    · exact map_keep h
  | convert s d a =>
    simp only [aop] at h
    split at h
    · rename_i r hr
      rw [h] at hr
      exact flatOp_keep hr
    · exact aconvert_keep h fun e he => by simp [loud, he] at hl
  | call c =>
    simp only [aop] at h
    simp only [loud] at hl
    split at h
    · rename_i f hf
      rw [hf] at hl
      simp at hl
    · rename_i b hb
      rw [hb] at hl
      split at h
      · rename_i r hr
        rw [h] at hr
        exact flatOp_keep hr
      · unfold abuiltin at h
        split at h
        · simp at hl
        · simp at hl
        · split at h
          · simp only [Option.some.injEq, ARes.ret.injEq] at h; exact h.2.symm
          · simp only [Option.some.injEq, ARes.ret.injEq] at h; exact h.2.symm
          · cases h
        · split at h
          · simp only [Option.some.injEq, ARes.ret.injEq] at h; exact h.2.symm
          · simp only [Option.some.injEq, ARes.ret.injEq] at h; exact h.2.symm
          · cases h
        · cases h
    · cases h
  | unOp => exact flatOp_keep h
  | makeInterface => exact flatOp_keep h
  | typeAssert => exact flatOp_keep h
  | panic => exact flatOp_keep h
  | _ => first | (simp [loud] at hl; done) | (simp [aop] at h; done)

theorem aone_keep {call : ACall} {fn : FuncId} {ops : Array Oper} {a : AF} {o : Oper} {x : AV} (hl : loud E fn o = false) (h : aone E call fn ops o a m = some (.ret x m')) : m' = m := by
  unfold aone at h
  split at h
  · exact silent_keep hl h
  · simp only [Option.some.injEq, ARes.ret.injEq] at h; exact h.2.symm

theorem isRet_eq {r : Option ARes} {x : AV} (h : isRet r x = true) : ∃ m', r = some (.ret x m') := by
  unfold isRet at h
  split at h
  · rw [beq_eq _ _ h]
    exact ⟨_, rfl⟩
  · cases h

/-! ### Blocks that wait -/
def G.withX (g : G) (X : Nat → Option Obj) : G := { g with X := X }

theorem G.sub_withX (X : Nat → Option Obj) : g.sub (g.withX X) := ⟨fun _ _ h => h, fun _ _ h => h, rfl, rfl⟩

theorem BlkOk.withX (X : Nat → Option Obj) {b : AB} {ti : TI} (h : BlkOk g w b ti) : BlkOk (g.withX X) w b ti := by
  cases b with
  | dead => trivial
  | tok => exact h
  | wr cells e part =>
    obtain ⟨cs, fr, h1, h2, h3, h4, h5⟩ := h
    exact ⟨cs, fr, h1, h2, h3, RepL.msub (G.sub_withX X) _ h4, h5⟩
  | frz cells e =>
    obtain ⟨cs, fr, h1, h2, h3, h4, h5⟩ := h
    exact ⟨cs, fr, h1, h2, h3, RepL.msub (G.sub_withX X) _ h4, h5⟩
  | map es clock =>
    obtain ⟨ents, h1, h2⟩ := h
    refine ⟨ents, h1, ?_⟩
    clear h1
    generalize ents.toList = l at h2 ⊢
    induction es generalizing l with
    | nil => exact h2
    | cons a r ih =>
      obtain ⟨e, s, h0, h3, h4, h5, h6⟩ := h2
      exact ⟨e, s, h0, h3, Rep.msub (G.sub_withX X) _ h4, h5, ih s h6⟩

theorem Inv.withX (h : Inv E w0 g m w) {X : Nat → Option Obj} (hX : ∀ b o, X b = some o → w.heap[b]? = some o ∧ w0.heap.size ≤ b ∧ (∀ off, g.K ⟨b, off, none⟩ = none) ∧ ∀ i ti, g.T i = some ti → ti.block ≠ b) :
    Inv E w0 (g.withX X) m w :=
  ⟨h.below, h.kcell, h.glob, h.dom, fun i b hb ha => let ⟨ti, ht, hk⟩ := h.live i b hb ha; ⟨ti, ht, hk.withX X⟩, h.apart, hX, h.sent.mono (G.sub_withX X), h.fact⟩

/-- A new block that waits for its turn. -/
theorem Inv.wait (h : Inv E w0 g m w) (o : Obj) : Inv E w0 (g.withX fun b => if b = w.heap.size then some o else g.X b) m (w.alloc o) := by
  refine (h.alloc o).withX fun b o' hx => ?_
  split at hx
  · rename_i e
    obtain rfl := Option.some.inj hx
    subst e
    refine ⟨heap_new w _, h.size, fun off => K_new h (Nat.le_refl _), fun i ti ht e => ?_⟩
    have := (h.dom i ti ht).2.2
    omega
  · exact (h.alloc o).ext b o' hx

/-- Its turn has come. -/
theorem Inv.come (h : Inv E w0 g m w) {b : Nat} {cs : Array Value} {e : TypeId} (hx : g.X b = some (.cells cs e)) {cells : List AV} (hr : RepL g cells cs.toList) :
    ∃ g', g.sub g' ∧ (∀ b', g'.X b' = if b' = b then none else g.X b') ∧ Inv E w0 g' (m ++ [.wr cells e false]) w ∧ g'.T m.length = some ⟨b, 0, cs.size⟩ := by
  obtain ⟨h1, h2, h3, h4⟩ := h.ext b _ hx
  have hi := h.withX (X := fun b' => if b' = b then none else g.X b') fun b' o hx' => by
    split at hx'
    · cases hx'
    · exact h.ext b' o hx'
  have hno : ¬ Owned (g.withX fun b' => if b' = b then none else g.X b') m b := by
    rintro (⟨i, bi, ti, _, _, ht, he⟩ | hx')
    · exact h4 i ti ht he
    · simp [G.withX] at hx'
  have hlt : b < w.heap.size := (Array.getElem?_eq_some_iff.1 h1).1
  have hlen := hr.length
  simp only [Array.length_toList] at hlen
  have hle : (g.withX fun b' => if b' = b then none else g.X b').le (((g.withX fun b' => if b' = b then none else g.X b').bind m.length ⟨b, 0, cs.size⟩).commit b 0 []) := (G.le_bind hi.fresh).trans (G.le_commit (by simp))
  have hok : BlkOk (((g.withX fun b' => if b' = b then none else g.X b').bind m.length ⟨b, 0, cs.size⟩).commit b 0 []) w (.wr cells e false) ⟨b, 0, cs.size⟩ := by
    refine ⟨cs, (0, 0), h1, rfl, .inl rfl, ?_, fun _ => hlen, fun off => ?_⟩
    · rw [hlen]
      rw [show List.take cs.size cs.toList = cs.toList by rw [← Array.length_toList, List.take_length]]
      exact RepL.msub ((G.sub_withX _).trans hle.sub) _ hr
    · simp only [G.commit, List.length_nil, Nat.add_zero]
      rw [if_neg (by omega)]
      exact h3 off
  have had := hi.adopt (b := b) h2 hlt hno 0 cs.size 0 [] (fun _ _ h => absurd h (by simp)) (fun j v h => by simp at h) (.wr cells e false) hok
  exact ⟨_, (G.sub_withX _).trans had.1.sub, fun b' => rfl, had.2, by simp [G.commit, G.bind]⟩
end
end Go.Vm
