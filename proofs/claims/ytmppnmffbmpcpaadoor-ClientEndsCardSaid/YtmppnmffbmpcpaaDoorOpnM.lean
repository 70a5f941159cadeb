/- From a reading of a message, of messages, to what the machine knows of them. -/
import Derived.Test.YtmppnmffbmpcpaaDoorCliC
import Derived.Test.YtmppnmffbmpcpaaDoorVmOpen
set_option linter.unusedVariables false
set_option linter.unusedSimpArgs false
namespace Go.Vm
open Go.RowKit Go.Proofs
section
variable {H : Type} {enc : TypeId × Value → H} {W : World} {base : Nat} {spare : Nat → Bool} {held : Bool} {V : Nat → Value}
theorem ci : Tryd.prog.cellsOf 3 = 1 := by kernel_rfl
theorem cst : Tryd.prog.cellsOf 9 = 1 := by kernel_rfl
theorem cu8 : Tryd.prog.cellsOf 5 = 1 := by kernel_rfl
theorem cbs : Tryd.prog.cellsOf 24 = 1 := by kernel_rfl
theorem clb : Tryd.prog.cellsOf 52 = 1 := by kernel_rfl
theorem cmsg : Tryd.prog.cellsOf 54 = 13 := by kernel_rfl

theorem open_lsl {n : Nat} {cs : List Value} {y : DataW H × List MemPlace} (h : DataW.trod enc Tryd.prog W base spare held n 52 cs = some y) : ∃ (l : List (List UInt8)) (v : Value), cs = [v] ∧ Rep (g0 W V) (lsl l) v ∧ l.length ≤ maxLen := by
  obtain ⟨l, v, h1, h2, h3, _⟩ := open_sl (V := V) (Q := fun _ => True) (fun b : List UInt8 => [bsl b]) Tryd.underlying52 cbs (fun _ => rfl) (fun n cs y hy => by
    obtain ⟨b, v, rfl, h2, _⟩ := open_bytes (V := V) Tryd.underlying24 Tryd.underlying5 cu8 hy
    exact ⟨b, .nonempty h2, trivial⟩) h
  rw [flat_one] at h2
  exact ⟨l, v, h1, h2, h3⟩
/-- What a number of 64 bits is. -/
theorem i64_of {z : Int} (h : (Lit.int .i64 z).wf = true) : I64 z := by
  simp [Lit.wf, IntKind.min, IntKind.max, IntKind.signed, IntKind.bits] at h
  unfold I64; omega
structure MRead (M : Msg) : Prop where
  kind : I64 M.kind
  client : I64 M.client
  number : I64 M.number
  op : I64 M.op
  epoch : I64 M.epoch
  seq : I64 M.seq
  count : I64 M.count
  tick : I64 M.tick
  shard : I64 M.shard
  answer : I64 M.answer
set_option maxRecDepth 100000 in
theorem open_msg {n : Nat} {cs : List Value} {y : DataW H × List MemPlace} (h : DataW.trod enc Tryd.prog W base spare held n 54 cs = some y) : ∃ M : Msg, RepL (g0 W V) (msgA M) cs ∧ MRead M := by
  obtain ⟨xs, k, _, _, hl, hlen, hf⟩ := DataW.trod_struct Tryd.underlying54 h
  rw [cmsg] at hl
  match cs, hl with
  | [c0, c1, c2, c3, c4, c5, c6, c7, c8, c9, c10, c11, c12], _ =>
  match xs, hlen with
  | [y0, y1, y2, y3, y4, y5, y6, y7, y8, y9, y10, y11, y12], _ =>
  obtain ⟨z0, e0, w0⟩ := one_int (cs := [c0]) (y := y0) Tryd.underlying3 (by simpa [ci] using hf 0 _ rfl)
  obtain ⟨z1, e1, w1⟩ := one_int (cs := [c1]) (y := y1) Tryd.underlying3 (by simpa [ci] using hf 1 _ rfl)
  obtain ⟨z2, e2, w2⟩ := one_int (cs := [c2]) (y := y2) Tryd.underlying3 (by simpa [ci] using hf 2 _ rfl)
  obtain ⟨z3, e3, w3⟩ := one_int (cs := [c3]) (y := y3) Tryd.underlying3 (by simpa [ci] using hf 3 _ rfl)
  obtain ⟨z4, e4, w4⟩ := one_str (cs := [c4]) (y := y4) Tryd.underlying9 (by simpa [cst] using hf 4 _ rfl)
  obtain ⟨z5, e5, w5⟩ := one_int (cs := [c5]) (y := y5) Tryd.underlying3 (by simpa [ci] using hf 5 _ rfl)
  obtain ⟨z6, e6, w6⟩ := one_int (cs := [c6]) (y := y6) Tryd.underlying3 (by simpa [ci] using hf 6 _ rfl)
  obtain ⟨z7, e7, w7⟩ := one_int (cs := [c7]) (y := y7) Tryd.underlying3 (by simpa [ci] using hf 7 _ rfl)
  obtain ⟨z8, e8, w8⟩ := one_int (cs := [c8]) (y := y8) Tryd.underlying3 (by simpa [ci] using hf 8 _ rfl)
  obtain ⟨z9, e9, w9⟩ := one_int (cs := [c9]) (y := y9) Tryd.underlying3 (by simpa [ci] using hf 9 _ rfl)
  obtain ⟨z10, e10, w10⟩ := one_int (cs := [c10]) (y := y10) Tryd.underlying3 (by simpa [ci] using hf 10 _ rfl)
  obtain ⟨b11, v11, e11, r11, _⟩ := open_bytes (V := V) (cs := [c11]) (y := y11) Tryd.underlying24 Tryd.underlying5 cu8 (by simpa [cbs] using hf 11 _ rfl)
  obtain ⟨l12, v12, e12, r12, _⟩ := open_lsl (V := V) (cs := [c12]) (y := y12) (by simpa [clb] using hf 12 _ rfl)
  simp only [List.cons.injEq, and_true] at e0 e1 e2 e3 e4 e5 e6 e7 e8 e9 e10 e11 e12
  subst e0 e1 e2 e3 e4 e5 e6 e7 e8 e9 e10 e11 e12
  refine ⟨⟨z0, z1, z2, z3, z4, z5, z6, z7, z8, z9, z10, b11, l12⟩, ?_, ⟨i64_of w0, i64_of w1, i64_of w2, i64_of w3, i64_of w5, i64_of w6, i64_of w7, i64_of w8, i64_of w9, i64_of w10⟩⟩
  have rv : ∀ v : Value, Rep (g0 W V) (.v v) v := fun v => by simp only [Rep]
  exact .cons (rv _) (.cons (rv _) (.cons (rv _) (.cons (rv _) (.cons (rv _) (.cons (rv _) (.cons (rv _) (.cons (rv _) (.cons (rv _) (.cons (rv _) (.cons (rv _) (.cons r11 (.cons r12 .nil))))))))))))
theorem open_msl {n : Nat} {cs : List Value} {y : DataW H × List MemPlace} (h : DataW.trod enc Tryd.prog W base spare held n 65 cs = some y) : ∃ (l : List Msg) (v : Value), cs = [v] ∧ Rep (g0 W V) (msl l) v ∧ l.length ≤ maxLen ∧ ∀ M ∈ l, MRead M :=
  open_sl (V := V) msgA Tryd.underlying65 cmsg (fun _ => rfl) (fun n cs y hy => open_msg hy) h
end
end Go.Vm
