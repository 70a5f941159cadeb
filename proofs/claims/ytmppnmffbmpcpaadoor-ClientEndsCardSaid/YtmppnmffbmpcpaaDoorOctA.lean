/- Layer 2 (octets): contracts. -/
import Derived.Test.YtmppnmffbmpcpaaDoorCxTy
set_option linter.unusedVariables false
set_option linter.unusedSimpArgs false
namespace Go.Vm
open Go.RowKit Go.Proofs
section
variable {gl : Nat → Option (List Value)}

/-- Bytes as a value: nobody writes them; nil or not where there are none. -/
abbrev bsl (l : List UInt8) : AV := .sl (bytesA l) 1 l.length none none
theorem Nf.bsl {n : Nat} (l : List UInt8) : Nf n (bsl l) := Nf.sl (Nf.bytes l)

/-- The last s bytes of a number, the high one first. -/
def digs (n : Nat) : Nat → List UInt8
  | 0 => []
  | s + 1 => UInt8.ofNat (n / 256 ^ s) :: digs n s
theorem digs_length (n : Nat) : ∀ s, (digs n s).length = s
  | 0 => rfl
  | s + 1 => by simp [digs, digs_length n s]

theorem u8wrap (a : Int) : IntKind.u8.wrap a = a % 256 := by
  have h : IntKind.u8.signed = false := rfl
  have h2 : (2 : Int) ^ IntKind.u8.bits = 256 := by decide
  simp only [IntKind.wrap, h, h2, Bool.false_and]
  rfl
theorem byte_of (n t : Nat) (b : Int) (hb : b = 8 * t) (ht : t < 8) : IntKind.u8.wrap ((n : Int).fdiv (2 ^ min b.toNat IntKind.i64.bits)) = ((UInt8.ofNat (n / 256 ^ t)).toNat : Int) := by
  have h1 : min b.toNat IntKind.i64.bits = 8 * t := by
    have : IntKind.i64.bits = 64 := rfl
    rw [this]; omega
  have h2 : (2 : Int) ^ (8 * t) = ((256 ^ t : Nat) : Int) := by rw [Int.pow_mul]; norm_cast
  rw [u8wrap, h1, h2, Int.fdiv_eq_ediv_of_nonneg _ (Int.natCast_nonneg _)]
  rw [UInt8.toNat_ofNat', Int.natCast_emod, Int.natCast_ediv]
  rfl

theorem number_ok (a b : Int) (n s : Nat) (ha : a = n) (hb : b = s) (hs : s ≤ 8) : Pure (EV gl) 69 [.v (.int .i64 a), .v (.int .i64 b)] (.ret (bsl (digs n s))) := by
  subst ha hb
  refine Pure.mk (fun n => Nf.sl (Nf.bytes _)) fun m => ?_
  refine spec_body (fn := Tryd.f69) (n := 22) (rs := [ResultVar.tmp 4]) (by decide) Tryd.func69 rfl rfl rfl rfl ?_
  refine run_seq ?_
  refine run_region ?_
  refine ops_ret (fn := 0) (a_assign rfl) rfl rfl ?_  -- [0] t4 := Op.assign (#(slice none 0 0))
  refine ops_nil ?_
  refine run_seq ?_
  refine run_region ?_
  refine ops_ret (fn := 0) (a_assign rfl) rfl rfl ?_  -- [0] t5 := Op.assign (#(slice none 0 0))
  refine ops_nil ?_
  refine run_seq ?_
  refine run_seq ?_
  refine run_region ?_
  refine ops_ret (fn := 0) (a_move (y := .v (.int _ _)) rfl) rfl rfl ?_  -- [0] t7 := Op.move (t1)
  refine ops_ret (fn := 0) (a_sub rfl rfl (by first | exact w64 (by omega) | rfl)) rfl rfl ?_  -- [1] t8 := Op.binOp BinOp.sub 3 (t7) (#(int i64 1)) 3
  refine ops_ret (fn := 0) (a_assign (y := .v (.int _ _)) rfl) rfl rfl ?_  -- [2] t6 := Op.assign (t8)
  refine ops_nil ?_
  refine run_block ?_
  refine run_ind (α := Nat) (fun s' φ M => ∃ ψ x acc, φ = updL ψ [(0, .v (.int .i64 n)), (5, x), (6, .v (.int .i64 ((s' : Int) - 1)))] ∧ Acc m M 5 1 (bytesA acc) x ∧ acc ++ digs n s' = digs n s ∧ s' ≤ 8) id s ⟨_, _, [], updL_of _ ⟨rfl, rfl, rfl, trivial⟩, Acc.nil (Ext.mx m []), rfl, hs⟩ ?_
  rintro s' φ M ⟨ψ, x, acc, rfl, hacc, hd, hs'⟩ ih
  obtain ⟨l, rfl⟩ := hacc.1
  refine run_seq ?_
  refine run_seq ?_
  refine run_region ?_
  refine ops_ret (fn := 0) (a_move (y := .v (.int _ _)) rfl) rfl rfl ?_  -- [0] t9 := Op.move (t6)
  refine ops_ret (fn := 0) (a_geq rfl rfl) rfl rfl ?_  -- [1] t10 := Op.binOp BinOp.geq 3 (t9) (#(int i64 0)) 3
  refine ops_nil ?_
  refine run_cond rfl (fun hc => ?_) (fun hc => ?_)
  · have hc' : 0 < s' := by have := of_decide_eq_true hc; omega
    obtain ⟨t, rfl⟩ : ∃ t, s' = t + 1 := ⟨s' - 1, by omega⟩
    have hlen := congrArg List.length hd
    simp only [List.length_append, digs_length] at hlen
    refine run_skip ?_
    refine run_seq ?_
    refine run_block ?_
    refine run_region ?_
    refine ops_ret (fn := 0) (a_move rfl) rfl rfl ?_  -- [0] t13 := Op.move (t5)
    refine ops_ret (fn := 0) (a_move (y := .v (.int _ _)) rfl) rfl rfl ?_  -- [1] t14 := Op.move (t0)
    refine ops_ret (fn := 0) (a_move (y := .v (.int _ _)) rfl) rfl rfl ?_  -- [2] t15 := Op.move (t6)
    refine ops_ret (fn := 0) (a_mul rfl rfl (by first | exact w64 (by omega) | rfl)) rfl rfl ?_  -- [3] t16 := Op.binOp BinOp.mul 3 (#(int i64 8)) (t15) 3
    refine ops_ret (fn := 0) (a_shr rfl rfl (by first | decide | omega) rfl) rfl rfl ?_  -- [4] t17 := Op.binOp BinOp.shr 3 (t14) (t16) 3
    refine ops_ret (fn := 0) (a_conv (show (EV gl).P.underlying 3 = _ from Tryd.underlying3) (show (EV gl).P.underlying 5 = _ from Tryd.underlying5) rfl (byte_of n t _ (by omega) (by omega))) rfl rfl ?_  -- [5] t18 := Op.convert 3 5 (t17)
    refine ops_ret (fn := 0) (x_litb rfl tsl24 tib24 rfl rfl rfl) rfl rfl ?_  -- [6] t19 := Op.buildSlice 24 1 #[(0, t18)]
    refine ops_append 0 1 acc.length rfl tsl24 (show (EV gl).P.underlying 24 = _ from Tryd.underlying24) rfl rfl (hacc.mxs _) rfl rfl rfl rfl (by simp [bytesA]) (by unfold maxBytes; omega) (by unfold maxLen; omega) fun x' M' hacc' _ => ?_  -- [7] t20 := Op.call { callee := Callee.builtin Builtin.append, args := #[t13, t19], argTypes := #[24, 24] }
    refine ops_ret (fn := 0) (a_assign rfl) rfl rfl ?_  -- [8] t5 := Op.assign (t20)
    refine ops_nil ?_
    refine run_inBlock ?_
    refine run_region ?_
    refine ops_ret (fn := 0) (a_move (y := .v (.int _ _)) rfl) rfl rfl ?_  -- [0] t11 := Op.move (t6)
    refine ops_ret (fn := 0) (a_sub rfl rfl (by first | exact w64 (by omega) | rfl)) rfl rfl ?_  -- [1] t12 := Op.binOp BinOp.sub 3 (t11) (#(int i64 1)) 3
    refine ops_ret (fn := 0) (a_assign (y := .v (.int _ _)) rfl) rfl rfl ?_  -- [2] t6 := Op.assign (t12)
    refine ops_nil ?_
    exact ih t _ _ (by simp) ⟨_, x', acc ++ [UInt8.ofNat (n / 256 ^ t)], updL_of _ ⟨rfl, rfl, int_eq (by omega), trivial⟩, by rw [bytesA_append]; exact hacc', by rw [← hd]; simp [digs], by omega⟩
  · have : s' = 0 := by have := of_decide_eq_false hc; omega
    subst this
    refine run_exit rfl ?_
    refine run_seq ?_
    refine run_region ?_
    refine ops_ret (fn := 0) (a_move rfl) rfl rfl ?_  -- [0] t21 := Op.move (t5)
    refine ops_ret (fn := 0) (a_assign rfl) rfl rfl ?_  -- [1] t4 := Op.assign (t21)
    refine ops_nil ?_
    refine run_ret ?_
    refine ⟨_, rfl, ?_, ⟨l, rfl⟩⟩
    simp only [digs, List.append_nil] at hd
    subst hd
    exact hacc.le (by decide) (by simp only [bytesA, List.length_map, Nat.mul_one])
end
end Go.Vm
