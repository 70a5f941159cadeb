/- Layer 2 (octets): a field's bytes; fields as bytes. -/
import Derived.Test.YtmppnmffbmpcpaaDoorOctC
set_option linter.unusedVariables false
set_option linter.unusedSimpArgs false
namespace Go.Vm
open Go.RowKit Go.Proofs
section
variable {gl : Nat → Option (List Value)}

/-- A field's bytes; none: a number is out of its range. -/
def fieldL (c : UInt8) (n : Int) (b : List UInt8) : Option (List UInt8) :=
  if 0 < wideS c then if n < 0 ∨ wideM c < n then none else some (digs n.toNat (wideS c))
  else if (c.toNat = 111 ∧ b.length ≠ 32) ∨ 65535 < b.length then none
  else if c.toNat = 111 then some b else some (digs b.length 2 ++ b)
/-- Bytes, or an error. -/
def resB (r : Option (List UInt8)) (e : Nat) : AV :=
  match r with
  | some l => .tup [bsl l, .v .nilIface]
  | none => .tup [bsl [], .u e]
theorem Nf.resB {n : Nat} (r : Option (List UInt8)) (e : Nat) : Nf n (resB r e) := by
  cases r with
  | some l => exact Nf.tup (by intro x hx; simp only [List.mem_cons, List.mem_nil_iff, or_false] at hx; rcases hx with rfl | rfl; exact Nf.bsl l; exact Nf.v)
  | none => exact Nf.tup (by intro x hx; simp only [List.mem_cons, List.mem_nil_iff, or_false] at hx; rcases hx with rfl | rfl; exact Nf.bsl []; exact Nf.u)

theorem field_ok (c : UInt8) (n : Int) (b : List UInt8) (hn : -9223372036854775808 ≤ n ∧ n ≤ 9223372036854775807) (hb : b.length ≤ 1000000000) :
    Pure (EV gl) 42 [byteA c, .agg (fldA n b)] (.ret (resB (fieldL c n b) 1)) := by
  refine Pure.mk (fun _ => Nf.resB _ _) fun m => ?_
  have hM : ∀ c : UInt8, wideS c ≤ 8 := fun c => by unfold wideS; split <;> (try split) <;> (try split) <;> omega
  refine spec_body (fn := Tryd.f42) (n := 64) (rs := [ResultVar.tmp 4, ResultVar.tmp 5]) (by decide) Tryd.func42 rfl rfl rfl rfl ?_
  refine run_seq ?_
  refine run_region ?_
  refine ops_ret (fn := 0) (x_box rfl rfl rfl) rfl rfl ?_  -- [0] t3 := Op.box 26 (t1)
  refine ops_ret (fn := 0) (a_assign rfl) rfl rfl ?_  -- [1] t4 := Op.assign (#(slice none 0 0))
  refine ops_ret (fn := 0) (a_assign rfl) rfl rfl ?_  -- [2] t5 := Op.assign (#nilIface)
  refine ops_nil ?_
  refine run_seq ?_
  refine run_region ?_
  refine ops_ret (fn := 0) (a_move (y := .v (.int _ _)) rfl) rfl rfl ?_  -- [0] t9 := Op.move (t0)
  refine ops_pure (wide_ok c) ?_  -- [1] t10 := Op.call { callee := Callee.value (Operand.func 68), args := #[t9], argTypes := #[5] }
  refine ops_ret (fn := 0) (a_move rfl) rfl rfl ?_  -- [2] t8 := Op.move (t10)
  refine ops_ret (fn := 0) (a_extract rfl rfl) rfl rfl ?_  -- [3] t11 := Op.extract (t8) 0
  refine ops_ret (fn := 0) (a_extract rfl rfl) rfl rfl ?_  -- [4] t12 := Op.extract (t8) 1
  refine ops_ret (fn := 0) (a_assign (y := .v (.int _ _)) rfl) rfl rfl ?_  -- [5] t6 := Op.assign (t11)
  refine ops_ret (fn := 0) (a_assign (y := .v (.int _ _)) rfl) rfl rfl ?_  -- [6] t7 := Op.assign (t12)
  refine ops_nil ?_
  refine run_seq ?_
  refine run_block ?_
  refine run_seq ?_
  by_cases h0 : 0 < wideS c
  · have g2 : decide (0 < ((wideS c : Nat) : Int)) = true := by simpa using h0
    by_cases h1 : n < 0
    · have g6 : decide (n < 0) = true := by simpa using h1
      refine run_region ?_
      refine ops_ret (fn := 0) (a_move (y := .v (.int _ _)) rfl) rfl rfl ?_  -- [0] t14 := Op.move (t6)
      refine ops_ret (fn := 0) (a_gtr rfl rfl) rfl rfl ?_  -- [1] t15 := Op.binOp BinOp.gtr 3 (t14) (#(int i64 0)) 3
      refine ops_ret (fn := 0) (a_move (y := .v (.bool _)) rfl) rfl rfl ?_  -- [2] t16 := Op.move (t15)
      refine ops_yes (fn := 0) rfl rfl rfl g2 (x_fld tst26 rfl rfl rfl) rfl ?_  -- [3] t17 := Op.fieldAddr 26 (t3) 0
      refine ops_yes (fn := 0) rfl rfl rfl g2 (x_load1 rfl ta3 ts3 rfl rfl rfl) rfl ?_  -- [4] t18 := Op.load 3 (t17)
      refine ops_yes (fn := 0) rfl rfl rfl g2 (a_lss rfl rfl) rfl ?_  -- [5] t19 := Op.binOp BinOp.lss 3 (t18) (#(int i64 0)) 3
      refine ops_yes (fn := 0) rfl rfl rfl g2 (a_move (y := .v (.bool _)) rfl) rfl ?_  -- [6] t20 := Op.move (t19)
      refine ops_not rfl rfl rfl g6 ?_  -- [7] t21 := Op.fieldAddr 26 (t3) 0
      refine ops_not rfl rfl rfl g6 ?_  -- [8] t22 := Op.load 3 (t21)
      refine ops_not rfl rfl rfl g6 ?_  -- [9] t23 := Op.move (t7)
      refine ops_not rfl rfl rfl g6 ?_  -- [10] t24 := Op.binOp BinOp.gtr 3 (t22) (t23) 3
      refine ops_yes (fn := 0) rfl rfl rfl g2 (a_pick_t rfl g6 rfl) rfl ?_  -- [11] t25 := Op.pick (t20) (#(bool true)) (t24)
      refine ops_ret (fn := 0) (a_pick_t rfl g2 rfl) rfl rfl ?_  -- [12] t26 := Op.pick (t16) (t25) (#(bool false))
      refine ops_ret (fn := 0) (a_assign (y := .v (.bool _)) rfl) rfl rfl ?_  -- [13] t13 := Op.assign (t26)
      refine ops_nil ?_
      refine run_cond rfl (fun _ => ?_) (fun h => by cases h)
      refine run_seq ?_
      refine run_draw tmix (by kernel_rfl) ?_
      refine opsd_free (fn := 0) (fun _ => x_load_err ta30 ts30 rfl rfl) rfl rfl rfl ?_  -- [0] t27 := Op.load 30 (Operand.global 1)
      refine opsd_free (fn := 0) (fun _ => a_assign rfl) rfl rfl rfl ?_  -- [1] t4 := Op.assign (#(slice none 0 0))
      refine opsd_free (fn := 0) (fun _ => a_assign rfl) rfl rfl rfl ?_  -- [2] t5 := Op.assign (t27)
      refine opsd_nil (by kernel_rfl) (by kernel_rfl) ?_
      refine ret2 rfl rfl ⟨?_, Ext.mx _ _⟩
      rw [show fieldL c n b = none by simp [fieldL, h0, h1]]
      exact Le.tup2 Le.nil (Le.refl _)
    · have g6 : decide (n < 0) = false := by simpa using h1
      refine run_region ?_
      refine ops_ret (fn := 0) (a_move (y := .v (.int _ _)) rfl) rfl rfl ?_  -- [0] t14 := Op.move (t6)
      refine ops_ret (fn := 0) (a_gtr rfl rfl) rfl rfl ?_  -- [1] t15 := Op.binOp BinOp.gtr 3 (t14) (#(int i64 0)) 3
      refine ops_ret (fn := 0) (a_move (y := .v (.bool _)) rfl) rfl rfl ?_  -- [2] t16 := Op.move (t15)
      refine ops_yes (fn := 0) rfl rfl rfl g2 (x_fld tst26 rfl rfl rfl) rfl ?_  -- [3] t17 := Op.fieldAddr 26 (t3) 0
      refine ops_yes (fn := 0) rfl rfl rfl g2 (x_load1 rfl ta3 ts3 rfl rfl rfl) rfl ?_  -- [4] t18 := Op.load 3 (t17)
      refine ops_yes (fn := 0) rfl rfl rfl g2 (a_lss rfl rfl) rfl ?_  -- [5] t19 := Op.binOp BinOp.lss 3 (t18) (#(int i64 0)) 3
      refine ops_yes (fn := 0) rfl rfl rfl g2 (a_move (y := .v (.bool _)) rfl) rfl ?_  -- [6] t20 := Op.move (t19)
      refine ops_yes (fn := 0) rfl rfl rfl g6 (x_fld tst26 rfl rfl rfl) rfl ?_  -- [7] t21 := Op.fieldAddr 26 (t3) 0
      refine ops_yes (fn := 0) rfl rfl rfl g6 (x_load1 rfl ta3 ts3 rfl rfl rfl) rfl ?_  -- [8] t22 := Op.load 3 (t21)
      refine ops_yes (fn := 0) rfl rfl rfl g6 (a_move (y := .v (.int _ _)) rfl) rfl ?_  -- [9] t23 := Op.move (t7)
      refine ops_yes (fn := 0) rfl rfl rfl g6 (a_gtr rfl rfl) rfl ?_  -- [10] t24 := Op.binOp BinOp.gtr 3 (t22) (t23) 3
      refine ops_yes (fn := 0) rfl rfl rfl g2 (a_pick_f rfl g6 rfl) rfl ?_  -- [11] t25 := Op.pick (t20) (#(bool true)) (t24)
      refine ops_ret (fn := 0) (a_pick_t rfl g2 rfl) rfl rfl ?_  -- [12] t26 := Op.pick (t16) (t25) (#(bool false))
      refine ops_ret (fn := 0) (a_assign (y := .v (.bool _)) rfl) rfl rfl ?_  -- [13] t13 := Op.assign (t26)
      refine ops_nil ?_
      refine run_cond rfl (fun h => ?_) (fun h => ?_)
      · have h2 : wideM c < n := of_decide_eq_true h
        refine run_seq ?_
        refine run_draw tmix (by kernel_rfl) ?_
        refine opsd_free (fn := 0) (fun _ => x_load_err ta30 ts30 rfl rfl) rfl rfl rfl ?_  -- [0] t27 := Op.load 30 (Operand.global 1)
        refine opsd_free (fn := 0) (fun _ => a_assign rfl) rfl rfl rfl ?_  -- [1] t4 := Op.assign (#(slice none 0 0))
        refine opsd_free (fn := 0) (fun _ => a_assign rfl) rfl rfl rfl ?_  -- [2] t5 := Op.assign (t27)
        refine opsd_nil (by kernel_rfl) (by kernel_rfl) ?_
        refine ret2 rfl rfl ⟨?_, Ext.mx _ _⟩
        rw [show fieldL c n b = none by simp [fieldL, h0, h2]]
        exact Le.tup2 Le.nil (Le.refl _)
      · have h2 : ¬ wideM c < n := of_decide_eq_false h
        refine run_seq ?_
        refine run_region ?_
        refine ops_ret (fn := 0) (a_move (y := .v (.int _ _)) rfl) rfl rfl ?_  -- [0] t29 := Op.move (t6)
        refine ops_ret (fn := 0) (a_gtr rfl rfl) rfl rfl ?_  -- [1] t30 := Op.binOp BinOp.gtr 3 (t29) (#(int i64 0)) 3
        refine ops_ret (fn := 0) (a_assign (y := .v (.bool _)) rfl) rfl rfl ?_  -- [2] t28 := Op.assign (t30)
        refine ops_nil ?_
        refine run_cond rfl (fun _ => ?_) (fun h => by rw [g2] at h; cases h)
        refine run_seq ?_
        refine run_region ?_
        refine ops_ret (fn := 0) (x_fld tst26 rfl rfl rfl) rfl rfl ?_  -- [0] t31 := Op.fieldAddr 26 (t3) 0
        refine ops_ret (fn := 0) (x_load1 rfl ta3 ts3 rfl rfl rfl) rfl rfl ?_  -- [1] t32 := Op.load 3 (t31)
        refine ops_ret (fn := 0) (a_move (y := .v (.int _ _)) rfl) rfl rfl ?_  -- [2] t33 := Op.move (t6)
        refine ops_pure (number_ok _ _ n.toNat (wideS c) (by omega) rfl (hM c)) ?_  -- [3] t34 := Op.call { callee := Callee.value (Operand.func 69), args := #[t32, t33], argTypes := #[3, 3] }
        refine ops_ret (fn := 0) (a_assign rfl) rfl rfl ?_  -- [4] t4 := Op.assign (t34)
        refine ops_ret (fn := 0) (a_assign rfl) rfl rfl ?_  -- [5] t5 := Op.assign (#nilIface)
        refine ops_nil ?_
        refine ret2 rfl rfl ⟨?_, Ext.mx _ _⟩
        rw [show fieldL c n b = some (digs n.toNat (wideS c)) by simp [fieldL, h0, h1, h2]]
        exact Le.refl _
  · have g2 : decide (0 < ((wideS c : Nat) : Int)) = false := by simpa using h0
    refine run_region ?_
    refine ops_ret (fn := 0) (a_move (y := .v (.int _ _)) rfl) rfl rfl ?_  -- [0] t14 := Op.move (t6)
    refine ops_ret (fn := 0) (a_gtr rfl rfl) rfl rfl ?_  -- [1] t15 := Op.binOp BinOp.gtr 3 (t14) (#(int i64 0)) 3
    refine ops_ret (fn := 0) (a_move (y := .v (.bool _)) rfl) rfl rfl ?_  -- [2] t16 := Op.move (t15)
    refine ops_not rfl rfl rfl g2 ?_  -- [3] t17 := Op.fieldAddr 26 (t3) 0
    refine ops_not rfl rfl rfl g2 ?_  -- [4] t18 := Op.load 3 (t17)
    refine ops_not rfl rfl rfl g2 ?_  -- [5] t19 := Op.binOp BinOp.lss 3 (t18) (#(int i64 0)) 3
    refine ops_not rfl rfl rfl g2 ?_  -- [6] t20 := Op.move (t19)
    refine ops_und rfl rfl rfl ?_  -- [7] t21 := Op.fieldAddr 26 (t3) 0
    refine ops_und rfl rfl rfl ?_  -- [8] t22 := Op.load 3 (t21)
    refine ops_und rfl rfl rfl ?_  -- [9] t23 := Op.move (t7)
    refine ops_und rfl rfl rfl ?_  -- [10] t24 := Op.binOp BinOp.gtr 3 (t22) (t23) 3
    refine ops_not rfl rfl rfl g2 ?_  -- [11] t25 := Op.pick (t20) (#(bool true)) (t24)
    refine ops_ret (fn := 0) (a_pick_f rfl g2 rfl) rfl rfl ?_  -- [12] t26 := Op.pick (t16) (t25) (#(bool false))
    refine ops_ret (fn := 0) (a_assign (y := .v (.bool _)) rfl) rfl rfl ?_  -- [13] t13 := Op.assign (t26)
    refine ops_nil ?_
    refine run_cond rfl (fun h => by cases h) (fun _ => ?_)
    refine run_seq ?_
    refine run_region ?_
    refine ops_ret (fn := 0) (a_move (y := .v (.int _ _)) rfl) rfl rfl ?_  -- [0] t29 := Op.move (t6)
    refine ops_ret (fn := 0) (a_gtr rfl rfl) rfl rfl ?_  -- [1] t30 := Op.binOp BinOp.gtr 3 (t29) (#(int i64 0)) 3
    refine ops_ret (fn := 0) (a_assign (y := .v (.bool _)) rfl) rfl rfl ?_  -- [2] t28 := Op.assign (t30)
    refine ops_nil ?_
    refine run_cond rfl (fun h => by rw [g2] at h; cases h) (fun _ => ?_)
    refine run_seq ?_
    by_cases h1 : c.toNat = 111
    · have g3 : decide (((c.toNat : Nat) : Int) = 111) = true := decide_eq_true (by omega)
      by_cases h2 : b.length = 32
      · have g8 : (!decide (((b.length : Nat) : Int) = 32)) = false := by rw [decide_eq_true (by omega)]; rfl
        refine run_region ?_
        refine ops_ret (fn := 0) (a_move (y := .v (.int _ _)) rfl) rfl rfl ?_  -- [0] t36 := Op.move (t0)
        refine ops_ret (fn := 0) (a_eql rfl rfl) rfl rfl ?_  -- [1] t37 := Op.binOp BinOp.eql 5 (t36) (#(int u8 111)) 5
        refine ops_ret (fn := 0) (a_move (y := .v (.bool _)) rfl) rfl rfl ?_  -- [2] t38 := Op.move (t37)
        refine ops_yes (fn := 0) rfl rfl rfl g3 (x_fld tst26 rfl rfl rfl) rfl ?_  -- [3] t39 := Op.fieldAddr 26 (t3) 1
        refine ops_yes (fn := 0) rfl rfl rfl g3 (x_load1 rfl ta24 ts24 rfl rfl rfl) rfl ?_  -- [4] t40 := Op.load 24 (t39)
        refine ops_yes (fn := 0) rfl rfl rfl g3 ((by first | exact a_len_sl (show (EV gl).P.underlying 24 = _ from Tryd.underlying24) rfl | exact a_len_ref (show (EV gl).P.underlying 24 = _ from Tryd.underlying24) rfl)) rfl ?_  -- [5] t41 := Op.call { callee := Callee.builtin Builtin.len, args := #[t40], argTypes := #[24] }
        refine ops_yes (fn := 0) rfl rfl rfl g3 (a_neq rfl rfl) rfl ?_  -- [6] t42 := Op.binOp BinOp.neq 3 (t41) (#(int i64 32)) 3
        refine ops_ret (fn := 0) (a_pick_t rfl g3 rfl) rfl rfl ?_  -- [7] t43 := Op.pick (t38) (t42) (#(bool false))
        refine ops_ret (fn := 0) (a_move (y := .v (.bool _)) rfl) rfl rfl ?_  -- [8] t44 := Op.move (t43)
        refine ops_yes (fn := 0) rfl rfl rfl g8 (x_fld tst26 rfl rfl rfl) rfl ?_  -- [9] t45 := Op.fieldAddr 26 (t3) 1
        refine ops_yes (fn := 0) rfl rfl rfl g8 (x_load1 rfl ta24 ts24 rfl rfl rfl) rfl ?_  -- [10] t46 := Op.load 24 (t45)
        refine ops_yes (fn := 0) rfl rfl rfl g8 ((by first | exact a_len_sl (show (EV gl).P.underlying 24 = _ from Tryd.underlying24) rfl | exact a_len_ref (show (EV gl).P.underlying 24 = _ from Tryd.underlying24) rfl)) rfl ?_  -- [11] t47 := Op.call { callee := Callee.builtin Builtin.len, args := #[t46], argTypes := #[24] }
        refine ops_yes (fn := 0) rfl rfl rfl g8 (a_gtr rfl rfl) rfl ?_  -- [12] t48 := Op.binOp BinOp.gtr 3 (t47) (#(int i64 65535)) 3
        refine ops_ret (fn := 0) (a_pick_f rfl g8 rfl) rfl rfl ?_  -- [13] t49 := Op.pick (t44) (#(bool true)) (t48)
        refine ops_ret (fn := 0) (a_assign (y := .v (.bool _)) rfl) rfl rfl ?_  -- [14] t35 := Op.assign (t49)
        refine ops_nil ?_
        refine run_cond rfl (fun h => ?_) (fun _ => ?_)
        · have := of_decide_eq_true h; omega
        refine run_seq ?_
        refine run_region ?_
        refine ops_ret (fn := 0) (a_move (y := .v (.int _ _)) rfl) rfl rfl ?_  -- [0] t52 := Op.move (t0)
        refine ops_ret (fn := 0) (a_eql rfl rfl) rfl rfl ?_  -- [1] t53 := Op.binOp BinOp.eql 5 (t52) (#(int u8 111)) 5
        refine ops_ret (fn := 0) (a_assign (y := .v (.bool _)) rfl) rfl rfl ?_  -- [2] t51 := Op.assign (t53)
        refine ops_nil ?_
        refine run_cond rfl (fun _ => ?_) (fun h => by rw [g3] at h; cases h)
        refine run_seq ?_
        refine run_region ?_
        refine ops_ret (fn := 0) (x_fld tst26 rfl rfl rfl) rfl rfl ?_  -- [0] t54 := Op.fieldAddr 26 (t3) 1
        refine ops_ret (fn := 0) (x_load1 rfl ta24 ts24 rfl rfl rfl) rfl rfl ?_  -- [1] t55 := Op.load 24 (t54)
        refine ops_ret (fn := 0) (a_assign rfl) rfl rfl ?_  -- [2] t4 := Op.assign (t55)
        refine ops_ret (fn := 0) (a_assign rfl) rfl rfl ?_  -- [3] t5 := Op.assign (#nilIface)
        refine ops_nil ?_
        refine ret2 rfl rfl ⟨?_, Ext.mx _ _⟩
        rw [show fieldL c n b = some b by simp [fieldL, h0, h1, h2]]
        exact Le.refl _
      · have g8 : (!decide (((b.length : Nat) : Int) = 32)) = true := by rw [decide_eq_false (by omega)]; rfl
        refine run_region ?_
        refine ops_ret (fn := 0) (a_move (y := .v (.int _ _)) rfl) rfl rfl ?_  -- [0] t36 := Op.move (t0)
        refine ops_ret (fn := 0) (a_eql rfl rfl) rfl rfl ?_  -- [1] t37 := Op.binOp BinOp.eql 5 (t36) (#(int u8 111)) 5
        refine ops_ret (fn := 0) (a_move (y := .v (.bool _)) rfl) rfl rfl ?_  -- [2] t38 := Op.move (t37)
        refine ops_yes (fn := 0) rfl rfl rfl g3 (x_fld tst26 rfl rfl rfl) rfl ?_  -- [3] t39 := Op.fieldAddr 26 (t3) 1
        refine ops_yes (fn := 0) rfl rfl rfl g3 (x_load1 rfl ta24 ts24 rfl rfl rfl) rfl ?_  -- [4] t40 := Op.load 24 (t39)
        refine ops_yes (fn := 0) rfl rfl rfl g3 ((by first | exact a_len_sl (show (EV gl).P.underlying 24 = _ from Tryd.underlying24) rfl | exact a_len_ref (show (EV gl).P.underlying 24 = _ from Tryd.underlying24) rfl)) rfl ?_  -- [5] t41 := Op.call { callee := Callee.builtin Builtin.len, args := #[t40], argTypes := #[24] }
        refine ops_yes (fn := 0) rfl rfl rfl g3 (a_neq rfl rfl) rfl ?_  -- [6] t42 := Op.binOp BinOp.neq 3 (t41) (#(int i64 32)) 3
        refine ops_ret (fn := 0) (a_pick_t rfl g3 rfl) rfl rfl ?_  -- [7] t43 := Op.pick (t38) (t42) (#(bool false))
        refine ops_ret (fn := 0) (a_move (y := .v (.bool _)) rfl) rfl rfl ?_  -- [8] t44 := Op.move (t43)
        refine ops_not rfl rfl rfl g8 ?_  -- [9] t45 := Op.fieldAddr 26 (t3) 1
        refine ops_not rfl rfl rfl g8 ?_  -- [10] t46 := Op.load 24 (t45)
        refine ops_not rfl rfl rfl g8 ?_  -- [11] t47 := Op.call { callee := Callee.builtin Builtin.len, args := #[t46], argTypes := #[24] }
        refine ops_not rfl rfl rfl g8 ?_  -- [12] t48 := Op.binOp BinOp.gtr 3 (t47) (#(int i64 65535)) 3
        refine ops_ret (fn := 0) (a_pick_t rfl g8 rfl) rfl rfl ?_  -- [13] t49 := Op.pick (t44) (#(bool true)) (t48)
        refine ops_ret (fn := 0) (a_assign (y := .v (.bool _)) rfl) rfl rfl ?_  -- [14] t35 := Op.assign (t49)
        refine ops_nil ?_
        refine run_cond rfl (fun _ => ?_) (fun h => by cases h)
        refine run_seq ?_
        refine run_draw tmix (by kernel_rfl) ?_
        refine opsd_free (fn := 0) (fun _ => x_load_err ta30 ts30 rfl rfl) rfl rfl rfl ?_  -- [0] t50 := Op.load 30 (Operand.global 1)
        refine opsd_free (fn := 0) (fun _ => a_assign rfl) rfl rfl rfl ?_  -- [1] t4 := Op.assign (#(slice none 0 0))
        refine opsd_free (fn := 0) (fun _ => a_assign rfl) rfl rfl rfl ?_  -- [2] t5 := Op.assign (t50)
        refine opsd_nil (by kernel_rfl) (by kernel_rfl) ?_
        refine ret2 rfl rfl ⟨?_, Ext.mx _ _⟩
        rw [show fieldL c n b = none by simp [fieldL, h0, h1, h2]]
        exact Le.tup2 Le.nil (Le.refl _)
    · have g3 : decide (((c.toNat : Nat) : Int) = 111) = false := decide_eq_false (by omega)
      refine run_region ?_
      refine ops_ret (fn := 0) (a_move (y := .v (.int _ _)) rfl) rfl rfl ?_  -- [0] t36 := Op.move (t0)
      refine ops_ret (fn := 0) (a_eql rfl rfl) rfl rfl ?_  -- [1] t37 := Op.binOp BinOp.eql 5 (t36) (#(int u8 111)) 5
      refine ops_ret (fn := 0) (a_move (y := .v (.bool _)) rfl) rfl rfl ?_  -- [2] t38 := Op.move (t37)
      refine ops_not rfl rfl rfl g3 ?_  -- [3] t39 := Op.fieldAddr 26 (t3) 1
      refine ops_not rfl rfl rfl g3 ?_  -- [4] t40 := Op.load 24 (t39)
      refine ops_not rfl rfl rfl g3 ?_  -- [5] t41 := Op.call { callee := Callee.builtin Builtin.len, args := #[t40], argTypes := #[24] }
      refine ops_not rfl rfl rfl g3 ?_  -- [6] t42 := Op.binOp BinOp.neq 3 (t41) (#(int i64 32)) 3
      refine ops_ret (fn := 0) (a_pick_f rfl g3 rfl) rfl rfl ?_  -- [7] t43 := Op.pick (t38) (t42) (#(bool false))
      refine ops_ret (fn := 0) (a_move (y := .v (.bool _)) rfl) rfl rfl ?_  -- [8] t44 := Op.move (t43)
      refine ops_yes (fn := 0) rfl rfl rfl rfl (x_fld tst26 rfl rfl rfl) rfl ?_  -- [9] t45 := Op.fieldAddr 26 (t3) 1
      refine ops_yes (fn := 0) rfl rfl rfl rfl (x_load1 rfl ta24 ts24 rfl rfl rfl) rfl ?_  -- [10] t46 := Op.load 24 (t45)
      refine ops_yes (fn := 0) rfl rfl rfl rfl ((by first | exact a_len_sl (show (EV gl).P.underlying 24 = _ from Tryd.underlying24) rfl | exact a_len_ref (show (EV gl).P.underlying 24 = _ from Tryd.underlying24) rfl)) rfl ?_  -- [11] t47 := Op.call { callee := Callee.builtin Builtin.len, args := #[t46], argTypes := #[24] }
      refine ops_yes (fn := 0) rfl rfl rfl rfl (a_gtr rfl rfl) rfl ?_  -- [12] t48 := Op.binOp BinOp.gtr 3 (t47) (#(int i64 65535)) 3
      refine ops_ret (fn := 0) (a_pick_f rfl rfl rfl) rfl rfl ?_  -- [13] t49 := Op.pick (t44) (#(bool true)) (t48)
      refine ops_ret (fn := 0) (a_assign (y := .v (.bool _)) rfl) rfl rfl ?_  -- [14] t35 := Op.assign (t49)
      refine ops_nil ?_
      refine run_cond rfl (fun h => ?_) (fun h => ?_)
      · have h2 : 65535 < b.length := by have := of_decide_eq_true h; omega
        refine run_seq ?_
        refine run_draw tmix (by kernel_rfl) ?_
        refine opsd_free (fn := 0) (fun _ => x_load_err ta30 ts30 rfl rfl) rfl rfl rfl ?_  -- [0] t50 := Op.load 30 (Operand.global 1)
        refine opsd_free (fn := 0) (fun _ => a_assign rfl) rfl rfl rfl ?_  -- [1] t4 := Op.assign (#(slice none 0 0))
        refine opsd_free (fn := 0) (fun _ => a_assign rfl) rfl rfl rfl ?_  -- [2] t5 := Op.assign (t50)
        refine opsd_nil (by kernel_rfl) (by kernel_rfl) ?_
        refine ret2 rfl rfl ⟨?_, Ext.mx _ _⟩
        rw [show fieldL c n b = none by simp [fieldL, h0, h1, h2]]
        exact Le.tup2 Le.nil (Le.refl _)
      · have h2 : ¬ 65535 < b.length := by have := of_decide_eq_false h; omega
        refine run_seq ?_
        refine run_region ?_
        refine ops_ret (fn := 0) (a_move (y := .v (.int _ _)) rfl) rfl rfl ?_  -- [0] t52 := Op.move (t0)
        refine ops_ret (fn := 0) (a_eql rfl rfl) rfl rfl ?_  -- [1] t53 := Op.binOp BinOp.eql 5 (t52) (#(int u8 111)) 5
        refine ops_ret (fn := 0) (a_assign (y := .v (.bool _)) rfl) rfl rfl ?_  -- [2] t51 := Op.assign (t53)
        refine ops_nil ?_
        refine run_cond rfl (fun h => by rw [g3] at h; cases h) (fun _ => ?_)
        refine run_skip ?_
        refine run_inBlock ?_
        refine run_seq ?_
        refine run_draw tmix (by kernel_rfl) ?_
        refine opsd_free (fn := 0) (fun _ => x_fld tst26 rfl rfl rfl) rfl rfl rfl ?_  -- [0] t56 := Op.fieldAddr 26 (t3) 1
        refine opsd_look (fn := 0) (x_load1 rfl ta24 ts24 rfl rfl rfl) rfl rfl rfl ?_  -- [1] t57 := Op.load 24 (t56)
        refine opsd_free (fn := 0) (fun _ => (by first | exact a_len_sl (show (EV gl).P.underlying 24 = _ from Tryd.underlying24) rfl | exact a_len_ref (show (EV gl).P.underlying 24 = _ from Tryd.underlying24) rfl)) rfl rfl rfl ?_  -- [2] t58 := Op.call { callee := Callee.builtin Builtin.len, args := #[t57], argTypes := #[24] }
        refine opsd_pure (number_ok _ _ b.length 2 rfl rfl (by decide)) ?_  -- [3] t59 := Op.call { callee := Callee.value (Operand.func 69), args := #[t58, #(int i64 2)], argTypes := #[3, 3
        refine opsd_free (fn := 0) (fun _ => x_fld tst26 rfl rfl rfl) rfl rfl rfl ?_  -- [4] t60 := Op.fieldAddr 26 (t3) 1
        refine opsd_look (fn := 0) (x_load1 rfl ta24 ts24 rfl rfl rfl) rfl rfl rfl ?_  -- [5] t61 := Op.load 24 (t60)
        refine opsd_free (fn := 0) (fun _ => x_lit tsl52 tib52 rfl rfl rfl) rfl rfl rfl ?_  -- [6] t62 := Op.buildSlice 52 2 #[(0, t59), (1, t61)]
        refine opsd_pure (concat_ok [digs b.length 2, b] (some 2) (by simp) (by simp [digs_length]; unfold maxBytes; omega)) ?_  -- [7] t63 := Op.call { callee := Callee.value (Operand.func 70), args := #[t62], argTypes := #[52] }
        refine opsd_free (fn := 0) (fun _ => a_assign rfl) rfl rfl rfl ?_  -- [8] t4 := Op.assign (t63)
        refine opsd_free (fn := 0) (fun _ => a_assign rfl) rfl rfl rfl ?_  -- [9] t5 := Op.assign (#nilIface)
        refine opsd_nil (by kernel_rfl) (by kernel_rfl) ?_
        refine ret2 rfl rfl ⟨?_, Ext.mx _ _⟩
        rw [show fieldL c n b = some (digs b.length 2 ++ b) by simp [fieldL, h0, h1, h2]]
        simp only [List.flatten_cons, List.flatten_nil, List.append_nil]
        exact Le.refl _

abbrev Fld := Int × List UInt8
def flds (fs : List Fld) : List AV := fs.flatMap fun f => fldA f.1 f.2
theorem flds_length (fs : List Fld) : (flds fs).length = fs.length * 2 := by
  induction fs with
  | nil => rfl
  | cons f r ih => simp only [flds, List.flatMap_cons, List.length_append, List.length_cons] at ih ⊢; rw [ih]; simp only [fldA, List.length_cons, List.length_nil]; omega
theorem flds_at {fs : List Fld} : ∀ {k : Nat} {f : Fld}, fs[k]? = some f → ((flds fs).drop (k * 2)).take 2 = fldA f.1 f.2 := by
  induction fs with
  | nil => intro k f h; simp at h
  | cons g r ih =>
    intro k f h
    cases k with
    | zero =>
      simp only [List.getElem?_cons_zero, Option.some.injEq] at h
      subst h
      rfl
    | succ k =>
      simp only [List.getElem?_cons_succ] at h
      rw [show (k + 1) * 2 = k * 2 + 1 + 1 by omega]
      exact ih h
theorem Nf.flds {n : Nat} (fs : List Fld) : ∀ x ∈ flds fs, Nf n x := by
  intro x hx
  simp only [Go.Vm.flds, List.mem_flatMap] at hx
  obtain ⟨f, _, hf⟩ := hx
  exact Nf.fld _ _ x hf

/-- All fields' bytes. -/
def fieldsL : List UInt8 → List Fld → Option (List UInt8)
  | c :: cs, f :: fs => (fieldL c f.1 f.2).bind fun l => (fieldsL cs fs).map (l ++ ·)
  | _, _ => some []
def writeL (shape : List UInt8) (fs : List Fld) : Except Nat (List UInt8) :=
  if knownL shape = false then .error 0
  else if shape.length ≠ fs.length then .error 1
  else match fieldsL shape fs with
    | none => .error 1
    | some l => .ok l
def exA : Except Nat (List UInt8) → AV
  | .ok l => .tup [bsl l, .v .nilIface]
  | .error e => .tup [bsl [], .u e]
theorem Nf.exA {n : Nat} (r : Except Nat (List UInt8)) : Nf n (exA r) := by
  cases r with
  | ok l => exact Nf.resB (some l) 0
  | error e => exact Nf.resB none e

theorem lk_last {l : AM} {b : AB} : (l ++ [b])[l.length]? = some b := List.getElem?_concat_length
theorem set_last {l : AM} {b c : AB} : (l ++ [b]).set l.length c = l ++ [c] := by
  rw [List.set_append_right _ _ (Nat.le_refl _), Nat.sub_self]; rfl

theorem fieldL_len {c : UInt8} {n : Int} {b l : List UInt8} (h : fieldL c n b = some l) (hb : b.length ≤ 1000000) : l.length ≤ 1000010 := by
  unfold fieldL at h
  have hw : wideS c ≤ 8 := by unfold wideS; split <;> (try split) <;> (try split) <;> omega
  split at h
  · split at h
    · cases h
    · obtain rfl := Option.some.inj h
      rw [digs_length]; omega
  · split at h
    · cases h
    · split at h
      · obtain rfl := Option.some.inj h
        omega
      · obtain rfl := Option.some.inj h
        rw [List.length_append, digs_length]; omega

theorem write_ok (shape : List UInt8) (fs : List Fld) (cap : Option Nat) (hs : shape.length ≤ 10000) (hfs : fs.length ≤ 10000) (hn : ∀ f ∈ fs, (-9223372036854775808 ≤ f.1 ∧ f.1 ≤ 9223372036854775807) ∧ f.2.length ≤ 1000000) :
    Pure (EV gl) 13 [.v (.string (bstr shape)), .sl (flds fs) 2 fs.length cap none] (.ret (exA (writeL shape fs))) := by
  refine Pure.mk (fun _ => Nf.exA _) fun m => ?_
  refine spec_body (fn := Tryd.f13) (n := 46) (rs := [ResultVar.tmp 4, ResultVar.tmp 5]) (by decide) Tryd.func13 rfl rfl rfl rfl ?_
  refine run_seq ?_
  refine run_region ?_
  refine ops_ret (fn := 0) (a_assign rfl) rfl rfl ?_  -- [0] t4 := Op.assign (#(slice none 0 0))
  refine ops_ret (fn := 0) (a_assign rfl) rfl rfl ?_  -- [1] t5 := Op.assign (#nilIface)
  refine ops_nil ?_
  refine run_seq ?_
  refine run_block ?_
  refine run_seq ?_
  refine run_region ?_
  refine ops_ret (fn := 0) (a_move (y := .v (.string (bstr _))) rfl) rfl rfl ?_  -- [0] t12 := Op.move (t0)
  refine ops_pure (known_ok shape (by omega)) ?_  -- [1] t13 := Op.call { callee := Callee.value (Operand.func 41), args := #[t12], argTypes := #[9] }
  refine ops_ret (fn := 0) (a_not rfl) rfl rfl ?_  -- [2] t14 := Op.unOp UnOp.not 4 (t13)
  refine ops_ret (fn := 0) (a_assign (y := .v (.bool _)) rfl) rfl rfl ?_  -- [3] t11 := Op.assign (t14)
  refine ops_nil ?_
  cases hk : knownL shape with
  | false =>
    refine run_cond rfl (fun _ => ?_) (fun h => by cases h)
    refine run_seq ?_
    refine run_draw tmix (by kernel_rfl) ?_
    refine opsd_free (fn := 0) (fun _ => x_load_err ta30 ts30 rfl rfl) rfl rfl rfl ?_  -- [0] t15 := Op.load 30 (Operand.global 0)
    refine opsd_free (fn := 0) (fun _ => a_assign rfl) rfl rfl rfl ?_  -- [1] t4 := Op.assign (#(slice none 0 0))
    refine opsd_free (fn := 0) (fun _ => a_assign rfl) rfl rfl rfl ?_  -- [2] t5 := Op.assign (t15)
    refine opsd_nil (by kernel_rfl) (by kernel_rfl) ?_
    refine ret2 rfl rfl ⟨?_, Ext.mx _ _⟩
    simp only [writeL, hk, if_true]
    exact Le.tup2 Le.nil (Le.refl _)
  | true =>
  refine run_cond rfl (fun h => by cases h) (fun _ => ?_)
  refine run_seq ?_
  refine run_region ?_
  refine ops_ret (fn := 0) (a_move (y := .v (.string (bstr _))) rfl) rfl rfl ?_  -- [0] t17 := Op.move (t0)
  refine ops_ret (fn := 0) (x_len_str (show (EV gl).P.underlying 9 = _ from Tryd.underlying9) rfl) rfl rfl ?_  -- [1] t18 := Op.call { callee := Callee.builtin Builtin.len, args := #[t17], argTypes := #[9] }
  refine ops_ret (fn := 0) (a_move rfl) rfl rfl ?_  -- [2] t19 := Op.move (t1)
  refine ops_ret (fn := 0) ((by first | exact a_len_sl (show (EV gl).P.underlying 22 = _ from Tryd.underlying22) rfl | exact a_len_ref (show (EV gl).P.underlying 22 = _ from Tryd.underlying22) rfl)) rfl rfl ?_  -- [3] t20 := Op.call { callee := Callee.builtin Builtin.len, args := #[t19], argTypes := #[22] }
  refine ops_ret (fn := 0) (a_neq rfl rfl) rfl rfl ?_  -- [4] t21 := Op.binOp BinOp.neq 3 (t18) (t20) 3
  refine ops_ret (fn := 0) (a_assign (y := .v (.bool _)) rfl) rfl rfl ?_  -- [5] t16 := Op.assign (t21)
  refine ops_nil ?_
  refine run_cond rfl (fun h => ?_) (fun h => ?_)
  · have hne : shape.length ≠ fs.length := fun e => by
      rw [decide_eq_true (by omega)] at h; cases h
    refine run_seq ?_
    refine run_draw tmix (by kernel_rfl) ?_
    refine opsd_free (fn := 0) (fun _ => x_load_err ta30 ts30 rfl rfl) rfl rfl rfl ?_  -- [0] t22 := Op.load 30 (Operand.global 1)
    refine opsd_free (fn := 0) (fun _ => a_assign rfl) rfl rfl rfl ?_  -- [1] t4 := Op.assign (#(slice none 0 0))
    refine opsd_free (fn := 0) (fun _ => a_assign rfl) rfl rfl rfl ?_  -- [2] t5 := Op.assign (t22)
    refine opsd_nil (by kernel_rfl) (by kernel_rfl) ?_
    refine ret2 rfl rfl ⟨?_, Ext.mx _ _⟩
    simp only [writeL, hk, Bool.true_eq_false, if_false, if_pos hne]
    exact Le.tup2 Le.nil (Le.refl _)
  have heq : shape.length = fs.length := by
    refine Classical.byContradiction fun hne => ?_
    rw [decide_eq_false (by omega)] at h
    cases h
  have hw : writeL shape fs = match fieldsL shape fs with | none => .error 1 | some l => .ok l := by
    simp only [writeL, hk, Bool.true_eq_false, if_false, if_neg (fun h : shape.length ≠ fs.length => h heq)]
  rw [hw]
  refine run_skip ?_
  refine run_inBlock ?_
  refine run_seq ?_
  refine run_region ?_
  refine ops_ret (fn := 0) (a_assign rfl) rfl rfl ?_  -- [0] t6 := Op.assign (#(slice none 0 0))
  refine ops_nil ?_
  refine run_seq ?_
  refine run_seq ?_
  refine run_region ?_
  refine ops_ret (fn := 0) (a_move rfl) rfl rfl ?_  -- [0] t23 := Op.move (t1)
  refine ops_ret (fn := 0) ((by first | exact a_len_sl (show (EV gl).P.underlying 22 = _ from Tryd.underlying22) rfl | exact a_len_ref (show (EV gl).P.underlying 22 = _ from Tryd.underlying22) rfl)) rfl rfl ?_  -- [1] t24 := Op.call { callee := Callee.builtin Builtin.len, args := #[t23], argTypes := #[22] }
  refine ops_ret (fn := 0) (a_move (y := .v (.int _ _)) rfl) rfl rfl ?_  -- [2] t25 := Op.move (#(int i64 0))
  refine ops_nil ?_
  refine run_block ?_
  refine run_ind (α := Nat) (fun k φ M' => ∃ ψ x acc, φ = updL ψ [(0, .v (.string (bstr shape))), (6, x), (23, .sl (flds fs) 2 fs.length cap none), (24, .v (.int .i64 (fs.length : Nat))), (25, .v (.int .i64 (k : Nat)))] ∧ Acc m M' 5 1 (bytesA acc) x ∧ k ≤ fs.length ∧ acc.length ≤ k * 1000010 ∧ fieldsL shape fs = (fieldsL (shape.drop k) (fs.drop k)).map (acc ++ ·)) (fun k => fs.length - k) 0 ⟨_, _, [], updL_of _ ⟨rfl, rfl, rfl, rfl, rfl, trivial⟩, Acc.nil (Ext.mx m []), Nat.zero_le _, Nat.zero_le _, by simp⟩ ?_
  rintro k φ M' ⟨ψ, x, acc, rfl, hacc, hkl, hal, hfl⟩ ih
  obtain ⟨l, rfl⟩ := hacc.1
  refine run_seq ?_
  refine run_region ?_
  refine ops_ret (fn := 0) (a_lss rfl rfl) rfl rfl ?_  -- [0] t26 := Op.binOp BinOp.lss 3 (t25) (t24) 3
  refine ops_nil ?_
  refine run_seq ?_
  refine run_cond rfl (fun hc => ?_) (fun hc => ?_)
  · have hlt : k < fs.length := by have := of_decide_eq_true hc; omega
    obtain ⟨⟨n, b⟩, hf⟩ : ∃ f, fs[k]? = some f := ⟨_, List.getElem?_eq_getElem hlt⟩
    obtain ⟨c, hcc⟩ : ∃ c, shape[k]? = some c := ⟨_, List.getElem?_eq_getElem (by omega)⟩
    obtain ⟨hn1, hn2⟩ := hn _ (List.mem_of_getElem? hf)
    have hdf : fs.drop k = (n, b) :: fs.drop (k + 1) := by
      obtain ⟨h1, h2⟩ := List.getElem?_eq_some_iff.1 hf
      rw [List.drop_eq_getElem_cons h1, h2]
    have hdc : shape.drop k = c :: shape.drop (k + 1) := by
      obtain ⟨h1, h2⟩ := List.getElem?_eq_some_iff.1 hcc
      rw [List.drop_eq_getElem_cons h1, h2]
    have hfo := field_ok (gl := gl) c n b hn1 (by simp only at hn2; omega)
    rw [hdf, hdc] at hfl
    simp only [fieldsL] at hfl
    refine run_skip ?_
    refine run_seq ?_
    refine run_block ?_
    refine run_seq ?_
    refine run_region ?_
    refine ops_ret (fn := 0) (a_move (y := .v (.int _ _)) rfl) rfl rfl ?_  -- [0] t27 := Op.move (t25)
    refine ops_ret (fn := 0) (x_idx_sl (show (EV gl).P.underlying 22 = _ from Tryd.underlying22) ts26 (by decide) rfl rfl rfl hlt (by rw [flds_length]; exact Nat.le_refl _) (flds_at hf)) rfl rfl ?_  -- [1] t28 := Op.indexAddr 22 (t23) (t25)
    refine ops_ret (fn := 0) (x_load_ep2 ta26 ts26 rfl rfl rfl) rfl rfl ?_  -- [2] t29 := Op.load 26 (t28)
    refine ops_ret (fn := 0) (x_alloc rfl tz26 rfl) rfl rfl ?_  -- [3] t8 := Op.alloc 26
    refine ops_ret (fn := 0) (a_assign (y := .v (.int _ _)) rfl) rfl rfl ?_  -- [4] t7 := Op.assign (t27)
    refine ops_ret (fn := 0) (x_store rfl ts26 rfl lk_last rfl rfl rfl rfl rfl rfl) rfl rfl ?_  -- [5] none := Op.store 26 (t8) (t29)
    refine ops_nil ?_
    rw [set_last]
    refine run_seq ?_
    cases hfc : fieldL c n b with
    | none =>
      rw [hfc] at hfo hfl
      refine run_draw tmix (by kernel_rfl) ?_
      refine opsd_free (fn := 0) (fun _ => a_move (y := .v (.string (bstr _))) rfl) rfl rfl rfl ?_  -- [0] t31 := Op.move (t0)
      refine opsd_free (fn := 0) (fun _ => a_move (y := .v (.int _ _)) rfl) rfl rfl rfl ?_  -- [1] t32 := Op.move (t7)
      refine opsd_free (fn := 0) (fun _ => a_index_str (show (EV gl).P.underlying 9 = _ from Tryd.underlying9) rfl rfl rfl hcc) rfl rfl rfl ?_  -- [2] t33 := Op.index 9 (t31) (t32)
      refine opsd_look (fn := 0) (x_load2 rfl ta26 ts26 rfl lk_last rfl rfl) rfl rfl rfl ?_  -- [3] t34 := Op.load 26 (t8)
      refine opsd_pure hfo ?_  -- [4] t35 := Op.call { callee := Callee.value (Operand.func 42), args := #[t33, t34], argTypes := #[5, 26] }
      refine opsd_free (fn := 0) (fun _ => a_move rfl) rfl rfl rfl ?_  -- [5] t30 := Op.move (t35)
      refine opsd_free (fn := 0) (fun _ => a_extract rfl rfl) rfl rfl rfl ?_  -- [6] t36 := Op.extract (t30) 0
      refine opsd_free (fn := 0) (fun _ => a_extract rfl rfl) rfl rfl rfl ?_  -- [7] t37 := Op.extract (t30) 1
      refine opsd_free (fn := 0) (fun _ => a_assign rfl) rfl rfl rfl ?_  -- [8] t9 := Op.assign (t36)
      refine opsd_free (fn := 0) (fun _ => a_assign rfl) rfl rfl rfl ?_  -- [9] t10 := Op.assign (t37)
      refine opsd_nil (by kernel_rfl) (by kernel_rfl) ?_
      refine run_seq ?_
      refine run_seq ?_
      refine run_region ?_
      refine ops_ret (fn := 0) (a_move rfl) rfl rfl ?_  -- [0] t38 := Op.move (t10)
      refine ops_ret (fn := 0) ((by first | exact a_nequ rfl (show (EV gl).P.underlying 30 = _ from Tryd.underlying30) rfl rfl | exact a_neqn (show (EV gl).P.underlying 30 = _ from Tryd.underlying30) rfl rfl rfl)) rfl rfl ?_  -- [1] t39 := Op.binOp BinOp.neq 30 (t38) (#nilIface) 30
      refine ops_nil ?_
      refine run_cond rfl (fun _ => ?_) (fun h => by cases h)
      refine run_seq ?_
      refine run_region ?_
      refine ops_ret (fn := 0) (a_move rfl) rfl rfl ?_  -- [0] t40 := Op.move (t10)
      refine ops_ret (fn := 0) (a_assign rfl) rfl rfl ?_  -- [1] t4 := Op.assign (#(slice none 0 0))
      refine ops_ret (fn := 0) (a_assign rfl) rfl rfl ?_  -- [2] t5 := Op.assign (t40)
      refine ops_nil ?_
      refine ret2 rfl rfl ⟨?_, Ext.mx _ _⟩
      rw [hfl]
      exact Le.tup2 Le.nil (Le.refl _)
    | some s =>
      rw [hfc] at hfo hfl
      have hsl := fieldL_len hfc hn2
      refine run_draw tmix (by kernel_rfl) ?_
      refine opsd_free (fn := 0) (fun _ => a_move (y := .v (.string (bstr _))) rfl) rfl rfl rfl ?_  -- [0] t31 := Op.move (t0)
      refine opsd_free (fn := 0) (fun _ => a_move (y := .v (.int _ _)) rfl) rfl rfl rfl ?_  -- [1] t32 := Op.move (t7)
      refine opsd_free (fn := 0) (fun _ => a_index_str (show (EV gl).P.underlying 9 = _ from Tryd.underlying9) rfl rfl rfl hcc) rfl rfl rfl ?_  -- [2] t33 := Op.index 9 (t31) (t32)
      refine opsd_look (fn := 0) (x_load2 rfl ta26 ts26 rfl lk_last rfl rfl) rfl rfl rfl ?_  -- [3] t34 := Op.load 26 (t8)
      refine opsd_pure hfo ?_  -- [4] t35 := Op.call { callee := Callee.value (Operand.func 42), args := #[t33, t34], argTypes := #[5, 26] }
      refine opsd_free (fn := 0) (fun _ => a_move rfl) rfl rfl rfl ?_  -- [5] t30 := Op.move (t35)
      refine opsd_free (fn := 0) (fun _ => a_extract rfl rfl) rfl rfl rfl ?_  -- [6] t36 := Op.extract (t30) 0
      refine opsd_free (fn := 0) (fun _ => a_extract rfl rfl) rfl rfl rfl ?_  -- [7] t37 := Op.extract (t30) 1
      refine opsd_free (fn := 0) (fun _ => a_assign rfl) rfl rfl rfl ?_  -- [8] t9 := Op.assign (t36)
      refine opsd_free (fn := 0) (fun _ => a_assign rfl) rfl rfl rfl ?_  -- [9] t10 := Op.assign (t37)
      refine opsd_nil (by kernel_rfl) (by kernel_rfl) ?_
      refine run_seq ?_
      refine run_seq ?_
      refine run_region ?_
      refine ops_ret (fn := 0) (a_move rfl) rfl rfl ?_  -- [0] t38 := Op.move (t10)
      refine ops_ret (fn := 0) ((by first | exact a_nequ rfl (show (EV gl).P.underlying 30 = _ from Tryd.underlying30) rfl rfl | exact a_neqn (show (EV gl).P.underlying 30 = _ from Tryd.underlying30) rfl rfl rfl)) rfl rfl ?_  -- [1] t39 := Op.binOp BinOp.neq 30 (t38) (#nilIface) 30
      refine ops_nil ?_
      refine run_cond rfl (fun h => by cases h) (fun _ => ?_)
      refine run_skip ?_
      refine run_region ?_
      refine ops_ret (fn := 0) (a_move rfl) rfl rfl ?_  -- [0] t41 := Op.move (t6)
      refine ops_ret (fn := 0) (a_move rfl) rfl rfl ?_  -- [1] t42 := Op.move (t9)
      refine ops_append 0 s.length acc.length rfl tsl24 (show (EV gl).P.underlying 24 = _ from Tryd.underlying24) rfl rfl (hacc.mxs _) (source_bsl s) rfl (by simp [bytesA]) (bytesA_one s) (by simp only [bytesA, List.length_map]; omega) (by unfold maxBytes; omega) (by unfold maxLen; omega) fun x' M'' hacc' _ => ?_  -- [2] t43 := Op.call { callee := Callee.builtin Builtin.append, args := #[t41, t42], argTypes := #[24, 24] }
      refine ops_ret (fn := 0) (a_assign rfl) rfl rfl ?_  -- [3] t6 := Op.assign (t43)
      refine ops_nil ?_
      refine run_inBlock ?_
      refine run_region ?_
      refine ops_ret (fn := 0) (a_add rfl rfl (by first | exact w64 (by omega) | rfl)) rfl rfl ?_  -- [0] t44 := Op.binOp BinOp.add 3 (t25) (#(int i64 1)) 3
      refine ops_ret (fn := 0) (a_move (y := .v (.int _ _)) rfl) rfl rfl ?_  -- [1] t25 := Op.move (t44)
      refine ops_nil ?_
      refine ih (k + 1) _ _ (by omega) ⟨_, _, acc ++ s, updL_of _ ⟨rfl, rfl, rfl, rfl, int_eq (by omega), trivial⟩, by rw [bytesA_append]; exact hacc', hlt, by rw [List.length_append]; omega, ?_⟩
      rw [hfl]
      simp only [Option.bind_some, Option.map_map]
      congr 1
      funext z
      simp
  · have hge : k = fs.length := by have := of_decide_eq_false hc; omega
    subst hge
    rw [List.drop_length, ← heq, List.drop_length] at hfl
    simp only [fieldsL, Option.map_some, List.append_nil] at hfl
    refine run_exit rfl ?_
    refine run_seq ?_
    refine run_region ?_
    refine ops_ret (fn := 0) (a_move rfl) rfl rfl ?_  -- [0] t45 := Op.move (t6)
    refine ops_ret (fn := 0) (a_assign rfl) rfl rfl ?_  -- [1] t4 := Op.assign (t45)
    refine ops_ret (fn := 0) (a_assign rfl) rfl rfl ?_  -- [2] t5 := Op.assign (#nilIface)
    refine ops_nil ?_
    refine ret2 rfl rfl ⟨?_, Ext.mx _ _⟩
    rw [hfl]
    exact Le.tup2 (hacc.le (by decide) (by simp only [bytesA, List.length_map, Nat.mul_one])) (Le.refl _)
end
end Go.Vm
