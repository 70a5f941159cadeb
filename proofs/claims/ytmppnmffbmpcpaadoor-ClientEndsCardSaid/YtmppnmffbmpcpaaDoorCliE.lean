/- Layer 21: contracts for a client's steps: Hear, Tick. -/
import Derived.Test.YtmppnmffbmpcpaaDoorCliD
set_option linter.unusedVariables false
set_option linter.unusedSimpArgs false
namespace Go.Vm
open Go.RowKit Go.Proofs

def mineL (c : Cli) (M : Msg) : Prop := c.waits = true ∧ M.kind = 3 ∧ M.client = c.id ∧ M.number = c.number
instance (c : Cli) (M : Msg) : Decidable (mineL c M) := by unfold mineL; infer_instance
def hearL (c : Cli) (M : Msg) : Cli × Bool :=
  if mineL c M then
    if M.answer = 9 ∧ c.done < 3 then ({ c with refused := true }, false) else (overL c M.answer M, true)
  else (c, false)
def tickL (c : Cli) (n : Int) : Cli × List Msg × Bool :=
  if (0 ≤ n ∧ n ≤ 1099511627776) ∧ c.waits = true ∧ ¬ n < c.due then
    if c.done < 3 then (tryL c n, [c.request], false) else if c.refused = true then (overL c 9 zM, [], true) else (overL c 10 zM, [], true)
  else (c, [], false)

section
variable {gl : Nat → Option (List Value)}

set_option maxHeartbeats 2000000 in
theorem hear_ok (c : Cli) (M : Msg) : Pure (EV gl) 31 [.agg (cliA c), .agg (msgA M)] (.ret (.tup [.agg (cliA (hearL c M).1), .v (.bool (hearL c M).2)])) := by
  refine Pure.mk (fun _ => Nf.tup2 (Nf.cliA _) Nf.v) fun m => ?_
  refine spec_body (fn := Tryd.f31) (n := 48) (rs := [ResultVar.cell 4 56, ResultVar.tmp 5]) (by decide) Tryd.func31 rfl rfl rfl rfl ?_
  refine run_seq ?_
  refine run_region ?_
  refine ops_ret (fn := 0) (x_box rfl rfl rfl) rfl rfl ?_  -- [0] t2 := Op.box 56 (t0)
  refine ops_ret (fn := 0) (x_box rfl rfl rfl) rfl rfl ?_  -- [1] t3 := Op.box 54 (t1)
  refine ops_ret (fn := 0) (x_alloc rfl tz56 rfl) rfl rfl ?_  -- [2] t4 := Op.alloc 56
  refine ops_ret (fn := 0) (a_assign (y := .v (.bool _)) rfl) rfl rfl ?_  -- [3] t5 := Op.assign (#(bool false))
  refine ops_nil ?_
  refine run_seq ?_
  refine run_region ?_
  refine ops_ret (fn := 0) (x_fld tst56 rfl rfl rfl) rfl rfl ?_  -- [0] t7 := Op.fieldAddr 56 (t2) 2
  refine ops_ret (fn := 0) (x_load1 rfl ta4 ts4 rfl rfl rfl) rfl rfl ?_  -- [1] t8 := Op.load 4 (t7)
  refine ops_ret (fn := 0) (a_move (y := .v (.bool _)) rfl) rfl rfl ?_  -- [2] t9 := Op.move (t8)
  refine ops_splitF (t := 9) rfl (fun hg2 => ?_) (fun hg2 => ?_)
  · refine ops_not rfl rfl rfl rfl ?_
    refine ops_not rfl rfl rfl rfl ?_
    refine ops_not rfl rfl rfl rfl ?_
    refine ops_ret (fn := 0) (a_pick_f rfl rfl rfl) rfl rfl ?_  -- [6] t13 := Op.pick (t9) (t12) (#(bool false))
    refine ops_ret (fn := 0) (a_move (y := .v (.bool _)) rfl) rfl rfl ?_  -- [7] t14 := Op.move (t13)
    refine ops_not rfl rfl rfl rfl ?_
    refine ops_not rfl rfl rfl rfl ?_
    refine ops_not rfl rfl rfl rfl ?_
    refine ops_not rfl rfl rfl rfl ?_
    refine ops_not rfl rfl rfl rfl ?_
    refine ops_ret (fn := 0) (a_pick_f rfl rfl rfl) rfl rfl ?_  -- [13] t20 := Op.pick (t14) (t19) (#(bool false))
    refine ops_ret (fn := 0) (a_move (y := .v (.bool _)) rfl) rfl rfl ?_  -- [14] t21 := Op.move (t20)
    refine ops_not rfl rfl rfl rfl ?_
    refine ops_not rfl rfl rfl rfl ?_
    refine ops_not rfl rfl rfl rfl ?_
    refine ops_not rfl rfl rfl rfl ?_
    refine ops_not rfl rfl rfl rfl ?_
    refine ops_ret (fn := 0) (a_pick_f rfl rfl rfl) rfl rfl ?_  -- [20] t27 := Op.pick (t21) (t26) (#(bool false))
    refine ops_ret (fn := 0) (a_assign (y := .v (.bool _)) rfl) rfl rfl ?_  -- [21] t6 := Op.assign (t27)
    refine ops_nil ?_
    refine run_seq ?_
    refine run_block ?_
    refine run_seq ?_
    refine run_region ?_
    refine ops_ret (fn := 0) (a_move (y := .v (.bool _)) rfl) rfl rfl ?_  -- [0] t29 := Op.move (t6)
    refine ops_ret (fn := 0) (a_not rfl) rfl rfl ?_  -- [1] t30 := Op.unOp UnOp.not 4 (t29)
    refine ops_ret (fn := 0) (a_assign (y := .v (.bool _)) rfl) rfl rfl ?_  -- [2] t28 := Op.assign (t30)
    refine ops_nil ?_
    refine run_cond rfl (fun _ => ?_) (fun h => by cases h)
    refine run_seq ?_
    refine run_region ?_
    refine ops_ret (fn := 0) ((by first | exact x_load2 rfl ta56 ts56 rfl rfl rfl rfl | exact x_load_ep2 ta56 ts56 rfl rfl rfl)) rfl rfl ?_  -- [0] t31 := Op.load 56 (t2)
    refine ops_ret (fn := 0) (x_store rfl ts56 rfl rfl rfl rfl rfl rfl rfl rfl) rfl rfl ?_  -- [1] none := Op.store 56 (t4) (t31)
    refine ops_ret (fn := 0) (a_assign (y := .v (.bool _)) rfl) rfl rfl ?_  -- [2] t5 := Op.assign (#(bool false))
    refine ops_nil ?_
    have hn : ¬ mineL c M := fun ⟨h1, h2, h3, h4⟩ => by simp [h1, h2, h3, h4] at hg2
    rw [show hearL c M = (c, false) by simp only [hearL, if_neg hn]]
    exact retc2 rfl (al2 rfl ta56 ts56 rfl rfl rfl) rfl ⟨Le.refl _, Ext.mx _ _⟩
  refine ops_yes (fn := 0) rfl rfl rfl rfl (x_fld tst54 rfl rfl rfl) rfl ?_  -- [3] t10 := Op.fieldAddr 54 (t3) 0
  refine ops_yes (fn := 0) rfl rfl rfl rfl (x_load1 rfl ta3 ts3 rfl rfl rfl) rfl ?_  -- [4] t11 := Op.load 3 (t10)
  refine ops_yes (fn := 0) rfl rfl rfl rfl (a_eql rfl rfl) rfl ?_  -- [5] t12 := Op.binOp BinOp.eql 3 (t11) (#(int i64 3)) 3
  refine ops_ret (fn := 0) (a_pick_t rfl rfl rfl) rfl rfl ?_  -- [6] t13 := Op.pick (t9) (t12) (#(bool false))
  refine ops_ret (fn := 0) (a_move (y := .v (.bool _)) rfl) rfl rfl ?_  -- [7] t14 := Op.move (t13)
  refine ops_splitF (t := 14) rfl (fun hg7 => ?_) (fun hg7 => ?_)
  · refine ops_not rfl rfl rfl rfl ?_
    refine ops_not rfl rfl rfl rfl ?_
    refine ops_not rfl rfl rfl rfl ?_
    refine ops_not rfl rfl rfl rfl ?_
    refine ops_not rfl rfl rfl rfl ?_
    refine ops_ret (fn := 0) (a_pick_f rfl rfl rfl) rfl rfl ?_  -- [13] t20 := Op.pick (t14) (t19) (#(bool false))
    refine ops_ret (fn := 0) (a_move (y := .v (.bool _)) rfl) rfl rfl ?_  -- [14] t21 := Op.move (t20)
    refine ops_not rfl rfl rfl rfl ?_
    refine ops_not rfl rfl rfl rfl ?_
    refine ops_not rfl rfl rfl rfl ?_
    refine ops_not rfl rfl rfl rfl ?_
    refine ops_not rfl rfl rfl rfl ?_
    refine ops_ret (fn := 0) (a_pick_f rfl rfl rfl) rfl rfl ?_  -- [20] t27 := Op.pick (t21) (t26) (#(bool false))
    refine ops_ret (fn := 0) (a_assign (y := .v (.bool _)) rfl) rfl rfl ?_  -- [21] t6 := Op.assign (t27)
    refine ops_nil ?_
    refine run_seq ?_
    refine run_block ?_
    refine run_seq ?_
    refine run_region ?_
    refine ops_ret (fn := 0) (a_move (y := .v (.bool _)) rfl) rfl rfl ?_  -- [0] t29 := Op.move (t6)
    refine ops_ret (fn := 0) (a_not rfl) rfl rfl ?_  -- [1] t30 := Op.unOp UnOp.not 4 (t29)
    refine ops_ret (fn := 0) (a_assign (y := .v (.bool _)) rfl) rfl rfl ?_  -- [2] t28 := Op.assign (t30)
    refine ops_nil ?_
    refine run_cond rfl (fun _ => ?_) (fun h => by cases h)
    refine run_seq ?_
    refine run_region ?_
    refine ops_ret (fn := 0) ((by first | exact x_load2 rfl ta56 ts56 rfl rfl rfl rfl | exact x_load_ep2 ta56 ts56 rfl rfl rfl)) rfl rfl ?_  -- [0] t31 := Op.load 56 (t2)
    refine ops_ret (fn := 0) (x_store rfl ts56 rfl rfl rfl rfl rfl rfl rfl rfl) rfl rfl ?_  -- [1] none := Op.store 56 (t4) (t31)
    refine ops_ret (fn := 0) (a_assign (y := .v (.bool _)) rfl) rfl rfl ?_  -- [2] t5 := Op.assign (#(bool false))
    refine ops_nil ?_
    have hn : ¬ mineL c M := fun ⟨h1, h2, h3, h4⟩ => by simp [h1, h2, h3, h4] at hg7
    rw [show hearL c M = (c, false) by simp only [hearL, if_neg hn]]
    exact retc2 rfl (al2 rfl ta56 ts56 rfl rfl rfl) rfl ⟨Le.refl _, Ext.mx _ _⟩
  refine ops_yes (fn := 0) rfl rfl rfl rfl (x_fld tst54 rfl rfl rfl) rfl ?_  -- [8] t15 := Op.fieldAddr 54 (t3) 1
  refine ops_yes (fn := 0) rfl rfl rfl rfl (x_load1 rfl ta3 ts3 rfl rfl rfl) rfl ?_  -- [9] t16 := Op.load 3 (t15)
  refine ops_yes (fn := 0) rfl rfl rfl rfl (x_fld tst56 rfl rfl rfl) rfl ?_  -- [10] t17 := Op.fieldAddr 56 (t2) 0
  refine ops_yes (fn := 0) rfl rfl rfl rfl (x_load1 rfl ta3 ts3 rfl rfl rfl) rfl ?_  -- [11] t18 := Op.load 3 (t17)
  refine ops_yes (fn := 0) rfl rfl rfl rfl (a_eql rfl rfl) rfl ?_  -- [12] t19 := Op.binOp BinOp.eql 3 (t16) (t18) 3
  refine ops_ret (fn := 0) (a_pick_t rfl rfl rfl) rfl rfl ?_  -- [13] t20 := Op.pick (t14) (t19) (#(bool false))
  refine ops_ret (fn := 0) (a_move (y := .v (.bool _)) rfl) rfl rfl ?_  -- [14] t21 := Op.move (t20)
  refine ops_splitF (t := 21) rfl (fun hg14 => ?_) (fun hg14 => ?_)
  · refine ops_not rfl rfl rfl rfl ?_
    refine ops_not rfl rfl rfl rfl ?_
    refine ops_not rfl rfl rfl rfl ?_
    refine ops_not rfl rfl rfl rfl ?_
    refine ops_not rfl rfl rfl rfl ?_
    refine ops_ret (fn := 0) (a_pick_f rfl rfl rfl) rfl rfl ?_  -- [20] t27 := Op.pick (t21) (t26) (#(bool false))
    refine ops_ret (fn := 0) (a_assign (y := .v (.bool _)) rfl) rfl rfl ?_  -- [21] t6 := Op.assign (t27)
    refine ops_nil ?_
    refine run_seq ?_
    refine run_block ?_
    refine run_seq ?_
    refine run_region ?_
    refine ops_ret (fn := 0) (a_move (y := .v (.bool _)) rfl) rfl rfl ?_  -- [0] t29 := Op.move (t6)
    refine ops_ret (fn := 0) (a_not rfl) rfl rfl ?_  -- [1] t30 := Op.unOp UnOp.not 4 (t29)
    refine ops_ret (fn := 0) (a_assign (y := .v (.bool _)) rfl) rfl rfl ?_  -- [2] t28 := Op.assign (t30)
    refine ops_nil ?_
    refine run_cond rfl (fun _ => ?_) (fun h => by cases h)
    refine run_seq ?_
    refine run_region ?_
    refine ops_ret (fn := 0) ((by first | exact x_load2 rfl ta56 ts56 rfl rfl rfl rfl | exact x_load_ep2 ta56 ts56 rfl rfl rfl)) rfl rfl ?_  -- [0] t31 := Op.load 56 (t2)
    refine ops_ret (fn := 0) (x_store rfl ts56 rfl rfl rfl rfl rfl rfl rfl rfl) rfl rfl ?_  -- [1] none := Op.store 56 (t4) (t31)
    refine ops_ret (fn := 0) (a_assign (y := .v (.bool _)) rfl) rfl rfl ?_  -- [2] t5 := Op.assign (#(bool false))
    refine ops_nil ?_
    have hn : ¬ mineL c M := fun ⟨h1, h2, h3, h4⟩ => by simp [h1, h2, h3, h4] at hg14
    rw [show hearL c M = (c, false) by simp only [hearL, if_neg hn]]
    exact retc2 rfl (al2 rfl ta56 ts56 rfl rfl rfl) rfl ⟨Le.refl _, Ext.mx _ _⟩
  refine ops_yes (fn := 0) rfl rfl rfl rfl (x_fld tst54 rfl rfl rfl) rfl ?_  -- [15] t22 := Op.fieldAddr 54 (t3) 2
  refine ops_yes (fn := 0) rfl rfl rfl rfl (x_load1 rfl ta3 ts3 rfl rfl rfl) rfl ?_  -- [16] t23 := Op.load 3 (t22)
  refine ops_yes (fn := 0) rfl rfl rfl rfl (x_fld tst56 rfl rfl rfl) rfl ?_  -- [17] t24 := Op.fieldAddr 56 (t2) 1
  refine ops_yes (fn := 0) rfl rfl rfl rfl (x_load1 rfl ta3 ts3 rfl rfl rfl) rfl ?_  -- [18] t25 := Op.load 3 (t24)
  refine ops_yes (fn := 0) rfl rfl rfl rfl (a_eql rfl rfl) rfl ?_  -- [19] t26 := Op.binOp BinOp.eql 3 (t23) (t25) 3
  refine ops_ret (fn := 0) (a_pick_t rfl rfl rfl) rfl rfl ?_  -- [20] t27 := Op.pick (t21) (t26) (#(bool false))
  refine ops_ret (fn := 0) (a_assign (y := .v (.bool _)) rfl) rfl rfl ?_  -- [21] t6 := Op.assign (t27)
  refine ops_nil ?_
  refine run_seq ?_
  refine run_block ?_
  refine run_seq ?_
  refine run_region ?_
  refine ops_ret (fn := 0) (a_move (y := .v (.bool _)) rfl) rfl rfl ?_  -- [0] t29 := Op.move (t6)
  refine ops_ret (fn := 0) (a_not rfl) rfl rfl ?_  -- [1] t30 := Op.unOp UnOp.not 4 (t29)
  refine ops_ret (fn := 0) (a_assign (y := .v (.bool _)) rfl) rfl rfl ?_  -- [2] t28 := Op.assign (t30)
  refine ops_nil ?_
  refine run_cond rfl (fun h => ?_) (fun h => ?_)
  · refine run_seq ?_
    refine run_region ?_
    refine ops_ret (fn := 0) ((by first | exact x_load2 rfl ta56 ts56 rfl rfl rfl rfl | exact x_load_ep2 ta56 ts56 rfl rfl rfl)) rfl rfl ?_  -- [0] t31 := Op.load 56 (t2)
    refine ops_ret (fn := 0) (x_store rfl ts56 rfl rfl rfl rfl rfl rfl rfl rfl) rfl rfl ?_  -- [1] none := Op.store 56 (t4) (t31)
    refine ops_ret (fn := 0) (a_assign (y := .v (.bool _)) rfl) rfl rfl ?_  -- [2] t5 := Op.assign (#(bool false))
    refine ops_nil ?_
    have hn : ¬ mineL c M := fun ⟨h1, h2, h3, h4⟩ => by simp [h4] at h
    rw [show hearL c M = (c, false) by simp only [hearL, if_neg hn]]
    exact retc2 rfl (al2 rfl ta56 ts56 rfl rfl rfl) rfl ⟨Le.refl _, Ext.mx _ _⟩
  have hy : mineL c M := ⟨hg2, of_decide_eq_true hg7, of_decide_eq_true hg14, by simpa using h⟩
  refine run_seq ?_
  refine run_region ?_
  refine ops_ret (fn := 0) (x_fld tst54 rfl rfl rfl) rfl rfl ?_  -- [0] t33 := Op.fieldAddr 54 (t3) 10
  refine ops_ret (fn := 0) (x_load1 rfl ta3 ts3 rfl rfl rfl) rfl rfl ?_  -- [1] t34 := Op.load 3 (t33)
  refine ops_ret (fn := 0) (a_eql rfl rfl) rfl rfl ?_  -- [2] t35 := Op.binOp BinOp.eql 3 (t34) (#(int i64 9)) 3
  refine ops_ret (fn := 0) (a_move (y := .v (.bool _)) rfl) rfl rfl ?_  -- [3] t36 := Op.move (t35)
  refine ops_splitF (t := 36) rfl (fun hg3 => ?_) (fun hg3 => ?_)
  · refine ops_not rfl rfl rfl rfl ?_
    refine ops_not rfl rfl rfl rfl ?_
    refine ops_not rfl rfl rfl rfl ?_
    refine ops_ret (fn := 0) (a_pick_f rfl rfl rfl) rfl rfl ?_  -- [7] t40 := Op.pick (t36) (t39) (#(bool false))
    refine ops_ret (fn := 0) (a_assign (y := .v (.bool _)) rfl) rfl rfl ?_  -- [8] t32 := Op.assign (t40)
    refine ops_nil ?_
    refine run_cond rfl (fun h => by cases h) (fun _ => ?_)
    refine run_skip ?_
    refine run_inBlock ?_
    refine run_seq ?_
    refine run_region ?_
    refine ops_ret (fn := 0) ((by first | exact x_load2 rfl ta56 ts56 rfl rfl rfl rfl | exact x_load_ep2 ta56 ts56 rfl rfl rfl)) rfl rfl ?_  -- [0] t43 := Op.load 56 (t2)
    refine ops_ret (fn := 0) (x_fld tst54 rfl rfl rfl) rfl rfl ?_  -- [1] t44 := Op.fieldAddr 54 (t3) 10
    refine ops_ret (fn := 0) (x_load1 rfl ta3 ts3 rfl rfl rfl) rfl rfl ?_  -- [2] t45 := Op.load 3 (t44)
    refine ops_ret (fn := 0) ((by first | exact x_load2 rfl ta54 ts54 rfl rfl rfl rfl | exact x_load_ep2 ta54 ts54 rfl rfl rfl)) rfl rfl ?_  -- [3] t46 := Op.load 54 (t3)
    refine ops_pure (over_ok c M.answer M) ?_  -- [4] t47 := Op.call { callee := Callee.value (Operand.func 60), args := #[t43, t45, t46], argTypes := #[56, 3, 5
    refine ops_ret (fn := 0) (x_store rfl ts56 rfl rfl rfl rfl rfl rfl rfl rfl) rfl rfl ?_  -- [5] none := Op.store 56 (t4) (t47)
    refine ops_ret (fn := 0) (a_assign (y := .v (.bool _)) rfl) rfl rfl ?_  -- [6] t5 := Op.assign (#(bool true))
    refine ops_nil ?_
    have hn : ¬ (M.answer = 9 ∧ c.done < 3) := fun ⟨h1, h2⟩ => by simp [h1] at hg3
    rw [show hearL c M = (overL c M.answer M, true) by simp only [hearL, if_pos hy, if_neg hn]]
    exact retc2 rfl (al2 rfl ta56 ts56 rfl rfl rfl) rfl ⟨Le.refl _, Ext.mx _ _⟩
  refine ops_yes (fn := 0) rfl rfl rfl rfl (x_fld tst56 rfl rfl rfl) rfl ?_  -- [4] t37 := Op.fieldAddr 56 (t2) 4
  refine ops_yes (fn := 0) rfl rfl rfl rfl (x_load1 rfl ta3 ts3 rfl rfl rfl) rfl ?_  -- [5] t38 := Op.load 3 (t37)
  refine ops_yes (fn := 0) rfl rfl rfl rfl (a_lss rfl rfl) rfl ?_  -- [6] t39 := Op.binOp BinOp.lss 3 (t38) (#(int i64 3)) 3
  refine ops_ret (fn := 0) (a_pick_t rfl rfl rfl) rfl rfl ?_  -- [7] t40 := Op.pick (t36) (t39) (#(bool false))
  refine ops_ret (fn := 0) (a_assign (y := .v (.bool _)) rfl) rfl rfl ?_  -- [8] t32 := Op.assign (t40)
  refine ops_nil ?_
  refine run_cond rfl (fun h5 => ?_) (fun h5 => ?_)
  · refine run_seq ?_
    refine run_region ?_
    refine ops_ret (fn := 0) (x_fld tst56 rfl rfl rfl) rfl rfl ?_  -- [0] t41 := Op.fieldAddr 56 (t2) 3
    refine ops_ret (fn := 0) (x_store rfl ts4 rfl rfl rfl rfl rfl rfl rfl rfl) rfl rfl ?_  -- [1] none := Op.store 4 (t41) (#(bool true))
    refine ops_nil ?_
    refine run_seq ?_
    refine run_region ?_
    refine ops_ret (fn := 0) ((by first | exact x_load2 rfl ta56 ts56 rfl rfl rfl rfl | exact x_load_ep2 ta56 ts56 rfl rfl rfl)) rfl rfl ?_  -- [0] t42 := Op.load 56 (t2)
    refine ops_ret (fn := 0) (x_store rfl ts56 rfl rfl rfl rfl rfl rfl rfl rfl) rfl rfl ?_  -- [1] none := Op.store 56 (t4) (t42)
    refine ops_ret (fn := 0) (a_assign (y := .v (.bool _)) rfl) rfl rfl ?_  -- [2] t5 := Op.assign (#(bool false))
    refine ops_nil ?_
    have hn : M.answer = 9 ∧ c.done < 3 := ⟨of_decide_eq_true hg3, of_decide_eq_true h5⟩
    rw [show hearL c M = ({ c with refused := true }, false) by simp only [hearL, if_pos hy, if_pos hn]]
    exact retc2 rfl (al2 rfl ta56 ts56 rfl rfl rfl) rfl ⟨Le.refl _, Ext.mx _ _⟩
  refine run_skip ?_
  refine run_inBlock ?_
  refine run_seq ?_
  refine run_region ?_
  refine ops_ret (fn := 0) ((by first | exact x_load2 rfl ta56 ts56 rfl rfl rfl rfl | exact x_load_ep2 ta56 ts56 rfl rfl rfl)) rfl rfl ?_  -- [0] t43 := Op.load 56 (t2)
  refine ops_ret (fn := 0) (x_fld tst54 rfl rfl rfl) rfl rfl ?_  -- [1] t44 := Op.fieldAddr 54 (t3) 10
  refine ops_ret (fn := 0) (x_load1 rfl ta3 ts3 rfl rfl rfl) rfl rfl ?_  -- [2] t45 := Op.load 3 (t44)
  refine ops_ret (fn := 0) ((by first | exact x_load2 rfl ta54 ts54 rfl rfl rfl rfl | exact x_load_ep2 ta54 ts54 rfl rfl rfl)) rfl rfl ?_  -- [3] t46 := Op.load 54 (t3)
  refine ops_pure (over_ok c M.answer M) ?_  -- [4] t47 := Op.call { callee := Callee.value (Operand.func 60), args := #[t43, t45, t46], argTypes := #[56, 3, 5
  refine ops_ret (fn := 0) (x_store rfl ts56 rfl rfl rfl rfl rfl rfl rfl rfl) rfl rfl ?_  -- [5] none := Op.store 56 (t4) (t47)
  refine ops_ret (fn := 0) (a_assign (y := .v (.bool _)) rfl) rfl rfl ?_  -- [6] t5 := Op.assign (#(bool true))
  refine ops_nil ?_
  have hn : ¬ (M.answer = 9 ∧ c.done < 3) := fun ⟨h1, h2⟩ => by simp [h2] at h5
  rw [show hearL c M = (overL c M.answer M, true) by simp only [hearL, if_pos hy, if_neg hn]]
  exact retc2 rfl (al2 rfl ta56 ts56 rfl rfl rfl) rfl ⟨Le.refl _, Ext.mx _ _⟩

set_option maxHeartbeats 2000000 in
theorem tick_ok (c : Cli) (n : Int) (hd : 0 ≤ c.done ∧ c.done ≤ 1000) : Pure (EV gl) 32 [.agg (cliA c), .v (.int .i64 n)] (.ret (.tup [.agg (cliA (tickL c n).1), msl (tickL c n).2.1, .v (.bool (tickL c n).2.2)])) := by
  refine Pure.mk (fun _ => Nf.tup3 (Nf.cliA _) (Nf.msl _) Nf.v) fun m => ?_
  refine spec_body (fn := Tryd.f32) (n := 46) (rs := [ResultVar.cell 4 56, ResultVar.tmp 5, ResultVar.tmp 6]) (by decide) Tryd.func32 rfl rfl rfl rfl ?_
  refine run_seq ?_
  refine run_region ?_
  refine ops_ret (fn := 0) (x_box rfl rfl rfl) rfl rfl ?_  -- [0] t2 := Op.box 56 (t0)
  refine ops_ret (fn := 0) (x_alloc rfl tz56 rfl) rfl rfl ?_  -- [1] t4 := Op.alloc 56
  refine ops_ret (fn := 0) (a_assign rfl) rfl rfl ?_  -- [2] t5 := Op.assign (#(slice none 0 0))
  refine ops_ret (fn := 0) (a_assign (y := .v (.bool _)) rfl) rfl rfl ?_  -- [3] t6 := Op.assign (#(bool false))
  refine ops_nil ?_
  refine run_seq ?_
  refine run_block ?_
  refine run_seq ?_
  refine run_region ?_
  refine ops_ret (fn := 0) (a_move (y := .v (.int _ _)) rfl) rfl rfl ?_  -- [0] t10 := Op.move (t1)
  refine ops_pure (ticked_ok n) ?_  -- [1] t11 := Op.call { callee := Callee.value (Operand.func 57), args := #[t10], argTypes := #[3] }
  refine ops_ret (fn := 0) (a_not rfl) rfl rfl ?_  -- [2] t12 := Op.unOp UnOp.not 4 (t11)
  refine ops_ret (fn := 0) (a_move (y := .v (.bool _)) rfl) rfl rfl ?_  -- [3] t13 := Op.move (t12)
  refine ops_split (t := 13) rfl (fun hg3 => ?_) (fun hg3 => ?_)
  · refine ops_not rfl rfl rfl rfl ?_
    refine ops_not rfl rfl rfl rfl ?_
    refine ops_not rfl rfl rfl rfl ?_
    refine ops_ret (fn := 0) (a_pick_t rfl rfl rfl) rfl rfl ?_  -- [7] t17 := Op.pick (t13) (#(bool true)) (t16)
    refine ops_ret (fn := 0) (a_move (y := .v (.bool _)) rfl) rfl rfl ?_  -- [8] t18 := Op.move (t17)
    refine ops_not rfl rfl rfl rfl ?_
    refine ops_not rfl rfl rfl rfl ?_
    refine ops_not rfl rfl rfl rfl ?_
    refine ops_not rfl rfl rfl rfl ?_
    refine ops_ret (fn := 0) (a_pick_t rfl rfl rfl) rfl rfl ?_  -- [13] t23 := Op.pick (t18) (#(bool true)) (t22)
    refine ops_ret (fn := 0) (a_assign (y := .v (.bool _)) rfl) rfl rfl ?_  -- [14] t9 := Op.assign (t23)
    refine ops_nil ?_
    refine run_cond rfl (fun _ => ?_) (fun h => by cases h)
    refine run_seq ?_
    refine run_region ?_
    refine ops_ret (fn := 0) ((by first | exact x_load2 rfl ta56 ts56 rfl rfl rfl rfl | exact x_load_ep2 ta56 ts56 rfl rfl rfl)) rfl rfl ?_  -- [0] t24 := Op.load 56 (t2)
    refine ops_ret (fn := 0) (x_store rfl ts56 rfl rfl rfl rfl rfl rfl rfl rfl) rfl rfl ?_  -- [1] none := Op.store 56 (t4) (t24)
    refine ops_ret (fn := 0) (a_assign rfl) rfl rfl ?_  -- [2] t5 := Op.assign (#(slice none 0 0))
    refine ops_ret (fn := 0) (a_assign (y := .v (.bool _)) rfl) rfl rfl ?_  -- [3] t6 := Op.assign (#(bool false))
    refine ops_nil ?_
    have hn : ¬ ((0 ≤ n ∧ n ≤ 1099511627776) ∧ c.waits = true ∧ ¬ n < c.due) := fun ⟨h1, h2, h3⟩ => by simp [h1, h2] at hg3
    rw [show tickL c n = (c, [], false) by simp only [tickL, if_neg hn]]
    exact retc3 rfl (al2 rfl ta56 ts56 rfl rfl rfl) rfl rfl ⟨Le.tup3 (Le.refl _) Le.nil (Le.refl _), Ext.mx _ _⟩
  refine ops_yes (fn := 0) rfl rfl rfl rfl (x_fld tst56 rfl rfl rfl) rfl ?_  -- [4] t14 := Op.fieldAddr 56 (t2) 2
  refine ops_yes (fn := 0) rfl rfl rfl rfl (x_load1 rfl ta4 ts4 rfl rfl rfl) rfl ?_  -- [5] t15 := Op.load 4 (t14)
  refine ops_yes (fn := 0) rfl rfl rfl rfl (a_not rfl) rfl ?_  -- [6] t16 := Op.unOp UnOp.not 4 (t15)
  refine ops_ret (fn := 0) (a_pick_f rfl rfl rfl) rfl rfl ?_  -- [7] t17 := Op.pick (t13) (#(bool true)) (t16)
  refine ops_ret (fn := 0) (a_move (y := .v (.bool _)) rfl) rfl rfl ?_  -- [8] t18 := Op.move (t17)
  refine ops_split (t := 18) rfl (fun hg8 => ?_) (fun hg8 => ?_)
  · refine ops_not rfl rfl rfl rfl ?_
    refine ops_not rfl rfl rfl rfl ?_
    refine ops_not rfl rfl rfl rfl ?_
    refine ops_not rfl rfl rfl rfl ?_
    refine ops_ret (fn := 0) (a_pick_t rfl rfl rfl) rfl rfl ?_  -- [13] t23 := Op.pick (t18) (#(bool true)) (t22)
    refine ops_ret (fn := 0) (a_assign (y := .v (.bool _)) rfl) rfl rfl ?_  -- [14] t9 := Op.assign (t23)
    refine ops_nil ?_
    refine run_cond rfl (fun _ => ?_) (fun h => by cases h)
    refine run_seq ?_
    refine run_region ?_
    refine ops_ret (fn := 0) ((by first | exact x_load2 rfl ta56 ts56 rfl rfl rfl rfl | exact x_load_ep2 ta56 ts56 rfl rfl rfl)) rfl rfl ?_  -- [0] t24 := Op.load 56 (t2)
    refine ops_ret (fn := 0) (x_store rfl ts56 rfl rfl rfl rfl rfl rfl rfl rfl) rfl rfl ?_  -- [1] none := Op.store 56 (t4) (t24)
    refine ops_ret (fn := 0) (a_assign rfl) rfl rfl ?_  -- [2] t5 := Op.assign (#(slice none 0 0))
    refine ops_ret (fn := 0) (a_assign (y := .v (.bool _)) rfl) rfl rfl ?_  -- [3] t6 := Op.assign (#(bool false))
    refine ops_nil ?_
    have hn : ¬ ((0 ≤ n ∧ n ≤ 1099511627776) ∧ c.waits = true ∧ ¬ n < c.due) := fun ⟨h1, h2, h3⟩ => by simp [h1, h2] at hg8
    rw [show tickL c n = (c, [], false) by simp only [tickL, if_neg hn]]
    exact retc3 rfl (al2 rfl ta56 ts56 rfl rfl rfl) rfl rfl ⟨Le.tup3 (Le.refl _) Le.nil (Le.refl _), Ext.mx _ _⟩
  refine ops_yes (fn := 0) rfl rfl rfl rfl (a_move (y := .v (.int _ _)) rfl) rfl ?_  -- [9] t19 := Op.move (t1)
  refine ops_yes (fn := 0) rfl rfl rfl rfl (x_fld tst56 rfl rfl rfl) rfl ?_  -- [10] t20 := Op.fieldAddr 56 (t2) 5
  refine ops_yes (fn := 0) rfl rfl rfl rfl (x_load1 rfl ta3 ts3 rfl rfl rfl) rfl ?_  -- [11] t21 := Op.load 3 (t20)
  refine ops_yes (fn := 0) rfl rfl rfl rfl (a_lss rfl rfl) rfl ?_  -- [12] t22 := Op.binOp BinOp.lss 3 (t19) (t21) 3
  refine ops_ret (fn := 0) (a_pick_f rfl rfl rfl) rfl rfl ?_  -- [13] t23 := Op.pick (t18) (#(bool true)) (t22)
  refine ops_ret (fn := 0) (a_assign (y := .v (.bool _)) rfl) rfl rfl ?_  -- [14] t9 := Op.assign (t23)
  refine ops_nil ?_
  refine run_cond rfl (fun h => ?_) (fun h => ?_)
  · refine run_seq ?_
    refine run_region ?_
    refine ops_ret (fn := 0) ((by first | exact x_load2 rfl ta56 ts56 rfl rfl rfl rfl | exact x_load_ep2 ta56 ts56 rfl rfl rfl)) rfl rfl ?_  -- [0] t24 := Op.load 56 (t2)
    refine ops_ret (fn := 0) (x_store rfl ts56 rfl rfl rfl rfl rfl rfl rfl rfl) rfl rfl ?_  -- [1] none := Op.store 56 (t4) (t24)
    refine ops_ret (fn := 0) (a_assign rfl) rfl rfl ?_  -- [2] t5 := Op.assign (#(slice none 0 0))
    refine ops_ret (fn := 0) (a_assign (y := .v (.bool _)) rfl) rfl rfl ?_  -- [3] t6 := Op.assign (#(bool false))
    refine ops_nil ?_
    have hn : ¬ ((0 ≤ n ∧ n ≤ 1099511627776) ∧ c.waits = true ∧ ¬ n < c.due) := fun ⟨h1, h2, h3⟩ => h3 (of_decide_eq_true h)
    rw [show tickL c n = (c, [], false) by simp only [tickL, if_neg hn]]
    exact retc3 rfl (al2 rfl ta56 ts56 rfl rfl rfl) rfl rfl ⟨Le.tup3 (Le.refl _) Le.nil (Le.refl _), Ext.mx _ _⟩
  have hti : 0 ≤ n ∧ n ≤ 1099511627776 := by simpa using hg3
  have hy : (0 ≤ n ∧ n ≤ 1099511627776) ∧ c.waits = true ∧ ¬ n < c.due := ⟨hti, by simpa using hg8, of_decide_eq_false h⟩
  refine run_seq ?_
  refine run_region ?_
  refine ops_ret (fn := 0) (x_fld tst56 rfl rfl rfl) rfl rfl ?_  -- [0] t26 := Op.fieldAddr 56 (t2) 4
  refine ops_ret (fn := 0) (x_load1 rfl ta3 ts3 rfl rfl rfl) rfl rfl ?_  -- [1] t27 := Op.load 3 (t26)
  refine ops_ret (fn := 0) (a_lss rfl rfl) rfl rfl ?_  -- [2] t28 := Op.binOp BinOp.lss 3 (t27) (#(int i64 3)) 3
  refine ops_ret (fn := 0) (a_assign (y := .v (.bool _)) rfl) rfl rfl ?_  -- [3] t25 := Op.assign (t28)
  refine ops_nil ?_
  refine run_cond rfl (fun h2 => ?_) (fun h2 => ?_)
  · have hq : c.done < 3 := of_decide_eq_true h2
    rw [show tickL c n = (tryL c n, [c.request], false) by simp only [tickL, if_pos hy, if_pos hq]]
    refine run_seq ?_
    refine run_region ?_
    refine ops_ret (fn := 0) ((by first | exact x_load2 rfl ta56 ts56 rfl rfl rfl rfl | exact x_load_ep2 ta56 ts56 rfl rfl rfl)) rfl rfl ?_  -- [0] t30 := Op.load 56 (t2)
    refine ops_ret (fn := 0) (a_move (y := .v (.int _ _)) rfl) rfl rfl ?_  -- [1] t31 := Op.move (t1)
    refine ops_pure (try_ok c n hd hti) ?_  -- [2] t32 := Op.call { callee := Callee.value (Operand.func 61), args := #[t30, t31], argTypes := #[56, 3] }
    refine ops_ret (fn := 0) (a_move rfl) rfl rfl ?_  -- [3] t29 := Op.move (t32)
    refine ops_ret (fn := 0) (a_extract rfl rfl) rfl rfl ?_  -- [4] t33 := Op.extract (t29) 0
    refine ops_ret (fn := 0) (a_extract rfl rfl) rfl rfl ?_  -- [5] t34 := Op.extract (t29) 1
    refine ops_ret (fn := 0) (x_alloc rfl tz56 rfl) rfl rfl ?_  -- [6] t7 := Op.alloc 56
    refine ops_ret (fn := 0) (x_store rfl ts56 rfl rfl rfl rfl rfl rfl rfl rfl) rfl rfl ?_  -- [7] none := Op.store 56 (t7) (t33)
    refine ops_ret (fn := 0) (a_assign rfl) rfl rfl ?_  -- [8] t8 := Op.assign (t34)
    refine ops_nil ?_
    refine run_seq ?_
    refine run_region ?_
    refine ops_ret (fn := 0) ((by first | exact x_load2 rfl ta56 ts56 rfl rfl rfl rfl | exact x_load_ep2 ta56 ts56 rfl rfl rfl)) rfl rfl ?_  -- [0] t35 := Op.load 56 (t7)
    refine ops_ret (fn := 0) (a_move rfl) rfl rfl ?_  -- [1] t36 := Op.move (t8)
    refine ops_ret (fn := 0) (x_store rfl ts56 rfl rfl rfl rfl rfl rfl rfl rfl) rfl rfl ?_  -- [2] none := Op.store 56 (t4) (t35)
    refine ops_ret (fn := 0) (a_assign rfl) rfl rfl ?_  -- [3] t5 := Op.assign (t36)
    refine ops_ret (fn := 0) (a_assign (y := .v (.bool _)) rfl) rfl rfl ?_  -- [4] t6 := Op.assign (#(bool false))
    refine ops_nil ?_
    exact retc3 rfl (al2 rfl ta56 ts56 rfl rfl rfl) rfl rfl ⟨Le.refl _, Ext.mx _ _⟩
  have hq : ¬ c.done < 3 := of_decide_eq_false h2
  refine run_seq ?_
  refine run_region ?_
  refine ops_ret (fn := 0) (x_fld tst56 rfl rfl rfl) rfl rfl ?_  -- [0] t38 := Op.fieldAddr 56 (t2) 3
  refine ops_ret (fn := 0) (x_load1 rfl ta4 ts4 rfl rfl rfl) rfl rfl ?_  -- [1] t39 := Op.load 4 (t38)
  refine ops_ret (fn := 0) (a_assign (y := .v (.bool _)) rfl) rfl rfl ?_  -- [2] t37 := Op.assign (t39)
  refine ops_nil ?_
  refine run_cond rfl (fun h3 => ?_) (fun h3 => ?_)
  · rw [show tickL c n = (overL c 9 zM, [], true) by simp only [tickL, if_pos hy, if_neg hq, if_pos h3]]
    refine run_seq ?_
    refine run_region ?_
    refine ops_ret (fn := 0) ((by first | exact x_load2 rfl ta56 ts56 rfl rfl rfl rfl | exact x_load_ep2 ta56 ts56 rfl rfl rfl)) rfl rfl ?_  -- [0] t40 := Op.load 56 (t2)
    refine ops_ret (fn := 0) (x_build tst54 (qs := []) rfl rfl (out := [.v (.int .i64 0), .v (.int .i64 0), .v (.int .i64 0), .v (.int .i64 0), .v (.string (bstr [])), .v (.int .i64 0), .v (.int .i64 0), .v (.int .i64 0), .v (.int .i64 0), .v (.int .i64 0), .v (.int .i64 0), .v (.slice none 0 0), .v (.slice none 0 0)]) (by kernel_rfl)) rfl rfl ?_  -- [1] t41 := Op.build 54 #[]
    refine ops_weak 41 (y := .agg (msgA zM)) Le.zM ?_; refine ops_pure (over_ok c 9 zM) ?_  -- [2] t42 := Op.call { callee := Callee.value (Operand.func 60), args := #[t40, #(int i64 9), t41], argTypes := #
    refine ops_ret (fn := 0) (x_store rfl ts56 rfl rfl rfl rfl rfl rfl rfl rfl) rfl rfl ?_  -- [3] none := Op.store 56 (t4) (t42)
    refine ops_ret (fn := 0) (a_assign rfl) rfl rfl ?_  -- [4] t5 := Op.assign (#(slice none 0 0))
    refine ops_ret (fn := 0) (a_assign (y := .v (.bool _)) rfl) rfl rfl ?_  -- [5] t6 := Op.assign (#(bool true))
    refine ops_nil ?_
    exact retc3 rfl (al2 rfl ta56 ts56 rfl rfl rfl) rfl rfl ⟨Le.tup3 (Le.refl _) Le.nil (Le.refl _), Ext.mx _ _⟩
  rw [show tickL c n = (overL c 10 zM, [], true) by simp only [tickL, if_pos hy, if_neg hq, h3]; rfl]
  refine run_skip ?_
  refine run_inBlock ?_
  refine run_seq ?_
  refine run_region ?_
  refine ops_ret (fn := 0) ((by first | exact x_load2 rfl ta56 ts56 rfl rfl rfl rfl | exact x_load_ep2 ta56 ts56 rfl rfl rfl)) rfl rfl ?_  -- [0] t43 := Op.load 56 (t2)
  refine ops_ret (fn := 0) (x_build tst54 (qs := []) rfl rfl (out := [.v (.int .i64 0), .v (.int .i64 0), .v (.int .i64 0), .v (.int .i64 0), .v (.string (bstr [])), .v (.int .i64 0), .v (.int .i64 0), .v (.int .i64 0), .v (.int .i64 0), .v (.int .i64 0), .v (.int .i64 0), .v (.slice none 0 0), .v (.slice none 0 0)]) (by kernel_rfl)) rfl rfl ?_  -- [1] t44 := Op.build 54 #[]
  refine ops_weak 44 (y := .agg (msgA zM)) Le.zM ?_; refine ops_pure (over_ok c 10 zM) ?_  -- [2] t45 := Op.call { callee := Callee.value (Operand.func 60), args := #[t43, #(int i64 10), t44], argTypes := 
  refine ops_ret (fn := 0) (x_store rfl ts56 rfl rfl rfl rfl rfl rfl rfl rfl) rfl rfl ?_  -- [3] none := Op.store 56 (t4) (t45)
  refine ops_ret (fn := 0) (a_assign rfl) rfl rfl ?_  -- [4] t5 := Op.assign (#(slice none 0 0))
  refine ops_ret (fn := 0) (a_assign (y := .v (.bool _)) rfl) rfl rfl ?_  -- [5] t6 := Op.assign (#(bool true))
  refine ops_nil ?_
  exact retc3 rfl (al2 rfl ta56 ts56 rfl rfl rfl) rfl rfl ⟨Le.tup3 (Le.refl _) Le.nil (Le.refl _), Ext.mx _ _⟩
end
end Go.Vm
