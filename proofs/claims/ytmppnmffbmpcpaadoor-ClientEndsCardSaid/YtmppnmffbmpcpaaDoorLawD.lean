/- Layer 21: the law ClientDeaf, what its code comes to. -/
import Derived.Test.YtmppnmffbmpcpaaDoorCliE
import Derived.Test.YtmppnmffbmpcpaaDoorAlvA
set_option linter.unusedVariables false
set_option linter.unusedSimpArgs false
namespace Go.Vm
open Go.RowKit Go.Proofs

/-- A number's rest by eight. -/
def idk (id : Int) : Int := IntKind.i64.wrap ((IntKind.u64.wrap id).tmod 8)
theorem idk_ok (id : Int) : 0 ≤ idk id ∧ idk id < 8 := by
  have h0 : 0 ≤ IntKind.u64.wrap id := by
    simp [IntKind.wrap, IntKind.signed, IntKind.bits]
    try omega
  have h1 : (IntKind.u64.wrap id).tmod 8 = IntKind.u64.wrap id % 8 := Int.tmod_eq_emod_of_nonneg h0
  unfold idk
  rw [h1]
  have h2 : 0 ≤ IntKind.u64.wrap id % 8 ∧ IntKind.u64.wrap id % 8 < 8 := by omega
  rw [w64 (by omega)]
  exact h2

theorem deaf_all : (([0, 1, 2, 3, 4, 5, 6, 7] : List Int).all fun k => !largeL (bytesL (reqL (newC k) 4 [97] []))) = true := by kernel_rfl
theorem deaf_small (k : Int) (h : 0 ≤ k ∧ k < 8) : largeL (bytesL (reqL (newC k) 4 [97] [])) = false := by
  have hm : k ∈ ([0, 1, 2, 3, 4, 5, 6, 7] : List Int) := by simp only [List.mem_cons, List.mem_nil_iff, or_false]; omega
  have := List.all_eq_true.1 deaf_all k hm
  simpa using this
def deafC (k : Int) : Cli := tryL (askL (newC k) 4 [97] []) 3
theorem deaf_start (k : Int) (h : 0 ≤ k ∧ k < 8) : startL (newC k) 4 [97] [] 3 = (deafC k, [reqL (newC k) 4 [97] []]) := by
  unfold startL
  rw [deaf_small k h]
  rfl

section
variable {gl : Nat → Option (List Value)} (hgl : gl 25 = some wordsV) (hal : Pure (EV gl) 25 [] (.ret (.v (.bool true))))
include hgl hal
set_option maxHeartbeats 2000000 in
theorem deaf_ok (id : Int) (M : Msg) : Pure (EV gl) 8 [.v (.int .i64 id), .agg (msgA M)] (.ret (.v (.bool true))) := by
  have hk := idk_ok id
  have hst := start_ok hgl (newC (idk id)) 4 [97] [] 3 rfl hk (by simp) (by omega) (by decide) (by decide) (by omega)
  rw [deaf_start _ hk] at hst
  have hst' := Pure.weak (args' := [.agg (cliA (newC (idk id))), .v (.int .i64 4), .v (.string (bstr [97])), .v (.slice none 0 0), .v (.int .i64 3)]) hst ⟨Le.refl _, Le.refl _, Le.refl _, Le.nil, Le.refl _, trivial⟩
  have hh1 : hearL (newC (idk id)) M = (newC (idk id), false) := by unfold hearL; rw [if_neg (fun h => by have := h.1; cases this)]
  have hhe := hear_ok (gl := gl) (newC (idk id)) M
  rw [hh1] at hhe
  refine Pure.mk (fun _ => Nf.v) fun m => ?_
  refine spec_body (fn := Tryd.f8) (n := 83) (rs := [ResultVar.tmp 4]) (by decide) Tryd.func8 rfl rfl rfl rfl ?_
  refine run_seq ?_
  refine run_region ?_
  refine ops_ret (fn := 0) (x_box rfl rfl rfl) rfl rfl ?_  -- [0] t3 := Op.box 54 (t1)
  refine ops_ret (fn := 0) (a_assign (y := .v (.bool _)) rfl) rfl rfl ?_  -- [1] t4 := Op.assign (#(bool false))
  refine ops_nil ?_
  refine run_seq ?_
  refine run_seq ?_
  refine run_region ?_
  refine ops_pure (hal) ?_  -- [0] t9 := Op.call { callee := Callee.value (Operand.func 25), args := #[], argTypes := #[] }
  refine ops_ret (fn := 0) (a_not rfl) rfl rfl ?_  -- [1] t10 := Op.unOp UnOp.not 4 (t9)
  refine ops_nil ?_
  refine run_cond rfl (fun h => by cases h) (fun _ => ?_)
  refine run_skip ?_
  refine run_seq ?_
  refine run_seq ?_
  refine run_region ?_
  refine ops_ret (fn := 0) ((by first | exact x_load2 rfl ta54 ts54 rfl rfl rfl rfl | exact x_load_ep2 ta54 ts54 rfl rfl rfl)) rfl rfl ?_  -- [0] t11 := Op.load 54 (t3)
  refine ops_pure (long16_ok M) ?_  -- [1] t12 := Op.call { callee := Callee.value (Operand.func 30), args := #[t11], argTypes := #[54] }
  refine ops_nil ?_
  refine run_cond rfl (fun h => ?_) (fun h => ?_)
  · refine run_seq ?_
    refine run_region ?_
    refine ops_ret (fn := 0) (a_assign (y := .v (.bool _)) rfl) rfl rfl ?_  -- [0] t4 := Op.assign (#(bool true))
    refine ops_nil ?_
    exact ret1 rfl ⟨Le.refl _, Ext.mx _ _⟩
  refine run_skip ?_
  refine run_seq ?_
  refine run_region ?_
  refine ops_ret (fn := 0) (a_move (y := .v (.int _ _)) rfl) rfl rfl ?_  -- [0] t14 := Op.move (t0)
  refine ops_ret (fn := 0) (a_conv (show (EV gl).P.underlying 3 = _ from Tryd.underlying3) (show (EV gl).P.underlying 66 = _ from Tryd.underlying66) rfl rfl) rfl rfl ?_  -- [1] t15 := Op.convert 3 66 (t14)
  refine ops_ret (fn := 0) (a_rem rfl rfl (by decide) rfl) rfl rfl ?_  -- [2] t16 := Op.binOp BinOp.rem 66 (t15) (#(int u64 8)) 66
  refine ops_ret (fn := 0) (a_conv (show (EV gl).P.underlying 66 = _ from Tryd.underlying66) (show (EV gl).P.underlying 3 = _ from Tryd.underlying3) rfl rfl) rfl rfl ?_  -- [3] t17 := Op.convert 66 3 (t16)
  refine ops_pure (new_ok (idk id) hk) ?_  -- [4] t18 := Op.call { callee := Callee.value (Operand.func 26), args := #[t17], argTypes := #[3] }
  refine ops_ret (fn := 0) (a_move rfl) rfl rfl ?_  -- [5] t13 := Op.move (t18)
  refine ops_ret (fn := 0) (a_extract rfl rfl) rfl rfl ?_  -- [6] t19 := Op.extract (t13) 0
  refine ops_ret (fn := 0) (a_extract rfl rfl) rfl rfl ?_  -- [7] t20 := Op.extract (t13) 1
  refine ops_ret (fn := 0) (x_alloc rfl tz56 rfl) rfl rfl ?_  -- [8] t5 := Op.alloc 56
  refine ops_ret (fn := 0) (x_store rfl ts56 rfl rfl rfl rfl rfl rfl rfl rfl) rfl rfl ?_  -- [9] none := Op.store 56 (t5) (t19)
  refine ops_ret (fn := 0) (a_assign rfl) rfl rfl ?_  -- [10] t6 := Op.assign (t20)
  refine ops_nil ?_
  refine run_seq ?_
  refine run_seq ?_
  refine run_region ?_
  refine ops_ret (fn := 0) (a_move rfl) rfl rfl ?_  -- [0] t21 := Op.move (t6)
  refine ops_ret (fn := 0) ((by first | exact a_nequ rfl (show (EV gl).P.underlying 30 = _ from Tryd.underlying30) rfl rfl | exact a_neqn (show (EV gl).P.underlying 30 = _ from Tryd.underlying30) rfl rfl rfl)) rfl rfl ?_  -- [1] t22 := Op.binOp BinOp.neq 30 (t21) (#nilIface) 30
  refine ops_nil ?_
  refine run_cond rfl (fun h => by cases h) (fun _ => ?_)
  refine run_skip ?_
  refine run_seq ?_
  refine run_region ?_
  refine ops_ret (fn := 0) ((by first | exact x_load2 rfl ta56 ts56 rfl rfl rfl rfl | exact x_load_ep2 ta56 ts56 rfl rfl rfl)) rfl rfl ?_  -- [0] t24 := Op.load 56 (t5)
  refine ops_ret (fn := 0) ((by first | exact x_load2 rfl ta54 ts54 rfl rfl rfl rfl | exact x_load_ep2 ta54 ts54 rfl rfl rfl)) rfl rfl ?_  -- [1] t25 := Op.load 54 (t3)
  refine ops_pure hhe ?_  -- [2] t26 := Op.call { callee := Callee.value (Operand.func 31), args := #[t24, t25], argTypes := #[56, 54] }
  refine ops_ret (fn := 0) (a_move rfl) rfl rfl ?_  -- [3] t23 := Op.move (t26)
  refine ops_ret (fn := 0) (a_extract rfl rfl) rfl rfl ?_  -- [4] t27 := Op.extract (t23) 0
  refine ops_ret (fn := 0) (a_extract rfl rfl) rfl rfl ?_  -- [5] t28 := Op.extract (t23) 1
  refine ops_ret (fn := 0) (x_alloc rfl tz56 rfl) rfl rfl ?_  -- [6] t7 := Op.alloc 56
  refine ops_ret (fn := 0) (x_store rfl ts56 rfl rfl rfl rfl rfl rfl rfl rfl) rfl rfl ?_  -- [7] none := Op.store 56 (t7) (t27)
  refine ops_ret (fn := 0) (a_assign (y := .v (.bool _)) rfl) rfl rfl ?_  -- [8] t8 := Op.assign (t28)
  refine ops_nil ?_
  refine run_seq ?_
  refine run_seq ?_
  refine run_draw tmix (by kernel_rfl) ?_
  refine opsd_free (fn := 0) (fun _ => a_move (y := .v (.bool _)) rfl) rfl rfl rfl ?_  -- [0] t29 := Op.move (t8)
  refine opsd_free (fn := 0) (fun _ => a_move (y := .v (.bool _)) rfl) rfl rfl rfl ?_  -- [1] t30 := Op.move (t29)
  refine opsd_look_yes (fn := 0) rfl rfl rfl rfl rfl ((by first | exact x_load2 rfl ta56 ts56 rfl rfl rfl rfl | exact x_load_ep2 ta56 ts56 rfl rfl rfl)) rfl rfl ?_  -- [2] t31 := Op.load 56 (t5)
  refine opsd_pure_yes rfl rfl rfl rfl (of21_ok (newC (idk id))) ?_  -- [3] t32 := Op.call { callee := Callee.value (Operand.func 28), args := #[t31], argTypes := #[56] }
  refine opsd_look_yes (fn := 0) rfl rfl rfl rfl rfl ((by first | exact x_load2 rfl ta56 ts56 rfl rfl rfl rfl | exact x_load_ep2 ta56 ts56 rfl rfl rfl)) rfl rfl ?_  -- [4] t33 := Op.load 56 (t7)
  refine opsd_pure_yes rfl rfl rfl rfl (of21_ok (newC (idk id))) ?_  -- [5] t34 := Op.call { callee := Callee.value (Operand.func 28), args := #[t33], argTypes := #[56] }
  refine opsd_pure_yes rfl rfl rfl rfl (same21_ok (newC (idk id)) (newC (idk id)) (Nat.zero_le _) (Nat.zero_le _)) ?_  -- [6] t35 := Op.call { callee := Callee.value (Operand.func 27), args := #[t32, t34], argTypes := #[62, 62] }
  refine opsd_free_yes (fn := 0) rfl rfl rfl rfl rfl (fun _ => a_not rfl) rfl rfl ?_  -- [7] t36 := Op.unOp UnOp.not 4 (t35)
  refine opsd_free (fn := 0) (fun _ => a_pick_f rfl rfl rfl) rfl rfl rfl ?_  -- [8] t37 := Op.pick (t30) (#(bool true)) (t36)
  refine opsd_nil (by kernel_rfl) (by kernel_rfl) ?_
  refine run_cond rfl (fun h => by simp at h) (fun _ => ?_)
  refine run_skip ?_
  refine run_seq ?_
  refine run_region ?_
  refine ops_ret (fn := 0) ((by first | exact x_load2 rfl ta56 ts56 rfl rfl rfl rfl | exact x_load_ep2 ta56 ts56 rfl rfl rfl)) rfl rfl ?_  -- [0] t39 := Op.load 56 (t5)
  refine ops_pure hst' ?_  -- [1] t40 := Op.call { callee := Callee.value (Operand.func 29), args := #[t39, #(int i64 4), #(string { data := 
  refine ops_ret (fn := 0) (a_move rfl) rfl rfl ?_  -- [2] t38 := Op.move (t40)
  refine ops_ret (fn := 0) (a_extract rfl rfl) rfl rfl ?_  -- [3] t41 := Op.extract (t38) 0
  refine ops_ret (fn := 0) (a_extract rfl rfl) rfl rfl ?_  -- [4] t42 := Op.extract (t38) 1
  refine ops_ret (fn := 0) (a_extract rfl rfl) rfl rfl ?_  -- [5] t43 := Op.extract (t38) 2
  refine ops_ret (fn := 0) (x_store rfl ts56 rfl rfl rfl rfl rfl rfl rfl rfl) rfl rfl ?_  -- [6] none := Op.store 56 (t5) (t41)
  refine ops_ret (fn := 0) (a_assign rfl) rfl rfl ?_  -- [7] t6 := Op.assign (t43)
  refine ops_nil ?_
  refine run_seq ?_
  refine run_seq ?_
  refine run_region ?_
  refine ops_ret (fn := 0) (a_move rfl) rfl rfl ?_  -- [0] t44 := Op.move (t6)
  refine ops_ret (fn := 0) ((by first | exact a_nequ rfl (show (EV gl).P.underlying 30 = _ from Tryd.underlying30) rfl rfl | exact a_neqn (show (EV gl).P.underlying 30 = _ from Tryd.underlying30) rfl rfl rfl)) rfl rfl ?_  -- [1] t45 := Op.binOp BinOp.neq 30 (t44) (#nilIface) 30
  refine ops_nil ?_
  refine run_cond rfl (fun h => by cases h) (fun _ => ?_)
  refine run_skip ?_
  refine run_seq ?_
  by_cases hm : mineL (deafC (idk id)) M
  · by_cases h9 : M.answer = 9
    · have hh : hearL (deafC (idk id)) M = ({ deafC (idk id) with refused := true }, false) := by unfold hearL; rw [if_pos hm, if_pos ⟨h9, show (0 : Int) + 1 < 3 by decide⟩]
      have hhe2 := hear_ok (gl := gl) (deafC (idk id)) M
      rw [hh] at hhe2
      refine run_region ?_
      refine ops_ret (fn := 0) ((by first | exact x_load2 rfl ta56 ts56 rfl rfl rfl rfl | exact x_load_ep2 ta56 ts56 rfl rfl rfl)) rfl rfl ?_  -- [0] t47 := Op.load 56 (t5)
      refine ops_ret (fn := 0) ((by first | exact x_load2 rfl ta54 ts54 rfl rfl rfl rfl | exact x_load_ep2 ta54 ts54 rfl rfl rfl)) rfl rfl ?_  -- [1] t48 := Op.load 54 (t3)
      refine ops_pure hhe2 ?_  -- [2] t49 := Op.call { callee := Callee.value (Operand.func 31), args := #[t47, t48], argTypes := #[56, 54] }
      refine ops_ret (fn := 0) (a_move rfl) rfl rfl ?_  -- [3] t46 := Op.move (t49)
      refine ops_ret (fn := 0) (a_extract rfl rfl) rfl rfl ?_  -- [4] t50 := Op.extract (t46) 0
      refine ops_ret (fn := 0) (a_extract rfl rfl) rfl rfl ?_  -- [5] t51 := Op.extract (t46) 1
      refine ops_ret (fn := 0) (x_store rfl ts56 rfl rfl rfl rfl rfl rfl rfl rfl) rfl rfl ?_  -- [6] none := Op.store 56 (t7) (t50)
      refine ops_ret (fn := 0) (a_assign (y := .v (.bool _)) rfl) rfl rfl ?_  -- [7] t8 := Op.assign (t51)
      refine ops_nil ?_
      refine run_seq ?_
      refine run_seq ?_
      refine run_region ?_
      refine ops_ret (fn := 0) (x_fld tst54 rfl rfl rfl) rfl rfl ?_  -- [0] t52 := Op.fieldAddr 54 (t3) 0
      refine ops_ret (fn := 0) (x_load1 rfl ta3 ts3 rfl rfl rfl) rfl rfl ?_  -- [1] t53 := Op.load 3 (t52)
      refine ops_ret (fn := 0) (a_eql rfl rfl) rfl rfl ?_  -- [2] t54 := Op.binOp BinOp.eql 3 (t53) (#(int i64 3)) 3
      refine ops_ret (fn := 0) (a_move (y := .v (.bool _)) rfl) rfl rfl ?_  -- [3] t55 := Op.move (t54)
      refine ops_yes (fn := 0) rfl rfl rfl (decide_eq_true hm.2.1) (x_fld tst54 rfl rfl rfl) rfl ?_  -- [4] t56 := Op.fieldAddr 54 (t3) 1
      refine ops_yes (fn := 0) rfl rfl rfl (decide_eq_true hm.2.1) (x_load1 rfl ta3 ts3 rfl rfl rfl) rfl ?_  -- [5] t57 := Op.load 3 (t56)
      refine ops_yes (fn := 0) rfl rfl rfl (decide_eq_true hm.2.1) (x_fld tst56 rfl rfl rfl) rfl ?_  -- [6] t58 := Op.fieldAddr 56 (t5) 0
      refine ops_yes (fn := 0) rfl rfl rfl (decide_eq_true hm.2.1) (x_load1 rfl ta3 ts3 rfl rfl rfl) rfl ?_  -- [7] t59 := Op.load 3 (t58)
      refine ops_yes (fn := 0) rfl rfl rfl (decide_eq_true hm.2.1) (a_eql rfl rfl) rfl ?_  -- [8] t60 := Op.binOp BinOp.eql 3 (t57) (t59) 3
      refine ops_ret (fn := 0) (a_pick_t rfl (decide_eq_true hm.2.1) rfl) rfl rfl ?_  -- [9] t61 := Op.pick (t55) (t60) (#(bool false))
      refine ops_ret (fn := 0) (a_move (y := .v (.bool _)) rfl) rfl rfl ?_  -- [10] t62 := Op.move (t61)
      refine ops_yes (fn := 0) rfl rfl rfl (decide_eq_true hm.2.2.1) (x_fld tst54 rfl rfl rfl) rfl ?_  -- [11] t63 := Op.fieldAddr 54 (t3) 2
      refine ops_yes (fn := 0) rfl rfl rfl (decide_eq_true hm.2.2.1) (x_load1 rfl ta3 ts3 rfl rfl rfl) rfl ?_  -- [12] t64 := Op.load 3 (t63)
      refine ops_yes (fn := 0) rfl rfl rfl (decide_eq_true hm.2.2.1) (x_fld tst56 rfl rfl rfl) rfl ?_  -- [13] t65 := Op.fieldAddr 56 (t5) 1
      refine ops_yes (fn := 0) rfl rfl rfl (decide_eq_true hm.2.2.1) (x_load1 rfl ta3 ts3 rfl rfl rfl) rfl ?_  -- [14] t66 := Op.load 3 (t65)
      refine ops_yes (fn := 0) rfl rfl rfl (decide_eq_true hm.2.2.1) (a_eql rfl rfl) rfl ?_  -- [15] t67 := Op.binOp BinOp.eql 3 (t64) (t66) 3
      refine ops_ret (fn := 0) (a_pick_t rfl (decide_eq_true hm.2.2.1) rfl) rfl rfl ?_  -- [16] t68 := Op.pick (t62) (t67) (#(bool false))
      refine ops_nil ?_
      refine run_cond rfl (fun h => ?_) (fun h => ?_)
      · refine run_seq ?_
        refine run_region ?_
        refine ops_ret (fn := 0) (a_move (y := .v (.bool _)) rfl) rfl rfl ?_  -- [0] t69 := Op.move (t8)
        refine ops_ret (fn := 0) (x_fld tst54 rfl rfl rfl) rfl rfl ?_  -- [1] t70 := Op.fieldAddr 54 (t3) 10
        refine ops_ret (fn := 0) (x_load1 rfl ta3 ts3 rfl rfl rfl) rfl rfl ?_  -- [2] t71 := Op.load 3 (t70)
        refine ops_ret (fn := 0) (a_neq rfl rfl) rfl rfl ?_  -- [3] t72 := Op.binOp BinOp.neq 3 (t71) (#(int i64 9)) 3
        refine ops_ret (fn := 0) (a_eqb (show (EV gl).P.underlying 4 = _ from Tryd.underlying4) rfl rfl) rfl rfl ?_  -- [4] t73 := Op.binOp BinOp.eql 4 (t69) (t72) 4
        refine ops_ret (fn := 0) (a_assign (y := .v (.bool _)) rfl) rfl rfl ?_  -- [5] t4 := Op.assign (t73)
        refine ops_nil ?_
        exact ret1 rfl ⟨by rw [h9]; exact Le.refl _, Ext.mx _ _⟩
      · have := of_decide_eq_false h
        exact absurd hm.2.2.2 this
    · have hh : hearL (deafC (idk id)) M = (overL (deafC (idk id)) M.answer M, true) := by unfold hearL; rw [if_pos hm, if_neg fun h => h9 h.1]
      have hhe2 := hear_ok (gl := gl) (deafC (idk id)) M
      rw [hh] at hhe2
      refine run_region ?_
      refine ops_ret (fn := 0) ((by first | exact x_load2 rfl ta56 ts56 rfl rfl rfl rfl | exact x_load_ep2 ta56 ts56 rfl rfl rfl)) rfl rfl ?_  -- [0] t47 := Op.load 56 (t5)
      refine ops_ret (fn := 0) ((by first | exact x_load2 rfl ta54 ts54 rfl rfl rfl rfl | exact x_load_ep2 ta54 ts54 rfl rfl rfl)) rfl rfl ?_  -- [1] t48 := Op.load 54 (t3)
      refine ops_pure hhe2 ?_  -- [2] t49 := Op.call { callee := Callee.value (Operand.func 31), args := #[t47, t48], argTypes := #[56, 54] }
      refine ops_ret (fn := 0) (a_move rfl) rfl rfl ?_  -- [3] t46 := Op.move (t49)
      refine ops_ret (fn := 0) (a_extract rfl rfl) rfl rfl ?_  -- [4] t50 := Op.extract (t46) 0
      refine ops_ret (fn := 0) (a_extract rfl rfl) rfl rfl ?_  -- [5] t51 := Op.extract (t46) 1
      refine ops_ret (fn := 0) (x_store rfl ts56 rfl rfl rfl rfl rfl rfl rfl rfl) rfl rfl ?_  -- [6] none := Op.store 56 (t7) (t50)
      refine ops_ret (fn := 0) (a_assign (y := .v (.bool _)) rfl) rfl rfl ?_  -- [7] t8 := Op.assign (t51)
      refine ops_nil ?_
      refine run_seq ?_
      refine run_seq ?_
      refine run_region ?_
      refine ops_ret (fn := 0) (x_fld tst54 rfl rfl rfl) rfl rfl ?_  -- [0] t52 := Op.fieldAddr 54 (t3) 0
      refine ops_ret (fn := 0) (x_load1 rfl ta3 ts3 rfl rfl rfl) rfl rfl ?_  -- [1] t53 := Op.load 3 (t52)
      refine ops_ret (fn := 0) (a_eql rfl rfl) rfl rfl ?_  -- [2] t54 := Op.binOp BinOp.eql 3 (t53) (#(int i64 3)) 3
      refine ops_ret (fn := 0) (a_move (y := .v (.bool _)) rfl) rfl rfl ?_  -- [3] t55 := Op.move (t54)
      refine ops_yes (fn := 0) rfl rfl rfl (decide_eq_true hm.2.1) (x_fld tst54 rfl rfl rfl) rfl ?_  -- [4] t56 := Op.fieldAddr 54 (t3) 1
      refine ops_yes (fn := 0) rfl rfl rfl (decide_eq_true hm.2.1) (x_load1 rfl ta3 ts3 rfl rfl rfl) rfl ?_  -- [5] t57 := Op.load 3 (t56)
      refine ops_yes (fn := 0) rfl rfl rfl (decide_eq_true hm.2.1) (x_fld tst56 rfl rfl rfl) rfl ?_  -- [6] t58 := Op.fieldAddr 56 (t5) 0
      refine ops_yes (fn := 0) rfl rfl rfl (decide_eq_true hm.2.1) (x_load1 rfl ta3 ts3 rfl rfl rfl) rfl ?_  -- [7] t59 := Op.load 3 (t58)
      refine ops_yes (fn := 0) rfl rfl rfl (decide_eq_true hm.2.1) (a_eql rfl rfl) rfl ?_  -- [8] t60 := Op.binOp BinOp.eql 3 (t57) (t59) 3
      refine ops_ret (fn := 0) (a_pick_t rfl (decide_eq_true hm.2.1) rfl) rfl rfl ?_  -- [9] t61 := Op.pick (t55) (t60) (#(bool false))
      refine ops_ret (fn := 0) (a_move (y := .v (.bool _)) rfl) rfl rfl ?_  -- [10] t62 := Op.move (t61)
      refine ops_yes (fn := 0) rfl rfl rfl (decide_eq_true hm.2.2.1) (x_fld tst54 rfl rfl rfl) rfl ?_  -- [11] t63 := Op.fieldAddr 54 (t3) 2
      refine ops_yes (fn := 0) rfl rfl rfl (decide_eq_true hm.2.2.1) (x_load1 rfl ta3 ts3 rfl rfl rfl) rfl ?_  -- [12] t64 := Op.load 3 (t63)
      refine ops_yes (fn := 0) rfl rfl rfl (decide_eq_true hm.2.2.1) (x_fld tst56 rfl rfl rfl) rfl ?_  -- [13] t65 := Op.fieldAddr 56 (t5) 1
      refine ops_yes (fn := 0) rfl rfl rfl (decide_eq_true hm.2.2.1) (x_load1 rfl ta3 ts3 rfl rfl rfl) rfl ?_  -- [14] t66 := Op.load 3 (t65)
      refine ops_yes (fn := 0) rfl rfl rfl (decide_eq_true hm.2.2.1) (a_eql rfl rfl) rfl ?_  -- [15] t67 := Op.binOp BinOp.eql 3 (t64) (t66) 3
      refine ops_ret (fn := 0) (a_pick_t rfl (decide_eq_true hm.2.2.1) rfl) rfl rfl ?_  -- [16] t68 := Op.pick (t62) (t67) (#(bool false))
      refine ops_nil ?_
      refine run_cond rfl (fun h => ?_) (fun h => ?_)
      · refine run_seq ?_
        refine run_region ?_
        refine ops_ret (fn := 0) (a_move (y := .v (.bool _)) rfl) rfl rfl ?_  -- [0] t69 := Op.move (t8)
        refine ops_ret (fn := 0) (x_fld tst54 rfl rfl rfl) rfl rfl ?_  -- [1] t70 := Op.fieldAddr 54 (t3) 10
        refine ops_ret (fn := 0) (x_load1 rfl ta3 ts3 rfl rfl rfl) rfl rfl ?_  -- [2] t71 := Op.load 3 (t70)
        refine ops_ret (fn := 0) (a_neq rfl rfl) rfl rfl ?_  -- [3] t72 := Op.binOp BinOp.neq 3 (t71) (#(int i64 9)) 3
        refine ops_ret (fn := 0) (a_eqb (show (EV gl).P.underlying 4 = _ from Tryd.underlying4) rfl rfl) rfl rfl ?_  -- [4] t73 := Op.binOp BinOp.eql 4 (t69) (t72) 4
        refine ops_ret (fn := 0) (a_assign (y := .v (.bool _)) rfl) rfl rfl ?_  -- [5] t4 := Op.assign (t73)
        refine ops_nil ?_
        exact ret1 rfl ⟨by rw [decide_eq_false h9]; exact Le.refl _, Ext.mx _ _⟩
      · have := of_decide_eq_false h
        exact absurd hm.2.2.2 this
  · have hh : hearL (deafC (idk id)) M = (deafC (idk id), false) := by unfold hearL; rw [if_neg hm]
    have hhe2 := hear_ok (gl := gl) (deafC (idk id)) M
    rw [hh] at hhe2
    have hsm := same21_ok (gl := gl) (deafC (idk id)) (deafC (idk id)) (Nat.zero_le _) (Nat.zero_le _)
    rw [decide_eq_true rfl] at hsm
    refine run_region ?_
    refine ops_ret (fn := 0) ((by first | exact x_load2 rfl ta56 ts56 rfl rfl rfl rfl | exact x_load_ep2 ta56 ts56 rfl rfl rfl)) rfl rfl ?_  -- [0] t47 := Op.load 56 (t5)
    refine ops_ret (fn := 0) ((by first | exact x_load2 rfl ta54 ts54 rfl rfl rfl rfl | exact x_load_ep2 ta54 ts54 rfl rfl rfl)) rfl rfl ?_  -- [1] t48 := Op.load 54 (t3)
    refine ops_pure hhe2 ?_  -- [2] t49 := Op.call { callee := Callee.value (Operand.func 31), args := #[t47, t48], argTypes := #[56, 54] }
    refine ops_ret (fn := 0) (a_move rfl) rfl rfl ?_  -- [3] t46 := Op.move (t49)
    refine ops_ret (fn := 0) (a_extract rfl rfl) rfl rfl ?_  -- [4] t50 := Op.extract (t46) 0
    refine ops_ret (fn := 0) (a_extract rfl rfl) rfl rfl ?_  -- [5] t51 := Op.extract (t46) 1
    refine ops_ret (fn := 0) (x_store rfl ts56 rfl rfl rfl rfl rfl rfl rfl rfl) rfl rfl ?_  -- [6] none := Op.store 56 (t7) (t50)
    refine ops_ret (fn := 0) (a_assign (y := .v (.bool _)) rfl) rfl rfl ?_  -- [7] t8 := Op.assign (t51)
    refine ops_nil ?_
    refine run_seq ?_
    refine run_seq ?_
    refine run_region ?_
    refine ops_ret (fn := 0) (x_fld tst54 rfl rfl rfl) rfl rfl ?_  -- [0] t52 := Op.fieldAddr 54 (t3) 0
    refine ops_ret (fn := 0) (x_load1 rfl ta3 ts3 rfl rfl rfl) rfl rfl ?_  -- [1] t53 := Op.load 3 (t52)
    refine ops_ret (fn := 0) (a_eql rfl rfl) rfl rfl ?_  -- [2] t54 := Op.binOp BinOp.eql 3 (t53) (#(int i64 3)) 3
    refine ops_ret (fn := 0) (a_move (y := .v (.bool _)) rfl) rfl rfl ?_  -- [3] t55 := Op.move (t54)
    refine ops_splitF (t := 55) rfl (fun hg3 => ?_) (fun hg3 => ?_)
    · refine ops_not rfl rfl rfl rfl ?_
      refine ops_not rfl rfl rfl rfl ?_
      refine ops_not rfl rfl rfl rfl ?_
      refine ops_not rfl rfl rfl rfl ?_
      refine ops_not rfl rfl rfl rfl ?_
      refine ops_ret (fn := 0) (a_pick_f rfl rfl rfl) rfl rfl ?_  -- [9] t61 := Op.pick (t55) (t60) (#(bool false))
      refine ops_ret (fn := 0) (a_move (y := .v (.bool _)) rfl) rfl rfl ?_  -- [10] t62 := Op.move (t61)
      refine ops_not rfl rfl rfl rfl ?_
      refine ops_not rfl rfl rfl rfl ?_
      refine ops_not rfl rfl rfl rfl ?_
      refine ops_not rfl rfl rfl rfl ?_
      refine ops_not rfl rfl rfl rfl ?_
      refine ops_ret (fn := 0) (a_pick_f rfl rfl rfl) rfl rfl ?_  -- [16] t68 := Op.pick (t62) (t67) (#(bool false))
      refine ops_nil ?_
      refine run_cond rfl (fun h => by cases h) (fun _ => ?_)
      refine run_skip ?_
      refine run_seq ?_
      refine run_draw tmix (by kernel_rfl) ?_
      refine opsd_free (fn := 0) (fun _ => a_move (y := .v (.bool _)) rfl) rfl rfl rfl ?_  -- [0] t74 := Op.move (t8)
      refine opsd_free (fn := 0) (fun _ => a_not rfl) rfl rfl rfl ?_  -- [1] t75 := Op.unOp UnOp.not 4 (t74)
      refine opsd_free (fn := 0) (fun _ => a_move (y := .v (.bool _)) rfl) rfl rfl rfl ?_  -- [2] t76 := Op.move (t75)
      refine opsd_look_yes (fn := 0) rfl rfl rfl rfl rfl ((by first | exact x_load2 rfl ta56 ts56 rfl rfl rfl rfl | exact x_load_ep2 ta56 ts56 rfl rfl rfl)) rfl rfl ?_  -- [3] t77 := Op.load 56 (t5)
      refine opsd_pure_yes rfl rfl rfl rfl (of21_ok (deafC (idk id))) ?_  -- [4] t78 := Op.call { callee := Callee.value (Operand.func 28), args := #[t77], argTypes := #[56] }
      refine opsd_look_yes (fn := 0) rfl rfl rfl rfl rfl ((by first | exact x_load2 rfl ta56 ts56 rfl rfl rfl rfl | exact x_load_ep2 ta56 ts56 rfl rfl rfl)) rfl rfl ?_  -- [5] t79 := Op.load 56 (t7)
      refine opsd_pure_yes rfl rfl rfl rfl (of21_ok (deafC (idk id))) ?_  -- [6] t80 := Op.call { callee := Callee.value (Operand.func 28), args := #[t79], argTypes := #[56] }
      refine opsd_pure_yes rfl rfl rfl rfl (hsm) ?_  -- [7] t81 := Op.call { callee := Callee.value (Operand.func 27), args := #[t78, t80], argTypes := #[62, 62] }
      refine opsd_free (fn := 0) (fun _ => a_pick_t rfl rfl rfl) rfl rfl rfl ?_  -- [8] t82 := Op.pick (t76) (t81) (#(bool false))
      refine opsd_free (fn := 0) (fun _ => a_assign (y := .v (.bool _)) rfl) rfl rfl rfl ?_  -- [9] t4 := Op.assign (t82)
      refine opsd_nil (by kernel_rfl) (by kernel_rfl) ?_
      exact ret1 rfl ⟨Le.refl _, Ext.mx _ _⟩
    refine ops_yes (fn := 0) rfl rfl rfl rfl (x_fld tst54 rfl rfl rfl) rfl ?_  -- [4] t56 := Op.fieldAddr 54 (t3) 1
    refine ops_yes (fn := 0) rfl rfl rfl rfl (x_load1 rfl ta3 ts3 rfl rfl rfl) rfl ?_  -- [5] t57 := Op.load 3 (t56)
    refine ops_yes (fn := 0) rfl rfl rfl rfl (x_fld tst56 rfl rfl rfl) rfl ?_  -- [6] t58 := Op.fieldAddr 56 (t5) 0
    refine ops_yes (fn := 0) rfl rfl rfl rfl (x_load1 rfl ta3 ts3 rfl rfl rfl) rfl ?_  -- [7] t59 := Op.load 3 (t58)
    refine ops_yes (fn := 0) rfl rfl rfl rfl (a_eql rfl rfl) rfl ?_  -- [8] t60 := Op.binOp BinOp.eql 3 (t57) (t59) 3
    refine ops_ret (fn := 0) (a_pick_t rfl rfl rfl) rfl rfl ?_  -- [9] t61 := Op.pick (t55) (t60) (#(bool false))
    refine ops_ret (fn := 0) (a_move (y := .v (.bool _)) rfl) rfl rfl ?_  -- [10] t62 := Op.move (t61)
    refine ops_splitF (t := 62) rfl (fun hg10 => ?_) (fun hg10 => ?_)
    · refine ops_not rfl rfl rfl rfl ?_
      refine ops_not rfl rfl rfl rfl ?_
      refine ops_not rfl rfl rfl rfl ?_
      refine ops_not rfl rfl rfl rfl ?_
      refine ops_not rfl rfl rfl rfl ?_
      refine ops_ret (fn := 0) (a_pick_f rfl rfl rfl) rfl rfl ?_  -- [16] t68 := Op.pick (t62) (t67) (#(bool false))
      refine ops_nil ?_
      refine run_cond rfl (fun h => by cases h) (fun _ => ?_)
      refine run_skip ?_
      refine run_seq ?_
      refine run_draw tmix (by kernel_rfl) ?_
      refine opsd_free (fn := 0) (fun _ => a_move (y := .v (.bool _)) rfl) rfl rfl rfl ?_  -- [0] t74 := Op.move (t8)
      refine opsd_free (fn := 0) (fun _ => a_not rfl) rfl rfl rfl ?_  -- [1] t75 := Op.unOp UnOp.not 4 (t74)
      refine opsd_free (fn := 0) (fun _ => a_move (y := .v (.bool _)) rfl) rfl rfl rfl ?_  -- [2] t76 := Op.move (t75)
      refine opsd_look_yes (fn := 0) rfl rfl rfl rfl rfl ((by first | exact x_load2 rfl ta56 ts56 rfl rfl rfl rfl | exact x_load_ep2 ta56 ts56 rfl rfl rfl)) rfl rfl ?_  -- [3] t77 := Op.load 56 (t5)
      refine opsd_pure_yes rfl rfl rfl rfl (of21_ok (deafC (idk id))) ?_  -- [4] t78 := Op.call { callee := Callee.value (Operand.func 28), args := #[t77], argTypes := #[56] }
      refine opsd_look_yes (fn := 0) rfl rfl rfl rfl rfl ((by first | exact x_load2 rfl ta56 ts56 rfl rfl rfl rfl | exact x_load_ep2 ta56 ts56 rfl rfl rfl)) rfl rfl ?_  -- [5] t79 := Op.load 56 (t7)
      refine opsd_pure_yes rfl rfl rfl rfl (of21_ok (deafC (idk id))) ?_  -- [6] t80 := Op.call { callee := Callee.value (Operand.func 28), args := #[t79], argTypes := #[56] }
      refine opsd_pure_yes rfl rfl rfl rfl (hsm) ?_  -- [7] t81 := Op.call { callee := Callee.value (Operand.func 27), args := #[t78, t80], argTypes := #[62, 62] }
      refine opsd_free (fn := 0) (fun _ => a_pick_t rfl rfl rfl) rfl rfl rfl ?_  -- [8] t82 := Op.pick (t76) (t81) (#(bool false))
      refine opsd_free (fn := 0) (fun _ => a_assign (y := .v (.bool _)) rfl) rfl rfl rfl ?_  -- [9] t4 := Op.assign (t82)
      refine opsd_nil (by kernel_rfl) (by kernel_rfl) ?_
      exact ret1 rfl ⟨Le.refl _, Ext.mx _ _⟩
    refine ops_yes (fn := 0) rfl rfl rfl rfl (x_fld tst54 rfl rfl rfl) rfl ?_  -- [11] t63 := Op.fieldAddr 54 (t3) 2
    refine ops_yes (fn := 0) rfl rfl rfl rfl (x_load1 rfl ta3 ts3 rfl rfl rfl) rfl ?_  -- [12] t64 := Op.load 3 (t63)
    refine ops_yes (fn := 0) rfl rfl rfl rfl (x_fld tst56 rfl rfl rfl) rfl ?_  -- [13] t65 := Op.fieldAddr 56 (t5) 1
    refine ops_yes (fn := 0) rfl rfl rfl rfl (x_load1 rfl ta3 ts3 rfl rfl rfl) rfl ?_  -- [14] t66 := Op.load 3 (t65)
    refine ops_yes (fn := 0) rfl rfl rfl rfl (a_eql rfl rfl) rfl ?_  -- [15] t67 := Op.binOp BinOp.eql 3 (t64) (t66) 3
    refine ops_ret (fn := 0) (a_pick_t rfl rfl rfl) rfl rfl ?_  -- [16] t68 := Op.pick (t62) (t67) (#(bool false))
    refine ops_nil ?_
    refine run_cond rfl (fun h => ?_) (fun _ => ?_)
    · exact absurd ⟨rfl, of_decide_eq_true hg3, of_decide_eq_true hg10, of_decide_eq_true h⟩ hm
    refine run_skip ?_
    refine run_seq ?_
    refine run_draw tmix (by kernel_rfl) ?_
    refine opsd_free (fn := 0) (fun _ => a_move (y := .v (.bool _)) rfl) rfl rfl rfl ?_  -- [0] t74 := Op.move (t8)
    refine opsd_free (fn := 0) (fun _ => a_not rfl) rfl rfl rfl ?_  -- [1] t75 := Op.unOp UnOp.not 4 (t74)
    refine opsd_free (fn := 0) (fun _ => a_move (y := .v (.bool _)) rfl) rfl rfl rfl ?_  -- [2] t76 := Op.move (t75)
    refine opsd_look_yes (fn := 0) rfl rfl rfl rfl rfl ((by first | exact x_load2 rfl ta56 ts56 rfl rfl rfl rfl | exact x_load_ep2 ta56 ts56 rfl rfl rfl)) rfl rfl ?_  -- [3] t77 := Op.load 56 (t5)
    refine opsd_pure_yes rfl rfl rfl rfl (of21_ok (deafC (idk id))) ?_  -- [4] t78 := Op.call { callee := Callee.value (Operand.func 28), args := #[t77], argTypes := #[56] }
    refine opsd_look_yes (fn := 0) rfl rfl rfl rfl rfl ((by first | exact x_load2 rfl ta56 ts56 rfl rfl rfl rfl | exact x_load_ep2 ta56 ts56 rfl rfl rfl)) rfl rfl ?_  -- [5] t79 := Op.load 56 (t7)
    refine opsd_pure_yes rfl rfl rfl rfl (of21_ok (deafC (idk id))) ?_  -- [6] t80 := Op.call { callee := Callee.value (Operand.func 28), args := #[t79], argTypes := #[56] }
    refine opsd_pure_yes rfl rfl rfl rfl (hsm) ?_  -- [7] t81 := Op.call { callee := Callee.value (Operand.func 27), args := #[t78, t80], argTypes := #[62, 62] }
    refine opsd_free (fn := 0) (fun _ => a_pick_t rfl rfl rfl) rfl rfl rfl ?_  -- [8] t82 := Op.pick (t76) (t81) (#(bool false))
    refine opsd_free (fn := 0) (fun _ => a_assign (y := .v (.bool _)) rfl) rfl rfl rfl ?_  -- [9] t4 := Op.assign (t82)
    refine opsd_nil (by kernel_rfl) (by kernel_rfl) ?_
    exact ret1 rfl ⟨Le.refl _, Ext.mx _ _⟩
end
end Go.Vm
