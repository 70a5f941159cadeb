/- Layers 16 and 21: contracts for the laws of the client: what is the same. -/
import Derived.Test.YtmppnmffbmpcpaaDoorCliA
set_option linter.unusedVariables false
set_option linter.unusedSimpArgs false
namespace Go.Vm
open Go.RowKit Go.Proofs
section
variable {gl : Nat → Option (List Value)}

theorem sameLists_ok (a b : List (List UInt8)) (ha : a.length ≤ 1000000) : Pure (EV gl) 81 [lsl a, lsl b] (.ret (.v (.bool (decide (a = b))))) := by
  refine Pure.mk (fun _ => Nf.v) fun m => ?_
  refine spec_body (fn := Tryd.f81) (n := 28) (rs := [ResultVar.tmp 4]) (by decide) Tryd.func81 rfl rfl rfl rfl ?_
  refine run_seq ?_
  refine run_region ?_
  refine ops_ret (fn := 0) (a_assign (y := .v (.bool _)) rfl) rfl rfl ?_  -- [0] t4 := Op.assign (#(bool false))
  refine ops_nil ?_
  refine run_seq ?_
  refine run_seq ?_
  refine run_region ?_
  refine ops_ret (fn := 0) (a_move rfl) rfl rfl ?_  -- [0] t6 := Op.move (t0)
  refine ops_ret (fn := 0) ((by first | exact a_len_sl (show (EV gl).P.underlying 52 = _ from Tryd.underlying52) rfl | exact a_len_ref (show (EV gl).P.underlying 52 = _ from Tryd.underlying52) rfl)) rfl rfl ?_  -- [1] t7 := Op.call { callee := Callee.builtin Builtin.len, args := #[t6], argTypes := #[52] }
  refine ops_ret (fn := 0) (a_move rfl) rfl rfl ?_  -- [2] t8 := Op.move (t1)
  refine ops_ret (fn := 0) ((by first | exact a_len_sl (show (EV gl).P.underlying 52 = _ from Tryd.underlying52) rfl | exact a_len_ref (show (EV gl).P.underlying 52 = _ from Tryd.underlying52) rfl)) rfl rfl ?_  -- [3] t9 := Op.call { callee := Callee.builtin Builtin.len, args := #[t8], argTypes := #[52] }
  refine ops_ret (fn := 0) (a_neq rfl rfl) rfl rfl ?_  -- [4] t10 := Op.binOp BinOp.neq 3 (t7) (t9) 3
  refine ops_nil ?_
  refine run_cond rfl (fun h => ?_) (fun h => ?_)
  · have hne : a.length ≠ b.length := fun e => by rw [decide_eq_true (by omega)] at h; cases h
    refine run_seq ?_
    refine run_region ?_
    refine ops_ret (fn := 0) (a_assign (y := .v (.bool _)) rfl) rfl rfl ?_  -- [0] t4 := Op.assign (#(bool false))
    refine ops_nil ?_
    exact ret1 rfl ⟨by rw [show decide (a = b) = false from decide_eq_false (fun h => hne (by rw [h]))]; exact Le.refl _, Ext.mx _ _⟩
  have heq : a.length = b.length := by
    refine Classical.byContradiction fun hne => ?_
    rw [decide_eq_false (by omega)] at h; cases h
  refine run_skip ?_
  refine run_seq ?_
  refine run_seq ?_
  refine run_region ?_
  refine ops_ret (fn := 0) (a_move rfl) rfl rfl ?_  -- [0] t11 := Op.move (t0)
  refine ops_ret (fn := 0) ((by first | exact a_len_sl (show (EV gl).P.underlying 52 = _ from Tryd.underlying52) rfl | exact a_len_ref (show (EV gl).P.underlying 52 = _ from Tryd.underlying52) rfl)) rfl rfl ?_  -- [1] t12 := Op.call { callee := Callee.builtin Builtin.len, args := #[t11], argTypes := #[52] }
  refine ops_ret (fn := 0) (a_move (y := .v (.int _ _)) rfl) rfl rfl ?_  -- [2] t13 := Op.move (#(int i64 0))
  refine ops_nil ?_
  refine run_block ?_
  refine run_ind (α := Nat) (fun k φ M' => ∃ ψ, φ = updL ψ [(0, lsl a), (1, lsl b), (12, .v (.int .i64 (a.length : Nat))), (13, .v (.int .i64 (k : Nat)))] ∧ M' = mx m [] ∧ k ≤ a.length ∧ a.take k = b.take k) (fun k => a.length - k) 0 ⟨_, updL_of _ ⟨rfl, rfl, rfl, rfl, trivial⟩, rfl, Nat.zero_le _, rfl⟩ ?_
  rintro k φ M' ⟨ψ, rfl, rfl, hkl, hsm⟩ ih
  refine run_seq ?_
  refine run_region ?_
  refine ops_ret (fn := 0) (a_lss rfl rfl) rfl rfl ?_  -- [0] t14 := Op.binOp BinOp.lss 3 (t13) (t12) 3
  refine ops_nil ?_
  refine run_seq ?_
  refine run_cond rfl (fun hc => ?_) (fun hc => ?_)
  · have hlt : k < a.length := by have := of_decide_eq_true hc; omega
    obtain ⟨x, hx⟩ : ∃ x, a[k]? = some x := ⟨_, List.getElem?_eq_getElem hlt⟩
    obtain ⟨y, hy⟩ : ∃ y, b[k]? = some y := ⟨_, List.getElem?_eq_getElem (by omega)⟩
    refine run_skip ?_
    refine run_seq ?_
    refine run_block ?_
    refine run_seq ?_
    refine run_region ?_
    refine ops_ret (fn := 0) (a_move (y := .v (.int _ _)) rfl) rfl rfl ?_  -- [0] t15 := Op.move (t13)
    refine ops_ret (fn := 0) (a_assign (y := .v (.int _ _)) rfl) rfl rfl ?_  -- [1] t5 := Op.assign (t15)
    refine ops_nil ?_
    refine run_seq ?_
    refine run_draw tmix (by kernel_rfl) ?_
    refine opsd_free (fn := 0) (fun _ => a_move rfl) rfl rfl rfl ?_  -- [0] t16 := Op.move (t0)
    refine opsd_free (fn := 0) (fun _ => a_move (y := .v (.int _ _)) rfl) rfl rfl rfl ?_  -- [1] t17 := Op.move (t5)
    refine opsd_free (fn := 0) (fun _ => x_idx_sl (show (EV gl).P.underlying 52 = _ from Tryd.underlying52) ts24 (by decide) rfl rfl rfl hlt (by simp) (bsl_at hx)) rfl rfl rfl ?_  -- [2] t18 := Op.indexAddr 52 (t16) (t17)
    refine opsd_free (fn := 0) (fun _ => x_load_ep1 ta24 ts24 rfl rfl) rfl rfl rfl ?_  -- [3] t19 := Op.load 24 (t18)
    refine opsd_free (fn := 0) (fun _ => a_text (show (EV gl).P.underlying 24 = _ from Tryd.underlying24) (show (EV gl).P.underlying 9 = _ from Tryd.underlying9) tib24 (content_bsl _)) rfl rfl rfl ?_  -- [4] t20 := Op.convert 24 9 (t19)
    refine opsd_free (fn := 0) (fun _ => a_move rfl) rfl rfl rfl ?_  -- [5] t21 := Op.move (t1)
    refine opsd_free (fn := 0) (fun _ => a_move (y := .v (.int _ _)) rfl) rfl rfl rfl ?_  -- [6] t22 := Op.move (t5)
    refine opsd_free (fn := 0) (fun _ => x_idx_sl (show (EV gl).P.underlying 52 = _ from Tryd.underlying52) ts24 (by decide) rfl rfl rfl (show k < b.length by omega) (by simp) (bsl_at hy)) rfl rfl rfl ?_  -- [7] t23 := Op.indexAddr 52 (t21) (t22)
    refine opsd_free (fn := 0) (fun _ => x_load_ep1 ta24 ts24 rfl rfl) rfl rfl rfl ?_  -- [8] t24 := Op.load 24 (t23)
    refine opsd_free (fn := 0) (fun _ => a_text (show (EV gl).P.underlying 24 = _ from Tryd.underlying24) (show (EV gl).P.underlying 9 = _ from Tryd.underlying9) tib24 (content_bsl _)) rfl rfl rfl ?_  -- [9] t25 := Op.convert 24 9 (t24)
    refine opsd_free (fn := 0) (fun _ => a_neqs rfl rfl) rfl rfl rfl ?_  -- [10] t26 := Op.binOp BinOp.neq 9 (t20) (t25) 9
    refine opsd_nil (by kernel_rfl) (by kernel_rfl) ?_
    refine run_cond rfl (fun h => ?_) (fun h => ?_)
    · have hne : x ≠ y := fun e => by rw [decide_eq_true e] at h; cases h
      refine run_seq ?_
      refine run_region ?_
      refine ops_ret (fn := 0) (a_assign (y := .v (.bool _)) rfl) rfl rfl ?_  -- [0] t4 := Op.assign (#(bool false))
      refine ops_nil ?_
      refine ret1 rfl ⟨?_, Ext.mx _ _⟩
      rw [show decide (a = b) = false from decide_eq_false (fun h => by subst h; rw [hx] at hy; exact hne (Option.some.inj hy))]
      exact Le.refl _
    have hxy : x = y := by
      refine Classical.byContradiction fun hne => ?_
      rw [decide_eq_false hne] at h; cases h
    refine run_skip ?_
    refine run_inBlock ?_
    refine run_region ?_
    refine ops_ret (fn := 0) (a_add rfl rfl (by first | exact w64 (by omega) | rfl)) rfl rfl ?_  -- [0] t27 := Op.binOp BinOp.add 3 (t13) (#(int i64 1)) 3
    refine ops_ret (fn := 0) (a_move (y := .v (.int _ _)) rfl) rfl rfl ?_  -- [1] t13 := Op.move (t27)
    refine ops_nil ?_
    refine ih (k + 1) _ _ (by omega) ⟨_, updL_of _ ⟨rfl, rfl, rfl, int_eq (by omega), trivial⟩, rfl, hlt, ?_⟩
    rw [List.take_add_one, List.take_add_one, hx, hy, hsm, hxy]
  · have hge : k = a.length := by have := of_decide_eq_false hc; omega
    subst hge
    rw [List.take_length, heq, List.take_length] at hsm
    refine run_exit rfl ?_
    refine run_seq ?_
    refine run_region ?_
    refine ops_ret (fn := 0) (a_assign (y := .v (.bool _)) rfl) rfl rfl ?_  -- [0] t4 := Op.assign (#(bool true))
    refine ops_nil ?_
    refine ret1 rfl ⟨?_, Ext.mx _ _⟩
    rw [show decide (a = b) = true from decide_eq_true hsm]
    exact Le.refl _

set_option maxHeartbeats 1000000 in
theorem same16_ok (M M' : Msg) (hl : M.list.length ≤ 1000000) : Pure (EV gl) 56 [.agg (msgA M), .agg (msgA M')] (.ret (.v (.bool (decide (M = M'))))) := by
  refine Pure.mk (fun _ => Nf.v) fun m => ?_
  refine spec_body (fn := Tryd.f56) (n := 94) (rs := [ResultVar.tmp 4]) (by decide) Tryd.func56 rfl rfl rfl rfl ?_
  refine run_seq ?_
  refine run_region ?_
  refine ops_ret (fn := 0) (x_box rfl rfl rfl) rfl rfl ?_  -- [0] t2 := Op.box 60 (t0)
  refine ops_ret (fn := 0) (x_box rfl rfl rfl) rfl rfl ?_  -- [1] t3 := Op.box 60 (t1)
  refine ops_ret (fn := 0) (a_assign (y := .v (.bool _)) rfl) rfl rfl ?_  -- [2] t4 := Op.assign (#(bool false))
  refine ops_nil ?_
  refine run_seq ?_
  refine run_seq ?_
  refine run_region ?_
  refine ops_ret (fn := 0) (x_fld tst60 rfl rfl rfl) rfl rfl ?_  -- [0] t5 := Op.fieldAddr 60 (t2) 0
  refine ops_ret (fn := 0) (x_load1 rfl ta3 ts3 rfl rfl rfl) rfl rfl ?_  -- [1] t6 := Op.load 3 (t5)
  refine ops_ret (fn := 0) (x_fld tst60 rfl rfl rfl) rfl rfl ?_  -- [2] t7 := Op.fieldAddr 60 (t3) 0
  refine ops_ret (fn := 0) (x_load1 rfl ta3 ts3 rfl rfl rfl) rfl rfl ?_  -- [3] t8 := Op.load 3 (t7)
  refine ops_ret (fn := 0) (a_neq rfl rfl) rfl rfl ?_  -- [4] t9 := Op.binOp BinOp.neq 3 (t6) (t8) 3
  refine ops_ret (fn := 0) (a_move (y := .v (.bool _)) rfl) rfl rfl ?_  -- [5] t10 := Op.move (t9)
  refine ops_split (t := 10) rfl (fun hg5 => ?_) (fun hg5 => ?_)
  · refine ops_not rfl rfl rfl rfl ?_
    refine ops_not rfl rfl rfl rfl ?_
    refine ops_not rfl rfl rfl rfl ?_
    refine ops_not rfl rfl rfl rfl ?_
    refine ops_not rfl rfl rfl rfl ?_
    refine ops_ret (fn := 0) (a_pick_t rfl rfl rfl) rfl rfl ?_  -- [11] t16 := Op.pick (t10) (#(bool true)) (t15)
    refine ops_ret (fn := 0) (a_move (y := .v (.bool _)) rfl) rfl rfl ?_  -- [12] t17 := Op.move (t16)
    refine ops_not rfl rfl rfl rfl ?_
    refine ops_not rfl rfl rfl rfl ?_
    refine ops_not rfl rfl rfl rfl ?_
    refine ops_not rfl rfl rfl rfl ?_
    refine ops_not rfl rfl rfl rfl ?_
    refine ops_ret (fn := 0) (a_pick_t rfl rfl rfl) rfl rfl ?_  -- [18] t23 := Op.pick (t17) (#(bool true)) (t22)
    refine ops_ret (fn := 0) (a_move (y := .v (.bool _)) rfl) rfl rfl ?_  -- [19] t24 := Op.move (t23)
    refine ops_not rfl rfl rfl rfl ?_
    refine ops_not rfl rfl rfl rfl ?_
    refine ops_not rfl rfl rfl rfl ?_
    refine ops_not rfl rfl rfl rfl ?_
    refine ops_not rfl rfl rfl rfl ?_
    refine ops_ret (fn := 0) (a_pick_t rfl rfl rfl) rfl rfl ?_  -- [25] t30 := Op.pick (t24) (#(bool true)) (t29)
    refine ops_ret (fn := 0) (a_move (y := .v (.bool _)) rfl) rfl rfl ?_  -- [26] t31 := Op.move (t30)
    refine ops_not rfl rfl rfl rfl ?_
    refine ops_not rfl rfl rfl rfl ?_
    refine ops_not rfl rfl rfl rfl ?_
    refine ops_not rfl rfl rfl rfl ?_
    refine ops_not rfl rfl rfl rfl ?_
    refine ops_ret (fn := 0) (a_pick_t rfl rfl rfl) rfl rfl ?_  -- [32] t37 := Op.pick (t31) (#(bool true)) (t36)
    refine ops_ret (fn := 0) (a_move (y := .v (.bool _)) rfl) rfl rfl ?_  -- [33] t38 := Op.move (t37)
    refine ops_not rfl rfl rfl rfl ?_
    refine ops_not rfl rfl rfl rfl ?_
    refine ops_not rfl rfl rfl rfl ?_
    refine ops_not rfl rfl rfl rfl ?_
    refine ops_not rfl rfl rfl rfl ?_
    refine ops_ret (fn := 0) (a_pick_t rfl rfl rfl) rfl rfl ?_  -- [39] t44 := Op.pick (t38) (#(bool true)) (t43)
    refine ops_ret (fn := 0) (a_move (y := .v (.bool _)) rfl) rfl rfl ?_  -- [40] t45 := Op.move (t44)
    refine ops_not rfl rfl rfl rfl ?_
    refine ops_not rfl rfl rfl rfl ?_
    refine ops_not rfl rfl rfl rfl ?_
    refine ops_not rfl rfl rfl rfl ?_
    refine ops_not rfl rfl rfl rfl ?_
    refine ops_ret (fn := 0) (a_pick_t rfl rfl rfl) rfl rfl ?_  -- [46] t51 := Op.pick (t45) (#(bool true)) (t50)
    refine ops_nil ?_
    refine run_cond rfl (fun _ => ?_) (fun h => by cases h)
    refine run_seq ?_
    refine run_region ?_
    refine ops_ret (fn := 0) (a_assign (y := .v (.bool _)) rfl) rfl rfl ?_  -- [0] t4 := Op.assign (#(bool false))
    refine ops_nil ?_
    exact ret1 rfl ⟨by rw [show decide (M = M') = false from decide_eq_false (fun h => by subst h; simp at hg5)]; exact Le.refl _, Ext.mx _ _⟩
  refine ops_yes (fn := 0) rfl rfl rfl rfl (x_fld tst60 rfl rfl rfl) rfl ?_  -- [6] t11 := Op.fieldAddr 60 (t2) 1
  refine ops_yes (fn := 0) rfl rfl rfl rfl (x_load1 rfl ta3 ts3 rfl rfl rfl) rfl ?_  -- [7] t12 := Op.load 3 (t11)
  refine ops_yes (fn := 0) rfl rfl rfl rfl (x_fld tst60 rfl rfl rfl) rfl ?_  -- [8] t13 := Op.fieldAddr 60 (t3) 1
  refine ops_yes (fn := 0) rfl rfl rfl rfl (x_load1 rfl ta3 ts3 rfl rfl rfl) rfl ?_  -- [9] t14 := Op.load 3 (t13)
  refine ops_yes (fn := 0) rfl rfl rfl rfl (a_neq rfl rfl) rfl ?_  -- [10] t15 := Op.binOp BinOp.neq 3 (t12) (t14) 3
  refine ops_ret (fn := 0) (a_pick_f rfl rfl rfl) rfl rfl ?_  -- [11] t16 := Op.pick (t10) (#(bool true)) (t15)
  refine ops_ret (fn := 0) (a_move (y := .v (.bool _)) rfl) rfl rfl ?_  -- [12] t17 := Op.move (t16)
  refine ops_split (t := 17) rfl (fun hg12 => ?_) (fun hg12 => ?_)
  · refine ops_not rfl rfl rfl rfl ?_
    refine ops_not rfl rfl rfl rfl ?_
    refine ops_not rfl rfl rfl rfl ?_
    refine ops_not rfl rfl rfl rfl ?_
    refine ops_not rfl rfl rfl rfl ?_
    refine ops_ret (fn := 0) (a_pick_t rfl rfl rfl) rfl rfl ?_  -- [18] t23 := Op.pick (t17) (#(bool true)) (t22)
    refine ops_ret (fn := 0) (a_move (y := .v (.bool _)) rfl) rfl rfl ?_  -- [19] t24 := Op.move (t23)
    refine ops_not rfl rfl rfl rfl ?_
    refine ops_not rfl rfl rfl rfl ?_
    refine ops_not rfl rfl rfl rfl ?_
    refine ops_not rfl rfl rfl rfl ?_
    refine ops_not rfl rfl rfl rfl ?_
    refine ops_ret (fn := 0) (a_pick_t rfl rfl rfl) rfl rfl ?_  -- [25] t30 := Op.pick (t24) (#(bool true)) (t29)
    refine ops_ret (fn := 0) (a_move (y := .v (.bool _)) rfl) rfl rfl ?_  -- [26] t31 := Op.move (t30)
    refine ops_not rfl rfl rfl rfl ?_
    refine ops_not rfl rfl rfl rfl ?_
    refine ops_not rfl rfl rfl rfl ?_
    refine ops_not rfl rfl rfl rfl ?_
    refine ops_not rfl rfl rfl rfl ?_
    refine ops_ret (fn := 0) (a_pick_t rfl rfl rfl) rfl rfl ?_  -- [32] t37 := Op.pick (t31) (#(bool true)) (t36)
    refine ops_ret (fn := 0) (a_move (y := .v (.bool _)) rfl) rfl rfl ?_  -- [33] t38 := Op.move (t37)
    refine ops_not rfl rfl rfl rfl ?_
    refine ops_not rfl rfl rfl rfl ?_
    refine ops_not rfl rfl rfl rfl ?_
    refine ops_not rfl rfl rfl rfl ?_
    refine ops_not rfl rfl rfl rfl ?_
    refine ops_ret (fn := 0) (a_pick_t rfl rfl rfl) rfl rfl ?_  -- [39] t44 := Op.pick (t38) (#(bool true)) (t43)
    refine ops_ret (fn := 0) (a_move (y := .v (.bool _)) rfl) rfl rfl ?_  -- [40] t45 := Op.move (t44)
    refine ops_not rfl rfl rfl rfl ?_
    refine ops_not rfl rfl rfl rfl ?_
    refine ops_not rfl rfl rfl rfl ?_
    refine ops_not rfl rfl rfl rfl ?_
    refine ops_not rfl rfl rfl rfl ?_
    refine ops_ret (fn := 0) (a_pick_t rfl rfl rfl) rfl rfl ?_  -- [46] t51 := Op.pick (t45) (#(bool true)) (t50)
    refine ops_nil ?_
    refine run_cond rfl (fun _ => ?_) (fun h => by cases h)
    refine run_seq ?_
    refine run_region ?_
    refine ops_ret (fn := 0) (a_assign (y := .v (.bool _)) rfl) rfl rfl ?_  -- [0] t4 := Op.assign (#(bool false))
    refine ops_nil ?_
    exact ret1 rfl ⟨by rw [show decide (M = M') = false from decide_eq_false (fun h => by subst h; simp at hg12)]; exact Le.refl _, Ext.mx _ _⟩
  refine ops_yes (fn := 0) rfl rfl rfl rfl (x_fld tst60 rfl rfl rfl) rfl ?_  -- [13] t18 := Op.fieldAddr 60 (t2) 2
  refine ops_yes (fn := 0) rfl rfl rfl rfl (x_load1 rfl ta3 ts3 rfl rfl rfl) rfl ?_  -- [14] t19 := Op.load 3 (t18)
  refine ops_yes (fn := 0) rfl rfl rfl rfl (x_fld tst60 rfl rfl rfl) rfl ?_  -- [15] t20 := Op.fieldAddr 60 (t3) 2
  refine ops_yes (fn := 0) rfl rfl rfl rfl (x_load1 rfl ta3 ts3 rfl rfl rfl) rfl ?_  -- [16] t21 := Op.load 3 (t20)
  refine ops_yes (fn := 0) rfl rfl rfl rfl (a_neq rfl rfl) rfl ?_  -- [17] t22 := Op.binOp BinOp.neq 3 (t19) (t21) 3
  refine ops_ret (fn := 0) (a_pick_f rfl rfl rfl) rfl rfl ?_  -- [18] t23 := Op.pick (t17) (#(bool true)) (t22)
  refine ops_ret (fn := 0) (a_move (y := .v (.bool _)) rfl) rfl rfl ?_  -- [19] t24 := Op.move (t23)
  refine ops_split (t := 24) rfl (fun hg19 => ?_) (fun hg19 => ?_)
  · refine ops_not rfl rfl rfl rfl ?_
    refine ops_not rfl rfl rfl rfl ?_
    refine ops_not rfl rfl rfl rfl ?_
    refine ops_not rfl rfl rfl rfl ?_
    refine ops_not rfl rfl rfl rfl ?_
    refine ops_ret (fn := 0) (a_pick_t rfl rfl rfl) rfl rfl ?_  -- [25] t30 := Op.pick (t24) (#(bool true)) (t29)
    refine ops_ret (fn := 0) (a_move (y := .v (.bool _)) rfl) rfl rfl ?_  -- [26] t31 := Op.move (t30)
    refine ops_not rfl rfl rfl rfl ?_
    refine ops_not rfl rfl rfl rfl ?_
    refine ops_not rfl rfl rfl rfl ?_
    refine ops_not rfl rfl rfl rfl ?_
    refine ops_not rfl rfl rfl rfl ?_
    refine ops_ret (fn := 0) (a_pick_t rfl rfl rfl) rfl rfl ?_  -- [32] t37 := Op.pick (t31) (#(bool true)) (t36)
    refine ops_ret (fn := 0) (a_move (y := .v (.bool _)) rfl) rfl rfl ?_  -- [33] t38 := Op.move (t37)
    refine ops_not rfl rfl rfl rfl ?_
    refine ops_not rfl rfl rfl rfl ?_
    refine ops_not rfl rfl rfl rfl ?_
    refine ops_not rfl rfl rfl rfl ?_
    refine ops_not rfl rfl rfl rfl ?_
    refine ops_ret (fn := 0) (a_pick_t rfl rfl rfl) rfl rfl ?_  -- [39] t44 := Op.pick (t38) (#(bool true)) (t43)
    refine ops_ret (fn := 0) (a_move (y := .v (.bool _)) rfl) rfl rfl ?_  -- [40] t45 := Op.move (t44)
    refine ops_not rfl rfl rfl rfl ?_
    refine ops_not rfl rfl rfl rfl ?_
    refine ops_not rfl rfl rfl rfl ?_
    refine ops_not rfl rfl rfl rfl ?_
    refine ops_not rfl rfl rfl rfl ?_
    refine ops_ret (fn := 0) (a_pick_t rfl rfl rfl) rfl rfl ?_  -- [46] t51 := Op.pick (t45) (#(bool true)) (t50)
    refine ops_nil ?_
    refine run_cond rfl (fun _ => ?_) (fun h => by cases h)
    refine run_seq ?_
    refine run_region ?_
    refine ops_ret (fn := 0) (a_assign (y := .v (.bool _)) rfl) rfl rfl ?_  -- [0] t4 := Op.assign (#(bool false))
    refine ops_nil ?_
    exact ret1 rfl ⟨by rw [show decide (M = M') = false from decide_eq_false (fun h => by subst h; simp at hg19)]; exact Le.refl _, Ext.mx _ _⟩
  refine ops_yes (fn := 0) rfl rfl rfl rfl (x_fld tst60 rfl rfl rfl) rfl ?_  -- [20] t25 := Op.fieldAddr 60 (t2) 3
  refine ops_yes (fn := 0) rfl rfl rfl rfl (x_load1 rfl ta3 ts3 rfl rfl rfl) rfl ?_  -- [21] t26 := Op.load 3 (t25)
  refine ops_yes (fn := 0) rfl rfl rfl rfl (x_fld tst60 rfl rfl rfl) rfl ?_  -- [22] t27 := Op.fieldAddr 60 (t3) 3
  refine ops_yes (fn := 0) rfl rfl rfl rfl (x_load1 rfl ta3 ts3 rfl rfl rfl) rfl ?_  -- [23] t28 := Op.load 3 (t27)
  refine ops_yes (fn := 0) rfl rfl rfl rfl (a_neq rfl rfl) rfl ?_  -- [24] t29 := Op.binOp BinOp.neq 3 (t26) (t28) 3
  refine ops_ret (fn := 0) (a_pick_f rfl rfl rfl) rfl rfl ?_  -- [25] t30 := Op.pick (t24) (#(bool true)) (t29)
  refine ops_ret (fn := 0) (a_move (y := .v (.bool _)) rfl) rfl rfl ?_  -- [26] t31 := Op.move (t30)
  refine ops_split (t := 31) rfl (fun hg26 => ?_) (fun hg26 => ?_)
  · refine ops_not rfl rfl rfl rfl ?_
    refine ops_not rfl rfl rfl rfl ?_
    refine ops_not rfl rfl rfl rfl ?_
    refine ops_not rfl rfl rfl rfl ?_
    refine ops_not rfl rfl rfl rfl ?_
    refine ops_ret (fn := 0) (a_pick_t rfl rfl rfl) rfl rfl ?_  -- [32] t37 := Op.pick (t31) (#(bool true)) (t36)
    refine ops_ret (fn := 0) (a_move (y := .v (.bool _)) rfl) rfl rfl ?_  -- [33] t38 := Op.move (t37)
    refine ops_not rfl rfl rfl rfl ?_
    refine ops_not rfl rfl rfl rfl ?_
    refine ops_not rfl rfl rfl rfl ?_
    refine ops_not rfl rfl rfl rfl ?_
    refine ops_not rfl rfl rfl rfl ?_
    refine ops_ret (fn := 0) (a_pick_t rfl rfl rfl) rfl rfl ?_  -- [39] t44 := Op.pick (t38) (#(bool true)) (t43)
    refine ops_ret (fn := 0) (a_move (y := .v (.bool _)) rfl) rfl rfl ?_  -- [40] t45 := Op.move (t44)
    refine ops_not rfl rfl rfl rfl ?_
    refine ops_not rfl rfl rfl rfl ?_
    refine ops_not rfl rfl rfl rfl ?_
    refine ops_not rfl rfl rfl rfl ?_
    refine ops_not rfl rfl rfl rfl ?_
    refine ops_ret (fn := 0) (a_pick_t rfl rfl rfl) rfl rfl ?_  -- [46] t51 := Op.pick (t45) (#(bool true)) (t50)
    refine ops_nil ?_
    refine run_cond rfl (fun _ => ?_) (fun h => by cases h)
    refine run_seq ?_
    refine run_region ?_
    refine ops_ret (fn := 0) (a_assign (y := .v (.bool _)) rfl) rfl rfl ?_  -- [0] t4 := Op.assign (#(bool false))
    refine ops_nil ?_
    exact ret1 rfl ⟨by rw [show decide (M = M') = false from decide_eq_false (fun h => by subst h; simp at hg26)]; exact Le.refl _, Ext.mx _ _⟩
  refine ops_yes (fn := 0) rfl rfl rfl rfl (x_fld tst60 rfl rfl rfl) rfl ?_  -- [27] t32 := Op.fieldAddr 60 (t2) 4
  refine ops_yes (fn := 0) rfl rfl rfl rfl (x_load1 rfl ta9 ts9 rfl rfl rfl) rfl ?_  -- [28] t33 := Op.load 9 (t32)
  refine ops_yes (fn := 0) rfl rfl rfl rfl (x_fld tst60 rfl rfl rfl) rfl ?_  -- [29] t34 := Op.fieldAddr 60 (t3) 4
  refine ops_yes (fn := 0) rfl rfl rfl rfl (x_load1 rfl ta9 ts9 rfl rfl rfl) rfl ?_  -- [30] t35 := Op.load 9 (t34)
  refine ops_yes (fn := 0) rfl rfl rfl rfl (a_neqs rfl rfl) rfl ?_  -- [31] t36 := Op.binOp BinOp.neq 9 (t33) (t35) 9
  refine ops_ret (fn := 0) (a_pick_f rfl rfl rfl) rfl rfl ?_  -- [32] t37 := Op.pick (t31) (#(bool true)) (t36)
  refine ops_ret (fn := 0) (a_move (y := .v (.bool _)) rfl) rfl rfl ?_  -- [33] t38 := Op.move (t37)
  refine ops_split (t := 38) rfl (fun hg33 => ?_) (fun hg33 => ?_)
  · refine ops_not rfl rfl rfl rfl ?_
    refine ops_not rfl rfl rfl rfl ?_
    refine ops_not rfl rfl rfl rfl ?_
    refine ops_not rfl rfl rfl rfl ?_
    refine ops_not rfl rfl rfl rfl ?_
    refine ops_ret (fn := 0) (a_pick_t rfl rfl rfl) rfl rfl ?_  -- [39] t44 := Op.pick (t38) (#(bool true)) (t43)
    refine ops_ret (fn := 0) (a_move (y := .v (.bool _)) rfl) rfl rfl ?_  -- [40] t45 := Op.move (t44)
    refine ops_not rfl rfl rfl rfl ?_
    refine ops_not rfl rfl rfl rfl ?_
    refine ops_not rfl rfl rfl rfl ?_
    refine ops_not rfl rfl rfl rfl ?_
    refine ops_not rfl rfl rfl rfl ?_
    refine ops_ret (fn := 0) (a_pick_t rfl rfl rfl) rfl rfl ?_  -- [46] t51 := Op.pick (t45) (#(bool true)) (t50)
    refine ops_nil ?_
    refine run_cond rfl (fun _ => ?_) (fun h => by cases h)
    refine run_seq ?_
    refine run_region ?_
    refine ops_ret (fn := 0) (a_assign (y := .v (.bool _)) rfl) rfl rfl ?_  -- [0] t4 := Op.assign (#(bool false))
    refine ops_nil ?_
    exact ret1 rfl ⟨by rw [show decide (M = M') = false from decide_eq_false (fun h => by subst h; simp at hg33)]; exact Le.refl _, Ext.mx _ _⟩
  refine ops_yes (fn := 0) rfl rfl rfl rfl (x_fld tst60 rfl rfl rfl) rfl ?_  -- [34] t39 := Op.fieldAddr 60 (t2) 5
  refine ops_yes (fn := 0) rfl rfl rfl rfl (x_load1 rfl ta3 ts3 rfl rfl rfl) rfl ?_  -- [35] t40 := Op.load 3 (t39)
  refine ops_yes (fn := 0) rfl rfl rfl rfl (x_fld tst60 rfl rfl rfl) rfl ?_  -- [36] t41 := Op.fieldAddr 60 (t3) 5
  refine ops_yes (fn := 0) rfl rfl rfl rfl (x_load1 rfl ta3 ts3 rfl rfl rfl) rfl ?_  -- [37] t42 := Op.load 3 (t41)
  refine ops_yes (fn := 0) rfl rfl rfl rfl (a_neq rfl rfl) rfl ?_  -- [38] t43 := Op.binOp BinOp.neq 3 (t40) (t42) 3
  refine ops_ret (fn := 0) (a_pick_f rfl rfl rfl) rfl rfl ?_  -- [39] t44 := Op.pick (t38) (#(bool true)) (t43)
  refine ops_ret (fn := 0) (a_move (y := .v (.bool _)) rfl) rfl rfl ?_  -- [40] t45 := Op.move (t44)
  refine ops_split (t := 45) rfl (fun hg40 => ?_) (fun hg40 => ?_)
  · refine ops_not rfl rfl rfl rfl ?_
    refine ops_not rfl rfl rfl rfl ?_
    refine ops_not rfl rfl rfl rfl ?_
    refine ops_not rfl rfl rfl rfl ?_
    refine ops_not rfl rfl rfl rfl ?_
    refine ops_ret (fn := 0) (a_pick_t rfl rfl rfl) rfl rfl ?_  -- [46] t51 := Op.pick (t45) (#(bool true)) (t50)
    refine ops_nil ?_
    refine run_cond rfl (fun _ => ?_) (fun h => by cases h)
    refine run_seq ?_
    refine run_region ?_
    refine ops_ret (fn := 0) (a_assign (y := .v (.bool _)) rfl) rfl rfl ?_  -- [0] t4 := Op.assign (#(bool false))
    refine ops_nil ?_
    exact ret1 rfl ⟨by rw [show decide (M = M') = false from decide_eq_false (fun h => by subst h; simp at hg40)]; exact Le.refl _, Ext.mx _ _⟩
  refine ops_yes (fn := 0) rfl rfl rfl rfl (x_fld tst60 rfl rfl rfl) rfl ?_  -- [41] t46 := Op.fieldAddr 60 (t2) 6
  refine ops_yes (fn := 0) rfl rfl rfl rfl (x_load1 rfl ta3 ts3 rfl rfl rfl) rfl ?_  -- [42] t47 := Op.load 3 (t46)
  refine ops_yes (fn := 0) rfl rfl rfl rfl (x_fld tst60 rfl rfl rfl) rfl ?_  -- [43] t48 := Op.fieldAddr 60 (t3) 6
  refine ops_yes (fn := 0) rfl rfl rfl rfl (x_load1 rfl ta3 ts3 rfl rfl rfl) rfl ?_  -- [44] t49 := Op.load 3 (t48)
  refine ops_yes (fn := 0) rfl rfl rfl rfl (a_neq rfl rfl) rfl ?_  -- [45] t50 := Op.binOp BinOp.neq 3 (t47) (t49) 3
  refine ops_ret (fn := 0) (a_pick_f rfl rfl rfl) rfl rfl ?_  -- [46] t51 := Op.pick (t45) (#(bool true)) (t50)
  refine ops_nil ?_
  refine run_cond rfl (fun h => ?_) (fun h => ?_)
  · refine run_seq ?_
    refine run_region ?_
    refine ops_ret (fn := 0) (a_assign (y := .v (.bool _)) rfl) rfl rfl ?_  -- [0] t4 := Op.assign (#(bool false))
    refine ops_nil ?_
    exact ret1 rfl ⟨by rw [show decide (M = M') = false from decide_eq_false (fun e => by subst e; simp at h)]; exact Le.refl _, Ext.mx _ _⟩
  refine run_skip ?_
  refine run_seq ?_
  refine run_region ?_
  refine ops_ret (fn := 0) (x_fld tst60 rfl rfl rfl) rfl rfl ?_  -- [0] t52 := Op.fieldAddr 60 (t2) 7
  refine ops_ret (fn := 0) (x_load1 rfl ta3 ts3 rfl rfl rfl) rfl rfl ?_  -- [1] t53 := Op.load 3 (t52)
  refine ops_ret (fn := 0) (x_fld tst60 rfl rfl rfl) rfl rfl ?_  -- [2] t54 := Op.fieldAddr 60 (t3) 7
  refine ops_ret (fn := 0) (x_load1 rfl ta3 ts3 rfl rfl rfl) rfl rfl ?_  -- [3] t55 := Op.load 3 (t54)
  refine ops_ret (fn := 0) (a_eql rfl rfl) rfl rfl ?_  -- [4] t56 := Op.binOp BinOp.eql 3 (t53) (t55) 3
  refine ops_ret (fn := 0) (a_move (y := .v (.bool _)) rfl) rfl rfl ?_  -- [5] t57 := Op.move (t56)
  refine ops_splitF (t := 57) rfl (fun hg5 => ?_) (fun hg5 => ?_)
  · refine ops_not rfl rfl rfl rfl ?_
    refine ops_not rfl rfl rfl rfl ?_
    refine ops_not rfl rfl rfl rfl ?_
    refine ops_not rfl rfl rfl rfl ?_
    refine ops_not rfl rfl rfl rfl ?_
    refine ops_ret (fn := 0) (a_pick_f rfl rfl rfl) rfl rfl ?_  -- [11] t63 := Op.pick (t57) (t62) (#(bool false))
    refine ops_ret (fn := 0) (a_move (y := .v (.bool _)) rfl) rfl rfl ?_  -- [12] t64 := Op.move (t63)
    refine ops_not rfl rfl rfl rfl ?_
    refine ops_not rfl rfl rfl rfl ?_
    refine ops_not rfl rfl rfl rfl ?_
    refine ops_not rfl rfl rfl rfl ?_
    refine ops_not rfl rfl rfl rfl ?_
    refine ops_ret (fn := 0) (a_pick_f rfl rfl rfl) rfl rfl ?_  -- [18] t70 := Op.pick (t64) (t69) (#(bool false))
    refine ops_ret (fn := 0) (a_move (y := .v (.bool _)) rfl) rfl rfl ?_  -- [19] t71 := Op.move (t70)
    refine ops_not rfl rfl rfl rfl ?_
    refine ops_not rfl rfl rfl rfl ?_
    refine ops_not rfl rfl rfl rfl ?_
    refine ops_not rfl rfl rfl rfl ?_
    refine ops_not rfl rfl rfl rfl ?_
    refine ops_ret (fn := 0) (a_pick_f rfl rfl rfl) rfl rfl ?_  -- [25] t77 := Op.pick (t71) (t76) (#(bool false))
    refine ops_ret (fn := 0) (a_move (y := .v (.bool _)) rfl) rfl rfl ?_  -- [26] t78 := Op.move (t77)
    refine ops_not rfl rfl rfl rfl ?_
    refine ops_not rfl rfl rfl rfl ?_
    refine ops_not rfl rfl rfl rfl ?_
    refine ops_not rfl rfl rfl rfl ?_
    refine ops_not rfl rfl rfl rfl ?_
    refine ops_not rfl rfl rfl rfl ?_
    refine ops_not rfl rfl rfl rfl ?_
    refine ops_ret (fn := 0) (a_pick_f rfl rfl rfl) rfl rfl ?_  -- [34] t86 := Op.pick (t78) (t85) (#(bool false))
    refine ops_ret (fn := 0) (a_move (y := .v (.bool _)) rfl) rfl rfl ?_  -- [35] t87 := Op.move (t86)
    refine ops_not rfl rfl rfl rfl ?_
    refine ops_not rfl rfl rfl rfl ?_
    refine ops_not rfl rfl rfl rfl ?_
    refine ops_not rfl rfl rfl rfl ?_
    refine ops_not rfl rfl rfl rfl ?_
    refine ops_ret (fn := 0) (a_pick_f rfl rfl rfl) rfl rfl ?_  -- [41] t93 := Op.pick (t87) (t92) (#(bool false))
    refine ops_ret (fn := 0) (a_assign (y := .v (.bool _)) rfl) rfl rfl ?_  -- [42] t4 := Op.assign (t93)
    refine ops_nil ?_
    exact ret1 rfl ⟨by rw [show decide (M = M') = false from decide_eq_false (fun h => by subst h; simp at hg5)]; exact Le.refl _, Ext.mx _ _⟩
  refine ops_yes (fn := 0) rfl rfl rfl rfl (x_fld tst60 rfl rfl rfl) rfl ?_  -- [6] t58 := Op.fieldAddr 60 (t2) 8
  refine ops_yes (fn := 0) rfl rfl rfl rfl (x_load1 rfl ta3 ts3 rfl rfl rfl) rfl ?_  -- [7] t59 := Op.load 3 (t58)
  refine ops_yes (fn := 0) rfl rfl rfl rfl (x_fld tst60 rfl rfl rfl) rfl ?_  -- [8] t60 := Op.fieldAddr 60 (t3) 8
  refine ops_yes (fn := 0) rfl rfl rfl rfl (x_load1 rfl ta3 ts3 rfl rfl rfl) rfl ?_  -- [9] t61 := Op.load 3 (t60)
  refine ops_yes (fn := 0) rfl rfl rfl rfl (a_eql rfl rfl) rfl ?_  -- [10] t62 := Op.binOp BinOp.eql 3 (t59) (t61) 3
  refine ops_ret (fn := 0) (a_pick_t rfl rfl rfl) rfl rfl ?_  -- [11] t63 := Op.pick (t57) (t62) (#(bool false))
  refine ops_ret (fn := 0) (a_move (y := .v (.bool _)) rfl) rfl rfl ?_  -- [12] t64 := Op.move (t63)
  refine ops_splitF (t := 64) rfl (fun hg12 => ?_) (fun hg12 => ?_)
  · refine ops_not rfl rfl rfl rfl ?_
    refine ops_not rfl rfl rfl rfl ?_
    refine ops_not rfl rfl rfl rfl ?_
    refine ops_not rfl rfl rfl rfl ?_
    refine ops_not rfl rfl rfl rfl ?_
    refine ops_ret (fn := 0) (a_pick_f rfl rfl rfl) rfl rfl ?_  -- [18] t70 := Op.pick (t64) (t69) (#(bool false))
    refine ops_ret (fn := 0) (a_move (y := .v (.bool _)) rfl) rfl rfl ?_  -- [19] t71 := Op.move (t70)
    refine ops_not rfl rfl rfl rfl ?_
    refine ops_not rfl rfl rfl rfl ?_
    refine ops_not rfl rfl rfl rfl ?_
    refine ops_not rfl rfl rfl rfl ?_
    refine ops_not rfl rfl rfl rfl ?_
    refine ops_ret (fn := 0) (a_pick_f rfl rfl rfl) rfl rfl ?_  -- [25] t77 := Op.pick (t71) (t76) (#(bool false))
    refine ops_ret (fn := 0) (a_move (y := .v (.bool _)) rfl) rfl rfl ?_  -- [26] t78 := Op.move (t77)
    refine ops_not rfl rfl rfl rfl ?_
    refine ops_not rfl rfl rfl rfl ?_
    refine ops_not rfl rfl rfl rfl ?_
    refine ops_not rfl rfl rfl rfl ?_
    refine ops_not rfl rfl rfl rfl ?_
    refine ops_not rfl rfl rfl rfl ?_
    refine ops_not rfl rfl rfl rfl ?_
    refine ops_ret (fn := 0) (a_pick_f rfl rfl rfl) rfl rfl ?_  -- [34] t86 := Op.pick (t78) (t85) (#(bool false))
    refine ops_ret (fn := 0) (a_move (y := .v (.bool _)) rfl) rfl rfl ?_  -- [35] t87 := Op.move (t86)
    refine ops_not rfl rfl rfl rfl ?_
    refine ops_not rfl rfl rfl rfl ?_
    refine ops_not rfl rfl rfl rfl ?_
    refine ops_not rfl rfl rfl rfl ?_
    refine ops_not rfl rfl rfl rfl ?_
    refine ops_ret (fn := 0) (a_pick_f rfl rfl rfl) rfl rfl ?_  -- [41] t93 := Op.pick (t87) (t92) (#(bool false))
    refine ops_ret (fn := 0) (a_assign (y := .v (.bool _)) rfl) rfl rfl ?_  -- [42] t4 := Op.assign (t93)
    refine ops_nil ?_
    exact ret1 rfl ⟨by rw [show decide (M = M') = false from decide_eq_false (fun h => by subst h; simp at hg12)]; exact Le.refl _, Ext.mx _ _⟩
  refine ops_yes (fn := 0) rfl rfl rfl rfl (x_fld tst60 rfl rfl rfl) rfl ?_  -- [13] t65 := Op.fieldAddr 60 (t2) 9
  refine ops_yes (fn := 0) rfl rfl rfl rfl (x_load1 rfl ta3 ts3 rfl rfl rfl) rfl ?_  -- [14] t66 := Op.load 3 (t65)
  refine ops_yes (fn := 0) rfl rfl rfl rfl (x_fld tst60 rfl rfl rfl) rfl ?_  -- [15] t67 := Op.fieldAddr 60 (t3) 9
  refine ops_yes (fn := 0) rfl rfl rfl rfl (x_load1 rfl ta3 ts3 rfl rfl rfl) rfl ?_  -- [16] t68 := Op.load 3 (t67)
  refine ops_yes (fn := 0) rfl rfl rfl rfl (a_eql rfl rfl) rfl ?_  -- [17] t69 := Op.binOp BinOp.eql 3 (t66) (t68) 3
  refine ops_ret (fn := 0) (a_pick_t rfl rfl rfl) rfl rfl ?_  -- [18] t70 := Op.pick (t64) (t69) (#(bool false))
  refine ops_ret (fn := 0) (a_move (y := .v (.bool _)) rfl) rfl rfl ?_  -- [19] t71 := Op.move (t70)
  refine ops_splitF (t := 71) rfl (fun hg19 => ?_) (fun hg19 => ?_)
  · refine ops_not rfl rfl rfl rfl ?_
    refine ops_not rfl rfl rfl rfl ?_
    refine ops_not rfl rfl rfl rfl ?_
    refine ops_not rfl rfl rfl rfl ?_
    refine ops_not rfl rfl rfl rfl ?_
    refine ops_ret (fn := 0) (a_pick_f rfl rfl rfl) rfl rfl ?_  -- [25] t77 := Op.pick (t71) (t76) (#(bool false))
    refine ops_ret (fn := 0) (a_move (y := .v (.bool _)) rfl) rfl rfl ?_  -- [26] t78 := Op.move (t77)
    refine ops_not rfl rfl rfl rfl ?_
    refine ops_not rfl rfl rfl rfl ?_
    refine ops_not rfl rfl rfl rfl ?_
    refine ops_not rfl rfl rfl rfl ?_
    refine ops_not rfl rfl rfl rfl ?_
    refine ops_not rfl rfl rfl rfl ?_
    refine ops_not rfl rfl rfl rfl ?_
    refine ops_ret (fn := 0) (a_pick_f rfl rfl rfl) rfl rfl ?_  -- [34] t86 := Op.pick (t78) (t85) (#(bool false))
    refine ops_ret (fn := 0) (a_move (y := .v (.bool _)) rfl) rfl rfl ?_  -- [35] t87 := Op.move (t86)
    refine ops_not rfl rfl rfl rfl ?_
    refine ops_not rfl rfl rfl rfl ?_
    refine ops_not rfl rfl rfl rfl ?_
    refine ops_not rfl rfl rfl rfl ?_
    refine ops_not rfl rfl rfl rfl ?_
    refine ops_ret (fn := 0) (a_pick_f rfl rfl rfl) rfl rfl ?_  -- [41] t93 := Op.pick (t87) (t92) (#(bool false))
    refine ops_ret (fn := 0) (a_assign (y := .v (.bool _)) rfl) rfl rfl ?_  -- [42] t4 := Op.assign (t93)
    refine ops_nil ?_
    exact ret1 rfl ⟨by rw [show decide (M = M') = false from decide_eq_false (fun h => by subst h; simp at hg19)]; exact Le.refl _, Ext.mx _ _⟩
  refine ops_yes (fn := 0) rfl rfl rfl rfl (x_fld tst60 rfl rfl rfl) rfl ?_  -- [20] t72 := Op.fieldAddr 60 (t2) 10
  refine ops_yes (fn := 0) rfl rfl rfl rfl (x_load1 rfl ta3 ts3 rfl rfl rfl) rfl ?_  -- [21] t73 := Op.load 3 (t72)
  refine ops_yes (fn := 0) rfl rfl rfl rfl (x_fld tst60 rfl rfl rfl) rfl ?_  -- [22] t74 := Op.fieldAddr 60 (t3) 10
  refine ops_yes (fn := 0) rfl rfl rfl rfl (x_load1 rfl ta3 ts3 rfl rfl rfl) rfl ?_  -- [23] t75 := Op.load 3 (t74)
  refine ops_yes (fn := 0) rfl rfl rfl rfl (a_eql rfl rfl) rfl ?_  -- [24] t76 := Op.binOp BinOp.eql 3 (t73) (t75) 3
  refine ops_ret (fn := 0) (a_pick_t rfl rfl rfl) rfl rfl ?_  -- [25] t77 := Op.pick (t71) (t76) (#(bool false))
  refine ops_ret (fn := 0) (a_move (y := .v (.bool _)) rfl) rfl rfl ?_  -- [26] t78 := Op.move (t77)
  refine ops_splitF (t := 78) rfl (fun hg26 => ?_) (fun hg26 => ?_)
  · refine ops_not rfl rfl rfl rfl ?_
    refine ops_not rfl rfl rfl rfl ?_
    refine ops_not rfl rfl rfl rfl ?_
    refine ops_not rfl rfl rfl rfl ?_
    refine ops_not rfl rfl rfl rfl ?_
    refine ops_not rfl rfl rfl rfl ?_
    refine ops_not rfl rfl rfl rfl ?_
    refine ops_ret (fn := 0) (a_pick_f rfl rfl rfl) rfl rfl ?_  -- [34] t86 := Op.pick (t78) (t85) (#(bool false))
    refine ops_ret (fn := 0) (a_move (y := .v (.bool _)) rfl) rfl rfl ?_  -- [35] t87 := Op.move (t86)
    refine ops_not rfl rfl rfl rfl ?_
    refine ops_not rfl rfl rfl rfl ?_
    refine ops_not rfl rfl rfl rfl ?_
    refine ops_not rfl rfl rfl rfl ?_
    refine ops_not rfl rfl rfl rfl ?_
    refine ops_ret (fn := 0) (a_pick_f rfl rfl rfl) rfl rfl ?_  -- [41] t93 := Op.pick (t87) (t92) (#(bool false))
    refine ops_ret (fn := 0) (a_assign (y := .v (.bool _)) rfl) rfl rfl ?_  -- [42] t4 := Op.assign (t93)
    refine ops_nil ?_
    exact ret1 rfl ⟨by rw [show decide (M = M') = false from decide_eq_false (fun h => by subst h; simp at hg26)]; exact Le.refl _, Ext.mx _ _⟩
  refine ops_yes (fn := 0) rfl rfl rfl rfl (x_fld tst60 rfl rfl rfl) rfl ?_  -- [27] t79 := Op.fieldAddr 60 (t2) 11
  refine ops_yes (fn := 0) rfl rfl rfl rfl (x_load1 rfl ta24 ts24 rfl rfl rfl) rfl ?_  -- [28] t80 := Op.load 24 (t79)
  refine ops_yes (fn := 0) rfl rfl rfl rfl (a_text (show (EV gl).P.underlying 24 = _ from Tryd.underlying24) (show (EV gl).P.underlying 9 = _ from Tryd.underlying9) tib24 (content_bsl _)) rfl ?_  -- [29] t81 := Op.convert 24 9 (t80)
  refine ops_yes (fn := 0) rfl rfl rfl rfl (x_fld tst60 rfl rfl rfl) rfl ?_  -- [30] t82 := Op.fieldAddr 60 (t3) 11
  refine ops_yes (fn := 0) rfl rfl rfl rfl (x_load1 rfl ta24 ts24 rfl rfl rfl) rfl ?_  -- [31] t83 := Op.load 24 (t82)
  refine ops_yes (fn := 0) rfl rfl rfl rfl (a_text (show (EV gl).P.underlying 24 = _ from Tryd.underlying24) (show (EV gl).P.underlying 9 = _ from Tryd.underlying9) tib24 (content_bsl _)) rfl ?_  -- [32] t84 := Op.convert 24 9 (t83)
  refine ops_yes (fn := 0) rfl rfl rfl rfl (a_eqs rfl rfl) rfl ?_  -- [33] t85 := Op.binOp BinOp.eql 9 (t81) (t84) 9
  refine ops_ret (fn := 0) (a_pick_t rfl rfl rfl) rfl rfl ?_  -- [34] t86 := Op.pick (t78) (t85) (#(bool false))
  refine ops_ret (fn := 0) (a_move (y := .v (.bool _)) rfl) rfl rfl ?_  -- [35] t87 := Op.move (t86)
  refine ops_splitF (t := 87) rfl (fun hg35 => ?_) (fun hg35 => ?_)
  · refine ops_not rfl rfl rfl rfl ?_
    refine ops_not rfl rfl rfl rfl ?_
    refine ops_not rfl rfl rfl rfl ?_
    refine ops_not rfl rfl rfl rfl ?_
    refine ops_not rfl rfl rfl rfl ?_
    refine ops_ret (fn := 0) (a_pick_f rfl rfl rfl) rfl rfl ?_  -- [41] t93 := Op.pick (t87) (t92) (#(bool false))
    refine ops_ret (fn := 0) (a_assign (y := .v (.bool _)) rfl) rfl rfl ?_  -- [42] t4 := Op.assign (t93)
    refine ops_nil ?_
    exact ret1 rfl ⟨by rw [show decide (M = M') = false from decide_eq_false (fun h => by subst h; simp at hg35)]; exact Le.refl _, Ext.mx _ _⟩
  refine ops_yes (fn := 0) rfl rfl rfl rfl (x_fld tst60 rfl rfl rfl) rfl ?_  -- [36] t88 := Op.fieldAddr 60 (t2) 12
  refine ops_yes (fn := 0) rfl rfl rfl rfl (x_load1 rfl ta52 ts52 rfl rfl rfl) rfl ?_  -- [37] t89 := Op.load 52 (t88)
  refine ops_yes (fn := 0) rfl rfl rfl rfl (x_fld tst60 rfl rfl rfl) rfl ?_  -- [38] t90 := Op.fieldAddr 60 (t3) 12
  refine ops_yes (fn := 0) rfl rfl rfl rfl (x_load1 rfl ta52 ts52 rfl rfl rfl) rfl ?_  -- [39] t91 := Op.load 52 (t90)
  refine ops_pure_yes rfl rfl rfl (sameLists_ok _ _ hl) ?_  -- [40] t92 := Op.call { callee := Callee.value (Operand.func 81), args := #[t89, t91], argTypes := #[52, 52] }
  refine ops_ret (fn := 0) (a_pick_t rfl rfl rfl) rfl rfl ?_  -- [41] t93 := Op.pick (t87) (t92) (#(bool false))
  refine ops_ret (fn := 0) (a_assign (y := .v (.bool _)) rfl) rfl rfl ?_  -- [42] t4 := Op.assign (t93)
  refine ops_nil ?_
  refine ret1 rfl ⟨?_, Ext.mx _ _⟩
  rw [show decide (M = M') = decide (M.list = M'.list) from decide_eq_decide.2 (by cases M; cases M'; simp_all)]
  exact Le.refl _

set_option maxHeartbeats 1000000 in
theorem same21_ok (c c' : Cli) (hl : c.request.list.length ≤ 1000000) (hl2 : c.reply.list.length ≤ 1000000) : Pure (EV gl) 27 [.agg (cliA c), .agg (cliA c')] (.ret (.v (.bool (decide (c = c'))))) := by
  refine Pure.mk (fun _ => Nf.v) fun m => ?_
  refine spec_body (fn := Tryd.f27) (n := 64) (rs := [ResultVar.tmp 4]) (by decide) Tryd.func27 rfl rfl rfl rfl ?_
  refine run_seq ?_
  refine run_region ?_
  refine ops_ret (fn := 0) (x_box rfl rfl rfl) rfl rfl ?_  -- [0] t2 := Op.box 62 (t0)
  refine ops_ret (fn := 0) (x_box rfl rfl rfl) rfl rfl ?_  -- [1] t3 := Op.box 62 (t1)
  refine ops_ret (fn := 0) (a_assign (y := .v (.bool _)) rfl) rfl rfl ?_  -- [2] t4 := Op.assign (#(bool false))
  refine ops_nil ?_
  refine run_seq ?_
  refine run_seq ?_
  refine run_region ?_
  refine ops_ret (fn := 0) (x_fld tst62 rfl rfl rfl) rfl rfl ?_  -- [0] t5 := Op.fieldAddr 62 (t2) 0
  refine ops_ret (fn := 0) (x_load1 rfl ta3 ts3 rfl rfl rfl) rfl rfl ?_  -- [1] t6 := Op.load 3 (t5)
  refine ops_ret (fn := 0) (x_fld tst62 rfl rfl rfl) rfl rfl ?_  -- [2] t7 := Op.fieldAddr 62 (t3) 0
  refine ops_ret (fn := 0) (x_load1 rfl ta3 ts3 rfl rfl rfl) rfl rfl ?_  -- [3] t8 := Op.load 3 (t7)
  refine ops_ret (fn := 0) (a_neq rfl rfl) rfl rfl ?_  -- [4] t9 := Op.binOp BinOp.neq 3 (t6) (t8) 3
  refine ops_ret (fn := 0) (a_move (y := .v (.bool _)) rfl) rfl rfl ?_  -- [5] t10 := Op.move (t9)
  refine ops_split (t := 10) rfl (fun hg5 => ?_) (fun hg5 => ?_)
  · refine ops_not rfl rfl rfl rfl ?_
    refine ops_not rfl rfl rfl rfl ?_
    refine ops_not rfl rfl rfl rfl ?_
    refine ops_not rfl rfl rfl rfl ?_
    refine ops_not rfl rfl rfl rfl ?_
    refine ops_ret (fn := 0) (a_pick_t rfl rfl rfl) rfl rfl ?_  -- [11] t16 := Op.pick (t10) (#(bool true)) (t15)
    refine ops_ret (fn := 0) (a_move (y := .v (.bool _)) rfl) rfl rfl ?_  -- [12] t17 := Op.move (t16)
    refine ops_not rfl rfl rfl rfl ?_
    refine ops_not rfl rfl rfl rfl ?_
    refine ops_not rfl rfl rfl rfl ?_
    refine ops_not rfl rfl rfl rfl ?_
    refine ops_not rfl rfl rfl rfl ?_
    refine ops_ret (fn := 0) (a_pick_t rfl rfl rfl) rfl rfl ?_  -- [18] t23 := Op.pick (t17) (#(bool true)) (t22)
    refine ops_ret (fn := 0) (a_move (y := .v (.bool _)) rfl) rfl rfl ?_  -- [19] t24 := Op.move (t23)
    refine ops_not rfl rfl rfl rfl ?_
    refine ops_not rfl rfl rfl rfl ?_
    refine ops_not rfl rfl rfl rfl ?_
    refine ops_not rfl rfl rfl rfl ?_
    refine ops_not rfl rfl rfl rfl ?_
    refine ops_ret (fn := 0) (a_pick_t rfl rfl rfl) rfl rfl ?_  -- [25] t30 := Op.pick (t24) (#(bool true)) (t29)
    refine ops_ret (fn := 0) (a_move (y := .v (.bool _)) rfl) rfl rfl ?_  -- [26] t31 := Op.move (t30)
    refine ops_not rfl rfl rfl rfl ?_
    refine ops_not rfl rfl rfl rfl ?_
    refine ops_not rfl rfl rfl rfl ?_
    refine ops_not rfl rfl rfl rfl ?_
    refine ops_not rfl rfl rfl rfl ?_
    refine ops_ret (fn := 0) (a_pick_t rfl rfl rfl) rfl rfl ?_  -- [32] t37 := Op.pick (t31) (#(bool true)) (t36)
    refine ops_ret (fn := 0) (a_move (y := .v (.bool _)) rfl) rfl rfl ?_  -- [33] t38 := Op.move (t37)
    refine ops_not rfl rfl rfl rfl ?_
    refine ops_not rfl rfl rfl rfl ?_
    refine ops_not rfl rfl rfl rfl ?_
    refine ops_not rfl rfl rfl rfl ?_
    refine ops_not rfl rfl rfl rfl ?_
    refine ops_ret (fn := 0) (a_pick_t rfl rfl rfl) rfl rfl ?_  -- [39] t44 := Op.pick (t38) (#(bool true)) (t43)
    refine ops_ret (fn := 0) (a_move (y := .v (.bool _)) rfl) rfl rfl ?_  -- [40] t45 := Op.move (t44)
    refine ops_not rfl rfl rfl rfl ?_
    refine ops_not rfl rfl rfl rfl ?_
    refine ops_not rfl rfl rfl rfl ?_
    refine ops_not rfl rfl rfl rfl ?_
    refine ops_not rfl rfl rfl rfl ?_
    refine ops_ret (fn := 0) (a_pick_t rfl rfl rfl) rfl rfl ?_  -- [46] t51 := Op.pick (t45) (#(bool true)) (t50)
    refine ops_nil ?_
    refine run_cond rfl (fun _ => ?_) (fun h => by cases h)
    refine run_seq ?_
    refine run_region ?_
    refine ops_ret (fn := 0) (a_assign (y := .v (.bool _)) rfl) rfl rfl ?_  -- [0] t4 := Op.assign (#(bool false))
    refine ops_nil ?_
    exact ret1 rfl ⟨by rw [show decide (c = c') = false from decide_eq_false (fun h => by subst h; simp at hg5)]; exact Le.refl _, Ext.mx _ _⟩
  refine ops_yes (fn := 0) rfl rfl rfl rfl (x_fld tst62 rfl rfl rfl) rfl ?_  -- [6] t11 := Op.fieldAddr 62 (t2) 1
  refine ops_yes (fn := 0) rfl rfl rfl rfl (x_load1 rfl ta3 ts3 rfl rfl rfl) rfl ?_  -- [7] t12 := Op.load 3 (t11)
  refine ops_yes (fn := 0) rfl rfl rfl rfl (x_fld tst62 rfl rfl rfl) rfl ?_  -- [8] t13 := Op.fieldAddr 62 (t3) 1
  refine ops_yes (fn := 0) rfl rfl rfl rfl (x_load1 rfl ta3 ts3 rfl rfl rfl) rfl ?_  -- [9] t14 := Op.load 3 (t13)
  refine ops_yes (fn := 0) rfl rfl rfl rfl (a_neq rfl rfl) rfl ?_  -- [10] t15 := Op.binOp BinOp.neq 3 (t12) (t14) 3
  refine ops_ret (fn := 0) (a_pick_f rfl rfl rfl) rfl rfl ?_  -- [11] t16 := Op.pick (t10) (#(bool true)) (t15)
  refine ops_ret (fn := 0) (a_move (y := .v (.bool _)) rfl) rfl rfl ?_  -- [12] t17 := Op.move (t16)
  refine ops_split (t := 17) rfl (fun hg12 => ?_) (fun hg12 => ?_)
  · refine ops_not rfl rfl rfl rfl ?_
    refine ops_not rfl rfl rfl rfl ?_
    refine ops_not rfl rfl rfl rfl ?_
    refine ops_not rfl rfl rfl rfl ?_
    refine ops_not rfl rfl rfl rfl ?_
    refine ops_ret (fn := 0) (a_pick_t rfl rfl rfl) rfl rfl ?_  -- [18] t23 := Op.pick (t17) (#(bool true)) (t22)
    refine ops_ret (fn := 0) (a_move (y := .v (.bool _)) rfl) rfl rfl ?_  -- [19] t24 := Op.move (t23)
    refine ops_not rfl rfl rfl rfl ?_
    refine ops_not rfl rfl rfl rfl ?_
    refine ops_not rfl rfl rfl rfl ?_
    refine ops_not rfl rfl rfl rfl ?_
    refine ops_not rfl rfl rfl rfl ?_
    refine ops_ret (fn := 0) (a_pick_t rfl rfl rfl) rfl rfl ?_  -- [25] t30 := Op.pick (t24) (#(bool true)) (t29)
    refine ops_ret (fn := 0) (a_move (y := .v (.bool _)) rfl) rfl rfl ?_  -- [26] t31 := Op.move (t30)
    refine ops_not rfl rfl rfl rfl ?_
    refine ops_not rfl rfl rfl rfl ?_
    refine ops_not rfl rfl rfl rfl ?_
    refine ops_not rfl rfl rfl rfl ?_
    refine ops_not rfl rfl rfl rfl ?_
    refine ops_ret (fn := 0) (a_pick_t rfl rfl rfl) rfl rfl ?_  -- [32] t37 := Op.pick (t31) (#(bool true)) (t36)
    refine ops_ret (fn := 0) (a_move (y := .v (.bool _)) rfl) rfl rfl ?_  -- [33] t38 := Op.move (t37)
    refine ops_not rfl rfl rfl rfl ?_
    refine ops_not rfl rfl rfl rfl ?_
    refine ops_not rfl rfl rfl rfl ?_
    refine ops_not rfl rfl rfl rfl ?_
    refine ops_not rfl rfl rfl rfl ?_
    refine ops_ret (fn := 0) (a_pick_t rfl rfl rfl) rfl rfl ?_  -- [39] t44 := Op.pick (t38) (#(bool true)) (t43)
    refine ops_ret (fn := 0) (a_move (y := .v (.bool _)) rfl) rfl rfl ?_  -- [40] t45 := Op.move (t44)
    refine ops_not rfl rfl rfl rfl ?_
    refine ops_not rfl rfl rfl rfl ?_
    refine ops_not rfl rfl rfl rfl ?_
    refine ops_not rfl rfl rfl rfl ?_
    refine ops_not rfl rfl rfl rfl ?_
    refine ops_ret (fn := 0) (a_pick_t rfl rfl rfl) rfl rfl ?_  -- [46] t51 := Op.pick (t45) (#(bool true)) (t50)
    refine ops_nil ?_
    refine run_cond rfl (fun _ => ?_) (fun h => by cases h)
    refine run_seq ?_
    refine run_region ?_
    refine ops_ret (fn := 0) (a_assign (y := .v (.bool _)) rfl) rfl rfl ?_  -- [0] t4 := Op.assign (#(bool false))
    refine ops_nil ?_
    exact ret1 rfl ⟨by rw [show decide (c = c') = false from decide_eq_false (fun h => by subst h; simp at hg12)]; exact Le.refl _, Ext.mx _ _⟩
  refine ops_yes (fn := 0) rfl rfl rfl rfl (x_fld tst62 rfl rfl rfl) rfl ?_  -- [13] t18 := Op.fieldAddr 62 (t2) 2
  refine ops_yes (fn := 0) rfl rfl rfl rfl (x_load1 rfl ta4 ts4 rfl rfl rfl) rfl ?_  -- [14] t19 := Op.load 4 (t18)
  refine ops_yes (fn := 0) rfl rfl rfl rfl (x_fld tst62 rfl rfl rfl) rfl ?_  -- [15] t20 := Op.fieldAddr 62 (t3) 2
  refine ops_yes (fn := 0) rfl rfl rfl rfl (x_load1 rfl ta4 ts4 rfl rfl rfl) rfl ?_  -- [16] t21 := Op.load 4 (t20)
  refine ops_yes (fn := 0) rfl rfl rfl rfl (a_neqb (show (EV gl).P.underlying 4 = _ from Tryd.underlying4) rfl rfl) rfl ?_  -- [17] t22 := Op.binOp BinOp.neq 4 (t19) (t21) 4
  refine ops_ret (fn := 0) (a_pick_f rfl rfl rfl) rfl rfl ?_  -- [18] t23 := Op.pick (t17) (#(bool true)) (t22)
  refine ops_ret (fn := 0) (a_move (y := .v (.bool _)) rfl) rfl rfl ?_  -- [19] t24 := Op.move (t23)
  refine ops_split (t := 24) rfl (fun hg19 => ?_) (fun hg19 => ?_)
  · refine ops_not rfl rfl rfl rfl ?_
    refine ops_not rfl rfl rfl rfl ?_
    refine ops_not rfl rfl rfl rfl ?_
    refine ops_not rfl rfl rfl rfl ?_
    refine ops_not rfl rfl rfl rfl ?_
    refine ops_ret (fn := 0) (a_pick_t rfl rfl rfl) rfl rfl ?_  -- [25] t30 := Op.pick (t24) (#(bool true)) (t29)
    refine ops_ret (fn := 0) (a_move (y := .v (.bool _)) rfl) rfl rfl ?_  -- [26] t31 := Op.move (t30)
    refine ops_not rfl rfl rfl rfl ?_
    refine ops_not rfl rfl rfl rfl ?_
    refine ops_not rfl rfl rfl rfl ?_
    refine ops_not rfl rfl rfl rfl ?_
    refine ops_not rfl rfl rfl rfl ?_
    refine ops_ret (fn := 0) (a_pick_t rfl rfl rfl) rfl rfl ?_  -- [32] t37 := Op.pick (t31) (#(bool true)) (t36)
    refine ops_ret (fn := 0) (a_move (y := .v (.bool _)) rfl) rfl rfl ?_  -- [33] t38 := Op.move (t37)
    refine ops_not rfl rfl rfl rfl ?_
    refine ops_not rfl rfl rfl rfl ?_
    refine ops_not rfl rfl rfl rfl ?_
    refine ops_not rfl rfl rfl rfl ?_
    refine ops_not rfl rfl rfl rfl ?_
    refine ops_ret (fn := 0) (a_pick_t rfl rfl rfl) rfl rfl ?_  -- [39] t44 := Op.pick (t38) (#(bool true)) (t43)
    refine ops_ret (fn := 0) (a_move (y := .v (.bool _)) rfl) rfl rfl ?_  -- [40] t45 := Op.move (t44)
    refine ops_not rfl rfl rfl rfl ?_
    refine ops_not rfl rfl rfl rfl ?_
    refine ops_not rfl rfl rfl rfl ?_
    refine ops_not rfl rfl rfl rfl ?_
    refine ops_not rfl rfl rfl rfl ?_
    refine ops_ret (fn := 0) (a_pick_t rfl rfl rfl) rfl rfl ?_  -- [46] t51 := Op.pick (t45) (#(bool true)) (t50)
    refine ops_nil ?_
    refine run_cond rfl (fun _ => ?_) (fun h => by cases h)
    refine run_seq ?_
    refine run_region ?_
    refine ops_ret (fn := 0) (a_assign (y := .v (.bool _)) rfl) rfl rfl ?_  -- [0] t4 := Op.assign (#(bool false))
    refine ops_nil ?_
    exact ret1 rfl ⟨by rw [show decide (c = c') = false from decide_eq_false (fun h => by subst h; simp at hg19)]; exact Le.refl _, Ext.mx _ _⟩
  refine ops_yes (fn := 0) rfl rfl rfl rfl (x_fld tst62 rfl rfl rfl) rfl ?_  -- [20] t25 := Op.fieldAddr 62 (t2) 3
  refine ops_yes (fn := 0) rfl rfl rfl rfl (x_load1 rfl ta4 ts4 rfl rfl rfl) rfl ?_  -- [21] t26 := Op.load 4 (t25)
  refine ops_yes (fn := 0) rfl rfl rfl rfl (x_fld tst62 rfl rfl rfl) rfl ?_  -- [22] t27 := Op.fieldAddr 62 (t3) 3
  refine ops_yes (fn := 0) rfl rfl rfl rfl (x_load1 rfl ta4 ts4 rfl rfl rfl) rfl ?_  -- [23] t28 := Op.load 4 (t27)
  refine ops_yes (fn := 0) rfl rfl rfl rfl (a_neqb (show (EV gl).P.underlying 4 = _ from Tryd.underlying4) rfl rfl) rfl ?_  -- [24] t29 := Op.binOp BinOp.neq 4 (t26) (t28) 4
  refine ops_ret (fn := 0) (a_pick_f rfl rfl rfl) rfl rfl ?_  -- [25] t30 := Op.pick (t24) (#(bool true)) (t29)
  refine ops_ret (fn := 0) (a_move (y := .v (.bool _)) rfl) rfl rfl ?_  -- [26] t31 := Op.move (t30)
  refine ops_split (t := 31) rfl (fun hg26 => ?_) (fun hg26 => ?_)
  · refine ops_not rfl rfl rfl rfl ?_
    refine ops_not rfl rfl rfl rfl ?_
    refine ops_not rfl rfl rfl rfl ?_
    refine ops_not rfl rfl rfl rfl ?_
    refine ops_not rfl rfl rfl rfl ?_
    refine ops_ret (fn := 0) (a_pick_t rfl rfl rfl) rfl rfl ?_  -- [32] t37 := Op.pick (t31) (#(bool true)) (t36)
    refine ops_ret (fn := 0) (a_move (y := .v (.bool _)) rfl) rfl rfl ?_  -- [33] t38 := Op.move (t37)
    refine ops_not rfl rfl rfl rfl ?_
    refine ops_not rfl rfl rfl rfl ?_
    refine ops_not rfl rfl rfl rfl ?_
    refine ops_not rfl rfl rfl rfl ?_
    refine ops_not rfl rfl rfl rfl ?_
    refine ops_ret (fn := 0) (a_pick_t rfl rfl rfl) rfl rfl ?_  -- [39] t44 := Op.pick (t38) (#(bool true)) (t43)
    refine ops_ret (fn := 0) (a_move (y := .v (.bool _)) rfl) rfl rfl ?_  -- [40] t45 := Op.move (t44)
    refine ops_not rfl rfl rfl rfl ?_
    refine ops_not rfl rfl rfl rfl ?_
    refine ops_not rfl rfl rfl rfl ?_
    refine ops_not rfl rfl rfl rfl ?_
    refine ops_not rfl rfl rfl rfl ?_
    refine ops_ret (fn := 0) (a_pick_t rfl rfl rfl) rfl rfl ?_  -- [46] t51 := Op.pick (t45) (#(bool true)) (t50)
    refine ops_nil ?_
    refine run_cond rfl (fun _ => ?_) (fun h => by cases h)
    refine run_seq ?_
    refine run_region ?_
    refine ops_ret (fn := 0) (a_assign (y := .v (.bool _)) rfl) rfl rfl ?_  -- [0] t4 := Op.assign (#(bool false))
    refine ops_nil ?_
    exact ret1 rfl ⟨by rw [show decide (c = c') = false from decide_eq_false (fun h => by subst h; simp at hg26)]; exact Le.refl _, Ext.mx _ _⟩
  refine ops_yes (fn := 0) rfl rfl rfl rfl (x_fld tst62 rfl rfl rfl) rfl ?_  -- [27] t32 := Op.fieldAddr 62 (t2) 4
  refine ops_yes (fn := 0) rfl rfl rfl rfl (x_load1 rfl ta3 ts3 rfl rfl rfl) rfl ?_  -- [28] t33 := Op.load 3 (t32)
  refine ops_yes (fn := 0) rfl rfl rfl rfl (x_fld tst62 rfl rfl rfl) rfl ?_  -- [29] t34 := Op.fieldAddr 62 (t3) 4
  refine ops_yes (fn := 0) rfl rfl rfl rfl (x_load1 rfl ta3 ts3 rfl rfl rfl) rfl ?_  -- [30] t35 := Op.load 3 (t34)
  refine ops_yes (fn := 0) rfl rfl rfl rfl (a_neq rfl rfl) rfl ?_  -- [31] t36 := Op.binOp BinOp.neq 3 (t33) (t35) 3
  refine ops_ret (fn := 0) (a_pick_f rfl rfl rfl) rfl rfl ?_  -- [32] t37 := Op.pick (t31) (#(bool true)) (t36)
  refine ops_ret (fn := 0) (a_move (y := .v (.bool _)) rfl) rfl rfl ?_  -- [33] t38 := Op.move (t37)
  refine ops_split (t := 38) rfl (fun hg33 => ?_) (fun hg33 => ?_)
  · refine ops_not rfl rfl rfl rfl ?_
    refine ops_not rfl rfl rfl rfl ?_
    refine ops_not rfl rfl rfl rfl ?_
    refine ops_not rfl rfl rfl rfl ?_
    refine ops_not rfl rfl rfl rfl ?_
    refine ops_ret (fn := 0) (a_pick_t rfl rfl rfl) rfl rfl ?_  -- [39] t44 := Op.pick (t38) (#(bool true)) (t43)
    refine ops_ret (fn := 0) (a_move (y := .v (.bool _)) rfl) rfl rfl ?_  -- [40] t45 := Op.move (t44)
    refine ops_not rfl rfl rfl rfl ?_
    refine ops_not rfl rfl rfl rfl ?_
    refine ops_not rfl rfl rfl rfl ?_
    refine ops_not rfl rfl rfl rfl ?_
    refine ops_not rfl rfl rfl rfl ?_
    refine ops_ret (fn := 0) (a_pick_t rfl rfl rfl) rfl rfl ?_  -- [46] t51 := Op.pick (t45) (#(bool true)) (t50)
    refine ops_nil ?_
    refine run_cond rfl (fun _ => ?_) (fun h => by cases h)
    refine run_seq ?_
    refine run_region ?_
    refine ops_ret (fn := 0) (a_assign (y := .v (.bool _)) rfl) rfl rfl ?_  -- [0] t4 := Op.assign (#(bool false))
    refine ops_nil ?_
    exact ret1 rfl ⟨by rw [show decide (c = c') = false from decide_eq_false (fun h => by subst h; simp at hg33)]; exact Le.refl _, Ext.mx _ _⟩
  refine ops_yes (fn := 0) rfl rfl rfl rfl (x_fld tst62 rfl rfl rfl) rfl ?_  -- [34] t39 := Op.fieldAddr 62 (t2) 5
  refine ops_yes (fn := 0) rfl rfl rfl rfl (x_load1 rfl ta3 ts3 rfl rfl rfl) rfl ?_  -- [35] t40 := Op.load 3 (t39)
  refine ops_yes (fn := 0) rfl rfl rfl rfl (x_fld tst62 rfl rfl rfl) rfl ?_  -- [36] t41 := Op.fieldAddr 62 (t3) 5
  refine ops_yes (fn := 0) rfl rfl rfl rfl (x_load1 rfl ta3 ts3 rfl rfl rfl) rfl ?_  -- [37] t42 := Op.load 3 (t41)
  refine ops_yes (fn := 0) rfl rfl rfl rfl (a_neq rfl rfl) rfl ?_  -- [38] t43 := Op.binOp BinOp.neq 3 (t40) (t42) 3
  refine ops_ret (fn := 0) (a_pick_f rfl rfl rfl) rfl rfl ?_  -- [39] t44 := Op.pick (t38) (#(bool true)) (t43)
  refine ops_ret (fn := 0) (a_move (y := .v (.bool _)) rfl) rfl rfl ?_  -- [40] t45 := Op.move (t44)
  refine ops_split (t := 45) rfl (fun hg40 => ?_) (fun hg40 => ?_)
  · refine ops_not rfl rfl rfl rfl ?_
    refine ops_not rfl rfl rfl rfl ?_
    refine ops_not rfl rfl rfl rfl ?_
    refine ops_not rfl rfl rfl rfl ?_
    refine ops_not rfl rfl rfl rfl ?_
    refine ops_ret (fn := 0) (a_pick_t rfl rfl rfl) rfl rfl ?_  -- [46] t51 := Op.pick (t45) (#(bool true)) (t50)
    refine ops_nil ?_
    refine run_cond rfl (fun _ => ?_) (fun h => by cases h)
    refine run_seq ?_
    refine run_region ?_
    refine ops_ret (fn := 0) (a_assign (y := .v (.bool _)) rfl) rfl rfl ?_  -- [0] t4 := Op.assign (#(bool false))
    refine ops_nil ?_
    exact ret1 rfl ⟨by rw [show decide (c = c') = false from decide_eq_false (fun h => by subst h; simp at hg40)]; exact Le.refl _, Ext.mx _ _⟩
  refine ops_yes (fn := 0) rfl rfl rfl rfl (x_fld tst62 rfl rfl rfl) rfl ?_  -- [41] t46 := Op.fieldAddr 62 (t2) 6
  refine ops_yes (fn := 0) rfl rfl rfl rfl (x_load1 rfl ta3 ts3 rfl rfl rfl) rfl ?_  -- [42] t47 := Op.load 3 (t46)
  refine ops_yes (fn := 0) rfl rfl rfl rfl (x_fld tst62 rfl rfl rfl) rfl ?_  -- [43] t48 := Op.fieldAddr 62 (t3) 6
  refine ops_yes (fn := 0) rfl rfl rfl rfl (x_load1 rfl ta3 ts3 rfl rfl rfl) rfl ?_  -- [44] t49 := Op.load 3 (t48)
  refine ops_yes (fn := 0) rfl rfl rfl rfl (a_neq rfl rfl) rfl ?_  -- [45] t50 := Op.binOp BinOp.neq 3 (t47) (t49) 3
  refine ops_ret (fn := 0) (a_pick_f rfl rfl rfl) rfl rfl ?_  -- [46] t51 := Op.pick (t45) (#(bool true)) (t50)
  refine ops_nil ?_
  refine run_cond rfl (fun h => ?_) (fun h => ?_)
  · refine run_seq ?_
    refine run_region ?_
    refine ops_ret (fn := 0) (a_assign (y := .v (.bool _)) rfl) rfl rfl ?_  -- [0] t4 := Op.assign (#(bool false))
    refine ops_nil ?_
    exact ret1 rfl ⟨by rw [show decide (c = c') = false from decide_eq_false (fun e => by subst e; simp at h)]; exact Le.refl _, Ext.mx _ _⟩
  refine run_skip ?_
  refine run_seq ?_
  refine run_region ?_
  refine ops_ret (fn := 0) (x_fld tst62 rfl rfl rfl) rfl rfl ?_  -- [0] t52 := Op.fieldAddr 62 (t2) 7
  refine ops_ret (fn := 0) (x_load2 rfl ta60 ts60 rfl rfl rfl rfl) rfl rfl ?_  -- [1] t53 := Op.load 60 (t52)
  refine ops_ret (fn := 0) (x_fld tst62 rfl rfl rfl) rfl rfl ?_  -- [2] t54 := Op.fieldAddr 62 (t3) 7
  refine ops_ret (fn := 0) (x_load2 rfl ta60 ts60 rfl rfl rfl rfl) rfl rfl ?_  -- [3] t55 := Op.load 60 (t54)
  refine ops_pure (same16_ok c.request c'.request hl) ?_  -- [4] t56 := Op.call { callee := Callee.value (Operand.func 56), args := #[t53, t55], argTypes := #[60, 60] }
  refine ops_ret (fn := 0) (a_move (y := .v (.bool _)) rfl) rfl rfl ?_  -- [5] t57 := Op.move (t56)
  refine ops_splitF (t := 57) rfl (fun hg5 => ?_) (fun hg5 => ?_)
  · refine ops_not rfl rfl rfl rfl ?_
    refine ops_not rfl rfl rfl rfl ?_
    refine ops_not rfl rfl rfl rfl ?_
    refine ops_not rfl rfl rfl rfl ?_
    refine ops_not rfl rfl rfl rfl ?_
    refine ops_ret (fn := 0) (a_pick_f rfl rfl rfl) rfl rfl ?_  -- [11] t63 := Op.pick (t57) (t62) (#(bool false))
    refine ops_ret (fn := 0) (a_assign (y := .v (.bool _)) rfl) rfl rfl ?_  -- [12] t4 := Op.assign (t63)
    refine ops_nil ?_
    exact ret1 rfl ⟨by rw [show decide (c = c') = false from decide_eq_false (fun h => by subst h; simp at hg5)]; exact Le.refl _, Ext.mx _ _⟩
  refine ops_yes (fn := 0) rfl rfl rfl rfl (x_fld tst62 rfl rfl rfl) rfl ?_  -- [6] t58 := Op.fieldAddr 62 (t2) 8
  refine ops_yes (fn := 0) rfl rfl rfl rfl (x_load2 rfl ta60 ts60 rfl rfl rfl rfl) rfl ?_  -- [7] t59 := Op.load 60 (t58)
  refine ops_yes (fn := 0) rfl rfl rfl rfl (x_fld tst62 rfl rfl rfl) rfl ?_  -- [8] t60 := Op.fieldAddr 62 (t3) 8
  refine ops_yes (fn := 0) rfl rfl rfl rfl (x_load2 rfl ta60 ts60 rfl rfl rfl rfl) rfl ?_  -- [9] t61 := Op.load 60 (t60)
  refine ops_pure_yes rfl rfl rfl (same16_ok c.reply c'.reply hl2) ?_  -- [10] t62 := Op.call { callee := Callee.value (Operand.func 56), args := #[t59, t61], argTypes := #[60, 60] }
  refine ops_ret (fn := 0) (a_pick_t rfl rfl rfl) rfl rfl ?_  -- [11] t63 := Op.pick (t57) (t62) (#(bool false))
  refine ops_ret (fn := 0) (a_assign (y := .v (.bool _)) rfl) rfl rfl ?_  -- [12] t4 := Op.assign (t63)
  refine ops_nil ?_
  refine ret1 rfl ⟨?_, Ext.mx _ _⟩
  rw [show decide (c = c') = decide (c.reply = c'.reply) from decide_eq_decide.2 (by cases c; cases c'; simp_all)]
  exact Le.refl _
end
end Go.Vm
