/- Layers 16 and 21: contracts for the laws of the client: small functions, what is long, what is the same. -/
import Derived.Test.YtmppnmffbmpcpaaDoorMsgB
set_option linter.unusedVariables false
set_option linter.unusedSimpArgs false
namespace Go.Vm
open Go.RowKit Go.Proofs

deriving instance DecidableEq for Msg

/-- A client. -/
structure Cli where
  id : Int
  number : Int
  waits : Bool
  refused : Bool
  done : Int
  due : Int
  answer : Int
  request : Msg
  reply : Msg
  deriving DecidableEq
abbrev cliA (c : Cli) : List AV := [.v (.int .i64 c.id), .v (.int .i64 c.number), .v (.bool c.waits), .v (.bool c.refused), .v (.int .i64 c.done), .v (.int .i64 c.due), .v (.int .i64 c.answer),
  .v (.int .i64 c.request.kind), .v (.int .i64 c.request.client), .v (.int .i64 c.request.number), .v (.int .i64 c.request.op), .v (.string (bstr c.request.repo)), .v (.int .i64 c.request.epoch), .v (.int .i64 c.request.seq), .v (.int .i64 c.request.count), .v (.int .i64 c.request.tick), .v (.int .i64 c.request.shard), .v (.int .i64 c.request.answer), bsl c.request.body, lsl c.request.list,
  .v (.int .i64 c.reply.kind), .v (.int .i64 c.reply.client), .v (.int .i64 c.reply.number), .v (.int .i64 c.reply.op), .v (.string (bstr c.reply.repo)), .v (.int .i64 c.reply.epoch), .v (.int .i64 c.reply.seq), .v (.int .i64 c.reply.count), .v (.int .i64 c.reply.tick), .v (.int .i64 c.reply.shard), .v (.int .i64 c.reply.answer), bsl c.reply.body, lsl c.reply.list]
theorem Nf.cli {n : Nat} (c : Cli) : ∀ x ∈ cliA c, Nf n x := by
  intro x hx
  rcases List.mem_append.1 (show x ∈ ([.v (.int .i64 c.id), .v (.int .i64 c.number), .v (.bool c.waits), .v (.bool c.refused), .v (.int .i64 c.done), .v (.int .i64 c.due), .v (.int .i64 c.answer)] ++ (msgA c.request ++ msgA c.reply) : List AV) from hx) with h | h
  · simp only [List.mem_cons, List.mem_nil_iff, or_false] at h
    rcases h with rfl | rfl | rfl | rfl | rfl | rfl | rfl <;> exact Nf.v
  · rcases List.mem_append.1 h with h | h
    · exact Nf.msg _ x h
    · exact Nf.msg _ x h

section
variable {gl : Nat → Option (List Value)}

theorem ticked_ok (n : Int) : Pure (EV gl) 57 [.v (.int .i64 n)] (.ret (.v (.bool (decide (0 ≤ n ∧ n ≤ 1099511627776))))) := by
  refine Pure.mk (fun _ => Nf.v) fun m => ?_
  refine spec_body (fn := Tryd.f57) (n := 9) (rs := [ResultVar.tmp 2]) (by decide) Tryd.func57 rfl rfl rfl rfl ?_
  refine run_seq ?_
  refine run_region ?_
  refine ops_ret (fn := 0) (a_assign (y := .v (.bool _)) rfl) rfl rfl ?_  -- [0] t2 := Op.assign (#(bool false))
  refine ops_nil ?_
  refine run_seq ?_
  refine run_region ?_
  refine ops_ret (fn := 0) (a_move (y := .v (.int _ _)) rfl) rfl rfl ?_  -- [0] t3 := Op.move (t0)
  refine ops_ret (fn := 0) (a_geq rfl rfl) rfl rfl ?_  -- [1] t4 := Op.binOp BinOp.geq 3 (t3) (#(int i64 0)) 3
  refine ops_ret (fn := 0) (a_move (y := .v (.bool _)) rfl) rfl rfl ?_  -- [2] t5 := Op.move (t4)
  refine ops_splitF (t := 5) rfl (fun hg2 => ?_) (fun hg2 => ?_)
  · refine ops_not rfl rfl rfl rfl ?_
    refine ops_not rfl rfl rfl rfl ?_
    refine ops_ret (fn := 0) (a_pick_f rfl rfl rfl) rfl rfl ?_  -- [5] t8 := Op.pick (t5) (t7) (#(bool false))
    refine ops_ret (fn := 0) (a_assign (y := .v (.bool _)) rfl) rfl rfl ?_  -- [6] t2 := Op.assign (t8)
    refine ops_nil ?_
    exact ret1 rfl ⟨by rw [show decide (0 ≤ n ∧ n ≤ 1099511627776) = false from decide_eq_false (fun h => by have := of_decide_eq_false hg2; omega)]; exact Le.refl _, Ext.mx _ _⟩
  refine ops_yes (fn := 0) rfl rfl rfl rfl (a_move (y := .v (.int _ _)) rfl) rfl ?_  -- [3] t6 := Op.move (t0)
  refine ops_yes (fn := 0) rfl rfl rfl rfl (a_leq rfl rfl) rfl ?_  -- [4] t7 := Op.binOp BinOp.leq 3 (t6) (#(int i64 1099511627776)) 3
  refine ops_ret (fn := 0) (a_pick_t rfl rfl rfl) rfl rfl ?_  -- [5] t8 := Op.pick (t5) (t7) (#(bool false))
  refine ops_ret (fn := 0) (a_assign (y := .v (.bool _)) rfl) rfl rfl ?_  -- [6] t2 := Op.assign (t8)
  refine ops_nil ?_
  refine ret1 rfl ⟨?_, Ext.mx _ _⟩
  have h1 := of_decide_eq_true hg2
  rw [show decide (0 ≤ n ∧ n ≤ 1099511627776) = decide (n ≤ 1099511627776) from decide_eq_decide.2 ⟨fun h => h.2, fun h => ⟨h1, h⟩⟩]
  exact Le.refl _

/-- Is a message more than is asked? -/
def longM (M : Msg) : Bool := decide (400 < M.repo.length ∨ 3500 < M.body.length ∨ 70 < M.list.length ∨ (∃ b ∈ M.list, 3500 < b.length) ∨ 8000 < M.list.flatten.length)

theorem flat_small : ∀ (l : List (List UInt8)), (∀ b ∈ l, ¬ 3500 < b.length) → l.flatten.length ≤ l.length * 3500
  | [], _ => by simp
  | b :: r, h => by
    have h1 := h b (by simp)
    have h2 := flat_small r fun c hc => h c (by simp [hc])
    simp only [List.flatten_cons, List.length_append, List.length_cons]
    omega

theorem long16_ok (M : Msg) : Pure (EV gl) 30 [.agg (msgA M)] (.ret (.v (.bool (longM M)))) := by
  refine Pure.mk (fun _ => Nf.v) fun m => ?_
  refine spec_body (fn := Tryd.f30) (n := 39) (rs := [ResultVar.tmp 2]) (by decide) Tryd.func30 rfl rfl rfl rfl ?_
  refine run_seq ?_
  refine run_region ?_
  refine ops_ret (fn := 0) (x_box rfl rfl rfl) rfl rfl ?_  -- [0] t1 := Op.box 54 (t0)
  refine ops_ret (fn := 0) (a_assign (y := .v (.bool _)) rfl) rfl rfl ?_  -- [1] t2 := Op.assign (#(bool false))
  refine ops_nil ?_
  refine run_seq ?_
  refine run_seq ?_
  refine run_region ?_
  refine ops_ret (fn := 0) (x_fld tst54 rfl rfl rfl) rfl rfl ?_  -- [0] t6 := Op.fieldAddr 54 (t1) 4
  refine ops_ret (fn := 0) (x_load1 rfl ta9 ts9 rfl rfl rfl) rfl rfl ?_  -- [1] t7 := Op.load 9 (t6)
  refine ops_ret (fn := 0) (x_len_str (show (EV gl).P.underlying 9 = _ from Tryd.underlying9) rfl) rfl rfl ?_  -- [2] t8 := Op.call { callee := Callee.builtin Builtin.len, args := #[t7], argTypes := #[9] }
  refine ops_ret (fn := 0) (a_gtr rfl rfl) rfl rfl ?_  -- [3] t9 := Op.binOp BinOp.gtr 3 (t8) (#(int i64 400)) 3
  refine ops_ret (fn := 0) (a_move (y := .v (.bool _)) rfl) rfl rfl ?_  -- [4] t10 := Op.move (t9)
  refine ops_split (t := 10) rfl (fun hg4 => ?_) (fun hg4 => ?_)
  · refine ops_not rfl rfl rfl rfl ?_
    refine ops_not rfl rfl rfl rfl ?_
    refine ops_not rfl rfl rfl rfl ?_
    refine ops_not rfl rfl rfl rfl ?_
    refine ops_ret (fn := 0) (a_pick_t rfl rfl rfl) rfl rfl ?_  -- [9] t15 := Op.pick (t10) (#(bool true)) (t14)
    refine ops_ret (fn := 0) (a_move (y := .v (.bool _)) rfl) rfl rfl ?_  -- [10] t16 := Op.move (t15)
    refine ops_not rfl rfl rfl rfl ?_
    refine ops_not rfl rfl rfl rfl ?_
    refine ops_not rfl rfl rfl rfl ?_
    refine ops_not rfl rfl rfl rfl ?_
    refine ops_ret (fn := 0) (a_pick_t rfl rfl rfl) rfl rfl ?_  -- [15] t21 := Op.pick (t16) (#(bool true)) (t20)
    refine ops_nil ?_
    refine run_cond rfl (fun _ => ?_) (fun h => by cases h)
    refine run_seq ?_
    refine run_region ?_
    refine ops_ret (fn := 0) (a_assign (y := .v (.bool _)) rfl) rfl rfl ?_  -- [0] t2 := Op.assign (#(bool true))
    refine ops_nil ?_
    refine ret1 rfl ⟨?_, Ext.mx _ _⟩
    have hq := of_decide_eq_true hg4
    rw [show longM M = true from decide_eq_true (by omega)]
    exact Le.refl _
  refine ops_yes (fn := 0) rfl rfl rfl rfl (x_fld tst54 rfl rfl rfl) rfl ?_  -- [5] t11 := Op.fieldAddr 54 (t1) 11
  refine ops_yes (fn := 0) rfl rfl rfl rfl (x_load1 rfl ta24 ts24 rfl rfl rfl) rfl ?_  -- [6] t12 := Op.load 24 (t11)
  refine ops_yes (fn := 0) rfl rfl rfl rfl ((by first | exact a_len_sl (show (EV gl).P.underlying 24 = _ from Tryd.underlying24) rfl | exact a_len_ref (show (EV gl).P.underlying 24 = _ from Tryd.underlying24) rfl)) rfl ?_  -- [7] t13 := Op.call { callee := Callee.builtin Builtin.len, args := #[t12], argTypes := #[24] }
  refine ops_yes (fn := 0) rfl rfl rfl rfl (a_gtr rfl rfl) rfl ?_  -- [8] t14 := Op.binOp BinOp.gtr 3 (t13) (#(int i64 3500)) 3
  refine ops_ret (fn := 0) (a_pick_f rfl rfl rfl) rfl rfl ?_  -- [9] t15 := Op.pick (t10) (#(bool true)) (t14)
  refine ops_ret (fn := 0) (a_move (y := .v (.bool _)) rfl) rfl rfl ?_  -- [10] t16 := Op.move (t15)
  refine ops_split (t := 16) rfl (fun hg10 => ?_) (fun hg10 => ?_)
  · refine ops_not rfl rfl rfl rfl ?_
    refine ops_not rfl rfl rfl rfl ?_
    refine ops_not rfl rfl rfl rfl ?_
    refine ops_not rfl rfl rfl rfl ?_
    refine ops_ret (fn := 0) (a_pick_t rfl rfl rfl) rfl rfl ?_  -- [15] t21 := Op.pick (t16) (#(bool true)) (t20)
    refine ops_nil ?_
    refine run_cond rfl (fun _ => ?_) (fun h => by cases h)
    refine run_seq ?_
    refine run_region ?_
    refine ops_ret (fn := 0) (a_assign (y := .v (.bool _)) rfl) rfl rfl ?_  -- [0] t2 := Op.assign (#(bool true))
    refine ops_nil ?_
    refine ret1 rfl ⟨?_, Ext.mx _ _⟩
    have hq := of_decide_eq_true hg10
    rw [show longM M = true from decide_eq_true (by omega)]
    exact Le.refl _
  refine ops_yes (fn := 0) rfl rfl rfl rfl (x_fld tst54 rfl rfl rfl) rfl ?_  -- [11] t17 := Op.fieldAddr 54 (t1) 12
  refine ops_yes (fn := 0) rfl rfl rfl rfl (x_load1 rfl ta52 ts52 rfl rfl rfl) rfl ?_  -- [12] t18 := Op.load 52 (t17)
  refine ops_yes (fn := 0) rfl rfl rfl rfl ((by first | exact a_len_sl (show (EV gl).P.underlying 52 = _ from Tryd.underlying52) rfl | exact a_len_ref (show (EV gl).P.underlying 52 = _ from Tryd.underlying52) rfl)) rfl ?_  -- [13] t19 := Op.call { callee := Callee.builtin Builtin.len, args := #[t18], argTypes := #[52] }
  refine ops_yes (fn := 0) rfl rfl rfl rfl (a_gtr rfl rfl) rfl ?_  -- [14] t20 := Op.binOp BinOp.gtr 3 (t19) (#(int i64 70)) 3
  refine ops_ret (fn := 0) (a_pick_f rfl rfl rfl) rfl rfl ?_  -- [15] t21 := Op.pick (t16) (#(bool true)) (t20)
  refine ops_nil ?_
  refine run_cond rfl (fun h => ?_) (fun h => ?_)
  · have hq := of_decide_eq_true h
    refine run_seq ?_
    refine run_region ?_
    refine ops_ret (fn := 0) (a_assign (y := .v (.bool _)) rfl) rfl rfl ?_  -- [0] t2 := Op.assign (#(bool true))
    refine ops_nil ?_
    refine ret1 rfl ⟨?_, Ext.mx _ _⟩
    rw [show longM M = true from decide_eq_true (by omega)]
    exact Le.refl _
  have q1 := of_decide_eq_false hg4
  have q2 := of_decide_eq_false hg10
  have q3 := of_decide_eq_false h
  refine run_skip ?_
  refine run_seq ?_
  refine run_region ?_
  refine ops_ret (fn := 0) (a_assign (y := .v (.int _ _)) rfl) rfl rfl ?_  -- [0] t3 := Op.assign (#(int i64 0))
  refine ops_nil ?_
  refine run_seq ?_
  refine run_seq ?_
  refine run_region ?_
  refine ops_ret (fn := 0) (x_fld tst54 rfl rfl rfl) rfl rfl ?_  -- [0] t22 := Op.fieldAddr 54 (t1) 12
  refine ops_ret (fn := 0) (x_load1 rfl ta52 ts52 rfl rfl rfl) rfl rfl ?_  -- [1] t23 := Op.load 52 (t22)
  refine ops_ret (fn := 0) ((by first | exact a_len_sl (show (EV gl).P.underlying 52 = _ from Tryd.underlying52) rfl | exact a_len_ref (show (EV gl).P.underlying 52 = _ from Tryd.underlying52) rfl)) rfl rfl ?_  -- [2] t24 := Op.call { callee := Callee.builtin Builtin.len, args := #[t23], argTypes := #[52] }
  refine ops_ret (fn := 0) (a_move (y := .v (.int _ _)) rfl) rfl rfl ?_  -- [3] t25 := Op.move (#(int i64 0))
  refine ops_nil ?_
  refine run_block ?_
  refine run_ind (α := Nat) (fun k φ M' => ∃ ψ, φ = updL ψ [(3, .v (.int .i64 ((M.list.take k).flatten.length : Nat))), (23, lsl M.list), (24, .v (.int .i64 (M.list.length : Nat))), (25, .v (.int .i64 (k : Nat)))] ∧ Ext m M' ∧ k ≤ M.list.length ∧ ∀ b ∈ M.list.take k, ¬ 3500 < b.length) (fun k => M.list.length - k) 0 ⟨_, updL_of _ ⟨rfl, rfl, rfl, rfl, trivial⟩, Ext.mx _ _, Nat.zero_le _, by simp⟩ ?_
  rintro k φ M' ⟨ψ, rfl, hext, hkl, hsm⟩ ih
  refine run_seq ?_
  refine run_region ?_
  refine ops_ret (fn := 0) (a_lss rfl rfl) rfl rfl ?_  -- [0] t26 := Op.binOp BinOp.lss 3 (t25) (t24) 3
  refine ops_nil ?_
  refine run_seq ?_
  refine run_cond rfl (fun hc => ?_) (fun hc => ?_)
  · have hlt : k < M.list.length := by have := of_decide_eq_true hc; omega
    obtain ⟨b, hb⟩ : ∃ b, M.list[k]? = some b := ⟨_, List.getElem?_eq_getElem hlt⟩
    have hbm := List.mem_of_getElem? hb
    have hle := flat_small _ hsm
    rw [List.length_take] at hle
    have h70 : M.list.length ≤ 70 := by omega
    have hmin : min k M.list.length ≤ 70 := by omega
    refine run_skip ?_
    refine run_seq ?_
    refine run_block ?_
    refine run_seq ?_
    refine run_region ?_
    refine ops_ret (fn := 0) (x_idx_sl (show (EV gl).P.underlying 52 = _ from Tryd.underlying52) ts24 (by decide) rfl rfl rfl hlt (by simp) (bsl_at hb)) rfl rfl ?_  -- [0] t27 := Op.indexAddr 52 (t23) (t25)
    refine ops_ret (fn := 0) (x_load_ep1 ta24 ts24 rfl rfl) rfl rfl ?_  -- [1] t28 := Op.load 24 (t27)
    refine ops_ret (fn := 0) (a_assign rfl) rfl rfl ?_  -- [2] t5 := Op.assign (t28)
    refine ops_nil ?_
    refine run_seq ?_
    refine run_seq ?_
    refine run_region ?_
    refine ops_ret (fn := 0) (a_move rfl) rfl rfl ?_  -- [0] t29 := Op.move (t5)
    refine ops_ret (fn := 0) ((by first | exact a_len_sl (show (EV gl).P.underlying 24 = _ from Tryd.underlying24) rfl | exact a_len_ref (show (EV gl).P.underlying 24 = _ from Tryd.underlying24) rfl)) rfl rfl ?_  -- [1] t30 := Op.call { callee := Callee.builtin Builtin.len, args := #[t29], argTypes := #[24] }
    refine ops_ret (fn := 0) (a_gtr rfl rfl) rfl rfl ?_  -- [2] t31 := Op.binOp BinOp.gtr 3 (t30) (#(int i64 3500)) 3
    refine ops_nil ?_
    refine run_cond rfl (fun h => ?_) (fun h => ?_)
    · have h3 : 3500 < b.length := by have := of_decide_eq_true h; omega
      refine run_seq ?_
      refine run_region ?_
      refine ops_ret (fn := 0) (a_assign (y := .v (.bool _)) rfl) rfl rfl ?_  -- [0] t2 := Op.assign (#(bool true))
      refine ops_nil ?_
      refine ret1 rfl ⟨?_, hext⟩
      rw [show longM M = true from decide_eq_true (.inr (.inr (.inr (.inl ⟨b, hbm, h3⟩))))]
      exact Le.refl _
    have h3 : ¬ 3500 < b.length := by have := of_decide_eq_false h; omega
    refine run_skip ?_
    refine run_region ?_
    refine ops_ret (fn := 0) (a_move (y := .v (.int _ _)) rfl) rfl rfl ?_  -- [0] t32 := Op.move (t3)
    refine ops_ret (fn := 0) (a_move rfl) rfl rfl ?_  -- [1] t33 := Op.move (t5)
    refine ops_ret (fn := 0) ((by first | exact a_len_sl (show (EV gl).P.underlying 24 = _ from Tryd.underlying24) rfl | exact a_len_ref (show (EV gl).P.underlying 24 = _ from Tryd.underlying24) rfl)) rfl rfl ?_  -- [2] t34 := Op.call { callee := Callee.builtin Builtin.len, args := #[t33], argTypes := #[24] }
    refine ops_ret (fn := 0) (a_add rfl rfl (by first | exact w64 (by omega) | rfl)) rfl rfl ?_  -- [3] t35 := Op.binOp BinOp.add 3 (t32) (t34) 3
    refine ops_ret (fn := 0) (a_assign (y := .v (.int _ _)) rfl) rfl rfl ?_  -- [4] t3 := Op.assign (t35)
    refine ops_nil ?_
    refine run_inBlock ?_
    refine run_region ?_
    refine ops_ret (fn := 0) (a_add rfl rfl (by first | exact w64 (by omega) | rfl)) rfl rfl ?_  -- [0] t36 := Op.binOp BinOp.add 3 (t25) (#(int i64 1)) 3
    refine ops_ret (fn := 0) (a_move (y := .v (.int _ _)) rfl) rfl rfl ?_  -- [1] t25 := Op.move (t36)
    refine ops_nil ?_
    refine ih (k + 1) _ _ (by omega) ⟨_, updL_of _ ⟨int_eq (by rw [flat_take_succ hb, List.length_append]; omega), rfl, rfl, int_eq (by omega), trivial⟩, hext, hlt, ?_⟩
    rw [List.take_add_one, hb]
    intro c hcm
    rcases List.mem_append.1 hcm with h1 | h1
    · exact hsm c h1
    · simp only [Option.toList_some, List.mem_singleton] at h1
      rw [h1]; exact h3
  · have hge : k = M.list.length := by have := of_decide_eq_false hc; omega
    subst hge
    rw [List.take_length] at hsm ⊢
    refine run_exit rfl ?_
    refine run_seq ?_
    refine run_region ?_
    refine ops_ret (fn := 0) (a_move (y := .v (.int _ _)) rfl) rfl rfl ?_  -- [0] t37 := Op.move (t3)
    refine ops_ret (fn := 0) (a_gtr rfl rfl) rfl rfl ?_  -- [1] t38 := Op.binOp BinOp.gtr 3 (t37) (#(int i64 8000)) 3
    refine ops_ret (fn := 0) (a_assign (y := .v (.bool _)) rfl) rfl rfl ?_  -- [2] t2 := Op.assign (t38)
    refine ops_nil ?_
    refine ret1 rfl ⟨?_, hext⟩
    rw [show longM M = decide ((8000 : Int) < ((M.list.flatten.length : Nat) : Int)) from decide_eq_decide.2 ⟨fun h => ?_, fun h => ?_⟩]
    · exact Le.refl _
    · rcases h with h | h | h | ⟨b, hb, h⟩ | h
      · omega
      · omega
      · omega
      · exact absurd h (hsm b hb)
      · omega
    · exact .inr (.inr (.inr (.inr (by omega))))
end
end Go.Vm
