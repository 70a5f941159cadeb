/- Layer 16 (message): contracts: a message's bytes. -/
import Derived.Test.YtmppnmffbmpcpaaDoorMsgA
set_option linter.unusedVariables false
set_option linter.unusedSimpArgs false
namespace Go.Vm
open Go.RowKit Go.Proofs

abbrev shape13 : List UInt8 := [98, 98, 113, 98, 116, 113, 113, 113, 113, 98, 98, 116, 98]
abbrev base13 (M : Msg) : List Fld := [(M.kind, []), (M.client, []), (M.number, []), (M.op, []), (0, M.repo), (M.epoch, []), (M.seq, []), (M.count, []), (M.tick, []), (M.shard, []), (M.answer, []), (0, M.body), ((M.list.length : Nat), [])]
def eltF (b : List UInt8) : Fld := (0, b)
def coreL (M : Msg) : Except Nat (List UInt8) :=
  match writeL (shape13 ++ List.replicate M.list.length 116) (base13 M ++ M.list.map eltF) with
  | .error e => .error e
  | .ok l => if 3000 < l.length then .error 12 else .ok l
def bigL (M : Msg) : Bool := decide (3000 < M.body.length) || M.list.any fun b => decide (3000 < b.length)
def bareM (M : Msg) : Msg := { M with body := [], list := [] }
def longL (M : Msg) : Nat :=
  match chkL (bareM M) with
  | some e => e
  | none => match coreL (bareM M) with
    | .error e => e
    | .ok _ => 12
def bytesL (M : Msg) : Except Nat (List UInt8) :=
  match chkL M with
  | some e => .error e
  | none => if bigL M then .error (longL M) else coreL M

theorem flds_append (a b : List Fld) : flds (a ++ b) = flds a ++ flds b := by simp [flds]
theorem base13_ok {M : Msg} (hM : MOk M) : ∀ f ∈ base13 M ++ M.list.map eltF, (-9223372036854775808 ≤ f.1 ∧ f.1 ≤ 9223372036854775807) ∧ f.2.length ≤ 1000000 := by
  intro f hf
  rcases List.mem_append.1 hf with hf | hf
  · have hlist := hM.list
    have z : -9223372036854775808 ≤ (0 : Int) ∧ (0 : Int) ≤ 9223372036854775807 := by omega
    have e0 : ([] : List UInt8).length ≤ 1000000 := by simp
    simp only [base13, List.mem_cons, List.mem_nil_iff, or_false] at hf
    rcases hf with rfl | rfl | rfl | rfl | rfl | rfl | rfl | rfl | rfl | rfl | rfl | rfl | rfl
    · exact ⟨hM.kind, e0⟩
    · exact ⟨hM.client, e0⟩
    · exact ⟨hM.number, e0⟩
    · exact ⟨hM.op, e0⟩
    · exact ⟨z, hM.repo⟩
    · exact ⟨hM.epoch, e0⟩
    · exact ⟨hM.seq, e0⟩
    · exact ⟨hM.count, e0⟩
    · exact ⟨hM.tick, e0⟩
    · exact ⟨hM.shard, e0⟩
    · exact ⟨hM.answer, e0⟩
    · exact ⟨z, hM.body⟩
    · exact ⟨by simp only; omega, e0⟩
  · obtain ⟨b, hb, rfl⟩ := List.mem_map.1 hf
    exact ⟨by simp only [eltF]; omega, hM.elts b hb⟩

theorem bareM_ok {M : Msg} (hM : MOk M) : MOk (bareM M) := ⟨hM.1, hM.2, hM.3, hM.4, hM.5, hM.6, hM.7, hM.8, hM.9, hM.10, hM.11, by simp [bareM], by simp [bareM], by simp [bareM]⟩
theorem bareM_small (M : Msg) : bigL (bareM M) = false := by simp [bigL, bareM]
theorem bareM_bytes (M : Msg) : bytesL (bareM M) = match chkL (bareM M) with
    | some e => .error e
    | none => coreL (bareM M) := by
  unfold bytesL
  rw [bareM_small]
  rfl


section
variable {gl : Nat → Option (List Value)} (hgl : gl 25 = some wordsV)
include hgl

set_option maxHeartbeats 600000 in
theorem bytes_gen (M : Msg) (hM : MOk M) (hlong : bigL M = true → Pure (EV gl) 83 [.agg (msgA M)] (.ret (.u (longL M)))) : Pure (EV gl) 59 [.agg (msgA M)] (.ret (exA (bytesL M))) := by
  refine Pure.mk (fun _ => Nf.exA _) fun m => ?_
  refine spec_body (fn := Tryd.f59) (n := 99) (rs := [ResultVar.tmp 2, ResultVar.tmp 3]) (by decide) Tryd.func59 rfl rfl rfl rfl ?_
  refine run_seq ?_
  refine run_region ?_
  refine ops_ret (fn := 0) (x_box rfl rfl rfl) rfl rfl ?_  -- [0] t1 := Op.box 54 (t0)
  refine ops_ret (fn := 0) (a_assign rfl) rfl rfl ?_  -- [1] t2 := Op.assign (#(slice none 0 0))
  refine ops_ret (fn := 0) (a_assign rfl) rfl rfl ?_  -- [2] t3 := Op.assign (#nilIface)
  refine ops_nil ?_
  refine run_seq ?_
  refine run_seq ?_
  refine run_region ?_
  refine ops_ret (fn := 0) ((by first | exact x_load2 rfl ta54 ts54 rfl rfl rfl rfl | exact x_load_ep2 ta54 ts54 rfl rfl rfl)) rfl rfl ?_  -- [0] t11 := Op.load 54 (t1)
  refine ops_pure (check_ok hgl M hM) ?_  -- [1] t12 := Op.call { callee := Callee.value (Operand.func 82), args := #[t11], argTypes := #[54] }
  refine ops_ret (fn := 0) (a_assign rfl) rfl rfl ?_  -- [2] t4 := Op.assign (t12)
  refine ops_nil ?_
  refine run_seq ?_
  cases hck : chkL M with
  | some e =>
    rw [show bytesL M = .error e by simp only [bytesL, hck]]
    refine run_region ?_
    refine ops_ret (fn := 0) (a_move rfl) rfl rfl ?_  -- [0] t13 := Op.move (t4)
    refine ops_ret (fn := 0) ((by first | exact a_nequ rfl (show (EV gl).P.underlying 30 = _ from Tryd.underlying30) rfl rfl | exact a_neqn (show (EV gl).P.underlying 30 = _ from Tryd.underlying30) rfl rfl rfl)) rfl rfl ?_  -- [1] t14 := Op.binOp BinOp.neq 30 (t13) (#nilIface) 30
    refine ops_nil ?_
    refine run_cond rfl (fun _ => ?_) (fun h => by cases h)
    refine run_seq ?_
    refine run_region ?_
    refine ops_ret (fn := 0) (a_move rfl) rfl rfl ?_  -- [0] t15 := Op.move (t4)
    refine ops_ret (fn := 0) (a_assign rfl) rfl rfl ?_  -- [1] t2 := Op.assign (#(slice none 0 0))
    refine ops_ret (fn := 0) (a_assign rfl) rfl rfl ?_  -- [2] t3 := Op.assign (t15)
    refine ops_nil ?_
    exact ret2 rfl rfl ⟨Le.tup2 Le.nil (Le.refl _), Ext.mx _ _⟩
  | none =>
  refine run_region ?_
  refine ops_ret (fn := 0) (a_move rfl) rfl rfl ?_  -- [0] t13 := Op.move (t4)
  refine ops_ret (fn := 0) ((by first | exact a_nequ rfl (show (EV gl).P.underlying 30 = _ from Tryd.underlying30) rfl rfl | exact a_neqn (show (EV gl).P.underlying 30 = _ from Tryd.underlying30) rfl rfl rfl)) rfl rfl ?_  -- [1] t14 := Op.binOp BinOp.neq 30 (t13) (#nilIface) 30
  refine ops_nil ?_
  refine run_cond rfl (fun h => by cases h) (fun _ => ?_)
  refine run_skip ?_
  refine run_seq ?_
  refine run_seq ?_
  refine run_region ?_
  refine ops_ret (fn := 0) (x_fld tst54 rfl rfl rfl) rfl rfl ?_  -- [0] t16 := Op.fieldAddr 54 (t1) 11
  refine ops_ret (fn := 0) (x_load1 rfl ta24 ts24 rfl rfl rfl) rfl rfl ?_  -- [1] t17 := Op.load 24 (t16)
  refine ops_ret (fn := 0) ((by first | exact a_len_sl (show (EV gl).P.underlying 24 = _ from Tryd.underlying24) rfl | exact a_len_ref (show (EV gl).P.underlying 24 = _ from Tryd.underlying24) rfl)) rfl rfl ?_  -- [2] t18 := Op.call { callee := Callee.builtin Builtin.len, args := #[t17], argTypes := #[24] }
  refine ops_ret (fn := 0) (a_gtr rfl rfl) rfl rfl ?_  -- [3] t19 := Op.binOp BinOp.gtr 3 (t18) (#(int i64 3000)) 3
  refine ops_nil ?_
  refine run_cond rfl (fun h => ?_) (fun h => ?_)
  · have hbig : bigL M = true := by
      have : 3000 < M.body.length := by have := of_decide_eq_true h; omega
      simp [bigL, this]
    rw [show bytesL M = .error (longL M) by simp only [bytesL, hck, hbig, if_true]]
    refine run_seq ?_
    refine run_region ?_
    refine ops_ret (fn := 0) ((by first | exact x_load2 rfl ta54 ts54 rfl rfl rfl rfl | exact x_load_ep2 ta54 ts54 rfl rfl rfl)) rfl rfl ?_  -- [0] t20 := Op.load 54 (t1)
    refine ops_pure (hlong hbig) ?_  -- [1] t21 := Op.call { callee := Callee.value (Operand.func 83), args := #[t20], argTypes := #[54] }
    refine ops_ret (fn := 0) (a_assign rfl) rfl rfl ?_  -- [2] t2 := Op.assign (#(slice none 0 0))
    refine ops_ret (fn := 0) (a_assign rfl) rfl rfl ?_  -- [3] t3 := Op.assign (t21)
    refine ops_nil ?_
    exact ret2 rfl rfl ⟨Le.tup2 Le.nil (Le.refl _), Ext.mx _ _⟩
  have hbody : ¬ 3000 < M.body.length := by have := of_decide_eq_false h; omega
  refine run_skip ?_
  refine run_seq ?_
  refine run_region ?_
  refine ops_ret (fn := 0) (a_assign (y := .v (.string (bstr _))) rfl) rfl rfl ?_  -- [0] t5 := Op.assign (#(string { data := #[98, 98, 113, 98, 116, 113, 113, 113, 113, 98, 98, 116, 98] }))
  refine ops_nil ?_
  refine run_seq ?_
  refine run_draw tmix (by kernel_rfl) ?_
  refine opsd_free (fn := 0) (fun _ => x_fld tst54 rfl rfl rfl) rfl rfl rfl ?_  -- [0] t22 := Op.fieldAddr 54 (t1) 0
  refine opsd_look (fn := 0) (x_load1 rfl ta3 ts3 rfl rfl rfl) rfl rfl rfl ?_  -- [1] t23 := Op.load 3 (t22)
  refine opsd_pure (num_ok _) ?_  -- [2] t24 := Op.call { callee := Callee.value (Operand.func 39), args := #[t23], argTypes := #[3] }
  refine opsd_free (fn := 0) (fun _ => x_fld tst54 rfl rfl rfl) rfl rfl rfl ?_  -- [3] t25 := Op.fieldAddr 54 (t1) 1
  refine opsd_look (fn := 0) (x_load1 rfl ta3 ts3 rfl rfl rfl) rfl rfl rfl ?_  -- [4] t26 := Op.load 3 (t25)
  refine opsd_pure (num_ok _) ?_  -- [5] t27 := Op.call { callee := Callee.value (Operand.func 39), args := #[t26], argTypes := #[3] }
  refine opsd_free (fn := 0) (fun _ => x_fld tst54 rfl rfl rfl) rfl rfl rfl ?_  -- [6] t28 := Op.fieldAddr 54 (t1) 2
  refine opsd_look (fn := 0) (x_load1 rfl ta3 ts3 rfl rfl rfl) rfl rfl rfl ?_  -- [7] t29 := Op.load 3 (t28)
  refine opsd_pure (num_ok _) ?_  -- [8] t30 := Op.call { callee := Callee.value (Operand.func 39), args := #[t29], argTypes := #[3] }
  refine opsd_free (fn := 0) (fun _ => x_fld tst54 rfl rfl rfl) rfl rfl rfl ?_  -- [9] t31 := Op.fieldAddr 54 (t1) 3
  refine opsd_look (fn := 0) (x_load1 rfl ta3 ts3 rfl rfl rfl) rfl rfl rfl ?_  -- [10] t32 := Op.load 3 (t31)
  refine opsd_pure (num_ok _) ?_  -- [11] t33 := Op.call { callee := Callee.value (Operand.func 39), args := #[t32], argTypes := #[3] }
  refine opsd_free (fn := 0) (fun _ => x_fld tst54 rfl rfl rfl) rfl rfl rfl ?_  -- [12] t34 := Op.fieldAddr 54 (t1) 4
  refine opsd_look (fn := 0) (x_load1 rfl ta9 ts9 rfl rfl rfl) rfl rfl rfl ?_  -- [13] t35 := Op.load 9 (t34)
  refine opsd_pure (text_ok _ (by have := hM.repo; unfold maxLen; omega)) ?_  -- [14] t36 := Op.call { callee := Callee.value (Operand.func 40), args := #[t35], argTypes := #[9] }
  refine opsd_free (fn := 0) (fun _ => x_fld tst54 rfl rfl rfl) rfl rfl rfl ?_  -- [15] t37 := Op.fieldAddr 54 (t1) 5
  refine opsd_look (fn := 0) (x_load1 rfl ta3 ts3 rfl rfl rfl) rfl rfl rfl ?_  -- [16] t38 := Op.load 3 (t37)
  refine opsd_pure (num_ok _) ?_  -- [17] t39 := Op.call { callee := Callee.value (Operand.func 39), args := #[t38], argTypes := #[3] }
  refine opsd_free (fn := 0) (fun _ => x_fld tst54 rfl rfl rfl) rfl rfl rfl ?_  -- [18] t40 := Op.fieldAddr 54 (t1) 6
  refine opsd_look (fn := 0) (x_load1 rfl ta3 ts3 rfl rfl rfl) rfl rfl rfl ?_  -- [19] t41 := Op.load 3 (t40)
  refine opsd_pure (num_ok _) ?_  -- [20] t42 := Op.call { callee := Callee.value (Operand.func 39), args := #[t41], argTypes := #[3] }
  refine opsd_free (fn := 0) (fun _ => x_fld tst54 rfl rfl rfl) rfl rfl rfl ?_  -- [21] t43 := Op.fieldAddr 54 (t1) 7
  refine opsd_look (fn := 0) (x_load1 rfl ta3 ts3 rfl rfl rfl) rfl rfl rfl ?_  -- [22] t44 := Op.load 3 (t43)
  refine opsd_pure (num_ok _) ?_  -- [23] t45 := Op.call { callee := Callee.value (Operand.func 39), args := #[t44], argTypes := #[3] }
  refine opsd_free (fn := 0) (fun _ => x_fld tst54 rfl rfl rfl) rfl rfl rfl ?_  -- [24] t46 := Op.fieldAddr 54 (t1) 8
  refine opsd_look (fn := 0) (x_load1 rfl ta3 ts3 rfl rfl rfl) rfl rfl rfl ?_  -- [25] t47 := Op.load 3 (t46)
  refine opsd_pure (num_ok _) ?_  -- [26] t48 := Op.call { callee := Callee.value (Operand.func 39), args := #[t47], argTypes := #[3] }
  refine opsd_free (fn := 0) (fun _ => x_fld tst54 rfl rfl rfl) rfl rfl rfl ?_  -- [27] t49 := Op.fieldAddr 54 (t1) 9
  refine opsd_look (fn := 0) (x_load1 rfl ta3 ts3 rfl rfl rfl) rfl rfl rfl ?_  -- [28] t50 := Op.load 3 (t49)
  refine opsd_pure (num_ok _) ?_  -- [29] t51 := Op.call { callee := Callee.value (Operand.func 39), args := #[t50], argTypes := #[3] }
  refine opsd_free (fn := 0) (fun _ => x_fld tst54 rfl rfl rfl) rfl rfl rfl ?_  -- [30] t52 := Op.fieldAddr 54 (t1) 10
  refine opsd_look (fn := 0) (x_load1 rfl ta3 ts3 rfl rfl rfl) rfl rfl rfl ?_  -- [31] t53 := Op.load 3 (t52)
  refine opsd_pure (num_ok _) ?_  -- [32] t54 := Op.call { callee := Callee.value (Operand.func 39), args := #[t53], argTypes := #[3] }
  refine opsd_free (fn := 0) (fun _ => x_fld tst54 rfl rfl rfl) rfl rfl rfl ?_  -- [33] t55 := Op.fieldAddr 54 (t1) 11
  refine opsd_look (fn := 0) (x_load1 rfl ta24 ts24 rfl rfl rfl) rfl rfl rfl ?_  -- [34] t56 := Op.load 24 (t55)
  refine opsd_pure (obytes_ok _) ?_  -- [35] t57 := Op.call { callee := Callee.value (Operand.func 84), args := #[t56], argTypes := #[24] }
  refine opsd_free (fn := 0) (fun _ => x_fld tst54 rfl rfl rfl) rfl rfl rfl ?_  -- [36] t58 := Op.fieldAddr 54 (t1) 12
  refine opsd_look (fn := 0) (x_load1 rfl ta52 ts52 rfl rfl rfl) rfl rfl rfl ?_  -- [37] t59 := Op.load 52 (t58)
  refine opsd_free (fn := 0) (fun _ => (by first | exact a_len_sl (show (EV gl).P.underlying 52 = _ from Tryd.underlying52) rfl | exact a_len_ref (show (EV gl).P.underlying 52 = _ from Tryd.underlying52) rfl)) rfl rfl rfl ?_  -- [38] t60 := Op.call { callee := Callee.builtin Builtin.len, args := #[t59], argTypes := #[52] }
  refine opsd_pure (num_ok _) ?_  -- [39] t61 := Op.call { callee := Callee.value (Operand.func 39), args := #[t60], argTypes := #[3] }
  refine opsd_free (fn := 0) (fun _ => x_lit_all ((base13 M).map fun f => .agg (fldA f.1 f.2)) tsl22 tib22 rfl rfl rfl rfl rfl (cells := flds (base13 M)) rfl) rfl rfl rfl ?_  -- [40] t62 := Op.buildSlice 22 13 #[(0, t24), (1, t27), (2, t30), (3, t33), (4, t36), (5, t39), (6, t42), (7, t45)
  refine opsd_free (fn := 0) (fun _ => a_assign rfl) rfl rfl rfl ?_  -- [41] t6 := Op.assign (t62)
  refine opsd_nil (by kernel_rfl) (by kernel_rfl) ?_
  refine run_seq ?_
  refine run_seq ?_
  refine run_region ?_
  refine ops_ret (fn := 0) (x_fld tst54 rfl rfl rfl) rfl rfl ?_  -- [0] t63 := Op.fieldAddr 54 (t1) 12
  refine ops_ret (fn := 0) (x_load1 rfl ta52 ts52 rfl rfl rfl) rfl rfl ?_  -- [1] t64 := Op.load 52 (t63)
  refine ops_ret (fn := 0) ((by first | exact a_len_sl (show (EV gl).P.underlying 52 = _ from Tryd.underlying52) rfl | exact a_len_ref (show (EV gl).P.underlying 52 = _ from Tryd.underlying52) rfl)) rfl rfl ?_  -- [2] t65 := Op.call { callee := Callee.builtin Builtin.len, args := #[t64], argTypes := #[52] }
  refine ops_ret (fn := 0) (a_move (y := .v (.int _ _)) rfl) rfl rfl ?_  -- [3] t66 := Op.move (#(int i64 0))
  refine ops_nil ?_
  refine run_block ?_
  have hlist := hM.list
  refine run_ind (α := Nat) (fun k φ M' => ∃ ψ x l, φ = updL ψ [(1, .ptr (m.length + 0) 0), (5, .v (.string (bstr (shape13 ++ List.replicate k 116)))), (6, x), (64, lsl M.list), (65, .v (.int .i64 (M.list.length : Nat))), (66, .v (.int .i64 (k : Nat)))] ∧ M' = mx m l ∧ l[0]? = some (.wr (msgA M) 54 false) ∧
    Acc m (mx m l) 26 2 (flds (base13 M ++ (M.list.take k).map eltF)) x ∧ k ≤ M.list.length ∧ ∀ b ∈ M.list.take k, ¬ 3000 < b.length) (fun k => M.list.length - k) 0
    ⟨_, _, _, updL_of _ ⟨rfl, rfl, rfl, rfl, rfl, rfl, trivial⟩, rfl, rfl, ⟨Ext.mx _ _, .inr (.inr (.inl ⟨13, _, rfl, rfl, Nat.le_of_ble_eq_true rfl⟩))⟩, Nat.zero_le _, by simp⟩ ?_
  rintro k φ M' ⟨ψ, x, l, rfl, rfl, hbox, hacc, hkl, hsm⟩ ih
  refine run_seq ?_
  refine run_region ?_
  refine ops_ret (fn := 0) (a_lss rfl rfl) rfl rfl ?_  -- [0] t67 := Op.binOp BinOp.lss 3 (t66) (t65) 3
  refine ops_nil ?_
  refine run_seq ?_
  refine run_cond rfl (fun hc => ?_) (fun hc => ?_)
  · have hlt : k < M.list.length := by have := of_decide_eq_true hc; omega
    obtain ⟨b, hb⟩ : ∃ b, M.list[k]? = some b := ⟨_, List.getElem?_eq_getElem hlt⟩
    have hbm := List.mem_of_getElem? hb
    have hbl := hM.elts b hbm
    refine run_skip ?_
    refine run_seq ?_
    refine run_block ?_
    refine run_seq ?_
    refine run_region ?_
    refine ops_ret (fn := 0) (x_idx_sl (show (EV gl).P.underlying 52 = _ from Tryd.underlying52) ts24 (by decide) rfl rfl rfl hlt (by simp) (bsl_at hb)) rfl rfl ?_  -- [0] t68 := Op.indexAddr 52 (t64) (t66)
    refine ops_ret (fn := 0) (x_load_ep1 ta24 ts24 rfl rfl) rfl rfl ?_  -- [1] t69 := Op.load 24 (t68)
    refine ops_ret (fn := 0) (a_assign rfl) rfl rfl ?_  -- [2] t8 := Op.assign (t69)
    refine ops_nil ?_
    refine run_seq ?_
    refine run_seq ?_
    refine run_region ?_
    refine ops_ret (fn := 0) (a_move rfl) rfl rfl ?_  -- [0] t70 := Op.move (t8)
    refine ops_ret (fn := 0) ((by first | exact a_len_sl (show (EV gl).P.underlying 24 = _ from Tryd.underlying24) rfl | exact a_len_ref (show (EV gl).P.underlying 24 = _ from Tryd.underlying24) rfl)) rfl rfl ?_  -- [1] t71 := Op.call { callee := Callee.builtin Builtin.len, args := #[t70], argTypes := #[24] }
    refine ops_ret (fn := 0) (a_gtr rfl rfl) rfl rfl ?_  -- [2] t72 := Op.binOp BinOp.gtr 3 (t71) (#(int i64 3000)) 3
    refine ops_nil ?_
    refine run_cond rfl (fun h => ?_) (fun h => ?_)
    · have hbig : bigL M = true := by
        have : 3000 < b.length := by have := of_decide_eq_true h; omega
        simp only [bigL, Bool.or_eq_true, List.any_eq_true]
        exact .inr ⟨b, hbm, decide_eq_true this⟩
      rw [show bytesL M = .error (longL M) by simp only [bytesL, hck, hbig, if_true]]
      refine run_seq ?_
      refine run_region ?_
      refine ops_ret (fn := 0) (x_load2 rfl ta54 ts54 rfl hbox rfl rfl) rfl rfl ?_  -- [0] t73 := Op.load 54 (t1)
      refine ops_pure (hlong hbig) ?_  -- [1] t74 := Op.call { callee := Callee.value (Operand.func 83), args := #[t73], argTypes := #[54] }
      refine ops_ret (fn := 0) (a_assign rfl) rfl rfl ?_  -- [2] t2 := Op.assign (#(slice none 0 0))
      refine ops_ret (fn := 0) (a_assign rfl) rfl rfl ?_  -- [3] t3 := Op.assign (t74)
      refine ops_nil ?_
      exact ret2 rfl rfl ⟨Le.tup2 Le.nil (Le.refl _), Ext.mx _ _⟩
    have hsmall : ¬ 3000 < b.length := by have := of_decide_eq_false h; omega
    refine run_skip ?_
    refine run_seq ?_
    refine run_region ?_
    refine ops_ret (fn := 0) (a_move (y := .v (.string (bstr _))) rfl) rfl rfl ?_  -- [0] t75 := Op.move (t5)
    refine ops_ret (fn := 0) (a_cats rfl rfl (by simp; omega)) rfl rfl ?_  -- [1] t76 := Op.binOp BinOp.add 9 (t75) (#(string { data := #[116] })) 9
    refine ops_ret (fn := 0) (a_assign (y := .v (.string (bstr _))) rfl) rfl rfl ?_  -- [2] t5 := Op.assign (t76)
    refine ops_nil ?_
    refine run_region ?_
    refine ops_ret (fn := 0) (a_move rfl) rfl rfl ?_  -- [0] t77 := Op.move (t6)
    refine ops_ret (fn := 0) (a_move rfl) rfl rfl ?_  -- [1] t78 := Op.move (t8)
    refine ops_pure (obytes_ok _) ?_  -- [2] t79 := Op.call { callee := Callee.value (Operand.func 84), args := #[t78], argTypes := #[24] }
    refine ops_ret (fn := 0) (x_lit tsl22 tib22 rfl rfl rfl) rfl rfl ?_  -- [3] t80 := Op.buildSlice 22 1 #[(0, t79)]
    refine ops_append (ys := fldA 0 b) 0 1 (13 + k) rfl tsl22 (show (EV gl).P.underlying 22 = _ from Tryd.underlying22) rfl rfl hacc rfl rfl rfl rfl (by rw [flds_length, List.length_append, List.length_map, List.length_take]; simp only [List.length_cons, List.length_nil]; omega) (by unfold maxBytes; omega) (by unfold maxLen; omega) fun x' M'' hacc' hkp => ?_  -- [4] t81 := Op.call { callee := Callee.builtin Builtin.append, args := #[t77, t80], argTypes := #[22, 22] }
    refine ops_ret (fn := 0) (a_assign rfl) rfl rfl ?_  -- [5] t6 := Op.assign (t81)
    refine ops_nil ?_
    obtain ⟨l', rfl⟩ := hacc'.1
    refine run_inBlock ?_
    refine run_region ?_
    refine ops_ret (fn := 0) (a_add rfl rfl (by first | exact w64 (by omega) | rfl)) rfl rfl ?_  -- [0] t82 := Op.binOp BinOp.add 3 (t66) (#(int i64 1)) 3
    refine ops_ret (fn := 0) (a_move (y := .v (.int _ _)) rfl) rfl rfl ?_  -- [1] t66 := Op.move (t82)
    refine ops_nil ?_
    refine ih (k + 1) _ _ (by omega) ⟨_, _, l', updL_of _ ⟨rfl, ?_, rfl, rfl, rfl, int_eq (by omega), trivial⟩, rfl, hkp.mx hbox, ?_, hlt, ?_⟩
    · rw [List.replicate_succ', ← List.append_assoc]
      rfl
    · rw [List.take_add_one, hb, List.map_append, ← List.append_assoc, flds_append]
      exact hacc'
    · rw [List.take_add_one, hb]
      intro c hcm
      rcases List.mem_append.1 hcm with h1 | h1
      · exact hsm c h1
      · simp only [Option.toList_some, List.mem_singleton] at h1
        rw [h1]; exact hsmall
  · have hge : k = M.list.length := by have := of_decide_eq_false hc; omega
    subst hge
    rw [List.take_length] at hacc hsm
    have hbig : bigL M = false := by
      rw [Bool.eq_false_iff]
      simp only [bigL, ne_eq, Bool.or_eq_true, List.any_eq_true, not_or, not_exists, decide_eq_true_eq]
      exact ⟨hbody, fun b hb => hsm b hb.1 hb.2⟩
    rw [show bytesL M = coreL M by simp only [bytesL, hck, hbig]; rfl]
    refine run_exit rfl ?_
    refine run_seq ?_
    refine run_weak 6 (hacc.le (n := (base13 M ++ M.list.map eltF).length) (by decide) (flds_length _)) ?_
    have hlen : (base13 M ++ M.list.map eltF).length ≤ 10000 := by rw [List.length_append, List.length_map]; simp only [List.length_cons, List.length_nil]; omega
    have hwr := write_ok (gl := gl) (shape13 ++ List.replicate M.list.length 116) (base13 M ++ M.list.map eltF) none (by rw [List.length_append, List.length_replicate]; simp only [List.length_cons, List.length_nil]; omega) hlen (base13_ok hM)
    cases hw : writeL (shape13 ++ List.replicate M.list.length 116) (base13 M ++ M.list.map eltF) with
    | error e =>
      rw [hw] at hwr
      rw [show coreL M = .error e by simp only [coreL, hw]]
      refine run_region ?_
      refine ops_ret (fn := 0) (a_move (y := .v (.string (bstr _))) rfl) rfl rfl ?_  -- [0] t84 := Op.move (t5)
      refine ops_ret (fn := 0) (a_move rfl) rfl rfl ?_  -- [1] t85 := Op.move (t6)
      refine ops_pure hwr ?_  -- [2] t86 := Op.call { callee := Callee.value (Operand.func 13), args := #[t84, t85], argTypes := #[9, 22] }
      refine ops_ret (fn := 0) (a_move rfl) rfl rfl ?_  -- [3] t83 := Op.move (t86)
      refine ops_ret (fn := 0) (a_extract rfl rfl) rfl rfl ?_  -- [4] t87 := Op.extract (t83) 0
      refine ops_ret (fn := 0) (a_extract rfl rfl) rfl rfl ?_  -- [5] t88 := Op.extract (t83) 1
      refine ops_ret (fn := 0) (a_assign rfl) rfl rfl ?_  -- [6] t9 := Op.assign (t87)
      refine ops_ret (fn := 0) (a_assign rfl) rfl rfl ?_  -- [7] t10 := Op.assign (t88)
      refine ops_nil ?_
      refine run_seq ?_
      refine run_block ?_
      refine run_seq ?_
      refine run_region ?_
      refine ops_ret (fn := 0) (a_move rfl) rfl rfl ?_  -- [0] t90 := Op.move (t10)
      refine ops_ret (fn := 0) ((by first | exact a_nequ rfl (show (EV gl).P.underlying 30 = _ from Tryd.underlying30) rfl rfl | exact a_neqn (show (EV gl).P.underlying 30 = _ from Tryd.underlying30) rfl rfl rfl)) rfl rfl ?_  -- [1] t91 := Op.binOp BinOp.neq 30 (t90) (#nilIface) 30
      refine ops_ret (fn := 0) (a_assign (y := .v (.bool _)) rfl) rfl rfl ?_  -- [2] t89 := Op.assign (t91)
      refine ops_nil ?_
      refine run_cond rfl (fun _ => ?_) (fun h => by cases h)
      refine run_seq ?_
      refine run_region ?_
      refine ops_ret (fn := 0) (a_move rfl) rfl rfl ?_  -- [0] t92 := Op.move (t10)
      refine ops_ret (fn := 0) (a_assign rfl) rfl rfl ?_  -- [1] t2 := Op.assign (#(slice none 0 0))
      refine ops_ret (fn := 0) (a_assign rfl) rfl rfl ?_  -- [2] t3 := Op.assign (t92)
      refine ops_nil ?_
      exact ret2 rfl rfl ⟨Le.tup2 Le.nil (Le.refl _), Ext.mx _ _⟩
    | ok r =>
      rw [hw] at hwr
      refine run_region ?_
      refine ops_ret (fn := 0) (a_move (y := .v (.string (bstr _))) rfl) rfl rfl ?_  -- [0] t84 := Op.move (t5)
      refine ops_ret (fn := 0) (a_move rfl) rfl rfl ?_  -- [1] t85 := Op.move (t6)
      refine ops_pure hwr ?_  -- [2] t86 := Op.call { callee := Callee.value (Operand.func 13), args := #[t84, t85], argTypes := #[9, 22] }
      refine ops_ret (fn := 0) (a_move rfl) rfl rfl ?_  -- [3] t83 := Op.move (t86)
      refine ops_ret (fn := 0) (a_extract rfl rfl) rfl rfl ?_  -- [4] t87 := Op.extract (t83) 0
      refine ops_ret (fn := 0) (a_extract rfl rfl) rfl rfl ?_  -- [5] t88 := Op.extract (t83) 1
      refine ops_ret (fn := 0) (a_assign rfl) rfl rfl ?_  -- [6] t9 := Op.assign (t87)
      refine ops_ret (fn := 0) (a_assign rfl) rfl rfl ?_  -- [7] t10 := Op.assign (t88)
      refine ops_nil ?_
      refine run_seq ?_
      refine run_block ?_
      refine run_seq ?_
      refine run_region ?_
      refine ops_ret (fn := 0) (a_move rfl) rfl rfl ?_  -- [0] t90 := Op.move (t10)
      refine ops_ret (fn := 0) ((by first | exact a_nequ rfl (show (EV gl).P.underlying 30 = _ from Tryd.underlying30) rfl rfl | exact a_neqn (show (EV gl).P.underlying 30 = _ from Tryd.underlying30) rfl rfl rfl)) rfl rfl ?_  -- [1] t91 := Op.binOp BinOp.neq 30 (t90) (#nilIface) 30
      refine ops_ret (fn := 0) (a_assign (y := .v (.bool _)) rfl) rfl rfl ?_  -- [2] t89 := Op.assign (t91)
      refine ops_nil ?_
      refine run_cond rfl (fun h => by cases h) (fun _ => ?_)
      refine run_seq ?_
      refine run_region ?_
      refine ops_ret (fn := 0) (a_move rfl) rfl rfl ?_  -- [0] t94 := Op.move (t9)
      refine ops_ret (fn := 0) ((by first | exact a_len_sl (show (EV gl).P.underlying 24 = _ from Tryd.underlying24) rfl | exact a_len_ref (show (EV gl).P.underlying 24 = _ from Tryd.underlying24) rfl)) rfl rfl ?_  -- [1] t95 := Op.call { callee := Callee.builtin Builtin.len, args := #[t94], argTypes := #[24] }
      refine ops_ret (fn := 0) (a_gtr rfl rfl) rfl rfl ?_  -- [2] t96 := Op.binOp BinOp.gtr 3 (t95) (#(int i64 3000)) 3
      refine ops_ret (fn := 0) (a_assign (y := .v (.bool _)) rfl) rfl rfl ?_  -- [3] t93 := Op.assign (t96)
      refine ops_nil ?_
      refine run_cond rfl (fun h => ?_) (fun h => ?_)
      · have hl : 3000 < r.length := by have := of_decide_eq_true h; omega
        rw [show coreL M = .error 12 by simp only [coreL, hw, if_pos hl]]
        refine run_seq ?_
        refine run_draw tmix (by kernel_rfl) ?_
        refine opsd_free (fn := 0) (fun _ => x_load_err ta30 ts30 rfl rfl) rfl rfl rfl ?_  -- [0] t97 := Op.load 30 (Operand.global 12)
        refine opsd_free (fn := 0) (fun _ => a_assign rfl) rfl rfl rfl ?_  -- [1] t2 := Op.assign (#(slice none 0 0))
        refine opsd_free (fn := 0) (fun _ => a_assign rfl) rfl rfl rfl ?_  -- [2] t3 := Op.assign (t97)
        refine opsd_nil (by kernel_rfl) (by kernel_rfl) ?_
        exact ret2 rfl rfl ⟨Le.tup2 Le.nil (Le.refl _), Ext.mx _ _⟩
      · have hl : ¬ 3000 < r.length := by have := of_decide_eq_false h; omega
        rw [show coreL M = .ok r by simp only [coreL, hw, if_neg hl]]
        refine run_skip ?_
        refine run_inBlock ?_
        refine run_seq ?_
        refine run_region ?_
        refine ops_ret (fn := 0) (a_move rfl) rfl rfl ?_  -- [0] t98 := Op.move (t9)
        refine ops_ret (fn := 0) (a_assign rfl) rfl rfl ?_  -- [1] t2 := Op.assign (t98)
        refine ops_ret (fn := 0) (a_assign rfl) rfl rfl ?_  -- [2] t3 := Op.assign (#nilIface)
        refine ops_nil ?_
        exact ret2 rfl rfl ⟨Le.refl _, Ext.mx _ _⟩

theorem long_ok (M : Msg) (hM : MOk M) : Pure (EV gl) 83 [.agg (msgA M)] (.ret (.u (longL M))) := by
  have hb0 := bytes_gen hgl (bareM M) (bareM_ok hM) (fun h => by rw [bareM_small] at h; cases h)
  have hlg : longL M = match bytesL (bareM M) with | .error e => e | .ok _ => 12 := by
    rw [bareM_bytes]
    unfold longL
    cases chkL (bareM M) <;> rfl
  refine Pure.mk (fun _ => Nf.u) fun m => ?_
  refine spec_body (fn := Tryd.f83) (n := 16) (rs := [ResultVar.tmp 2]) (by decide) Tryd.func83 rfl rfl rfl rfl ?_
  refine run_seq ?_
  refine run_region ?_
  refine ops_ret (fn := 0) (x_box rfl rfl rfl) rfl rfl ?_  -- [0] t1 := Op.box 54 (t0)
  refine ops_ret (fn := 0) (a_assign rfl) rfl rfl ?_  -- [1] t2 := Op.assign (#nilIface)
  refine ops_nil ?_
  refine run_seq ?_
  refine run_region ?_
  refine ops_ret (fn := 0) (x_fld tst54 rfl rfl rfl) rfl rfl ?_  -- [0] t5 := Op.fieldAddr 54 (t1) 11
  refine ops_ret (fn := 0) (x_store rfl ts24 rfl rfl rfl rfl rfl rfl rfl rfl) rfl rfl ?_  -- [1] none := Op.store 24 (t5) (#(slice none 0 0))
  refine ops_ret (fn := 0) (x_fld tst54 rfl rfl rfl) rfl rfl ?_  -- [2] t6 := Op.fieldAddr 54 (t1) 12
  refine ops_ret (fn := 0) (x_store rfl ts52 rfl rfl rfl rfl rfl rfl rfl rfl) rfl rfl ?_  -- [3] none := Op.store 52 (t6) (#(slice none 0 0))
  refine ops_nil ?_
  refine run_seq ?_
  refine run_seq ?_
  cases hb : bytesL (bareM M) with
  | error e =>
    rw [hb] at hlg hb0
    rw [hlg]
    refine run_region ?_
    refine ops_ret (fn := 0) ((by first | exact x_load2 rfl ta54 ts54 rfl rfl rfl rfl | exact x_load_ep2 ta54 ts54 rfl rfl rfl)) rfl rfl ?_  -- [0] t8 := Op.load 54 (t1)
    refine ops_weak 8 (y := .agg (msgA (bareM M))) (Le.agg ⟨Le.refl _, Le.refl _, Le.refl _, Le.refl _, Le.refl _, Le.refl _, Le.refl _, Le.refl _, Le.refl _, Le.refl _, Le.refl _, Le.nil, Le.nil, trivial⟩) ?_; refine ops_pure hb0 ?_  -- [1] t9 := Op.call { callee := Callee.value (Operand.func 59), args := #[t8], argTypes := #[54] }
    refine ops_ret (fn := 0) (a_move rfl) rfl rfl ?_  -- [2] t7 := Op.move (t9)
    refine ops_ret (fn := 0) (a_extract rfl rfl) rfl rfl ?_  -- [3] t10 := Op.extract (t7) 0
    refine ops_ret (fn := 0) (a_extract rfl rfl) rfl rfl ?_  -- [4] t11 := Op.extract (t7) 1
    refine ops_ret (fn := 0) (a_assign rfl) rfl rfl ?_  -- [5] t3 := Op.assign (t10)
    refine ops_ret (fn := 0) (a_assign rfl) rfl rfl ?_  -- [6] t4 := Op.assign (t11)
    refine ops_nil ?_
    refine run_seq ?_
    refine run_region ?_
    refine ops_ret (fn := 0) (a_move rfl) rfl rfl ?_  -- [0] t12 := Op.move (t4)
    refine ops_ret (fn := 0) ((by first | exact a_nequ rfl (show (EV gl).P.underlying 30 = _ from Tryd.underlying30) rfl rfl | exact a_neqn (show (EV gl).P.underlying 30 = _ from Tryd.underlying30) rfl rfl rfl)) rfl rfl ?_  -- [1] t13 := Op.binOp BinOp.neq 30 (t12) (#nilIface) 30
    refine ops_nil ?_
    refine run_cond rfl (fun _ => ?_) (fun h => by cases h)
    refine run_seq ?_
    refine run_region ?_
    refine ops_ret (fn := 0) (a_move rfl) rfl rfl ?_  -- [0] t14 := Op.move (t4)
    refine ops_ret (fn := 0) (a_assign rfl) rfl rfl ?_  -- [1] t2 := Op.assign (t14)
    refine ops_nil ?_
    exact ret1 rfl ⟨Le.refl _, Ext.mx _ _⟩
  | ok r =>
    rw [hb] at hlg hb0
    rw [hlg]
    refine run_region ?_
    refine ops_ret (fn := 0) ((by first | exact x_load2 rfl ta54 ts54 rfl rfl rfl rfl | exact x_load_ep2 ta54 ts54 rfl rfl rfl)) rfl rfl ?_  -- [0] t8 := Op.load 54 (t1)
    refine ops_weak 8 (y := .agg (msgA (bareM M))) (Le.agg ⟨Le.refl _, Le.refl _, Le.refl _, Le.refl _, Le.refl _, Le.refl _, Le.refl _, Le.refl _, Le.refl _, Le.refl _, Le.refl _, Le.nil, Le.nil, trivial⟩) ?_; refine ops_pure hb0 ?_  -- [1] t9 := Op.call { callee := Callee.value (Operand.func 59), args := #[t8], argTypes := #[54] }
    refine ops_ret (fn := 0) (a_move rfl) rfl rfl ?_  -- [2] t7 := Op.move (t9)
    refine ops_ret (fn := 0) (a_extract rfl rfl) rfl rfl ?_  -- [3] t10 := Op.extract (t7) 0
    refine ops_ret (fn := 0) (a_extract rfl rfl) rfl rfl ?_  -- [4] t11 := Op.extract (t7) 1
    refine ops_ret (fn := 0) (a_assign rfl) rfl rfl ?_  -- [5] t3 := Op.assign (t10)
    refine ops_ret (fn := 0) (a_assign rfl) rfl rfl ?_  -- [6] t4 := Op.assign (t11)
    refine ops_nil ?_
    refine run_seq ?_
    refine run_region ?_
    refine ops_ret (fn := 0) (a_move rfl) rfl rfl ?_  -- [0] t12 := Op.move (t4)
    refine ops_ret (fn := 0) ((by first | exact a_nequ rfl (show (EV gl).P.underlying 30 = _ from Tryd.underlying30) rfl rfl | exact a_neqn (show (EV gl).P.underlying 30 = _ from Tryd.underlying30) rfl rfl rfl)) rfl rfl ?_  -- [1] t13 := Op.binOp BinOp.neq 30 (t12) (#nilIface) 30
    refine ops_nil ?_
    refine run_cond rfl (fun h => by cases h) (fun _ => ?_)
    refine run_skip ?_
    refine run_seq ?_
    refine run_region ?_
    refine ops_ret (fn := 0) (x_load_err ta30 ts30 rfl rfl) rfl rfl ?_  -- [0] t15 := Op.load 30 (Operand.global 12)
    refine ops_ret (fn := 0) (a_assign rfl) rfl rfl ?_  -- [1] t2 := Op.assign (t15)
    refine ops_nil ?_
    exact ret1 rfl ⟨Le.refl _, Ext.mx _ _⟩

theorem bytes_ok (M : Msg) (hM : MOk M) : Pure (EV gl) 59 [.agg (msgA M)] (.ret (exA (bytesL M))) :=
  bytes_gen hgl M hM fun _ => long_ok hgl M hM
end
end Go.Vm
