/- Layer 16 (message): contracts: a message's check. -/
import Derived.Test.YtmppnmffbmpcpaaDoorOctD
set_option linter.unusedVariables false
set_option linter.unusedSimpArgs false
namespace Go.Vm
open Go.RowKit Go.Proofs

abbrev wordsB : List (List UInt8) := [[], [97, 115, 107], [112, 97, 115, 115], [97, 110, 115, 119, 101, 114], [112, 117, 108, 108], [112, 117, 108, 108, 101, 100], [112, 117, 116], [100, 111, 110, 101], [116, 117, 114, 110], [100, 101, 99, 105, 100, 101], [100, 101, 99, 105, 100, 101, 100]]
def wordsV : List Value := wordsB.map fun w => .string (bstr w)
def nameL (k : Int) : List UInt8 := if k < 1 ∨ 10 < k then [] else (wordsB[k.toNat]?).getD []
theorem nameL_nil (k : Int) : nameL k = [] ↔ (k < 1 ∨ 10 < k) := by
  unfold nameL
  split
  · rename_i h; simp [h]
  · rename_i h
    have : k = 1 ∨ k = 2 ∨ k = 3 ∨ k = 4 ∨ k = 5 ∨ k = 6 ∨ k = 7 ∨ k = 8 ∨ k = 9 ∨ k = 10 := by omega
    rcases this with rfl | rfl | rfl | rfl | rfl | rfl | rfl | rfl | rfl | rfl <;> simp [wordsB]

/-- A message. -/
structure Msg where
  kind : Int
  client : Int
  number : Int
  op : Int
  repo : List UInt8
  epoch : Int
  seq : Int
  count : Int
  tick : Int
  shard : Int
  answer : Int
  body : List UInt8
  list : List (List UInt8)
abbrev lsl (l : List (List UInt8)) : AV := .sl (l.map bsl) 1 l.length none none
abbrev msgA (M : Msg) : List AV := [.v (.int .i64 M.kind), .v (.int .i64 M.client), .v (.int .i64 M.number), .v (.int .i64 M.op), .v (.string (bstr M.repo)), .v (.int .i64 M.epoch), .v (.int .i64 M.seq), .v (.int .i64 M.count), .v (.int .i64 M.tick), .v (.int .i64 M.shard), .v (.int .i64 M.answer), bsl M.body, lsl M.list]
def I64 (n : Int) : Prop := -9223372036854775808 ≤ n ∧ n ≤ 9223372036854775807
/-- What a machine can hold, and no more than any law asks. -/
structure MOk (M : Msg) : Prop where
  kind : I64 M.kind
  client : I64 M.client
  number : I64 M.number
  op : I64 M.op
  epoch : I64 M.epoch
  seq : I64 M.seq
  count : I64 M.count
  tick : I64 M.tick
  shard : I64 M.shard
  answer : I64 M.answer
  repo : M.repo.length ≤ 1000000
  body : M.body.length ≤ 1000000
  list : M.list.length ≤ 1000
  elts : ∀ b ∈ M.list, b.length ≤ 1000000

theorem Nf.lsl {n : Nat} (l : List (List UInt8)) : Nf n (lsl l) := Nf.sl (by
  intro x hx
  obtain ⟨b, _, rfl⟩ := List.mem_map.1 hx
  exact Nf.bsl b)
theorem Nf.msg {n : Nat} (M : Msg) : ∀ x ∈ msgA M, Nf n x := by
  intro x hx
  simp only [msgA, List.mem_cons, List.mem_nil_iff, or_false] at hx
  rcases hx with rfl | rfl | rfl | rfl | rfl | rfl | rfl | rfl | rfl | rfl | rfl | rfl | rfl <;> first | exact Nf.v | exact Nf.bsl _ | exact Nf.lsl _

/-- An error of the package's, or none. -/
def errA : Option Nat → AV
  | none => .v .nilIface
  | some e => .u e
theorem Nf.errA {n : Nat} (e : Option Nat) : Nf n (errA e) := by cases e; exact Nf.v; exact Nf.u

section
variable {gl : Nat → Option (List Value)} (hgl : gl 25 = some wordsV)
include hgl

theorem name_ok (k : Int) (hk : I64 k) : Pure (EV gl) 113 [.v (.int .i64 k)] (.ret (.v (.string (bstr (nameL k))))) := by
  refine Pure.mk (fun _ => Nf.v) fun m => ?_
  refine spec_body (fn := Tryd.f113) (n := 12) (rs := [ResultVar.tmp 2]) (by decide) Tryd.func113 rfl rfl rfl rfl ?_
  refine run_seq ?_
  refine run_region ?_
  refine ops_ret (fn := 0) (a_assign (y := .v (.string (bstr _))) rfl) rfl rfl ?_  -- [0] t2 := Op.assign (#(string { data := #[] }))
  refine ops_nil ?_
  refine run_seq ?_
  refine run_seq ?_
  by_cases h1 : k < 1
  · refine run_region ?_
    refine ops_ret (fn := 0) (a_move (y := .v (.int _ _)) rfl) rfl rfl ?_  -- [0] t3 := Op.move (t0)
    refine ops_ret (fn := 0) (a_lss rfl rfl) rfl rfl ?_  -- [1] t4 := Op.binOp BinOp.lss 3 (t3) (#(int i64 1)) 3
    refine ops_ret (fn := 0) (a_move (y := .v (.bool _)) rfl) rfl rfl ?_  -- [2] t5 := Op.move (t4)
    refine ops_not rfl rfl rfl (decide_eq_true h1) ?_  -- [3] t6 := Op.move (t0)
    refine ops_not rfl rfl rfl (decide_eq_true h1) ?_  -- [4] t7 := Op.binOp BinOp.gtr 3 (t6) (#(int i64 10)) 3
    refine ops_ret (fn := 0) (a_pick_t rfl (decide_eq_true h1) rfl) rfl rfl ?_  -- [5] t8 := Op.pick (t5) (#(bool true)) (t7)
    refine ops_nil ?_
    refine run_cond rfl (fun _ => ?_) (fun h => by cases h)
    refine run_seq ?_
    refine run_region ?_
    refine ops_ret (fn := 0) (a_assign (y := .v (.string (bstr _))) rfl) rfl rfl ?_  -- [0] t2 := Op.assign (#(string { data := #[] }))
    refine ops_nil ?_
    exact ret1 rfl ⟨by rw [(nameL_nil k).2 (.inl h1)]; exact Le.refl _, Ext.mx _ _⟩
  · refine run_region ?_
    refine ops_ret (fn := 0) (a_move (y := .v (.int _ _)) rfl) rfl rfl ?_  -- [0] t3 := Op.move (t0)
    refine ops_ret (fn := 0) (a_lss rfl rfl) rfl rfl ?_  -- [1] t4 := Op.binOp BinOp.lss 3 (t3) (#(int i64 1)) 3
    refine ops_ret (fn := 0) (a_move (y := .v (.bool _)) rfl) rfl rfl ?_  -- [2] t5 := Op.move (t4)
    refine ops_yes (fn := 0) rfl rfl rfl (decide_eq_false h1) (a_move (y := .v (.int _ _)) rfl) rfl ?_  -- [3] t6 := Op.move (t0)
    refine ops_yes (fn := 0) rfl rfl rfl (decide_eq_false h1) (a_gtr rfl rfl) rfl ?_  -- [4] t7 := Op.binOp BinOp.gtr 3 (t6) (#(int i64 10)) 3
    refine ops_ret (fn := 0) (a_pick_f rfl (decide_eq_false h1) rfl) rfl rfl ?_  -- [5] t8 := Op.pick (t5) (#(bool true)) (t7)
    refine ops_nil ?_
    refine run_cond rfl (fun h => ?_) (fun h => ?_)
    · have h2 : 10 < k := of_decide_eq_true h
      refine run_seq ?_
      refine run_region ?_
      refine ops_ret (fn := 0) (a_assign (y := .v (.string (bstr _))) rfl) rfl rfl ?_  -- [0] t2 := Op.assign (#(string { data := #[] }))
      refine ops_nil ?_
      exact ret1 rfl ⟨by rw [(nameL_nil k).2 (.inr h2)]; exact Le.refl _, Ext.mx _ _⟩
    · have h2 : ¬ 10 < k := of_decide_eq_false h
      obtain ⟨w, hw⟩ : ∃ w, wordsB[k.toNat]? = some w := ⟨_, List.getElem?_eq_getElem (by simp [wordsB]; omega)⟩
      have hn : nameL k = w := by unfold nameL; rw [if_neg (by omega), hw]; rfl
      refine run_skip ?_
      refine run_seq ?_
      refine run_region ?_
      refine ops_ret (fn := 0) (a_move (y := .v (.int _ _)) rfl) rfl rfl ?_  -- [0] t9 := Op.move (t0)
      refine ops_ret (fn := 0) (x_idx_glob (k := k.toNat) (show (EV gl).P.underlying 203 = _ from Tryd.underlying203) ts9 rfl rfl (by omega) (by omega) rfl) rfl rfl ?_  -- [1] t10 := Op.indexAddr 203 (Operand.global 25) (t9)
      refine ops_ret (fn := 0) (x_load_glob ta9 ts9 rfl rfl hgl (v := .string (bstr w)) (by simp only [wordsV, Nat.zero_add, Nat.mul_one, List.getElem?_map, hw, Option.map_some])) rfl rfl ?_  -- [2] t11 := Op.load 9 (t10)
      refine ops_ret (fn := 0) (a_assign (y := .v (.string (bstr _))) rfl) rfl rfl ?_  -- [3] t2 := Op.assign (t11)
      refine ops_nil ?_
      exact ret1 rfl ⟨by rw [hn]; exact Le.refl _, Ext.mx _ _⟩

/-- What is wrong with a message. -/
def chkL (M : Msg) : Option Nat :=
  if M.kind < 1 ∨ 10 < M.kind then some 0
  else if 255 < M.repo.length ∨ 64 < M.list.length then some 1 else none

theorem check_ok (M : Msg) (hM : MOk M) : Pure (EV gl) 82 [.agg (msgA M)] (.ret (errA (chkL M))) := by
  have hnm : decide (nameL M.kind = []) = decide (M.kind < 1 ∨ 10 < M.kind) := decide_eq_decide.2 (nameL_nil M.kind)
  refine Pure.mk (fun _ => Nf.errA _) fun m => ?_
  refine spec_body (fn := Tryd.f82) (n := 21) (rs := [ResultVar.tmp 2]) (by decide) Tryd.func82 rfl rfl rfl rfl ?_
  refine run_seq ?_
  refine run_region ?_
  refine ops_ret (fn := 0) (x_box rfl rfl rfl) rfl rfl ?_  -- [0] t1 := Op.box 54 (t0)
  refine ops_ret (fn := 0) (a_assign rfl) rfl rfl ?_  -- [1] t2 := Op.assign (#nilIface)
  refine ops_nil ?_
  refine run_seq ?_
  refine run_block ?_
  refine run_seq ?_
  refine run_region ?_
  refine ops_ret (fn := 0) (x_fld tst54 rfl rfl rfl) rfl rfl ?_  -- [0] t4 := Op.fieldAddr 54 (t1) 0
  refine ops_ret (fn := 0) (x_load1 rfl ta3 ts3 rfl rfl rfl) rfl rfl ?_  -- [1] t5 := Op.load 3 (t4)
  refine ops_pure (name_ok hgl _ hM.kind) ?_  -- [2] t6 := Op.call { callee := Callee.value (Operand.func 113), args := #[t5], argTypes := #[3] }
  refine ops_ret (fn := 0) (a_eqs rfl rfl) rfl rfl ?_  -- [3] t7 := Op.binOp BinOp.eql 9 (t6) (#(string { data := #[] })) 9
  refine ops_ret (fn := 0) (a_assign (y := .v (.bool _)) rfl) rfl rfl ?_  -- [4] t3 := Op.assign (t7)
  refine ops_nil ?_
  refine run_cond rfl (fun h => ?_) (fun h => ?_)
  · have h1 : M.kind < 1 ∨ 10 < M.kind := by rw [hnm] at h; exact of_decide_eq_true h
    refine run_seq ?_
    refine run_region ?_
    refine ops_ret (fn := 0) (x_load_err ta30 ts30 rfl rfl) rfl rfl ?_  -- [0] t8 := Op.load 30 (Operand.global 0)
    refine ops_ret (fn := 0) (a_assign rfl) rfl rfl ?_  -- [1] t2 := Op.assign (t8)
    refine ops_nil ?_
    exact ret1 rfl ⟨by simp only [chkL, if_pos h1]; exact Le.refl _, Ext.mx _ _⟩
  have h1 : ¬ (M.kind < 1 ∨ 10 < M.kind) := by rw [hnm] at h; exact of_decide_eq_false h
  refine run_seq ?_
  by_cases h2 : 255 < M.repo.length
  · refine run_region ?_
    refine ops_ret (fn := 0) (x_fld tst54 rfl rfl rfl) rfl rfl ?_  -- [0] t10 := Op.fieldAddr 54 (t1) 4
    refine ops_ret (fn := 0) (x_load1 rfl ta9 ts9 rfl rfl rfl) rfl rfl ?_  -- [1] t11 := Op.load 9 (t10)
    refine ops_ret (fn := 0) (x_len_str (show (EV gl).P.underlying 9 = _ from Tryd.underlying9) rfl) rfl rfl ?_  -- [2] t12 := Op.call { callee := Callee.builtin Builtin.len, args := #[t11], argTypes := #[9] }
    refine ops_ret (fn := 0) (a_gtr rfl rfl) rfl rfl ?_  -- [3] t13 := Op.binOp BinOp.gtr 3 (t12) (#(int i64 255)) 3
    refine ops_ret (fn := 0) (a_move (y := .v (.bool _)) rfl) rfl rfl ?_  -- [4] t14 := Op.move (t13)
    refine ops_not rfl rfl rfl (decide_eq_true (by omega)) ?_  -- [5] t15 := Op.fieldAddr 54 (t1) 12
    refine ops_not rfl rfl rfl (decide_eq_true (by omega)) ?_  -- [6] t16 := Op.load 52 (t15)
    refine ops_not rfl rfl rfl (decide_eq_true (by omega)) ?_  -- [7] t17 := Op.call { callee := Callee.builtin Builtin.len, args := #[t16], argTypes := #[52] }
    refine ops_not rfl rfl rfl (decide_eq_true (by omega)) ?_  -- [8] t18 := Op.binOp BinOp.gtr 3 (t17) (#(int i64 64)) 3
    refine ops_ret (fn := 0) (a_pick_t rfl (decide_eq_true (by omega)) rfl) rfl rfl ?_  -- [9] t19 := Op.pick (t14) (#(bool true)) (t18)
    refine ops_ret (fn := 0) (a_assign (y := .v (.bool _)) rfl) rfl rfl ?_  -- [10] t9 := Op.assign (t19)
    refine ops_nil ?_
    refine run_cond rfl (fun _ => ?_) (fun h => by cases h)
    refine run_seq ?_
    refine run_region ?_
    refine ops_ret (fn := 0) (x_load_err ta30 ts30 rfl rfl) rfl rfl ?_  -- [0] t20 := Op.load 30 (Operand.global 1)
    refine ops_ret (fn := 0) (a_assign rfl) rfl rfl ?_  -- [1] t2 := Op.assign (t20)
    refine ops_nil ?_
    exact ret1 rfl ⟨by simp only [chkL, if_neg h1, if_pos (show 255 < M.repo.length ∨ 64 < M.list.length from .inl h2)]; exact Le.refl _, Ext.mx _ _⟩
  · refine run_region ?_
    refine ops_ret (fn := 0) (x_fld tst54 rfl rfl rfl) rfl rfl ?_  -- [0] t10 := Op.fieldAddr 54 (t1) 4
    refine ops_ret (fn := 0) (x_load1 rfl ta9 ts9 rfl rfl rfl) rfl rfl ?_  -- [1] t11 := Op.load 9 (t10)
    refine ops_ret (fn := 0) (x_len_str (show (EV gl).P.underlying 9 = _ from Tryd.underlying9) rfl) rfl rfl ?_  -- [2] t12 := Op.call { callee := Callee.builtin Builtin.len, args := #[t11], argTypes := #[9] }
    refine ops_ret (fn := 0) (a_gtr rfl rfl) rfl rfl ?_  -- [3] t13 := Op.binOp BinOp.gtr 3 (t12) (#(int i64 255)) 3
    refine ops_ret (fn := 0) (a_move (y := .v (.bool _)) rfl) rfl rfl ?_  -- [4] t14 := Op.move (t13)
    refine ops_yes (fn := 0) rfl rfl rfl (decide_eq_false (by omega)) (x_fld tst54 rfl rfl rfl) rfl ?_  -- [5] t15 := Op.fieldAddr 54 (t1) 12
    refine ops_yes (fn := 0) rfl rfl rfl (decide_eq_false (by omega)) (x_load1 rfl ta52 ts52 rfl rfl rfl) rfl ?_  -- [6] t16 := Op.load 52 (t15)
    refine ops_yes (fn := 0) rfl rfl rfl (decide_eq_false (by omega)) ((by first | exact a_len_sl (show (EV gl).P.underlying 52 = _ from Tryd.underlying52) rfl | exact a_len_ref (show (EV gl).P.underlying 52 = _ from Tryd.underlying52) rfl)) rfl ?_  -- [7] t17 := Op.call { callee := Callee.builtin Builtin.len, args := #[t16], argTypes := #[52] }
    refine ops_yes (fn := 0) rfl rfl rfl (decide_eq_false (by omega)) (a_gtr rfl rfl) rfl ?_  -- [8] t18 := Op.binOp BinOp.gtr 3 (t17) (#(int i64 64)) 3
    refine ops_ret (fn := 0) (a_pick_f rfl (decide_eq_false (by omega)) rfl) rfl rfl ?_  -- [9] t19 := Op.pick (t14) (#(bool true)) (t18)
    refine ops_ret (fn := 0) (a_assign (y := .v (.bool _)) rfl) rfl rfl ?_  -- [10] t9 := Op.assign (t19)
    refine ops_nil ?_
    refine run_cond rfl (fun h => ?_) (fun h => ?_)
    · have h3 : 64 < M.list.length := by have := of_decide_eq_true h; omega
      refine run_seq ?_
      refine run_region ?_
      refine ops_ret (fn := 0) (x_load_err ta30 ts30 rfl rfl) rfl rfl ?_  -- [0] t20 := Op.load 30 (Operand.global 1)
      refine ops_ret (fn := 0) (a_assign rfl) rfl rfl ?_  -- [1] t2 := Op.assign (t20)
      refine ops_nil ?_
      exact ret1 rfl ⟨by simp only [chkL, if_neg h1, if_pos (show 255 < M.repo.length ∨ 64 < M.list.length from .inr h3)]; exact Le.refl _, Ext.mx _ _⟩
    · have h3 : ¬ 64 < M.list.length := by have := of_decide_eq_false h; omega
      refine run_skip ?_
      refine run_inBlock ?_
      refine run_seq ?_
      refine run_region ?_
      refine ops_ret (fn := 0) (a_assign rfl) rfl rfl ?_  -- [0] t2 := Op.assign (#nilIface)
      refine ops_nil ?_
      exact ret1 rfl ⟨by simp only [chkL, if_neg h1, if_neg (show ¬ (255 < M.repo.length ∨ 64 < M.list.length) by omega)]; exact Le.refl _, Ext.mx _ _⟩
end
end Go.Vm
