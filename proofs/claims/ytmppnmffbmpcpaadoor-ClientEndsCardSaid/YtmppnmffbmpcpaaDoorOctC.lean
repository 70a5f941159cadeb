/- Layer 2 (octets): the library's Grow and Concat at bytes; a field's bytes. -/
import Derived.Test.YtmppnmffbmpcpaaDoorOctB
set_option linter.unusedVariables false
set_option linter.unusedSimpArgs false
namespace Go.Vm
open Go.RowKit Go.Proofs
section
variable {gl : Nat → Option (List Value)}

theorem grow_ok (a : Int) (n : Nat) (ha : a = n) (hn : n ≤ maxBytes) (M : AM) : Spec (EV gl) 96 [.v (.slice none 0 0), .v (.int .i64 a)] M fun r M' => ∃ x, r = .ret x ∧ Acc M M' 5 1 [] x := by
  subst ha
  refine Spec.mx ?_
  refine spec_body (fn := Tryd.f96) (n := 27) (rs := [ResultVar.tmp 4]) (by decide) Tryd.func96 rfl rfl rfl rfl ?_
  refine run_seq ?_
  refine run_region ?_
  refine ops_ret (fn := 0) (a_assign rfl) rfl rfl ?_  -- [0] t4 := Op.assign (#(slice none 0 0))
  refine ops_nil ?_
  refine run_seq ?_
  refine run_seq ?_
  refine run_region ?_
  refine ops_ret (fn := 0) (a_move (y := .v (.int _ _)) rfl) rfl rfl ?_  -- [0] t5 := Op.move (t1)
  refine ops_ret (fn := 0) (a_lss rfl rfl) rfl rfl ?_  -- [1] t6 := Op.binOp BinOp.lss 3 (t5) (#(int i64 0)) 3
  refine ops_nil ?_
  refine run_cond rfl (fun hc => ?_) (fun _ => ?_)
  · have := of_decide_eq_true hc; omega
  refine run_skip ?_
  refine run_seq ?_
  refine run_seq ?_
  refine run_region ?_
  refine ops_ret (fn := 0) (a_move (y := .v (.int _ _)) rfl) rfl rfl ?_  -- [0] t8 := Op.move (t1)
  refine ops_ret (fn := 0) (a_move rfl) rfl rfl ?_  -- [1] t9 := Op.move (t0)
  refine ops_ret (fn := 0) (x_cap_nil (show (EV gl).P.underlying 24 = _ from Tryd.underlying24) rfl) rfl rfl ?_  -- [2] t10 := Op.call { callee := Callee.builtin Builtin.cap, args := #[t9], argTypes := #[24] }
  refine ops_ret (fn := 0) (a_move rfl) rfl rfl ?_  -- [3] t11 := Op.move (t0)
  refine ops_ret (fn := 0) (x_len_nil (show (EV gl).P.underlying 24 = _ from Tryd.underlying24) rfl) rfl rfl ?_  -- [4] t12 := Op.call { callee := Callee.builtin Builtin.len, args := #[t11], argTypes := #[24] }
  refine ops_ret (fn := 0) (a_sub rfl rfl (c := 0) (by decide)) rfl rfl ?_  -- [5] t13 := Op.binOp BinOp.sub 3 (t10) (t12) 3
  refine ops_ret (fn := 0) (a_sub rfl rfl (c := (n : Int)) (by rw [w64 (by unfold maxBytes at hn; omega)]; omega)) rfl rfl ?_  -- [6] t14 := Op.binOp BinOp.sub 3 (t8) (t13) 3
  refine ops_ret (fn := 0) (a_assign (y := .v (.int _ _)) rfl) rfl rfl ?_  -- [7] t1 := Op.assign (t14)
  refine ops_nil ?_
  refine run_seq ?_
  refine run_region ?_
  refine ops_ret (fn := 0) (a_move (y := .v (.int _ _)) rfl) rfl rfl ?_  -- [0] t15 := Op.move (t1)
  refine ops_ret (fn := 0) (a_gtr rfl rfl) rfl rfl ?_  -- [1] t16 := Op.binOp BinOp.gtr 3 (t15) (#(int i64 0)) 3
  refine ops_nil ?_
  refine run_cond rfl (fun hc => ?_) (fun hc => ?_)
  · have hpos := of_decide_eq_true hc
    refine run_region ?_
    refine ops_ret (fn := 0) (a_move rfl) rfl rfl ?_  -- [0] t17 := Op.move (t0)
    refine ops_ret (fn := 0) (a_move rfl) rfl rfl ?_  -- [1] t18 := Op.move (t0)
    refine ops_ret (fn := 0) (x_cap_nil (show (EV gl).P.underlying 24 = _ from Tryd.underlying24) rfl) rfl rfl ?_  -- [2] t19 := Op.call { callee := Callee.builtin Builtin.cap, args := #[t18], argTypes := #[24] }
    refine ops_ret (fn := 0) (x_slnil (show (EV gl).P.underlying 24 = _ from Tryd.underlying24) ts5 rfl rfl) rfl rfl ?_  -- [3] t20 := Op.slice 24 (t17) none (some (t19)) none
    refine ops_ret (fn := 0) (a_move (y := .v (.int _ _)) rfl) rfl rfl ?_  -- [4] t21 := Op.move (t1)
    refine ops_ret (fn := 0) (x_appz tsl24 (show (EV gl).P.underlying 3 = _ from Tryd.underlying3) rfl rfl hpos (by simpa using hn) (by unfold maxBytes at hn; unfold maxLen; omega)) rfl rfl ?_  -- [5] t22 := Op.call { callee := Callee.builtin Builtin.append, args := #[t20, t21], argTypes := #[24, 3] }
    refine ops_ret (fn := 0) (a_move rfl) rfl rfl ?_  -- [6] t23 := Op.move (t0)
    refine ops_ret (fn := 0) (x_len_nil (show (EV gl).P.underlying 24 = _ from Tryd.underlying24) rfl) rfl rfl ?_  -- [7] t24 := Op.call { callee := Callee.builtin Builtin.len, args := #[t23], argTypes := #[24] }
    refine ops_ret (fn := 0) (x_slref0 (show (EV gl).P.underlying 24 = _ from Tryd.underlying24) ts5 (by decide) rfl rfl) rfl rfl ?_  -- [8] t25 := Op.slice 24 (t22) none (some (t24)) none
    refine ops_ret (fn := 0) (a_assign rfl) rfl rfl ?_  -- [9] t0 := Op.assign (t25)
    refine ops_nil ?_
    refine run_seq ?_
    refine run_region ?_
    refine ops_ret (fn := 0) (a_move rfl) rfl rfl ?_  -- [0] t26 := Op.move (t0)
    refine ops_ret (fn := 0) (a_assign rfl) rfl rfl ?_  -- [1] t4 := Op.assign (t26)
    refine ops_nil ?_
    exact ret1 rfl ⟨_, rfl, by rw [← mx_nil]; exact (Ext.refl M).snoc _, .inr (.inr (.inr ⟨_, _, rfl, rfl, by rw [← mx_nil]; exact List.getElem?_concat_length, by rw [← mx_nil]; exact Nat.le_refl _⟩))⟩
  · refine run_skip ?_
    refine run_seq ?_
    refine run_region ?_
    refine ops_ret (fn := 0) (a_move rfl) rfl rfl ?_  -- [0] t26 := Op.move (t0)
    refine ops_ret (fn := 0) (a_assign rfl) rfl rfl ?_  -- [1] t4 := Op.assign (t26)
    refine ops_nil ?_
    exact ret1 rfl ⟨_, rfl, Acc.nil (Ext.mx M [])⟩

theorem bsl_at {ps : List (List UInt8)} {k : Nat} {p : List UInt8} (h : ps[k]? = some p) : ((ps.map bsl).drop (k * 1)).take 1 = [bsl p] :=
  one_at (by rw [List.getElem?_map, h]; rfl)
theorem flat_take_le (ps : List (List UInt8)) (k : Nat) : (ps.take k).flatten.length ≤ ps.flatten.length := by
  conv => rhs; rw [← List.take_append_drop k ps]
  rw [List.flatten_append, List.length_append]; omega
theorem flat_take_succ {ps : List (List UInt8)} {k : Nat} {p : List UInt8} (h : ps[k]? = some p) : (ps.take (k + 1)).flatten = (ps.take k).flatten ++ p := by
  rw [List.take_add_one, h, List.flatten_append]; simp

theorem concat_ok (ps : List (List UInt8)) (cap : Option Nat) (hps : ps.length ≤ 1000000) (hn : ps.flatten.length ≤ maxBytes) : Pure (EV gl) 70 [.sl (ps.map bsl) 1 ps.length cap none] (.ret (bsl ps.flatten)) := by
  have hb : ps.flatten.length ≤ 140737488355328 := hn
  refine Pure.mk (fun _ => Nf.bsl _) fun m => ?_
  refine spec_body (fn := Tryd.f70) (n := 36) (rs := [ResultVar.tmp 2]) (by decide) Tryd.func70 rfl rfl rfl rfl ?_
  refine run_seq ?_
  refine run_region ?_
  refine ops_ret (fn := 0) (a_assign rfl) rfl rfl ?_  -- [0] t2 := Op.assign (#(slice none 0 0))
  refine ops_nil ?_
  refine run_seq ?_
  refine run_region ?_
  refine ops_ret (fn := 0) (a_assign (y := .v (.int _ _)) rfl) rfl rfl ?_  -- [0] t3 := Op.assign (#(int i64 0))
  refine ops_nil ?_
  refine run_seq ?_
  refine run_seq ?_
  refine run_region ?_
  refine ops_ret (fn := 0) (a_move rfl) rfl rfl ?_  -- [0] t9 := Op.move (t0)
  refine ops_ret (fn := 0) ((by first | exact a_len_sl (show (EV gl).P.underlying 52 = _ from Tryd.underlying52) rfl | exact a_len_ref (show (EV gl).P.underlying 52 = _ from Tryd.underlying52) rfl)) rfl rfl ?_  -- [1] t10 := Op.call { callee := Callee.builtin Builtin.len, args := #[t9], argTypes := #[52] }
  refine ops_ret (fn := 0) (a_move (y := .v (.int _ _)) rfl) rfl rfl ?_  -- [2] t11 := Op.move (#(int i64 0))
  refine ops_nil ?_
  refine run_block ?_
  refine run_ind (α := Nat) (fun k φ M' => ∃ ψ, φ = updL ψ [(0, .sl (ps.map bsl) 1 ps.length cap none), (3, .v (.int .i64 ((ps.take k).flatten.length : Nat))), (9, .sl (ps.map bsl) 1 ps.length cap none), (10, .v (.int .i64 (ps.length : Nat))), (11, .v (.int .i64 (k : Nat)))] ∧ M' = mx m [] ∧ k ≤ ps.length) (fun k => ps.length - k) 0 ⟨_, updL_of _ ⟨rfl, rfl, rfl, rfl, rfl, trivial⟩, rfl, Nat.zero_le _⟩ ?_
  rintro k φ M' ⟨ψ, rfl, rfl, hk⟩ ih
  refine run_seq ?_
  refine run_region ?_
  refine ops_ret (fn := 0) (a_lss rfl rfl) rfl rfl ?_  -- [0] t12 := Op.binOp BinOp.lss 3 (t11) (t10) 3
  refine ops_nil ?_
  refine run_seq ?_
  refine run_cond rfl (fun hc => ?_) (fun hc => ?_)
  · have hlt : k < ps.length := by have := of_decide_eq_true hc; omega
    obtain ⟨p, hp⟩ : ∃ p, ps[k]? = some p := ⟨_, List.getElem?_eq_getElem hlt⟩
    have hle := flat_take_le ps (k + 1)
    rw [flat_take_succ hp, List.length_append] at hle
    refine run_skip ?_
    refine run_seq ?_
    refine run_block ?_
    refine run_seq ?_
    refine run_region ?_
    refine ops_ret (fn := 0) (x_idx_sl (show (EV gl).P.underlying 52 = _ from Tryd.underlying52) ts24 (by decide) rfl rfl rfl hlt (by simp) (bsl_at hp)) rfl rfl ?_  -- [0] t13 := Op.indexAddr 52 (t9) (t11)
    refine ops_ret (fn := 0) (x_load_ep1 ta24 ts24 rfl rfl) rfl rfl ?_  -- [1] t14 := Op.load 24 (t13)
    refine ops_ret (fn := 0) (a_assign rfl) rfl rfl ?_  -- [2] t5 := Op.assign (t14)
    refine ops_nil ?_
    refine run_seq ?_
    refine run_region ?_
    refine ops_ret (fn := 0) (a_move (y := .v (.int _ _)) rfl) rfl rfl ?_  -- [0] t15 := Op.move (t3)
    refine ops_ret (fn := 0) (a_move rfl) rfl rfl ?_  -- [1] t16 := Op.move (t5)
    refine ops_ret (fn := 0) ((by first | exact a_len_sl (show (EV gl).P.underlying 24 = _ from Tryd.underlying24) rfl | exact a_len_ref (show (EV gl).P.underlying 24 = _ from Tryd.underlying24) rfl)) rfl rfl ?_  -- [2] t17 := Op.call { callee := Callee.builtin Builtin.len, args := #[t16], argTypes := #[24] }
    refine ops_ret (fn := 0) (a_add rfl rfl (by first | exact w64 (by omega) | rfl)) rfl rfl ?_  -- [3] t18 := Op.binOp BinOp.add 3 (t15) (t17) 3
    refine ops_ret (fn := 0) (a_assign (y := .v (.int _ _)) rfl) rfl rfl ?_  -- [4] t3 := Op.assign (t18)
    refine ops_nil ?_
    refine run_seq ?_
    refine run_region ?_
    refine ops_ret (fn := 0) (a_move (y := .v (.int _ _)) rfl) rfl rfl ?_  -- [0] t19 := Op.move (t3)
    refine ops_ret (fn := 0) (a_lss rfl rfl) rfl rfl ?_  -- [1] t20 := Op.binOp BinOp.lss 3 (t19) (#(int i64 0)) 3
    refine ops_nil ?_
    refine run_cond rfl (fun hc2 => ?_) (fun _ => ?_)
    · have := of_decide_eq_true hc2; omega
    refine run_skip ?_
    refine run_inBlock ?_
    refine run_region ?_
    refine ops_ret (fn := 0) (a_add rfl rfl (by first | exact w64 (by omega) | rfl)) rfl rfl ?_  -- [0] t22 := Op.binOp BinOp.add 3 (t11) (#(int i64 1)) 3
    refine ops_ret (fn := 0) (a_move (y := .v (.int _ _)) rfl) rfl rfl ?_  -- [1] t11 := Op.move (t22)
    refine ops_nil ?_
    exact ih (k + 1) _ _ (by omega) ⟨_, updL_of _ ⟨rfl, int_eq (by rw [flat_take_succ hp, List.length_append]; omega), rfl, rfl, int_eq (by omega), trivial⟩, rfl, hlt⟩
  · have hge : k = ps.length := by have := of_decide_eq_false hc; omega
    subst hge
    rw [List.take_length]
    refine run_exit rfl ?_
    refine run_seq ?_
    refine run_region ?_
    refine ops_ret (fn := 0) (a_move (y := .v (.int _ _)) rfl) rfl rfl ?_  -- [0] t23 := Op.move (t3)
    refine ops_call (grow_ok _ ps.flatten.length rfl hn _) (fun x M1 hx => ?_) (fun x M1 ⟨y, hy, _⟩ => by cases hy)  -- [1] t24 := Op.call { callee := Callee.value (Operand.func 96), args := #[#(slice none 0 0), t23], argTypes := #
    refine ops_ret (fn := 0) (a_assign rfl) rfl rfl ?_  -- [2] t6 := Op.assign (t24)
    refine ops_nil ?_
    obtain ⟨y, hy, hacc⟩ := hx
    obtain rfl := CR.ret.inj hy
    rw [← mx_nil] at hacc
    refine run_seq ?_
    refine run_seq ?_
    refine run_region ?_
    refine ops_ret (fn := 0) (a_move rfl) rfl rfl ?_  -- [0] t25 := Op.move (t0)
    refine ops_ret (fn := 0) ((by first | exact a_len_sl (show (EV gl).P.underlying 52 = _ from Tryd.underlying52) rfl | exact a_len_ref (show (EV gl).P.underlying 52 = _ from Tryd.underlying52) rfl)) rfl rfl ?_  -- [1] t26 := Op.call { callee := Callee.builtin Builtin.len, args := #[t25], argTypes := #[52] }
    refine ops_ret (fn := 0) (a_move (y := .v (.int _ _)) rfl) rfl rfl ?_  -- [2] t27 := Op.move (#(int i64 0))
    refine ops_nil ?_
    refine run_block ?_
    refine run_ind (α := Nat) (fun k φ M' => ∃ ψ x, φ = updL ψ [(6, x), (25, .sl (ps.map bsl) 1 ps.length cap none), (26, .v (.int .i64 (ps.length : Nat))), (27, .v (.int .i64 (k : Nat)))] ∧ Acc m M' 5 1 (bytesA (ps.take k).flatten) x ∧ k ≤ ps.length) (fun k => ps.length - k) 0 ⟨_, _, updL_of _ ⟨rfl, rfl, rfl, rfl, trivial⟩, hacc, Nat.zero_le _⟩ ?_
    rintro k φ M' ⟨ψ, x, rfl, hacc, hk⟩ ih
    refine run_seq ?_
    refine run_region ?_
    refine ops_ret (fn := 0) (a_lss rfl rfl) rfl rfl ?_  -- [0] t28 := Op.binOp BinOp.lss 3 (t27) (t26) 3
    refine ops_nil ?_
    refine run_seq ?_
    refine run_cond rfl (fun hc => ?_) (fun hc => ?_)
    · have hlt : k < ps.length := by have := of_decide_eq_true hc; omega
      obtain ⟨p, hp⟩ : ∃ p, ps[k]? = some p := ⟨_, List.getElem?_eq_getElem hlt⟩
      have hle := flat_take_le ps (k + 1)
      rw [flat_take_succ hp, List.length_append] at hle
      refine run_skip ?_
      refine run_seq ?_
      refine run_block ?_
      refine run_seq ?_
      refine run_region ?_
      refine ops_ret (fn := 0) (x_idx_sl (show (EV gl).P.underlying 52 = _ from Tryd.underlying52) ts24 (by decide) rfl rfl rfl hlt (by simp) (bsl_at hp)) rfl rfl ?_  -- [0] t29 := Op.indexAddr 52 (t25) (t27)
      refine ops_ret (fn := 0) (x_load_ep1 ta24 ts24 rfl rfl) rfl rfl ?_  -- [1] t30 := Op.load 24 (t29)
      refine ops_ret (fn := 0) (a_assign rfl) rfl rfl ?_  -- [2] t8 := Op.assign (t30)
      refine ops_nil ?_
      refine run_region ?_
      refine ops_ret (fn := 0) (a_move rfl) rfl rfl ?_  -- [0] t31 := Op.move (t6)
      refine ops_ret (fn := 0) (a_move rfl) rfl rfl ?_  -- [1] t32 := Op.move (t8)
      refine ops_append 0 p.length (ps.take k).flatten.length rfl tsl24 (show (EV gl).P.underlying 24 = _ from Tryd.underlying24) rfl rfl hacc (source_bsl p) rfl (by simp [bytesA]) (bytesA_one p) (by simp only [bytesA, List.length_map]; omega) (by unfold maxBytes; omega) (by unfold maxLen; omega) fun x' M'' hacc' _ => ?_  -- [2] t33 := Op.call { callee := Callee.builtin Builtin.append, args := #[t31, t32], argTypes := #[24, 24] }
      refine ops_ret (fn := 0) (a_assign rfl) rfl rfl ?_  -- [3] t6 := Op.assign (t33)
      refine ops_nil ?_
      refine run_inBlock ?_
      refine run_region ?_
      refine ops_ret (fn := 0) (a_add rfl rfl (by first | exact w64 (by omega) | rfl)) rfl rfl ?_  -- [0] t34 := Op.binOp BinOp.add 3 (t27) (#(int i64 1)) 3
      refine ops_ret (fn := 0) (a_move (y := .v (.int _ _)) rfl) rfl rfl ?_  -- [1] t27 := Op.move (t34)
      refine ops_nil ?_
      exact ih (k + 1) _ _ (by omega) ⟨_, _, updL_of _ ⟨rfl, rfl, rfl, int_eq (by omega), trivial⟩, by rw [flat_take_succ hp, bytesA_append]; exact hacc', hlt⟩
    · have hge : k = ps.length := by have := of_decide_eq_false hc; omega
      subst hge
      rw [List.take_length] at hacc
      refine run_exit rfl ?_
      refine run_seq ?_
      refine run_region ?_
      refine ops_ret (fn := 0) (a_move rfl) rfl rfl ?_  -- [0] t35 := Op.move (t6)
      refine ops_ret (fn := 0) (a_assign rfl) rfl rfl ?_  -- [1] t2 := Op.assign (t35)
      refine ops_nil ?_
      exact ret1 rfl ⟨hacc.le (by decide) (by simp only [bytesA, List.length_map, Nat.mul_one]), hacc.1⟩
end
end Go.Vm
