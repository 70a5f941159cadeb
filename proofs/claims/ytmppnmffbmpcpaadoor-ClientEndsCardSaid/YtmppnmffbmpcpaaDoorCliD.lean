/- Layer 21: contracts for a client's steps: Start, Hear, Tick. -/
import Derived.Test.YtmppnmffbmpcpaaDoorCliC
set_option linter.unusedVariables false
set_option linter.unusedSimpArgs false
namespace Go.Vm
open Go.RowKit Go.Proofs

theorem Spec.weak {E : Env} {f : FuncId} {args args' : List AV} {m : AM} {S : CR → AM → Prop} (h : Spec E f args m S) (hl : LeL2 args' args) : Spec E f args' m S :=
  ⟨h.1, fun w0 g w vs hi ha => h.2 w0 g w vs hi (hl.rep ha)⟩
theorem Pure.weak {E : Env} {f : FuncId} {args args' : List AV} {r : CR} (h : Pure E f args r) (hl : LeL2 args' args) : Pure E f args' r := fun m => (h m).weak hl
/-- A message of zeros. -/
theorem Le.zM : Le (.agg [.v (.int .i64 0), .v (.int .i64 0), .v (.int .i64 0), .v (.int .i64 0), .v (.string (bstr [])), .v (.int .i64 0), .v (.int .i64 0), .v (.int .i64 0), .v (.int .i64 0), .v (.int .i64 0), .v (.int .i64 0), .v (.slice none 0 0), .v (.slice none 0 0)]) (.agg (msgA zM)) :=
  Le.agg ⟨Le.refl _, Le.refl _, Le.refl _, Le.refl _, Le.refl _, Le.refl _, Le.refl _, Le.refl _, Le.refl _, Le.refl _, Le.refl _, Le.nil, Le.nil, trivial⟩

theorem writeL_err {s : List UInt8} {fs : List Fld} {e : Nat} (h : writeL s fs = .error e) : coreE e = true := by
  unfold writeL at h
  split at h
  · obtain rfl := Except.error.inj h; decide
  · split at h
    · obtain rfl := Except.error.inj h; decide
    · split at h
      · obtain rfl := Except.error.inj h; decide
      · cases h
theorem coreL_err {M : Msg} {e : Nat} (h : coreL M = .error e) : coreE e = true := by
  unfold coreL at h
  split at h
  · rename_i h1; obtain rfl := Except.error.inj h; exact writeL_err h1
  · split at h
    · obtain rfl := Except.error.inj h; decide
    · cases h
theorem chkL_err {M : Msg} {e : Nat} (h : chkL M = some e) : coreE e = true := by
  unfold chkL at h
  split at h
  · obtain rfl := Option.some.inj h; decide
  · split at h
    · obtain rfl := Option.some.inj h; decide
    · cases h
theorem bytesL_err {M : Msg} {e : Nat} (h : bytesL M = .error e) : coreE e = true := by
  unfold bytesL at h
  split at h
  · rename_i h1; obtain rfl := Except.error.inj h; exact chkL_err h1
  · split at h
    · obtain rfl := Except.error.inj h
      unfold longL
      split
      · rename_i h1; exact chkL_err h1
      · split
        · rename_i h1; exact coreL_err h1
        · decide
    · exact coreL_err h

def reqL (c : Cli) (shard : Int) (repo body : List UInt8) : Msg := ⟨1, c.id, c.number + 1, shard, repo, 0, 0, 0, 0, 0, 0, body, []⟩
def askL (c : Cli) (shard : Int) (repo body : List UInt8) : Cli := { c with number := c.number + 1, request := reqL c shard repo body, done := 0, waits := true }
/-- Is it too large? -/
def largeL (r : Except Nat (List UInt8)) : Bool := match r with
  | .error e => decide (e = 12)
  | .ok _ => false
def errOf (r : Except Nat (List UInt8)) : Option Nat := match r with
  | .error e => some e
  | .ok _ => none
def startL (c : Cli) (shard : Int) (repo body : List UInt8) (tick : Int) : Cli × List Msg :=
  if largeL (bytesL (reqL c shard repo body)) = true then (overL (askL c shard repo body) 6 zM, []) else (tryL (askL c shard repo body) tick, [reqL c shard repo body])

theorem reqL_ok {c : Cli} {shard : Int} {repo body : List UInt8} (h0 : 0 ≤ c.id ∧ c.id < 8) (hnum : 0 ≤ c.number ∧ c.number < 1099511627776) (hs : 1 ≤ shard ∧ shard ≤ 255) (hr : repo.length ≤ 255) (hb : body.length ≤ 1000000) : MOk (reqL c shard repo body) := by
  have z : I64 0 := by unfold I64; omega
  refine ⟨?_, ?_, ?_, ?_, z, z, z, z, z, z, ?_, hb, Nat.zero_le _, fun b hb => (by cases hb)⟩ <;> simp only [reqL, I64] <;> omega

/-- What an error, or none, says behind bytes. -/
theorem exA_two (r : Except Nat (List UInt8)) : ∃ l, exA r = .tup [bsl l, errA (errOf r)] := by
  cases r with
  | ok l => exact ⟨l, rfl⟩
  | error e => exact ⟨[], rfl⟩
theorem large_eq (r : Except Nat (List UInt8)) : decide (errOf r = some 12) = largeL r := by
  cases r with
  | ok l => simp [errOf, largeL]
  | error e => simp [errOf, largeL]

section
variable {gl : Nat → Option (List Value)} (hgl : gl 25 = some wordsV)
include hgl

set_option maxHeartbeats 2000000 in
theorem start_ok (c : Cli) (shard : Int) (repo body : List UInt8) (tick : Int) (hw : c.waits = false) (h0 : 0 ≤ c.id ∧ c.id < 8) (hnum : 0 ≤ c.number ∧ c.number < 1099511627776) (hs : 1 ≤ shard ∧ shard ≤ 255) (hr : repo.length ≤ 255) (hb : body.length ≤ 1000000) (ht : 0 ≤ tick ∧ tick ≤ 1099511627776) :
    Pure (EV gl) 29 [.agg (cliA c), .v (.int .i64 shard), .v (.string (bstr repo)), bsl body, .v (.int .i64 tick)] (.ret (.tup [.agg (cliA (startL c shard repo body tick).1), msl (startL c shard repo body tick).2, .v .nilIface])) := by
  have hby := bytes_ok hgl (reqL c shard repo body) (reqL_ok h0 hnum hs hr hb)
  refine Pure.mk (fun _ => Nf.tup3 (Nf.cliA _) (Nf.msl _) Nf.v) fun m => ?_
  refine spec_body (fn := Tryd.f29) (n := 83) (rs := [ResultVar.cell 10 56, ResultVar.tmp 11, ResultVar.tmp 12]) (by decide) Tryd.func29 rfl rfl rfl rfl ?_
  refine run_seq ?_
  refine run_region ?_
  refine ops_ret (fn := 0) (x_box rfl rfl rfl) rfl rfl ?_  -- [0] t5 := Op.box 56 (t0)
  refine ops_ret (fn := 0) (x_alloc rfl tz56 rfl) rfl rfl ?_  -- [1] t10 := Op.alloc 56
  refine ops_ret (fn := 0) (a_assign rfl) rfl rfl ?_  -- [2] t11 := Op.assign (#(slice none 0 0))
  refine ops_ret (fn := 0) (a_assign rfl) rfl rfl ?_  -- [3] t12 := Op.assign (#nilIface)
  refine ops_nil ?_
  refine run_seq ?_
  refine run_block ?_
  refine run_seq ?_
  refine run_region ?_
  refine ops_ret (fn := 0) (x_fld tst56 rfl rfl rfl) rfl rfl ?_  -- [0] t18 := Op.fieldAddr 56 (t5) 2
  refine ops_ret (fn := 0) (x_load1 rfl ta4 ts4 rfl rfl rfl) rfl rfl ?_  -- [1] t19 := Op.load 4 (t18)
  refine ops_ret (fn := 0) (a_assign (y := .v (.bool _)) rfl) rfl rfl ?_  -- [2] t17 := Op.assign (t19)
  refine ops_nil ?_
  refine run_cond rfl (fun h => by rw [hw] at h; cases h) (fun _ => ?_)
  refine run_seq ?_
  refine run_region ?_
  refine ops_ret (fn := 0) (a_move (y := .v (.int _ _)) rfl) rfl rfl ?_  -- [0] t23 := Op.move (t1)
  refine ops_ret (fn := 0) (a_lss rfl rfl) rfl rfl ?_  -- [1] t24 := Op.binOp BinOp.lss 3 (t23) (#(int i64 1)) 3
  refine ops_ret (fn := 0) (a_move (y := .v (.bool _)) rfl) rfl rfl ?_  -- [2] t25 := Op.move (t24)
  refine ops_yes (fn := 0) rfl rfl rfl (decide_eq_false (by omega)) (a_move (y := .v (.int _ _)) rfl) rfl ?_  -- [3] t26 := Op.move (t1)
  refine ops_yes (fn := 0) rfl rfl rfl (decide_eq_false (by omega)) (a_gtr rfl rfl) rfl ?_  -- [4] t27 := Op.binOp BinOp.gtr 3 (t26) (#(int i64 255)) 3
  refine ops_ret (fn := 0) (a_pick_f rfl (decide_eq_false (by omega)) rfl) rfl rfl ?_  -- [5] t28 := Op.pick (t25) (#(bool true)) (t27)
  refine ops_ret (fn := 0) (a_move (y := .v (.bool _)) rfl) rfl rfl ?_  -- [6] t29 := Op.move (t28)
  refine ops_yes (fn := 0) rfl rfl rfl (decide_eq_false (by omega)) (a_move (y := .v (.string (bstr _))) rfl) rfl ?_  -- [7] t30 := Op.move (t2)
  refine ops_yes (fn := 0) rfl rfl rfl (decide_eq_false (by omega)) (x_len_str (show (EV gl).P.underlying 9 = _ from Tryd.underlying9) rfl) rfl ?_  -- [8] t31 := Op.call { callee := Callee.builtin Builtin.len, args := #[t30], argTypes := #[9] }
  refine ops_yes (fn := 0) rfl rfl rfl (decide_eq_false (by omega)) (a_gtr rfl rfl) rfl ?_  -- [9] t32 := Op.binOp BinOp.gtr 3 (t31) (#(int i64 255)) 3
  refine ops_ret (fn := 0) (a_pick_f rfl (decide_eq_false (by omega)) rfl) rfl rfl ?_  -- [10] t33 := Op.pick (t29) (#(bool true)) (t32)
  refine ops_ret (fn := 0) (a_move (y := .v (.bool _)) rfl) rfl rfl ?_  -- [11] t34 := Op.move (t33)
  refine ops_yes (fn := 0) rfl rfl rfl (decide_eq_false (by omega)) (a_move (y := .v (.int _ _)) rfl) rfl ?_  -- [12] t35 := Op.move (t4)
  refine ops_pure_yes rfl rfl (decide_eq_false (by omega)) (ticked_ok _) ?_  -- [13] t36 := Op.call { callee := Callee.value (Operand.func 57), args := #[t35], argTypes := #[3] }
  refine ops_yes (fn := 0) rfl rfl rfl (decide_eq_false (by omega)) (a_not rfl) rfl ?_  -- [14] t37 := Op.unOp UnOp.not 4 (t36)
  refine ops_ret (fn := 0) (a_pick_f rfl (decide_eq_false (by omega)) rfl) rfl rfl ?_  -- [15] t38 := Op.pick (t34) (#(bool true)) (t37)
  refine ops_ret (fn := 0) (a_move (y := .v (.bool _)) rfl) rfl rfl ?_  -- [16] t39 := Op.move (t38)
  refine ops_yes (fn := 0) rfl rfl rfl (by rw [decide_eq_true ht]; rfl) (x_fld tst56 rfl rfl rfl) rfl ?_  -- [17] t40 := Op.fieldAddr 56 (t5) 1
  refine ops_yes (fn := 0) rfl rfl rfl (by rw [decide_eq_true ht]; rfl) (x_load1 rfl ta3 ts3 rfl rfl rfl) rfl ?_  -- [18] t41 := Op.load 3 (t40)
  refine ops_yes (fn := 0) rfl rfl rfl (by rw [decide_eq_true ht]; rfl) (a_geq rfl rfl) rfl ?_  -- [19] t42 := Op.binOp BinOp.geq 3 (t41) (#(int i64 1099511627776)) 3
  refine ops_ret (fn := 0) (a_pick_f rfl (by rw [decide_eq_true ht]; rfl) rfl) rfl rfl ?_  -- [20] t43 := Op.pick (t39) (#(bool true)) (t42)
  refine ops_ret (fn := 0) (a_assign (y := .v (.bool _)) rfl) rfl rfl ?_  -- [21] t22 := Op.assign (t43)
  refine ops_nil ?_
  refine run_cond rfl (fun h => ?_) (fun h => ?_)
  · have := of_decide_eq_true h; omega
  refine run_skip ?_
  refine run_inBlock ?_
  refine run_seq ?_
  refine run_region ?_
  refine ops_ret (fn := 0) ((by first | exact x_load2 rfl ta56 ts56 rfl rfl rfl rfl | exact x_load_ep2 ta56 ts56 rfl rfl rfl)) rfl rfl ?_  -- [0] t46 := Op.load 56 (t5)
  refine ops_ret (fn := 0) (x_alloc rfl tz56 rfl) rfl rfl ?_  -- [1] t13 := Op.alloc 56
  refine ops_ret (fn := 0) (x_store rfl ts56 rfl rfl rfl rfl rfl rfl rfl rfl) rfl rfl ?_  -- [2] none := Op.store 56 (t13) (t46)
  refine ops_nil ?_
  refine run_seq ?_
  refine run_region ?_
  refine ops_ret (fn := 0) (x_fld tst56 rfl rfl rfl) rfl rfl ?_  -- [0] t47 := Op.fieldAddr 56 (t13) 1
  refine ops_ret (fn := 0) (x_load1 rfl ta3 ts3 rfl rfl rfl) rfl rfl ?_  -- [1] t48 := Op.load 3 (t47)
  refine ops_ret (fn := 0) (a_add rfl rfl (by first | exact w64 (by omega) | rfl)) rfl rfl ?_  -- [2] t49 := Op.binOp BinOp.add 3 (t48) (#(int i64 1)) 3
  refine ops_ret (fn := 0) (x_fld tst56 rfl rfl rfl) rfl rfl ?_  -- [3] t50 := Op.fieldAddr 56 (t13) 1
  refine ops_ret (fn := 0) (x_store rfl ts3 rfl rfl rfl rfl rfl rfl rfl rfl) rfl rfl ?_  -- [4] none := Op.store 3 (t50) (t49)
  refine ops_nil ?_
  refine run_seq ?_
  refine run_draw tmix (by kernel_rfl) ?_
  refine opsd_free (fn := 0) (fun _ => x_fld tst56 rfl rfl rfl) rfl rfl rfl ?_  -- [0] t51 := Op.fieldAddr 56 (t5) 0
  refine opsd_look (fn := 0) (x_load1 rfl ta3 ts3 rfl rfl rfl) rfl rfl rfl ?_  -- [1] t52 := Op.load 3 (t51)
  refine opsd_free (fn := 0) (fun _ => x_fld tst56 rfl rfl rfl) rfl rfl rfl ?_  -- [2] t53 := Op.fieldAddr 56 (t13) 1
  refine opsd_look (fn := 0) (x_load1 rfl ta3 ts3 rfl rfl rfl) rfl rfl rfl ?_  -- [3] t54 := Op.load 3 (t53)
  refine opsd_free (fn := 0) (fun _ => a_move (y := .v (.int _ _)) rfl) rfl rfl rfl ?_  -- [4] t55 := Op.move (t1)
  refine opsd_free (fn := 0) (fun _ => a_move (y := .v (.string (bstr _))) rfl) rfl rfl rfl ?_  -- [5] t56 := Op.move (t2)
  refine opsd_free (fn := 0) (fun _ => a_move rfl) rfl rfl rfl ?_  -- [6] t57 := Op.move (t3)
  refine opsd_pure (clone_ok _ (by unfold maxBytes; omega)) ?_  -- [7] t58 := Op.call { callee := Callee.value (Operand.func 58), args := #[t57], argTypes := #[24] }
  refine opsd_free (fn := 0) (fun _ => x_build tst54 (qs := [(0, .v (.int .i64 1)), (1, .v (.int .i64 c.id)), (2, .v (.int .i64 (c.number + 1))), (3, .v (.int .i64 shard)), (4, .v (.string (bstr repo))), (11, bsl body)]) rfl rfl (out := [.v (.int .i64 1), .v (.int .i64 c.id), .v (.int .i64 (c.number + 1)), .v (.int .i64 shard), .v (.string (bstr repo)), .v (.int .i64 0), .v (.int .i64 0), .v (.int .i64 0), .v (.int .i64 0), .v (.int .i64 0), .v (.int .i64 0), bsl body, .v (.slice none 0 0)]) (by kernel_rfl)) rfl rfl rfl ?_  -- [8] t59 := Op.build 54 #[(0, #(int i64 1)), (1, t52), (2, t54), (3, t55), (4, t56), (11, t58)]
  refine opsd_free (fn := 0) (fun _ => x_fld tst56 rfl rfl rfl) rfl rfl rfl ?_  -- [9] t60 := Op.fieldAddr 56 (t13) 7
  refine opsd_turn (fn := 0) (x_store rfl ts54 rfl rfl rfl rfl rfl rfl rfl rfl) rfl rfl rfl ?_  -- [10] none := Op.store 54 (t60) (t59)
  refine opsd_nil (by kernel_rfl) (by kernel_rfl) ?_
  refine run_seq ?_
  refine run_region ?_
  refine ops_ret (fn := 0) (x_fld tst56 rfl rfl rfl) rfl rfl ?_  -- [0] t61 := Op.fieldAddr 56 (t13) 4
  refine ops_ret (fn := 0) (x_store rfl ts3 rfl rfl rfl rfl rfl rfl rfl rfl) rfl rfl ?_  -- [1] none := Op.store 3 (t61) (#(int i64 0))
  refine ops_ret (fn := 0) (x_fld tst56 rfl rfl rfl) rfl rfl ?_  -- [2] t62 := Op.fieldAddr 56 (t13) 2
  refine ops_ret (fn := 0) (x_store rfl ts4 rfl rfl rfl rfl rfl rfl rfl rfl) rfl rfl ?_  -- [3] none := Op.store 4 (t62) (#(bool true))
  refine ops_nil ?_
  refine run_seq ?_
  refine run_seq ?_
  have hle : Le (.agg [.v (.int .i64 1), .v (.int .i64 c.id), .v (.int .i64 (c.number + 1)), .v (.int .i64 shard), .v (.string (bstr repo)), .v (.int .i64 0), .v (.int .i64 0), .v (.int .i64 0), .v (.int .i64 0), .v (.int .i64 0), .v (.int .i64 0), bsl body, .v (.slice none 0 0)]) (.agg (msgA (reqL c shard repo body))) :=
    Le.agg ⟨Le.refl _, Le.refl _, Le.refl _, Le.refl _, Le.refl _, Le.refl _, Le.refl _, Le.refl _, Le.refl _, Le.refl _, Le.refl _, Le.refl _, Le.nil, trivial⟩
  obtain ⟨lb, hlb⟩ := exA_two (bytesL (reqL c shard repo body))
  rw [hlb] at hby
  have hel : ∀ i, errOf (bytesL (reqL c shard repo body)) = some i → coreE i = true := fun i h => by
    cases hq : bytesL (reqL c shard repo body) with
    | ok l => rw [hq] at h; cases h
    | error e => rw [hq] at h; obtain rfl := Option.some.inj h; exact bytesL_err hq
  have his := is_ok (gl := gl) (errOf (bytesL (reqL c shard repo body))) 12 hel (by decide)
  rw [large_eq] at his
  refine run_region ?_
  refine ops_ret (fn := 0) (x_fld tst56 rfl rfl rfl) rfl rfl ?_  -- [0] t64 := Op.fieldAddr 56 (t13) 7
  refine ops_ret (fn := 0) (x_load2 rfl ta54 ts54 rfl rfl rfl rfl) rfl rfl ?_  -- [1] t65 := Op.load 54 (t64)
  refine ops_weak 65 (y := .agg (msgA (reqL c shard repo body))) hle ?_; refine ops_pure hby ?_  -- [2] t66 := Op.call { callee := Callee.value (Operand.func 59), args := #[t65], argTypes := #[54] }
  refine ops_ret (fn := 0) (a_move rfl) rfl rfl ?_  -- [3] t63 := Op.move (t66)
  refine ops_ret (fn := 0) (a_extract rfl rfl) rfl rfl ?_  -- [4] t67 := Op.extract (t63) 0
  refine ops_ret (fn := 0) (a_extract rfl rfl) rfl rfl ?_  -- [5] t68 := Op.extract (t63) 1
  refine ops_ret (fn := 0) (a_assign rfl) rfl rfl ?_  -- [6] t14 := Op.assign (t67)
  refine ops_ret (fn := 0) (a_assign rfl) rfl rfl ?_  -- [7] t15 := Op.assign (t68)
  refine ops_nil ?_
  refine run_seq ?_
  refine run_region ?_
  refine ops_ret (fn := 0) (a_move rfl) rfl rfl ?_  -- [0] t69 := Op.move (t15)
  refine ops_ret (fn := 0) (x_load_err ta30 ts30 rfl rfl) rfl rfl ?_  -- [1] t70 := Op.load 30 (Operand.global 12)
  refine ops_pure his ?_  -- [2] t71 := Op.call { callee := Callee.value (Operand.func 47), args := #[t69, t70], argTypes := #[30, 30] }
  refine ops_nil ?_
  refine run_cond rfl (fun h2 => ?_) (fun h2 => ?_)
  · rw [show startL c shard repo body tick = (overL (askL c shard repo body) 6 zM, []) by simp only [startL, h2, if_true]]
    refine run_seq ?_
    refine run_region ?_
    refine ops_ret (fn := 0) ((by first | exact x_load2 rfl ta56 ts56 rfl rfl rfl rfl | exact x_load_ep2 ta56 ts56 rfl rfl rfl)) rfl rfl ?_  -- [0] t72 := Op.load 56 (t13)
    refine ops_ret (fn := 0) (x_build tst54 (qs := []) rfl rfl (out := [.v (.int .i64 0), .v (.int .i64 0), .v (.int .i64 0), .v (.int .i64 0), .v (.string (bstr [])), .v (.int .i64 0), .v (.int .i64 0), .v (.int .i64 0), .v (.int .i64 0), .v (.int .i64 0), .v (.int .i64 0), .v (.slice none 0 0), .v (.slice none 0 0)]) (by kernel_rfl)) rfl rfl ?_  -- [1] t73 := Op.build 54 #[]
    refine ops_weak 73 (y := .agg (msgA zM)) Le.zM ?_; refine ops_weak 72 (y := .agg (cliA (askL c shard repo body))) (Le.agg (by repeat (first | exact trivial | refine ⟨by first | exact Le.refl _ | exact Le.nil, ?_⟩))) ?_; refine ops_pure (over_ok (askL c shard repo body) 6 zM) ?_  -- [2] t74 := Op.call { callee := Callee.value (Operand.func 60), args := #[t72, #(int i64 6), t73], argTypes := #
    refine ops_ret (fn := 0) (x_store rfl ts56 rfl rfl rfl rfl rfl rfl rfl rfl) rfl rfl ?_  -- [3] none := Op.store 56 (t10) (t74)
    refine ops_ret (fn := 0) (a_assign rfl) rfl rfl ?_  -- [4] t11 := Op.assign (#(slice none 0 0))
    refine ops_ret (fn := 0) (a_assign rfl) rfl rfl ?_  -- [5] t12 := Op.assign (#nilIface)
    refine ops_nil ?_
    exact retc3 rfl (al2 rfl ta56 ts56 rfl rfl rfl) rfl rfl ⟨Le.tup3 (Le.refl _) Le.nil (Le.refl _), Ext.mx _ _⟩
  · rw [show startL c shard repo body tick = (tryL (askL c shard repo body) tick, [reqL c shard repo body]) by simp only [startL, h2]; rfl]
    refine run_skip ?_
    refine run_seq ?_
    refine run_region ?_
    refine ops_ret (fn := 0) ((by first | exact x_load2 rfl ta56 ts56 rfl rfl rfl rfl | exact x_load_ep2 ta56 ts56 rfl rfl rfl)) rfl rfl ?_  -- [0] t76 := Op.load 56 (t13)
    refine ops_ret (fn := 0) (a_move (y := .v (.int _ _)) rfl) rfl rfl ?_  -- [1] t77 := Op.move (t4)
    refine ops_weak 76 (y := .agg (cliA (askL c shard repo body))) (Le.agg (by repeat (first | exact trivial | refine ⟨by first | exact Le.refl _ | exact Le.nil, ?_⟩))) ?_; refine ops_pure (try_ok (askL c shard repo body) tick (by simp only [askL]; omega) ht) ?_  -- [2] t78 := Op.call { callee := Callee.value (Operand.func 61), args := #[t76, t77], argTypes := #[56, 3] }
    refine ops_ret (fn := 0) (a_move rfl) rfl rfl ?_  -- [3] t75 := Op.move (t78)
    refine ops_ret (fn := 0) (a_extract rfl rfl) rfl rfl ?_  -- [4] t79 := Op.extract (t75) 0
    refine ops_ret (fn := 0) (a_extract rfl rfl) rfl rfl ?_  -- [5] t80 := Op.extract (t75) 1
    refine ops_ret (fn := 0) (x_store rfl ts56 rfl rfl rfl rfl rfl rfl rfl rfl) rfl rfl ?_  -- [6] none := Op.store 56 (t13) (t79)
    refine ops_ret (fn := 0) (a_assign rfl) rfl rfl ?_  -- [7] t16 := Op.assign (t80)
    refine ops_nil ?_
    refine run_seq ?_
    refine run_region ?_
    refine ops_ret (fn := 0) ((by first | exact x_load2 rfl ta56 ts56 rfl rfl rfl rfl | exact x_load_ep2 ta56 ts56 rfl rfl rfl)) rfl rfl ?_  -- [0] t81 := Op.load 56 (t13)
    refine ops_ret (fn := 0) (a_move rfl) rfl rfl ?_  -- [1] t82 := Op.move (t16)
    refine ops_ret (fn := 0) (x_store rfl ts56 rfl rfl rfl rfl rfl rfl rfl rfl) rfl rfl ?_  -- [2] none := Op.store 56 (t10) (t81)
    refine ops_ret (fn := 0) (a_assign rfl) rfl rfl ?_  -- [3] t11 := Op.assign (t82)
    refine ops_ret (fn := 0) (a_assign rfl) rfl rfl ?_  -- [4] t12 := Op.assign (#nilIface)
    refine ops_nil ?_
    exact retc3 rfl (al2 rfl ta56 ts56 rfl rfl rfl) rfl rfl ⟨Le.tup3 (Le.refl _) (Le.refl _) (Le.refl _), Ext.mx _ _⟩
end
end Go.Vm
