/- Layer 21: contracts for a client's steps. -/
import Derived.Test.YtmppnmffbmpcpaaDoorCliB
import Derived.Test.YtmppnmffbmpcpaaDoorCxRet
set_option linter.unusedVariables false
set_option linter.unusedSimpArgs false
namespace Go.Vm
open Go.RowKit Go.Proofs

abbrev zM : Msg := ⟨0, 0, 0, 0, [], 0, 0, 0, 0, 0, 0, [], []⟩
abbrev newC (id : Int) : Cli := ⟨id, 0, false, false, 0, 0, 0, zM, zM⟩
/-- Messages. -/
abbrev msl (l : List Msg) : AV := .sl (l.flatMap msgA) 13 l.length none none
theorem Nf.cliA {n : Nat} (c : Cli) : Nf n (.agg (cliA c)) := Nf.agg (Nf.cli c)
theorem Nf.msl {n : Nat} (l : List Msg) : Nf n (msl l) := Nf.sl (by
  intro x hx
  simp only [List.mem_flatMap] at hx
  obtain ⟨M, _, hM⟩ := hx
  exact Nf.msg M x hM)
theorem Nf.tup2 {n : Nat} {x y : AV} (h1 : Nf n x) (h2 : Nf n y) : Nf n (.tup [x, y]) := Nf.tup (by
  intro z hz
  simp only [List.mem_cons, List.mem_nil_iff, or_false] at hz
  rcases hz with rfl | rfl
  · exact h1
  · exact h2)
theorem Nf.tup3 {n : Nat} {x y u : AV} (h1 : Nf n x) (h2 : Nf n y) (h3 : Nf n u) : Nf n (.tup [x, y, u]) := Nf.tup (by
  intro z hz
  simp only [List.mem_cons, List.mem_nil_iff, or_false] at hz
  rcases hz with rfl | rfl | rfl
  · exact h1
  · exact h2
  · exact h3)

section
variable {gl : Nat → Option (List Value)}

theorem is_ok (e : Option Nat) (j : Nat) (he : ∀ i, e = some i → coreE i = true) (hj : coreE j = true) : Pure (EV gl) 47 [errA e, .u j] (.ret (.v (.bool (decide (e = some j))))) := fun m => by
  have h : acall (EV gl) 1 47 [errA e, .u j] m = some (.ret (.v (.bool (decide (e = some j)))) m) := by
    show isPrim (sentE gl) (acall (EV gl) 0) [errA e, .u j] m = _
    cases e with
    | none => simp [isPrim, errA, sentE, hj]
    | some i =>
      have hb : (i == j) = decide (i = j) := by by_cases h : i = j <;> simp [h]
      simp [isPrim, errA, sentE, hj, he i rfl, hb]
  exact Spec.of_call ev_ok h

set_option maxHeartbeats 1000000 in
theorem of21_ok (c : Cli) : Pure (EV gl) 28 [.agg (cliA c)] (.ret (.agg (cliA c))) := by
  refine Pure.mk (fun _ => Nf.cliA c) fun m => ?_
  refine spec_body (fn := Tryd.f28) (n := 22) (rs := [ResultVar.cell 2 62]) (by decide) Tryd.func28 rfl rfl rfl rfl ?_
  refine run_seq ?_
  refine run_region ?_
  refine ops_ret (fn := 0) (x_box rfl rfl rfl) rfl rfl ?_  -- [0] t1 := Op.box 56 (t0)
  refine ops_ret (fn := 0) (x_alloc rfl tz62 rfl) rfl rfl ?_  -- [1] t2 := Op.alloc 62
  refine ops_nil ?_
  refine run_seq ?_
  refine run_region ?_
  refine ops_ret (fn := 0) (x_fld tst56 rfl rfl rfl) rfl rfl ?_  -- [0] t3 := Op.fieldAddr 56 (t1) 0
  refine ops_ret (fn := 0) (x_load1 rfl ta3 ts3 rfl rfl rfl) rfl rfl ?_  -- [1] t4 := Op.load 3 (t3)
  refine ops_ret (fn := 0) (x_fld tst56 rfl rfl rfl) rfl rfl ?_  -- [2] t5 := Op.fieldAddr 56 (t1) 1
  refine ops_ret (fn := 0) (x_load1 rfl ta3 ts3 rfl rfl rfl) rfl rfl ?_  -- [3] t6 := Op.load 3 (t5)
  refine ops_ret (fn := 0) (x_fld tst56 rfl rfl rfl) rfl rfl ?_  -- [4] t7 := Op.fieldAddr 56 (t1) 2
  refine ops_ret (fn := 0) (x_load1 rfl ta4 ts4 rfl rfl rfl) rfl rfl ?_  -- [5] t8 := Op.load 4 (t7)
  refine ops_ret (fn := 0) (x_fld tst56 rfl rfl rfl) rfl rfl ?_  -- [6] t9 := Op.fieldAddr 56 (t1) 3
  refine ops_ret (fn := 0) (x_load1 rfl ta4 ts4 rfl rfl rfl) rfl rfl ?_  -- [7] t10 := Op.load 4 (t9)
  refine ops_ret (fn := 0) (x_fld tst56 rfl rfl rfl) rfl rfl ?_  -- [8] t11 := Op.fieldAddr 56 (t1) 4
  refine ops_ret (fn := 0) (x_load1 rfl ta3 ts3 rfl rfl rfl) rfl rfl ?_  -- [9] t12 := Op.load 3 (t11)
  refine ops_ret (fn := 0) (x_fld tst56 rfl rfl rfl) rfl rfl ?_  -- [10] t13 := Op.fieldAddr 56 (t1) 5
  refine ops_ret (fn := 0) (x_load1 rfl ta3 ts3 rfl rfl rfl) rfl rfl ?_  -- [11] t14 := Op.load 3 (t13)
  refine ops_ret (fn := 0) (x_fld tst56 rfl rfl rfl) rfl rfl ?_  -- [12] t15 := Op.fieldAddr 56 (t1) 6
  refine ops_ret (fn := 0) (x_load1 rfl ta3 ts3 rfl rfl rfl) rfl rfl ?_  -- [13] t16 := Op.load 3 (t15)
  refine ops_ret (fn := 0) (x_fld tst56 rfl rfl rfl) rfl rfl ?_  -- [14] t17 := Op.fieldAddr 56 (t1) 7
  refine ops_ret (fn := 0) (x_load2 rfl ta54 ts54 rfl rfl rfl rfl) rfl rfl ?_  -- [15] t18 := Op.load 54 (t17)
  refine ops_ret (fn := 0) (x_fld tst56 rfl rfl rfl) rfl rfl ?_  -- [16] t19 := Op.fieldAddr 56 (t1) 8
  refine ops_ret (fn := 0) (x_load2 rfl ta54 ts54 rfl rfl rfl rfl) rfl rfl ?_  -- [17] t20 := Op.load 54 (t19)
  refine ops_ret (fn := 0) (x_build tst62 (qs := [(0, .v (.int .i64 c.id)), (1, .v (.int .i64 c.number)), (2, .v (.bool c.waits)), (3, .v (.bool c.refused)), (4, .v (.int .i64 c.done)), (5, .v (.int .i64 c.due)), (6, .v (.int .i64 c.answer)), (7, .agg (msgA c.request)), (8, .agg (msgA c.reply))]) rfl rfl (out := cliA c) (by kernel_rfl)) rfl rfl ?_  -- [18] t21 := Op.build 62 #[(0, t4), (1, t6), (2, t8), (3, t10), (4, t12), (5, t14), (6, t16), (7, t18), (8, t20)]
  refine ops_ret (fn := 0) (x_store rfl ts62 rfl rfl rfl rfl rfl rfl rfl rfl) rfl rfl ?_  -- [19] none := Op.store 62 (t2) (t21)
  refine ops_nil ?_
  exact retc rfl (al2 rfl ta62 ts62 rfl rfl rfl) ⟨Le.refl _, Ext.mx _ _⟩

set_option maxHeartbeats 1000000 in
theorem new_ok (id : Int) (h : 0 ≤ id ∧ id < 8) : Pure (EV gl) 26 [.v (.int .i64 id)] (.ret (.tup [.agg (cliA (newC id)), .v .nilIface])) := by
  refine Pure.mk (fun _ => Nf.tup2 (Nf.cliA _) Nf.v) fun m => ?_
  refine spec_body (fn := Tryd.f26) (n := 14) (rs := [ResultVar.cell 2 56, ResultVar.tmp 3]) (by decide) Tryd.func26 rfl rfl rfl rfl ?_
  refine run_seq ?_
  refine run_region ?_
  refine ops_ret (fn := 0) (x_alloc rfl tz56 rfl) rfl rfl ?_  -- [0] t2 := Op.alloc 56
  refine ops_ret (fn := 0) (a_assign rfl) rfl rfl ?_  -- [1] t3 := Op.assign (#nilIface)
  refine ops_nil ?_
  refine run_seq ?_
  refine run_seq ?_
  refine run_region ?_
  refine ops_ret (fn := 0) (a_move (y := .v (.int _ _)) rfl) rfl rfl ?_  -- [0] t4 := Op.move (t0)
  refine ops_ret (fn := 0) (a_lss rfl rfl) rfl rfl ?_  -- [1] t5 := Op.binOp BinOp.lss 3 (t4) (#(int i64 0)) 3
  refine ops_ret (fn := 0) (a_move (y := .v (.bool _)) rfl) rfl rfl ?_  -- [2] t6 := Op.move (t5)
  refine ops_yes (fn := 0) rfl rfl rfl (decide_eq_false (by omega)) (a_move (y := .v (.int _ _)) rfl) rfl ?_  -- [3] t7 := Op.move (t0)
  refine ops_yes (fn := 0) rfl rfl rfl (decide_eq_false (by omega)) (a_geq rfl rfl) rfl ?_  -- [4] t8 := Op.binOp BinOp.geq 3 (t7) (#(int i64 8)) 3
  refine ops_ret (fn := 0) (a_pick_f rfl (decide_eq_false (by omega)) rfl) rfl rfl ?_  -- [5] t9 := Op.pick (t6) (#(bool true)) (t8)
  refine ops_nil ?_
  refine run_cond rfl (fun h => ?_) (fun h => ?_)
  · have := of_decide_eq_true h; omega
  refine run_skip ?_
  refine run_seq ?_
  refine run_region ?_
  refine ops_ret (fn := 0) (a_move (y := .v (.int _ _)) rfl) rfl rfl ?_  -- [0] t12 := Op.move (t0)
  refine ops_ret (fn := 0) (x_build tst56 (qs := [(0, .v (.int .i64 id))]) rfl rfl (out := [.v (.int .i64 id), .v (.int .i64 0), .v (.bool false), .v (.bool false), .v (.int .i64 0), .v (.int .i64 0), .v (.int .i64 0), .v (.int .i64 0), .v (.int .i64 0), .v (.int .i64 0), .v (.int .i64 0), .v (.string (bstr [])), .v (.int .i64 0), .v (.int .i64 0), .v (.int .i64 0), .v (.int .i64 0), .v (.int .i64 0), .v (.int .i64 0), .v (.slice none 0 0), .v (.slice none 0 0), .v (.int .i64 0), .v (.int .i64 0), .v (.int .i64 0), .v (.int .i64 0), .v (.string (bstr [])), .v (.int .i64 0), .v (.int .i64 0), .v (.int .i64 0), .v (.int .i64 0), .v (.int .i64 0), .v (.int .i64 0), .v (.slice none 0 0), .v (.slice none 0 0)]) (by kernel_rfl)) rfl rfl ?_  -- [1] t13 := Op.build 56 #[(0, t12)]
  refine ops_ret (fn := 0) (x_store rfl ts56 rfl rfl rfl rfl rfl rfl rfl rfl) rfl rfl ?_  -- [2] none := Op.store 56 (t2) (t13)
  refine ops_ret (fn := 0) (a_assign rfl) rfl rfl ?_  -- [3] t3 := Op.assign (#nilIface)
  refine ops_nil ?_
  refine retc2 rfl (al2 rfl ta56 ts56 rfl rfl rfl) rfl ⟨Le.tup2 (Le.agg ?_) (Le.refl _), Ext.mx _ _⟩
  exact ⟨Le.refl _, Le.refl _, Le.refl _, Le.refl _, Le.refl _, Le.refl _, Le.refl _, Le.refl _, Le.refl _, Le.refl _, Le.refl _, Le.refl _, Le.refl _, Le.refl _, Le.refl _, Le.refl _, Le.refl _, Le.refl _, Le.nil, Le.nil, Le.refl _, Le.refl _, Le.refl _, Le.refl _, Le.refl _, Le.refl _, Le.refl _, Le.refl _, Le.refl _, Le.refl _, Le.refl _, Le.nil, Le.nil, trivial⟩

def overL (c : Cli) (n : Int) (M : Msg) : Cli := { c with waits := false, refused := false, answer := n, reply := M }
set_option maxHeartbeats 1000000 in
theorem over_ok (c : Cli) (n : Int) (M : Msg) : Pure (EV gl) 60 [.agg (cliA c), .v (.int .i64 n), .agg (msgA M)] (.ret (.agg (cliA (overL c n M)))) := by
  refine Pure.mk (fun _ => Nf.cliA _) fun m => ?_
  refine spec_body (fn := Tryd.f60) (n := 14) (rs := [ResultVar.cell 6 56]) (by decide) Tryd.func60 rfl rfl rfl rfl ?_
  refine run_seq ?_
  refine run_region ?_
  refine ops_ret (fn := 0) (x_box rfl rfl rfl) rfl rfl ?_  -- [0] t3 := Op.box 56 (t0)
  refine ops_ret (fn := 0) (x_box rfl rfl rfl) rfl rfl ?_  -- [1] t5 := Op.box 54 (t2)
  refine ops_ret (fn := 0) (x_alloc rfl tz56 rfl) rfl rfl ?_  -- [2] t6 := Op.alloc 56
  refine ops_nil ?_
  refine run_seq ?_
  refine run_draw tmix (by kernel_rfl) ?_
  refine opsd_free (fn := 0) (fun _ => a_move (y := .v (.int _ _)) rfl) rfl rfl rfl ?_  -- [0] t7 := Op.move (t1)
  refine opsd_look (fn := 0) ((by first | exact x_load2 rfl ta54 ts54 rfl rfl rfl rfl | exact x_load_ep2 ta54 ts54 rfl rfl rfl)) rfl rfl rfl ?_  -- [1] t8 := Op.load 54 (t5)
  refine opsd_free (fn := 0) (fun _ => x_fld tst56 rfl rfl rfl) rfl rfl rfl ?_  -- [2] t9 := Op.fieldAddr 56 (t3) 2
  refine opsd_turn (fn := 0) (x_store rfl ts4 rfl rfl rfl rfl rfl rfl rfl rfl) rfl rfl rfl ?_  -- [3] none := Op.store 4 (t9) (#(bool false))
  refine opsd_free (fn := 0) (fun _ => x_fld tst56 rfl rfl rfl) rfl rfl rfl ?_  -- [4] t10 := Op.fieldAddr 56 (t3) 3
  refine opsd_turn (fn := 0) (x_store rfl ts4 rfl rfl rfl rfl rfl rfl rfl rfl) rfl rfl rfl ?_  -- [5] none := Op.store 4 (t10) (#(bool false))
  refine opsd_free (fn := 0) (fun _ => x_fld tst56 rfl rfl rfl) rfl rfl rfl ?_  -- [6] t11 := Op.fieldAddr 56 (t3) 6
  refine opsd_turn (fn := 0) (x_store rfl ts3 rfl rfl rfl rfl rfl rfl rfl rfl) rfl rfl rfl ?_  -- [7] none := Op.store 3 (t11) (t7)
  refine opsd_free (fn := 0) (fun _ => x_fld tst56 rfl rfl rfl) rfl rfl rfl ?_  -- [8] t12 := Op.fieldAddr 56 (t3) 8
  refine opsd_turn (fn := 0) (x_store rfl ts54 rfl rfl rfl rfl rfl rfl rfl rfl) rfl rfl rfl ?_  -- [9] none := Op.store 54 (t12) (t8)
  refine opsd_nil_dyn (l := [(1, 3), (1, 5), (1, 7)]) (by kernel_rfl) (by kernel_rfl) (DynAll.mem ⟨dyn_ahead (fn := 0) rfl rfl rfl rfl (x_load2 rfl ta54 ts54 rfl rfl rfl rfl), dyn_ahead (fn := 0) rfl rfl rfl rfl (x_load2 rfl ta54 ts54 rfl rfl rfl rfl), dyn_ahead (fn := 0) rfl rfl rfl rfl (x_load2 rfl ta54 ts54 rfl rfl rfl rfl), trivial⟩) ?_
  refine run_seq ?_
  refine run_region ?_
  refine ops_ret (fn := 0) ((by first | exact x_load2 rfl ta56 ts56 rfl rfl rfl rfl | exact x_load_ep2 ta56 ts56 rfl rfl rfl)) rfl rfl ?_  -- [0] t13 := Op.load 56 (t3)
  refine ops_ret (fn := 0) (x_store rfl ts56 rfl rfl rfl rfl rfl rfl rfl rfl) rfl rfl ?_  -- [1] none := Op.store 56 (t6) (t13)
  refine ops_nil ?_
  exact retc rfl (al2 rfl ta56 ts56 rfl rfl rfl) ⟨Le.refl _, Ext.mx _ _⟩

def tryL (c : Cli) (n : Int) : Cli := { c with done := c.done + 1, due := n + 8, refused := false }
set_option maxHeartbeats 1000000 in
theorem try_ok (c : Cli) (n : Int) (h1 : 0 ≤ c.done ∧ c.done ≤ 1000) (h2 : 0 ≤ n ∧ n ≤ 1099511627776) : Pure (EV gl) 61 [.agg (cliA c), .v (.int .i64 n)] (.ret (.tup [.agg (cliA (tryL c n)), msl [c.request]])) := by
  refine Pure.mk (fun _ => Nf.tup2 (Nf.cliA _) (Nf.msl _)) fun m => ?_
  refine spec_body (fn := Tryd.f61) (n := 18) (rs := [ResultVar.cell 4 56, ResultVar.tmp 5]) (by decide) Tryd.func61 rfl rfl rfl rfl ?_
  refine run_seq ?_
  refine run_region ?_
  refine ops_ret (fn := 0) (x_box rfl rfl rfl) rfl rfl ?_  -- [0] t2 := Op.box 56 (t0)
  refine ops_ret (fn := 0) (x_alloc rfl tz56 rfl) rfl rfl ?_  -- [1] t4 := Op.alloc 56
  refine ops_ret (fn := 0) (a_assign rfl) rfl rfl ?_  -- [2] t5 := Op.assign (#(slice none 0 0))
  refine ops_nil ?_
  refine run_seq ?_
  refine run_region ?_
  refine ops_ret (fn := 0) (x_fld tst56 rfl rfl rfl) rfl rfl ?_  -- [0] t6 := Op.fieldAddr 56 (t2) 4
  refine ops_ret (fn := 0) (x_load1 rfl ta3 ts3 rfl rfl rfl) rfl rfl ?_  -- [1] t7 := Op.load 3 (t6)
  refine ops_ret (fn := 0) (a_add rfl rfl (by first | exact w64 (by omega) | rfl)) rfl rfl ?_  -- [2] t8 := Op.binOp BinOp.add 3 (t7) (#(int i64 1)) 3
  refine ops_ret (fn := 0) (x_fld tst56 rfl rfl rfl) rfl rfl ?_  -- [3] t9 := Op.fieldAddr 56 (t2) 4
  refine ops_ret (fn := 0) (x_store rfl ts3 rfl rfl rfl rfl rfl rfl rfl rfl) rfl rfl ?_  -- [4] none := Op.store 3 (t9) (t8)
  refine ops_nil ?_
  refine run_seq ?_
  refine run_region ?_
  refine ops_ret (fn := 0) (a_move (y := .v (.int _ _)) rfl) rfl rfl ?_  -- [0] t10 := Op.move (t1)
  refine ops_ret (fn := 0) (a_add rfl rfl (by first | exact w64 (by omega) | rfl)) rfl rfl ?_  -- [1] t11 := Op.binOp BinOp.add 3 (t10) (#(int i64 8)) 3
  refine ops_ret (fn := 0) (x_fld tst56 rfl rfl rfl) rfl rfl ?_  -- [2] t12 := Op.fieldAddr 56 (t2) 5
  refine ops_ret (fn := 0) (x_store rfl ts3 rfl rfl rfl rfl rfl rfl rfl rfl) rfl rfl ?_  -- [3] none := Op.store 3 (t12) (t11)
  refine ops_ret (fn := 0) (x_fld tst56 rfl rfl rfl) rfl rfl ?_  -- [4] t13 := Op.fieldAddr 56 (t2) 3
  refine ops_ret (fn := 0) (x_store rfl ts4 rfl rfl rfl rfl rfl rfl rfl rfl) rfl rfl ?_  -- [5] none := Op.store 4 (t13) (#(bool false))
  refine ops_nil ?_
  refine run_seq ?_
  refine run_draw tmix (by kernel_rfl) ?_
  refine opsd_look (fn := 0) ((by first | exact x_load2 rfl ta56 ts56 rfl rfl rfl rfl | exact x_load_ep2 ta56 ts56 rfl rfl rfl)) rfl rfl rfl ?_  -- [0] t14 := Op.load 56 (t2)
  refine opsd_free (fn := 0) (fun _ => x_fld tst56 rfl rfl rfl) rfl rfl rfl ?_  -- [1] t15 := Op.fieldAddr 56 (t2) 7
  refine opsd_look (fn := 0) (x_load2 rfl ta54 ts54 rfl rfl rfl rfl) rfl rfl rfl ?_  -- [2] t16 := Op.load 54 (t15)
  refine opsd_free (fn := 0) (fun _ => x_lit_all [.agg (msgA c.request)] tsl65 tib65 rfl rfl rfl rfl rfl (cells := msgA c.request) rfl) rfl rfl rfl ?_  -- [3] t17 := Op.buildSlice 65 1 #[(0, t16)]
  refine opsd_turn (fn := 0) (x_store rfl ts56 rfl rfl rfl rfl rfl rfl rfl rfl) rfl rfl rfl ?_  -- [4] none := Op.store 56 (t4) (t14)
  refine opsd_free (fn := 0) (fun _ => a_assign rfl) rfl rfl rfl ?_  -- [5] t5 := Op.assign (t17)
  refine opsd_nil_dyn (l := [(2, 4)]) (by kernel_rfl) (by kernel_rfl) (DynAll.mem ⟨dyn_ahead (fn := 0) rfl rfl rfl rfl (x_load2 rfl ta54 ts54 rfl rfl rfl rfl), trivial⟩) ?_
  exact retc2 rfl (al2 rfl ta56 ts56 rfl rfl rfl) rfl ⟨Le.tup2 (Le.refl _) Le.disown, Ext.mx _ _⟩
end
end Go.Vm
