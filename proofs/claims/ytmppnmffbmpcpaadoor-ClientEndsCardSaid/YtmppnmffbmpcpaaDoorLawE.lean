/- Layer 21: the law ClientEnds, what its code comes to. -/
import Derived.Test.YtmppnmffbmpcpaaDoorCliE
import Derived.Test.YtmppnmffbmpcpaaDoorAlvA
import Derived.Test.YtmppnmffbmpcpaaDoorLawD
set_option linter.unusedVariables false
set_option linter.unusedSimpArgs false
namespace Go.Vm
open Go.RowKit Go.Proofs

section
variable {E : Env} {N : Nat} {ds : List Deferred}
/-- A piece of code, told by what stands behind it. -/
theorem run_mid {c : Code} {k : List Item} {φ : Fr} {m : AM} {R : CX → Fr → AM → Prop} (Mid : Fr → AM → Prop) (h : RunJ E N ds [.code c] φ m (fun x φ m => match x with | .normal => Mid φ m | .exit _ => False | .ret => R .ret φ m | .pan v => R (.pan v) φ m))
    (hn : ∀ φ m, Mid φ m → RunJ E N ds k φ m R) : RunJ E N ds (.code c :: k) φ m R :=
  run_cut h hn (fun _ _ h => h) (fun _ _ _ h => h) fun _ _ _ h => h
theorem retb {S : CR → AM → Prop} {t : Nat} {x : AV} {φ : Fr} {m : AM} (h : ev N φ (.tmp t) = x) (hs : S (.ret x) m) : BodyR E [.tmp t] N S .ret φ m := by
  refine ⟨_, rfl, ?_⟩
  subst h
  show S (.ret (aeval (frL N φ) (.tmp t))) m
  rw [frL_ev]
  exact hs
theorem opsd_allocx {ops : Array Oper} {bs : Array Nat} {rest : List (Nat × Oper)} {recs : List Sy.SRec} {pn : Option (Sy.SRec × Nat)} {φ : Fr} {m l : AM} {K : Fr → AM → Prop} {R : AV → Fr → AM → Prop} {i : Nat} {t : TypeId} {z : Value} {cs : List AV} {d : Option Tmp} {ty : TypeId} {pos : String} {aft : Array Edge} (hz : tzero E t = some z) (hcs : z.cells.toList.map AV.v = cs)
    (hk : OpsD E N ops bs rest (recs ++ [⟨i, ⟨d, .alloc t, ty, pos, aft, none⟩, frL N φ, mx m l, .ptr (m.length + l.length) 0, mx m (l ++ [.wr cs t false]), true, false⟩]) pn (fput φ d (.ptr (m.length + l.length) 0)) (mx m (l ++ [.wr cs t false])) K R) :
    OpsD E N ops bs ((i, ⟨d, .alloc t, ty, pos, aft, none⟩) :: rest) recs pn φ (mx m l) K R := by
  have h1 : (mx m l).length = m.length + l.length := mx_len rfl
  have h2 : mx m l ++ [AB.wr cs t false] = mx m (l ++ [.wr cs t false]) := mx_snoc
  rw [← h1, ← h2] at hk
  exact opsd_alloc hz hcs hk
end
theorem set0 {l : AM} {b c : AB} (h : l[0]? = some c) : (l.set 0 b)[0]? = some b := by
  cases l with
  | nil => cases h
  | cons x r => rfl
theorem ap0 {l : AM} {b c : AB} (h : l[0]? = some c) : (l ++ [b])[0]? = some c := by
  cases l with
  | nil => cases h
  | cons x r => exact h
theorem stl0 {l : AM} {z b c : AB} (h : l[0]? = some c) : ((l ++ [z]).set l.length b)[0]? = some c := by rw [set_last]; exact ap0 h
theorem stlk {l : AM} {z b : AB} : ((l ++ [z]).set l.length b)[l.length]? = some b := by rw [set_last]; exact lk_last

/-- What holds ahead of tick k. -/
def TGood (k : Nat) (c : Cli) (e : Nat) : Prop := c.number = 1 ∧ 1 ≤ c.done ∧ c.done ≤ 3 ∧ ((c.waits = true ∧ e = 0 ∧ c.due = 8 * c.done ∧ (k : Int) ≤ c.due) ∨ (c.waits = false ∧ e = 1))
theorem good_hear {k : Nat} {c : Cli} {e : Nat} (h : TGood k c e) (M : Msg) : TGood k (hearL c M).1 (e + if (hearL c M).2 then 1 else 0) ∧ (hearL c M).1.done = c.done := by
  unfold hearL
  split
  · rename_i hm
    obtain ⟨h1, h2, h3, h4⟩ := h
    have hw := hm.1
    rcases h4 with ⟨a, b, d, f⟩ | ⟨a, b⟩
    · split
      · exact ⟨⟨h1, h2, h3, .inl ⟨a, by simpa using b, d, f⟩⟩, rfl⟩
      · exact ⟨⟨h1, h2, h3, .inr ⟨rfl, by simp [b]⟩⟩, rfl⟩
    · rw [a] at hw; cases hw
  · exact ⟨by simpa using h, rfl⟩
theorem good_tick {k : Nat} {c : Cli} {e : Nat} (h : TGood k c e) (hk : k < 40) : TGood (k + 1) (tickL c k).1 (e + if (tickL c k).2.2 then 1 else 0) ∧ (tickL c k).1.done = c.done + ((tickL c k).2.1.length : Nat) := by
  obtain ⟨h1, h2, h3, h4⟩ := h
  rcases h4 with ⟨a, b, d, f⟩ | ⟨a, b⟩
  · unfold tickL
    split
    · rename_i ht
      have hdue := ht.2.2
      split
      · rename_i hq
        exact ⟨⟨h1, by simp only [tryL]; omega, by simp only [tryL]; omega, .inl ⟨a, by simpa using b, by simp only [tryL]; omega, by simp only [tryL]; omega⟩⟩, by simp [tryL]⟩
      · split
        · exact ⟨⟨h1, h2, h3, .inr ⟨rfl, by simp [b]⟩⟩, by simp [overL]⟩
        · exact ⟨⟨h1, h2, h3, .inr ⟨rfl, by simp [b]⟩⟩, by simp [overL]⟩
    · rename_i ht
      have hlt : (k : Int) < c.due := by
        refine Classical.byContradiction fun hc => ht ⟨by omega, a, hc⟩
      exact ⟨⟨h1, h2, h3, .inl ⟨a, by simpa using b, d, by simp only; omega⟩⟩, by simp⟩
  · unfold tickL
    rw [if_neg (fun hc => by rw [a] at hc; exact absurd hc.2.1 (by simp))]
    exact ⟨⟨h1, h2, h3, .inr ⟨a, by simpa using b⟩⟩, by simp⟩

theorem msl_at {l : List Msg} : ∀ {k : Nat} {M : Msg}, l[k]? = some M → ((l.flatMap msgA).drop (k * 13)).take 13 = msgA M := by
  induction l with
  | nil => intro k M h; simp at h
  | cons g r ih =>
    intro k M h
    cases k with
    | zero =>
      simp only [List.getElem?_cons_zero, Option.some.injEq] at h
      subst h
      rfl
    | succ k =>
      simp only [List.getElem?_cons_succ] at h
      rw [show (k + 1) * 13 = k * 13 + 13 by omega]
      exact ih h
theorem msl_len (l : List Msg) : (l.flatMap msgA).length = l.length * 13 := by
  induction l with
  | nil => rfl
  | cons g r ih => rw [List.flatMap_cons, List.length_append, ih, List.length_cons]; simp only [List.length_cons, List.length_nil]; omega

section
variable {gl : Nat → Option (List Value)} (hgl : gl 25 = some wordsV) (hal : Pure (EV gl) 25 [] (.ret (.v (.bool true))))
include hgl hal
set_option maxHeartbeats 4000000 in
theorem ends_ok (id : Int) (body : List UInt8) (msgs : List Msg) : Pure (EV gl) 7 [.v (.int .i64 id), bsl body, msl msgs] (.ret (.v (.bool true))) := by
  have hk := idk_ok id
  refine Pure.mk (fun _ => Nf.v) fun m => ?_
  refine spec_body (fn := Tryd.f7) (n := 116) (rs := [ResultVar.tmp 6]) (by decide) Tryd.func7 rfl rfl rfl rfl ?_
  refine run_seq ?_
  refine run_region ?_
  refine ops_ret (fn := 0) (a_assign (y := .v (.bool _)) rfl) rfl rfl ?_  -- [0] t6 := Op.assign (#(bool false))
  refine ops_nil ?_
  refine run_seq ?_
  refine run_seq ?_
  refine run_region ?_
  refine ops_pure (hal) ?_  -- [0] t18 := Op.call { callee := Callee.value (Operand.func 25), args := #[], argTypes := #[] }
  refine ops_ret (fn := 0) (a_not rfl) rfl rfl ?_  -- [1] t19 := Op.unOp UnOp.not 4 (t18)
  refine ops_nil ?_
  refine run_cond rfl (fun h => by cases h) (fun _ => ?_)
  refine run_skip ?_
  refine run_seq ?_
  refine run_seq ?_
  by_cases h40 : 40 < msgs.length
  · refine run_region ?_
    refine ops_ret (fn := 0) (a_move rfl) rfl rfl ?_  -- [0] t20 := Op.move (t2)
    refine ops_ret (fn := 0) ((by first | exact a_len_sl (show (EV gl).P.underlying 65 = _ from Tryd.underlying65) rfl | exact a_len_ref (show (EV gl).P.underlying 65 = _ from Tryd.underlying65) rfl)) rfl rfl ?_  -- [1] t21 := Op.call { callee := Callee.builtin Builtin.len, args := #[t20], argTypes := #[65] }
    refine ops_ret (fn := 0) (a_gtr rfl rfl) rfl rfl ?_  -- [2] t22 := Op.binOp BinOp.gtr 3 (t21) (#(int i64 40)) 3
    refine ops_ret (fn := 0) (a_move (y := .v (.bool _)) rfl) rfl rfl ?_  -- [3] t23 := Op.move (t22)
    refine ops_not rfl rfl rfl (decide_eq_true (by omega)) ?_  -- [4] t24 := Op.move (t1)
    refine ops_not rfl rfl rfl (decide_eq_true (by omega)) ?_  -- [5] t25 := Op.call { callee := Callee.builtin Builtin.len, args := #[t24], argTypes := #[24] }
    refine ops_not rfl rfl rfl (decide_eq_true (by omega)) ?_  -- [6] t26 := Op.binOp BinOp.gtr 3 (t25) (#(int i64 3500)) 3
    refine ops_ret (fn := 0) (a_pick_t rfl (decide_eq_true (by omega)) rfl) rfl rfl ?_  -- [7] t27 := Op.pick (t23) (#(bool true)) (t26)
    refine ops_nil ?_
    refine run_cond rfl (fun _ => ?_) (fun h => by cases h)
    refine run_seq ?_
    refine run_region ?_
    refine ops_ret (fn := 0) (a_assign (y := .v (.bool _)) rfl) rfl rfl ?_  -- [0] t6 := Op.assign (#(bool true))
    refine ops_nil ?_
    exact ret1 rfl ⟨Le.refl _, Ext.mx _ _⟩
  refine run_region ?_
  refine ops_ret (fn := 0) (a_move rfl) rfl rfl ?_  -- [0] t20 := Op.move (t2)
  refine ops_ret (fn := 0) ((by first | exact a_len_sl (show (EV gl).P.underlying 65 = _ from Tryd.underlying65) rfl | exact a_len_ref (show (EV gl).P.underlying 65 = _ from Tryd.underlying65) rfl)) rfl rfl ?_  -- [1] t21 := Op.call { callee := Callee.builtin Builtin.len, args := #[t20], argTypes := #[65] }
  refine ops_ret (fn := 0) (a_gtr rfl rfl) rfl rfl ?_  -- [2] t22 := Op.binOp BinOp.gtr 3 (t21) (#(int i64 40)) 3
  refine ops_ret (fn := 0) (a_move (y := .v (.bool _)) rfl) rfl rfl ?_  -- [3] t23 := Op.move (t22)
  refine ops_yes (fn := 0) rfl rfl rfl (decide_eq_false (by omega)) (a_move rfl) rfl ?_  -- [4] t24 := Op.move (t1)
  refine ops_yes (fn := 0) rfl rfl rfl (decide_eq_false (by omega)) ((by first | exact a_len_sl (show (EV gl).P.underlying 24 = _ from Tryd.underlying24) rfl | exact a_len_ref (show (EV gl).P.underlying 24 = _ from Tryd.underlying24) rfl)) rfl ?_  -- [5] t25 := Op.call { callee := Callee.builtin Builtin.len, args := #[t24], argTypes := #[24] }
  refine ops_yes (fn := 0) rfl rfl rfl (decide_eq_false (by omega)) (a_gtr rfl rfl) rfl ?_  -- [6] t26 := Op.binOp BinOp.gtr 3 (t25) (#(int i64 3500)) 3
  refine ops_ret (fn := 0) (a_pick_f rfl (decide_eq_false (by omega)) rfl) rfl rfl ?_  -- [7] t27 := Op.pick (t23) (#(bool true)) (t26)
  refine ops_nil ?_
  refine run_cond rfl (fun h => ?_) (fun h => ?_)
  · refine run_seq ?_
    refine run_region ?_
    refine ops_ret (fn := 0) (a_assign (y := .v (.bool _)) rfl) rfl rfl ?_  -- [0] t6 := Op.assign (#(bool true))
    refine ops_nil ?_
    exact ret1 rfl ⟨Le.refl _, Ext.mx _ _⟩
  have hb : body.length ≤ 3500 := by have := of_decide_eq_false h; omega
  have hst := start_ok hgl (newC (idk id)) 3 [97] body 0 rfl hk (by simp) (by omega) (by decide) (by omega) (by omega)
  refine run_skip ?_
  refine run_seq ?_
  refine run_region ?_
  refine ops_ret (fn := 0) (a_move (y := .v (.int _ _)) rfl) rfl rfl ?_  -- [0] t29 := Op.move (t0)
  refine ops_ret (fn := 0) (a_conv (show (EV gl).P.underlying 3 = _ from Tryd.underlying3) (show (EV gl).P.underlying 66 = _ from Tryd.underlying66) rfl rfl) rfl rfl ?_  -- [1] t30 := Op.convert 3 66 (t29)
  refine ops_ret (fn := 0) (a_rem rfl rfl (by decide) rfl) rfl rfl ?_  -- [2] t31 := Op.binOp BinOp.rem 66 (t30) (#(int u64 8)) 66
  refine ops_ret (fn := 0) (a_conv (show (EV gl).P.underlying 66 = _ from Tryd.underlying66) (show (EV gl).P.underlying 3 = _ from Tryd.underlying3) rfl rfl) rfl rfl ?_  -- [3] t32 := Op.convert 66 3 (t31)
  refine ops_pure (new_ok (idk id) hk) ?_  -- [4] t33 := Op.call { callee := Callee.value (Operand.func 26), args := #[t32], argTypes := #[3] }
  refine ops_ret (fn := 0) (a_move rfl) rfl rfl ?_  -- [5] t28 := Op.move (t33)
  refine ops_ret (fn := 0) (a_extract rfl rfl) rfl rfl ?_  -- [6] t34 := Op.extract (t28) 0
  refine ops_ret (fn := 0) (a_extract rfl rfl) rfl rfl ?_  -- [7] t35 := Op.extract (t28) 1
  refine ops_ret (fn := 0) (x_alloc rfl tz56 rfl) rfl rfl ?_  -- [8] t7 := Op.alloc 56
  refine ops_ret (fn := 0) (x_store rfl ts56 rfl rfl rfl rfl rfl rfl rfl rfl) rfl rfl ?_  -- [9] none := Op.store 56 (t7) (t34)
  refine ops_ret (fn := 0) (a_assign rfl) rfl rfl ?_  -- [10] t8 := Op.assign (t35)
  refine ops_nil ?_
  refine run_seq ?_
  refine run_seq ?_
  refine run_region ?_
  refine ops_ret (fn := 0) (a_move rfl) rfl rfl ?_  -- [0] t36 := Op.move (t8)
  refine ops_ret (fn := 0) ((by first | exact a_nequ rfl (show (EV gl).P.underlying 30 = _ from Tryd.underlying30) rfl rfl | exact a_neqn (show (EV gl).P.underlying 30 = _ from Tryd.underlying30) rfl rfl rfl)) rfl rfl ?_  -- [1] t37 := Op.binOp BinOp.neq 30 (t36) (#nilIface) 30
  refine ops_nil ?_
  refine run_cond rfl (fun h => by cases h) (fun _ => ?_)
  refine run_skip ?_
  refine run_seq ?_
  cases hlg : largeL (bytesL (reqL (newC (idk id)) 3 [97] body)) with
  | true =>
    rw [show startL (newC (idk id)) 3 [97] body 0 = (overL (askL (newC (idk id)) 3 [97] body) 6 zM, []) by simp only [startL, hlg, if_true]] at hst
    refine run_region ?_
    refine ops_ret (fn := 0) ((by first | exact x_load2 rfl ta56 ts56 rfl rfl rfl rfl | exact x_load_ep2 ta56 ts56 rfl rfl rfl)) rfl rfl ?_  -- [0] t39 := Op.load 56 (t7)
    refine ops_ret (fn := 0) (a_move rfl) rfl rfl ?_  -- [1] t40 := Op.move (t1)
    refine ops_pure hst ?_  -- [2] t41 := Op.call { callee := Callee.value (Operand.func 29), args := #[t39, #(int i64 3), #(string { data := 
    refine ops_ret (fn := 0) (a_move rfl) rfl rfl ?_  -- [3] t38 := Op.move (t41)
    refine ops_ret (fn := 0) (a_extract rfl rfl) rfl rfl ?_  -- [4] t42 := Op.extract (t38) 0
    refine ops_ret (fn := 0) (a_extract rfl rfl) rfl rfl ?_  -- [5] t43 := Op.extract (t38) 1
    refine ops_ret (fn := 0) (a_extract rfl rfl) rfl rfl ?_  -- [6] t44 := Op.extract (t38) 2
    refine ops_ret (fn := 0) (x_store rfl ts56 rfl rfl rfl rfl rfl rfl rfl rfl) rfl rfl ?_  -- [7] none := Op.store 56 (t7) (t42)
    refine ops_ret (fn := 0) (a_assign rfl) rfl rfl ?_  -- [8] t9 := Op.assign (t43)
    refine ops_ret (fn := 0) (a_assign rfl) rfl rfl ?_  -- [9] t8 := Op.assign (t44)
    refine ops_nil ?_
    refine run_seq ?_
    refine run_seq ?_
    refine run_region ?_
    refine ops_ret (fn := 0) (a_move rfl) rfl rfl ?_  -- [0] t45 := Op.move (t8)
    refine ops_ret (fn := 0) ((by first | exact a_nequ rfl (show (EV gl).P.underlying 30 = _ from Tryd.underlying30) rfl rfl | exact a_neqn (show (EV gl).P.underlying 30 = _ from Tryd.underlying30) rfl rfl rfl)) rfl rfl ?_  -- [1] t46 := Op.binOp BinOp.neq 30 (t45) (#nilIface) 30
    refine ops_nil ?_
    refine run_cond rfl (fun h => by cases h) (fun _ => ?_)
    refine run_skip ?_
    refine run_seq ?_
    refine run_region ?_
    refine ops_ret (fn := 0) (a_move rfl) rfl rfl ?_  -- [0] t47 := Op.move (t9)
    refine ops_ret (fn := 0) ((by first | exact a_len_sl (show (EV gl).P.underlying 65 = _ from Tryd.underlying65) rfl | exact a_len_ref (show (EV gl).P.underlying 65 = _ from Tryd.underlying65) rfl)) rfl rfl ?_  -- [1] t48 := Op.call { callee := Callee.builtin Builtin.len, args := #[t47], argTypes := #[65] }
    refine ops_ret (fn := 0) (a_assign (y := .v (.int _ _)) rfl) rfl rfl ?_  -- [2] t10 := Op.assign (t48)
    refine ops_ret (fn := 0) (a_assign (y := .v (.int _ _)) rfl) rfl rfl ?_  -- [3] t11 := Op.assign (#(int i64 0))
    refine ops_nil ?_
    refine run_seq ?_
    refine run_seq ?_
    refine run_region ?_
    refine ops_ret (fn := 0) (x_fld tst56 rfl rfl rfl) rfl rfl ?_  -- [0] t49 := Op.fieldAddr 56 (t7) 2
    refine ops_ret (fn := 0) (x_load1 rfl ta4 ts4 rfl rfl rfl) rfl rfl ?_  -- [1] t50 := Op.load 4 (t49)
    refine ops_ret (fn := 0) (a_not rfl) rfl rfl ?_  -- [2] t51 := Op.unOp UnOp.not 4 (t50)
    refine ops_nil ?_
    refine run_cond rfl (fun _ => ?_) (fun h => by simp [overL] at h)
    refine run_seq ?_
    refine run_region ?_
    refine ops_ret (fn := 0) (a_move (y := .v (.int _ _)) rfl) rfl rfl ?_  -- [0] t52 := Op.move (t10)
    refine ops_ret (fn := 0) (a_eql rfl rfl) rfl rfl ?_  -- [1] t53 := Op.binOp BinOp.eql 3 (t52) (#(int i64 0)) 3
    refine ops_ret (fn := 0) (a_move (y := .v (.bool _)) rfl) rfl rfl ?_  -- [2] t54 := Op.move (t53)
    refine ops_yes (fn := 0) rfl rfl rfl rfl (x_fld tst56 rfl rfl rfl) rfl ?_  -- [3] t55 := Op.fieldAddr 56 (t7) 6
    refine ops_yes (fn := 0) rfl rfl rfl rfl (x_load1 rfl ta3 ts3 rfl rfl rfl) rfl ?_  -- [4] t56 := Op.load 3 (t55)
    refine ops_yes (fn := 0) rfl rfl rfl rfl (a_eql rfl rfl) rfl ?_  -- [5] t57 := Op.binOp BinOp.eql 3 (t56) (#(int i64 6)) 3
    refine ops_ret (fn := 0) (a_pick_t rfl rfl rfl) rfl rfl ?_  -- [6] t58 := Op.pick (t54) (t57) (#(bool false))
    refine ops_ret (fn := 0) (a_assign (y := .v (.bool _)) rfl) rfl rfl ?_  -- [7] t6 := Op.assign (t58)
    refine ops_nil ?_
    exact ret1 rfl ⟨Le.refl _, Ext.mx _ _⟩
  | false =>
  rw [show startL (newC (idk id)) 3 [97] body 0 = (tryL (askL (newC (idk id)) 3 [97] body) 0, [reqL (newC (idk id)) 3 [97] body]) by simp only [startL, hlg]; rfl] at hst
  refine run_region ?_
  refine ops_ret (fn := 0) ((by first | exact x_load2 rfl ta56 ts56 rfl rfl rfl rfl | exact x_load_ep2 ta56 ts56 rfl rfl rfl)) rfl rfl ?_  -- [0] t39 := Op.load 56 (t7)
  refine ops_ret (fn := 0) (a_move rfl) rfl rfl ?_  -- [1] t40 := Op.move (t1)
  refine ops_pure hst ?_  -- [2] t41 := Op.call { callee := Callee.value (Operand.func 29), args := #[t39, #(int i64 3), #(string { data := 
  refine ops_ret (fn := 0) (a_move rfl) rfl rfl ?_  -- [3] t38 := Op.move (t41)
  refine ops_ret (fn := 0) (a_extract rfl rfl) rfl rfl ?_  -- [4] t42 := Op.extract (t38) 0
  refine ops_ret (fn := 0) (a_extract rfl rfl) rfl rfl ?_  -- [5] t43 := Op.extract (t38) 1
  refine ops_ret (fn := 0) (a_extract rfl rfl) rfl rfl ?_  -- [6] t44 := Op.extract (t38) 2
  refine ops_ret (fn := 0) (x_store rfl ts56 rfl rfl rfl rfl rfl rfl rfl rfl) rfl rfl ?_  -- [7] none := Op.store 56 (t7) (t42)
  refine ops_ret (fn := 0) (a_assign rfl) rfl rfl ?_  -- [8] t9 := Op.assign (t43)
  refine ops_ret (fn := 0) (a_assign rfl) rfl rfl ?_  -- [9] t8 := Op.assign (t44)
  refine ops_nil ?_
  refine run_seq ?_
  refine run_seq ?_
  refine run_region ?_
  refine ops_ret (fn := 0) (a_move rfl) rfl rfl ?_  -- [0] t45 := Op.move (t8)
  refine ops_ret (fn := 0) ((by first | exact a_nequ rfl (show (EV gl).P.underlying 30 = _ from Tryd.underlying30) rfl rfl | exact a_neqn (show (EV gl).P.underlying 30 = _ from Tryd.underlying30) rfl rfl rfl)) rfl rfl ?_  -- [1] t46 := Op.binOp BinOp.neq 30 (t45) (#nilIface) 30
  refine ops_nil ?_
  refine run_cond rfl (fun h => by cases h) (fun _ => ?_)
  refine run_skip ?_
  refine run_seq ?_
  refine run_region ?_
  refine ops_ret (fn := 0) (a_move rfl) rfl rfl ?_  -- [0] t47 := Op.move (t9)
  refine ops_ret (fn := 0) ((by first | exact a_len_sl (show (EV gl).P.underlying 65 = _ from Tryd.underlying65) rfl | exact a_len_ref (show (EV gl).P.underlying 65 = _ from Tryd.underlying65) rfl)) rfl rfl ?_  -- [1] t48 := Op.call { callee := Callee.builtin Builtin.len, args := #[t47], argTypes := #[65] }
  refine ops_ret (fn := 0) (a_assign (y := .v (.int _ _)) rfl) rfl rfl ?_  -- [2] t10 := Op.assign (t48)
  refine ops_ret (fn := 0) (a_assign (y := .v (.int _ _)) rfl) rfl rfl ?_  -- [3] t11 := Op.assign (#(int i64 0))
  refine ops_nil ?_
  refine run_seq ?_
  refine run_seq ?_
  refine run_region ?_
  refine ops_ret (fn := 0) (x_fld tst56 rfl rfl rfl) rfl rfl ?_  -- [0] t49 := Op.fieldAddr 56 (t7) 2
  refine ops_ret (fn := 0) (x_load1 rfl ta4 ts4 rfl rfl rfl) rfl rfl ?_  -- [1] t50 := Op.load 4 (t49)
  refine ops_ret (fn := 0) (a_not rfl) rfl rfl ?_  -- [2] t51 := Op.unOp UnOp.not 4 (t50)
  refine ops_nil ?_
  refine run_cond rfl (fun h => by simp [tryL, askL] at h) (fun _ => ?_)
  refine run_skip ?_
  refine run_seq ?_
  refine run_seq ?_
  refine run_region ?_
  refine ops_ret (fn := 0) (a_move (y := .v (.int _ _)) rfl) rfl rfl ?_  -- [0] t59 := Op.move (#(int i64 0))
  refine ops_nil ?_
  refine run_block ?_
  refine run_ind (α := Nat) (fun k φ M' => ∃ ψ c l e, φ = updL ψ [(2, msl msgs), (7, .ptr (m.length + 0) 0), (10, .v (.int .i64 c.done)), (11, .v (.int .i64 ((e : Nat) : Int))), (59, .v (.int .i64 (k : Nat)))] ∧ M' = mx m l ∧ l[0]? = some (.wr (cliA c) 56 false) ∧ k ≤ 40 ∧ TGood k c e) (fun k => 40 - k) 0
    ⟨_, tryL (askL (newC (idk id)) 3 [97] body) 0, _, 0, updL_of _ ⟨rfl, rfl, rfl, rfl, rfl, trivial⟩, rfl, rfl, Nat.zero_le _, ⟨rfl, by simp [tryL, askL], by simp [tryL, askL], .inl ⟨rfl, rfl, by simp [tryL, askL], by simp [tryL]⟩⟩⟩ ?_
  rintro k φ M' ⟨ψ, c, l, e, rfl, rfl, hbox, hkl, hgood⟩ ih
  refine run_seq ?_
  refine run_region ?_
  refine ops_ret (fn := 0) (a_lss rfl rfl) rfl rfl ?_  -- [0] t60 := Op.binOp BinOp.lss 3 (t59) (#(int i64 40)) 3
  refine ops_nil ?_
  refine run_seq ?_
  refine run_cond rfl (fun hc => ?_) (fun hc => ?_)
  · have hlt : k < 40 := by have := of_decide_eq_true hc; omega
    refine run_skip ?_
    refine run_seq ?_
    refine run_block ?_
    refine run_seq ?_
    refine run_region ?_
    refine ops_ret (fn := 0) (a_move (y := .v (.int _ _)) rfl) rfl rfl ?_  -- [0] t61 := Op.move (t59)
    refine ops_ret (fn := 0) (a_assign (y := .v (.int _ _)) rfl) rfl rfl ?_  -- [1] t12 := Op.assign (t61)
    refine ops_nil ?_
    refine run_seq ?_
    refine run_mid (fun φ M' => ∃ ψ c l e, φ = updL ψ [(2, msl msgs), (7, .ptr (m.length + 0) 0), (10, .v (.int .i64 c.done)), (11, .v (.int .i64 ((e : Nat) : Int))), (12, .v (.int .i64 (k : Nat))), (59, .v (.int .i64 (k : Nat)))] ∧ M' = mx m l ∧ l[0]? = some (.wr (cliA c) 56 false) ∧ TGood k c e) ?_ ?_
    · refine run_seq ?_
      refine run_region ?_
      refine ops_ret (fn := 0) (a_move (y := .v (.int _ _)) rfl) rfl rfl ?_  -- [0] t62 := Op.move (t12)
      refine ops_ret (fn := 0) (a_move rfl) rfl rfl ?_  -- [1] t63 := Op.move (t2)
      refine ops_ret (fn := 0) ((by first | exact a_len_sl (show (EV gl).P.underlying 65 = _ from Tryd.underlying65) rfl | exact a_len_ref (show (EV gl).P.underlying 65 = _ from Tryd.underlying65) rfl)) rfl rfl ?_  -- [2] t64 := Op.call { callee := Callee.builtin Builtin.len, args := #[t63], argTypes := #[65] }
      refine ops_ret (fn := 0) (a_lss rfl rfl) rfl rfl ?_  -- [3] t65 := Op.binOp BinOp.lss 3 (t62) (t64) 3
      refine ops_nil ?_
      refine run_cond rfl (fun h => ?_) (fun h => ?_)
      · have hkm : k < msgs.length := by have := of_decide_eq_true h; omega
        obtain ⟨M, hM⟩ : ∃ M, msgs[k]? = some M := ⟨_, List.getElem?_eq_getElem hkm⟩
        refine run_seq ?_
        refine run_seq ?_
        refine run_region ?_
        refine ops_ret (fn := 0) (a_move rfl) rfl rfl ?_  -- [0] t66 := Op.move (t2)
        refine ops_ret (fn := 0) (a_move (y := .v (.int _ _)) rfl) rfl rfl ?_  -- [1] t67 := Op.move (t12)
        refine ops_ret (fn := 0) (x_idx_sl (show (EV gl).P.underlying 65 = _ from Tryd.underlying65) ts54 (by decide) rfl rfl rfl hkm (by rw [msl_len]; exact Nat.le_refl _) (msl_at hM)) rfl rfl ?_  -- [2] t68 := Op.indexAddr 65 (t66) (t67)
        refine ops_ret (fn := 0) (x_load_ep2 ta54 ts54 rfl rfl rfl) rfl rfl ?_  -- [3] t69 := Op.load 54 (t68)
        refine ops_pure (long16_ok M) ?_  -- [4] t70 := Op.call { callee := Callee.value (Operand.func 30), args := #[t69], argTypes := #[54] }
        refine ops_nil ?_
        refine run_cond rfl (fun h2 => ?_) (fun h2 => ?_)
        · refine run_seq ?_
          refine run_region ?_
          refine ops_ret (fn := 0) (a_assign (y := .v (.bool _)) rfl) rfl rfl ?_  -- [0] t6 := Op.assign (#(bool true))
          refine ops_nil ?_
          exact run_ret (retb rfl ⟨Le.refl _, Ext.mx _ _⟩)
        refine run_skip ?_
        refine run_seq ?_
        obtain ⟨hg2, hd2⟩ := good_hear hgood M
        refine run_draw tmix (by kernel_rfl) ?_
        refine opsd_look (fn := 0) (x_load2 rfl ta56 ts56 rfl hbox rfl rfl) rfl rfl rfl ?_  -- [0] t72 := Op.load 56 (t7)
        refine opsd_free (fn := 0) (fun _ => a_move rfl) rfl rfl rfl ?_  -- [1] t73 := Op.move (t2)
        refine opsd_free (fn := 0) (fun _ => a_move (y := .v (.int _ _)) rfl) rfl rfl rfl ?_  -- [2] t74 := Op.move (t12)
        refine opsd_free (fn := 0) (fun _ => x_idx_sl (show (EV gl).P.underlying 65 = _ from Tryd.underlying65) ts54 (by decide) rfl rfl rfl hkm (by rw [msl_len]; exact Nat.le_refl _) (msl_at hM)) rfl rfl rfl ?_  -- [3] t75 := Op.indexAddr 65 (t73) (t74)
        refine opsd_free (fn := 0) (fun _ => x_load_ep2 ta54 ts54 rfl rfl rfl) rfl rfl rfl ?_  -- [4] t76 := Op.load 54 (t75)
        refine opsd_pure (hear_ok c M) ?_  -- [5] t77 := Op.call { callee := Callee.value (Operand.func 31), args := #[t72, t76], argTypes := #[56, 54] }
        refine opsd_free (fn := 0) (fun _ => a_move rfl) rfl rfl rfl ?_  -- [6] t71 := Op.move (t77)
        refine opsd_free (fn := 0) (fun _ => a_extract rfl rfl) rfl rfl rfl ?_  -- [7] t78 := Op.extract (t71) 0
        refine opsd_free (fn := 0) (fun _ => a_extract rfl rfl) rfl rfl rfl ?_  -- [8] t79 := Op.extract (t71) 1
        refine opsd_allocx tz56 rfl ?_  -- [9] t13 := Op.alloc 56
        refine opsd_turn (fn := 0) (x_store rfl ts56 rfl lk_last rfl rfl rfl rfl rfl rfl) rfl rfl rfl ?_  -- [10] none := Op.store 56 (t13) (t78)
        refine opsd_free (fn := 0) (fun _ => a_assign (y := .v (.bool _)) rfl) rfl rfl rfl ?_  -- [11] t14 := Op.assign (t79)
        refine opsd_nil_dyn (l := [(0, 9)]) (by kernel_rfl) (by kernel_rfl) (DynAll.mem ⟨dyn_ahead (fn := 0) rfl rfl rfl rfl (x_load2 rfl ta56 ts56 rfl (ap0 hbox) rfl rfl), trivial⟩) ?_
        refine run_seq ?_
        refine run_region ?_
        refine ops_ret (fn := 0) (x_load2 rfl ta56 ts56 rfl stlk rfl rfl) rfl rfl ?_  -- [0] t80 := Op.load 56 (t13)
        refine ops_ret (fn := 0) (x_store rfl ts56 rfl (stl0 hbox) rfl rfl rfl rfl rfl rfl) rfl rfl ?_  -- [1] none := Op.store 56 (t7) (t80)
        refine ops_nil ?_
        refine run_seq ?_
        refine run_region ?_
        refine ops_ret (fn := 0) (a_move (y := .v (.bool _)) rfl) rfl rfl ?_  -- [0] t81 := Op.move (t14)
        refine ops_nil ?_
        refine run_cond rfl (fun h3 => ?_) (fun h3 => ?_)
        · rw [h3] at hg2
          refine run_region ?_
          refine ops_ret (fn := 0) (a_move (y := .v (.int _ _)) rfl) rfl rfl ?_  -- [0] t82 := Op.move (t11)
          refine ops_ret (fn := 0) (a_add rfl rfl (w64 (by have := hg2.2.2.2; omega))) rfl rfl ?_  -- [1] t83 := Op.binOp BinOp.add 3 (t82) (#(int i64 1)) 3
          refine ops_ret (fn := 0) (a_assign (y := .v (.int _ _)) rfl) rfl rfl ?_  -- [2] t11 := Op.assign (t83)
          refine ops_nil ?_
          refine run_nil ⟨_, (hearL c M).1, _, e + 1, updL_of _ ⟨rfl, rfl, int_eq hd2.symm, int_eq (by omega), rfl, rfl, trivial⟩, rfl, set0 (stl0 hbox), hg2⟩
        · rw [h3] at hg2
          refine run_skip ?_
          refine run_nil ⟨_, (hearL c M).1, _, e, updL_of _ ⟨rfl, rfl, int_eq hd2.symm, rfl, rfl, rfl, trivial⟩, rfl, set0 (stl0 hbox), hg2⟩
      · refine run_skip ?_
        exact run_nil ⟨_, c, _, e, updL_of _ ⟨rfl, rfl, rfl, rfl, rfl, rfl, trivial⟩, rfl, hbox, hgood⟩
    · clear hgood hbox
      rintro φ M' ⟨ψ, c, l, e, rfl, rfl, hbox, hgood⟩
      obtain ⟨hg2, hd2⟩ := good_tick hgood hlt
      have hdn := hg2.2.1
      have hdm := hg2.2.2.1
      have hd0 := hgood.2.1
      refine run_seq ?_
      refine run_region ?_
      refine ops_ret (fn := 0) (x_load2 rfl ta56 ts56 rfl hbox rfl rfl) rfl rfl ?_  -- [0] t85 := Op.load 56 (t7)
      refine ops_ret (fn := 0) (a_move (y := .v (.int _ _)) rfl) rfl rfl ?_  -- [1] t86 := Op.move (t12)
      refine ops_pure (tick_ok c k (by have := hgood.2.2.1; omega)) ?_  -- [2] t87 := Op.call { callee := Callee.value (Operand.func 32), args := #[t85, t86], argTypes := #[56, 3] }
      refine ops_ret (fn := 0) (a_move rfl) rfl rfl ?_  -- [3] t84 := Op.move (t87)
      refine ops_ret (fn := 0) (a_extract rfl rfl) rfl rfl ?_  -- [4] t88 := Op.extract (t84) 0
      refine ops_ret (fn := 0) (a_extract rfl rfl) rfl rfl ?_  -- [5] t89 := Op.extract (t84) 1
      refine ops_ret (fn := 0) (a_extract rfl rfl) rfl rfl ?_  -- [6] t90 := Op.extract (t84) 2
      refine ops_ret (fn := 0) (x_alloc rfl tz56 rfl) rfl rfl ?_  -- [7] t15 := Op.alloc 56
      refine ops_ret (fn := 0) (x_store rfl ts56 rfl lk_last rfl rfl rfl rfl rfl rfl) rfl rfl ?_  -- [8] none := Op.store 56 (t15) (t88)
      refine ops_ret (fn := 0) (a_assign rfl) rfl rfl ?_  -- [9] t16 := Op.assign (t89)
      refine ops_ret (fn := 0) (a_assign (y := .v (.bool _)) rfl) rfl rfl ?_  -- [10] t17 := Op.assign (t90)
      refine ops_nil ?_
      refine run_seq ?_
      refine run_region ?_
      refine ops_ret (fn := 0) (x_load2 rfl ta56 ts56 rfl stlk rfl rfl) rfl rfl ?_  -- [0] t91 := Op.load 56 (t15)
      refine ops_ret (fn := 0) (x_store rfl ts56 rfl (stl0 hbox) rfl rfl rfl rfl rfl rfl) rfl rfl ?_  -- [1] none := Op.store 56 (t7) (t91)
      refine ops_nil ?_
      refine run_seq ?_
      refine run_region ?_
      refine ops_ret (fn := 0) (a_move (y := .v (.int _ _)) rfl) rfl rfl ?_  -- [0] t92 := Op.move (t10)
      refine ops_ret (fn := 0) (a_move rfl) rfl rfl ?_  -- [1] t93 := Op.move (t16)
      refine ops_ret (fn := 0) ((by first | exact a_len_sl (show (EV gl).P.underlying 65 = _ from Tryd.underlying65) rfl | exact a_len_ref (show (EV gl).P.underlying 65 = _ from Tryd.underlying65) rfl)) rfl rfl ?_  -- [2] t94 := Op.call { callee := Callee.builtin Builtin.len, args := #[t93], argTypes := #[65] }
      refine ops_ret (fn := 0) (a_add rfl rfl (by first | exact w64 (by omega) | rfl)) rfl rfl ?_  -- [3] t95 := Op.binOp BinOp.add 3 (t92) (t94) 3
      refine ops_ret (fn := 0) (a_assign (y := .v (.int _ _)) rfl) rfl rfl ?_  -- [4] t10 := Op.assign (t95)
      refine ops_nil ?_
      refine run_seq ?_
      refine run_region ?_
      refine ops_ret (fn := 0) (a_move (y := .v (.bool _)) rfl) rfl rfl ?_  -- [0] t96 := Op.move (t17)
      refine ops_nil ?_
      refine run_cond rfl (fun h3 => ?_) (fun h3 => ?_)
      · rw [h3] at hg2
        refine run_region ?_
        refine ops_ret (fn := 0) (a_move (y := .v (.int _ _)) rfl) rfl rfl ?_  -- [0] t97 := Op.move (t11)
        refine ops_ret (fn := 0) (a_add rfl rfl (w64 (by have := hg2.2.2.2; omega))) rfl rfl ?_  -- [1] t98 := Op.binOp BinOp.add 3 (t97) (#(int i64 1)) 3
        refine ops_ret (fn := 0) (a_assign (y := .v (.int _ _)) rfl) rfl rfl ?_  -- [2] t11 := Op.assign (t98)
        refine ops_nil ?_
        refine run_inBlock ?_
        refine run_region ?_
        refine ops_ret (fn := 0) (a_add rfl rfl (by first | exact w64 (by omega) | rfl)) rfl rfl ?_  -- [0] t99 := Op.binOp BinOp.add 3 (t59) (#(int i64 1)) 3
        refine ops_ret (fn := 0) (a_move (y := .v (.int _ _)) rfl) rfl rfl ?_  -- [1] t59 := Op.move (t99)
        refine ops_nil ?_
        exact ih (k + 1) _ _ (by omega) ⟨_, (tickL c k).1, _, e + 1, updL_of _ ⟨rfl, rfl, int_eq hd2.symm, int_eq (by omega), int_eq (by omega), trivial⟩, rfl, set0 (stl0 hbox), hlt, hg2⟩
      · rw [h3] at hg2
        refine run_skip ?_
        refine run_inBlock ?_
        refine run_region ?_
        refine ops_ret (fn := 0) (a_add rfl rfl (by first | exact w64 (by omega) | rfl)) rfl rfl ?_  -- [0] t99 := Op.binOp BinOp.add 3 (t59) (#(int i64 1)) 3
        refine ops_ret (fn := 0) (a_move (y := .v (.int _ _)) rfl) rfl rfl ?_  -- [1] t59 := Op.move (t99)
        refine ops_nil ?_
        exact ih (k + 1) _ _ (by omega) ⟨_, (tickL c k).1, _, e, updL_of _ ⟨rfl, rfl, int_eq hd2.symm, rfl, int_eq (by omega), trivial⟩, rfl, set0 (stl0 hbox), hlt, hg2⟩
  · have hge : k = 40 := by have := of_decide_eq_false hc; omega
    subst hge
    obtain ⟨g1, g2, g3, g4⟩ := hgood
    obtain ⟨g5, g6⟩ : c.waits = false ∧ e = 1 := by
      rcases g4 with ⟨_, _, d, f⟩ | h
      · omega
      · exact h
    refine run_exit rfl ?_
    refine run_seq ?_
    refine run_region ?_
    refine ops_ret (fn := 0) (x_fld tst56 rfl rfl rfl) rfl rfl ?_  -- [0] t100 := Op.fieldAddr 56 (t7) 2
    refine ops_ret (fn := 0) (x_load1 rfl ta4 ts4 rfl hbox rfl) rfl rfl ?_  -- [1] t101 := Op.load 4 (t100)
    refine ops_ret (fn := 0) (a_not rfl) rfl rfl ?_  -- [2] t102 := Op.unOp UnOp.not 4 (t101)
    refine ops_ret (fn := 0) (a_move (y := .v (.bool _)) rfl) rfl rfl ?_  -- [3] t103 := Op.move (t102)
    refine ops_yes (fn := 0) rfl rfl rfl (by rw [g5]; rfl) (a_move (y := .v (.int _ _)) rfl) rfl ?_  -- [4] t104 := Op.move (t11)
    refine ops_yes (fn := 0) rfl rfl rfl (by rw [g5]; rfl) (a_eql rfl rfl) rfl ?_  -- [5] t105 := Op.binOp BinOp.eql 3 (t104) (#(int i64 1)) 3
    refine ops_ret (fn := 0) (a_pick_t rfl (by rw [g5]; rfl) rfl) rfl rfl ?_  -- [6] t106 := Op.pick (t103) (t105) (#(bool false))
    refine ops_ret (fn := 0) (a_move (y := .v (.bool _)) rfl) rfl rfl ?_  -- [7] t107 := Op.move (t106)
    refine ops_yes (fn := 0) rfl rfl rfl (decide_eq_true (by omega)) (a_move (y := .v (.int _ _)) rfl) rfl ?_  -- [8] t108 := Op.move (t10)
    refine ops_yes (fn := 0) rfl rfl rfl (decide_eq_true (by omega)) (a_leq rfl rfl) rfl ?_  -- [9] t109 := Op.binOp BinOp.leq 3 (t108) (#(int i64 3)) 3
    refine ops_ret (fn := 0) (a_pick_t rfl (decide_eq_true (by omega)) rfl) rfl rfl ?_  -- [10] t110 := Op.pick (t107) (t109) (#(bool false))
    refine ops_ret (fn := 0) (a_move (y := .v (.bool _)) rfl) rfl rfl ?_  -- [11] t111 := Op.move (t110)
    refine ops_yes (fn := 0) rfl rfl rfl (decide_eq_true g3) (x_fld tst56 rfl rfl rfl) rfl ?_  -- [12] t112 := Op.fieldAddr 56 (t7) 1
    refine ops_yes (fn := 0) rfl rfl rfl (decide_eq_true g3) (x_load1 rfl ta3 ts3 rfl hbox rfl) rfl ?_  -- [13] t113 := Op.load 3 (t112)
    refine ops_yes (fn := 0) rfl rfl rfl (decide_eq_true g3) (a_eql rfl rfl) rfl ?_  -- [14] t114 := Op.binOp BinOp.eql 3 (t113) (#(int i64 1)) 3
    refine ops_ret (fn := 0) (a_pick_t rfl (decide_eq_true g3) rfl) rfl rfl ?_  -- [15] t115 := Op.pick (t111) (t114) (#(bool false))
    refine ops_ret (fn := 0) (a_assign (y := .v (.bool _)) rfl) rfl rfl ?_  -- [16] t6 := Op.assign (t115)
    refine ops_nil ?_
    exact ret1 rfl ⟨by rw [decide_eq_true g1]; exact Le.refl _, Ext.mx _ _⟩
end
end Go.Vm
