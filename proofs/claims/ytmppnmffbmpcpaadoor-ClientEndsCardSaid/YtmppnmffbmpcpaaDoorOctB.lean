/- Layer 2 (octets): contracts, continued; the library's Grow, Concat, Clone at bytes. -/
import Derived.Test.YtmppnmffbmpcpaaDoorOctA
import Derived.Test.YtmppnmffbmpcpaaDoorLibStr
set_option linter.unusedVariables false
set_option linter.unusedSimpArgs false
namespace Go.Vm
open Go.RowKit Go.Proofs
section
variable {gl : Nat → Option (List Value)}


theorem content_bsl {m : AM} (l : List UInt8) : content m 1 (bsl l) = some (bytesA l) := by
  simp [content, bytesA_length]
  rw [List.take_of_length_le (by simp [bytesA_length])]
theorem source_bsl {m : AM} (l : List UInt8) : source m 1 (bsl l) = some (bytesA l) := content_bsl (m := m) l

/-- The letters. -/
abbrev lets : List UInt8 := [98, 119, 113, 111, 116]
def knownL (l : List UInt8) : Bool := l.all fun c => lets.contains c
theorem lets_run : retV (acall (EV gl) 60 91 [.v (.string (bstr lets))] []) = some (.tuple #[asciiVal lets, .bool true]) := by kernel_rfl

theorem known_ok (l : List UInt8) (hl : l.length ≤ 9223372036854775807) : Pure (EV gl) 41 [.v (.string (bstr l))] (.ret (.v (.bool (knownL l)))) := by
  have hk : decide (trimL lets l = []) = knownL l := by
    rw [Bool.eq_iff_iff, decide_eq_true_eq, trimL_nil, knownL, List.all_eq_true]
  refine Pure.mk (fun _ => Nf.v) fun m => ?_
  refine spec_body (fn := Tryd.f41) (n := 6) (rs := [ResultVar.tmp 2]) (by decide) Tryd.func41 rfl rfl rfl rfl ?_
  refine run_seq ?_
  refine run_region ?_
  refine ops_ret (fn := 0) (a_assign (y := .v (.bool _)) rfl) rfl rfl ?_  -- [0] t2 := Op.assign (#(bool false))
  refine ops_nil ?_
  refine run_seq ?_
  refine run_region ?_
  refine ops_ret (fn := 0) (a_move (y := .v (.string (bstr _))) rfl) rfl rfl ?_  -- [0] t3 := Op.move (t0)
  refine ops_pure (trim_ok lets l lets_run (by decide) (by decide) hl) ?_  -- [1] t4 := Op.call { callee := Callee.value (Operand.func 67), args := #[t3, #(string { data := #[98, 119, 113,
  refine ops_ret (fn := 0) (a_eqs rfl rfl) rfl rfl ?_  -- [2] t5 := Op.binOp BinOp.eql 9 (t4) (#(string { data := #[] })) 9
  refine ops_ret (fn := 0) (a_assign (y := .v (.bool _)) rfl) rfl rfl ?_  -- [3] t2 := Op.assign (t5)
  refine ops_nil ?_
  exact ret1 rfl ⟨by rw [hk]; exact Le.refl _, Ext.mx _ _⟩

def wideS (c : UInt8) : Nat := if c.toNat = 98 then 1 else if c.toNat = 119 then 4 else if c.toNat = 113 then 8 else 0
def wideM (c : UInt8) : Int := if c.toNat = 98 then 255 else if c.toNat = 119 then 4294967295 else if c.toNat = 113 then 4611686018427387903 else 0

theorem wide_ok (c : UInt8) : Pure (EV gl) 68 [byteA c] (.ret (.tup [.v (.int .i64 (wideS c : Nat)), .v (.int .i64 (wideM c))])) := by
  refine Pure.mk (fun _ => Nf.tup (by simp [Nf.v])) fun m => ?_
  refine spec_body (fn := Tryd.f68) (n := 11) (rs := [ResultVar.tmp 2, ResultVar.tmp 3]) (by decide) Tryd.func68 rfl rfl rfl rfl ?_
  refine run_seq ?_
  refine run_region ?_
  refine ops_ret (fn := 0) (a_assign (y := .v (.int _ _)) rfl) rfl rfl ?_  -- [0] t2 := Op.assign (#(int i64 0))
  refine ops_ret (fn := 0) (a_assign (y := .v (.int _ _)) rfl) rfl rfl ?_  -- [1] t3 := Op.assign (#(int i64 0))
  refine ops_nil ?_
  refine run_seq ?_
  refine run_seq ?_
  refine run_region ?_
  refine ops_ret (fn := 0) (a_move (y := .v (.int _ _)) rfl) rfl rfl ?_  -- [0] t4 := Op.move (t0)
  refine ops_nil ?_
  refine run_block ?_
  refine run_seq ?_
  refine run_region ?_
  refine ops_ret (fn := 0) (a_eql rfl rfl) rfl rfl ?_  -- [0] t6 := Op.binOp BinOp.eql 5 (t4) (#(int u8 98)) 5
  refine ops_ret (fn := 0) (a_assign (y := .v (.bool _)) rfl) rfl rfl ?_  -- [1] t5 := Op.assign (t6)
  refine ops_nil ?_
  refine run_cond rfl (fun h1 => ?_) (fun h1 => ?_)
  · have h : c.toNat = 98 := by have := of_decide_eq_true h1; omega
    refine run_seq ?_
    refine run_region ?_
    refine ops_ret (fn := 0) (a_assign (y := .v (.int _ _)) rfl) rfl rfl ?_  -- [0] t2 := Op.assign (#(int i64 1))
    refine ops_ret (fn := 0) (a_assign (y := .v (.int _ _)) rfl) rfl rfl ?_  -- [1] t3 := Op.assign (#(int i64 255))
    refine ops_nil ?_
    exact ret2 rfl rfl ⟨by simp only [wideS, wideM, if_pos h]; exact Le.refl _, Ext.mx _ _⟩
  have n1 : ¬ c.toNat = 98 := by have := of_decide_eq_false h1; omega
  refine run_seq ?_
  refine run_region ?_
  refine ops_ret (fn := 0) (a_eql rfl rfl) rfl rfl ?_  -- [0] t8 := Op.binOp BinOp.eql 5 (t4) (#(int u8 119)) 5
  refine ops_ret (fn := 0) (a_assign (y := .v (.bool _)) rfl) rfl rfl ?_  -- [1] t7 := Op.assign (t8)
  refine ops_nil ?_
  refine run_cond rfl (fun h2 => ?_) (fun h2 => ?_)
  · have h : c.toNat = 119 := by have := of_decide_eq_true h2; omega
    refine run_seq ?_
    refine run_region ?_
    refine ops_ret (fn := 0) (a_assign (y := .v (.int _ _)) rfl) rfl rfl ?_  -- [0] t2 := Op.assign (#(int i64 4))
    refine ops_ret (fn := 0) (a_assign (y := .v (.int _ _)) rfl) rfl rfl ?_  -- [1] t3 := Op.assign (#(int i64 4294967295))
    refine ops_nil ?_
    exact ret2 rfl rfl ⟨by simp only [wideS, wideM, if_pos h, if_neg n1]; exact Le.refl _, Ext.mx _ _⟩
  have n2 : ¬ c.toNat = 119 := by have := of_decide_eq_false h2; omega
  refine run_seq ?_
  refine run_region ?_
  refine ops_ret (fn := 0) (a_eql rfl rfl) rfl rfl ?_  -- [0] t10 := Op.binOp BinOp.eql 5 (t4) (#(int u8 113)) 5
  refine ops_ret (fn := 0) (a_assign (y := .v (.bool _)) rfl) rfl rfl ?_  -- [1] t9 := Op.assign (t10)
  refine ops_nil ?_
  refine run_cond rfl (fun h3 => ?_) (fun h3 => ?_)
  · have h : c.toNat = 113 := by have := of_decide_eq_true h3; omega
    refine run_seq ?_
    refine run_region ?_
    refine ops_ret (fn := 0) (a_assign (y := .v (.int _ _)) rfl) rfl rfl ?_  -- [0] t2 := Op.assign (#(int i64 8))
    refine ops_ret (fn := 0) (a_assign (y := .v (.int _ _)) rfl) rfl rfl ?_  -- [1] t3 := Op.assign (#(int i64 4611686018427387903))
    refine ops_nil ?_
    exact ret2 rfl rfl ⟨by simp only [wideS, wideM, if_pos h, if_neg n1, if_neg n2]; exact Le.refl _, Ext.mx _ _⟩
  have n3 : ¬ c.toNat = 113 := by have := of_decide_eq_false h3; omega
  refine run_skip ?_
  refine run_inBlock ?_
  refine run_seq ?_
  refine run_region ?_
  refine ops_ret (fn := 0) (a_assign (y := .v (.int _ _)) rfl) rfl rfl ?_  -- [0] t2 := Op.assign (#(int i64 0))
  refine ops_ret (fn := 0) (a_assign (y := .v (.int _ _)) rfl) rfl rfl ?_  -- [1] t3 := Op.assign (#(int i64 0))
  refine ops_nil ?_
  exact ret2 rfl rfl ⟨by simp only [wideS, wideM, if_neg n1, if_neg n2, if_neg n3]; exact Le.refl _, Ext.mx _ _⟩

/-- A field: a number, bytes. -/
abbrev fldA (n : Int) (b : List UInt8) : List AV := [.v (.int .i64 n), bsl b]
theorem Nf.fld {k : Nat} (n : Int) (b : List UInt8) : ∀ x ∈ fldA n b, Nf k x := by
  intro x hx
  simp only [fldA, List.mem_cons, List.mem_nil_iff, or_false] at hx
  rcases hx with rfl | rfl
  · exact Nf.v
  · exact Nf.bsl b
theorem Le.agg2 {a b a' b' : AV} (h1 : Le a a') (h2 : Le b b') : Le (.agg [a, b]) (.agg [a', b']) := fun g v hr => by
  simp only [Rep] at hr ⊢
  obtain ⟨l, e, hl⟩ := hr
  refine ⟨l, e, ?_⟩
  obtain ⟨v1, s, rfl, k1, k2⟩ := hl
  obtain ⟨v2, s2, rfl, k3, k4⟩ := k2
  exact ⟨v1, _, rfl, h1 g _ k1, v2, s2, rfl, h2 g _ k3, k4⟩

theorem num_ok (n : Int) : Pure (EV gl) 39 [.v (.int .i64 n)] (.ret (.agg (fldA n []))) := by
  refine Pure.mk (fun _ => Nf.agg (Nf.fld n [])) fun m => ?_
  refine spec_body (fn := Tryd.f39) (n := 5) (rs := [ResultVar.cell 2 26]) (by decide) Tryd.func39 rfl rfl rfl rfl ?_
  refine run_seq ?_
  refine run_region ?_
  refine ops_ret (fn := 0) (x_alloc rfl tz26 rfl) rfl rfl ?_  -- [0] t2 := Op.alloc 26
  refine ops_nil ?_
  refine run_seq ?_
  refine run_region ?_
  refine ops_ret (fn := 0) (a_move (y := .v (.int _ _)) rfl) rfl rfl ?_  -- [0] t3 := Op.move (t0)
  refine ops_ret (fn := 0) (x_build tst26 rfl rfl rfl) rfl rfl ?_  -- [1] t4 := Op.build 26 #[(0, t3)]
  refine ops_ret (fn := 0) (x_store rfl ts26 rfl rfl rfl rfl rfl rfl rfl rfl) rfl rfl ?_  -- [2] none := Op.store 26 (t2) (t4)
  refine ops_nil ?_
  exact retc rfl (ald_agg ta26 ts26 (mx_get rfl rfl) rfl rfl) ⟨Le.agg2 (Le.refl _) Le.nil, Ext.mx _ _⟩

theorem obytes_ok (b : List UInt8) : Pure (EV gl) 84 [bsl b] (.ret (.agg (fldA 0 b))) := by
  refine Pure.mk (fun _ => Nf.agg (Nf.fld 0 b)) fun m => ?_
  refine spec_body (fn := Tryd.f84) (n := 5) (rs := [ResultVar.cell 2 26]) (by decide) Tryd.func84 rfl rfl rfl rfl ?_
  refine run_seq ?_
  refine run_region ?_
  refine ops_ret (fn := 0) (x_alloc rfl tz26 rfl) rfl rfl ?_  -- [0] t2 := Op.alloc 26
  refine ops_nil ?_
  refine run_seq ?_
  refine run_region ?_
  refine ops_ret (fn := 0) (a_move rfl) rfl rfl ?_  -- [0] t3 := Op.move (t0)
  refine ops_ret (fn := 0) (x_build tst26 rfl rfl rfl) rfl rfl ?_  -- [1] t4 := Op.build 26 #[(1, t3)]
  refine ops_ret (fn := 0) (x_store rfl ts26 rfl rfl rfl rfl rfl rfl rfl rfl) rfl rfl ?_  -- [2] none := Op.store 26 (t2) (t4)
  refine ops_nil ?_
  exact retc rfl (ald_agg ta26 ts26 (mx_get rfl rfl) rfl rfl) ⟨Le.agg2 (Le.refl _) (Le.refl _), Ext.mx _ _⟩

theorem text_ok (b : List UInt8) (hb : b.length ≤ maxLen) : Pure (EV gl) 40 [.v (.string (bstr b))] (.ret (.agg (fldA 0 b))) := by
  refine Pure.mk (fun _ => Nf.agg (Nf.fld 0 b)) fun m => ?_
  refine spec_body (fn := Tryd.f40) (n := 6) (rs := [ResultVar.cell 2 26]) (by decide) Tryd.func40 rfl rfl rfl rfl ?_
  refine run_seq ?_
  refine run_region ?_
  refine ops_ret (fn := 0) (x_alloc rfl tz26 rfl) rfl rfl ?_  -- [0] t2 := Op.alloc 26
  refine ops_nil ?_
  refine run_seq ?_
  refine run_region ?_
  refine ops_ret (fn := 0) (a_move (y := .v (.string (bstr _))) rfl) rfl rfl ?_  -- [0] t3 := Op.move (t0)
  refine ops_ret (fn := 0) (x_bytes rfl (show (EV gl).P.underlying 9 = _ from Tryd.underlying9) (show (EV gl).P.underlying 24 = _ from Tryd.underlying24) tib24 rfl hb) rfl rfl ?_  -- [1] t4 := Op.convert 9 24 (t3)
  refine ops_ret (fn := 0) (x_build tst26 rfl rfl rfl) rfl rfl ?_  -- [2] t5 := Op.build 26 #[(1, t4)]
  refine ops_ret (fn := 0) (x_store rfl ts26 rfl rfl rfl rfl rfl rfl rfl rfl) rfl rfl ?_  -- [3] none := Op.store 26 (t2) (t5)
  refine ops_nil ?_
  exact retc rfl (ald_agg ta26 ts26 (mx_get rfl rfl) rfl rfl) ⟨Le.agg2 (Le.refl _) Le.disown, Ext.mx _ _⟩

theorem clone_ok (b : List UInt8) (hb : b.length ≤ maxBytes) : Pure (EV gl) 58 [bsl b] (.ret (bsl b)) := by
  refine Pure.mk (fun _ => Nf.bsl b) fun m => ?_
  refine spec_body (fn := Tryd.f58) (n := 8) (rs := [ResultVar.tmp 2]) (by decide) Tryd.func58 rfl rfl rfl rfl ?_
  refine run_seq ?_
  refine run_region ?_
  refine ops_ret (fn := 0) (a_assign rfl) rfl rfl ?_  -- [0] t2 := Op.assign (#(slice none 0 0))
  refine ops_nil ?_
  refine run_seq ?_
  refine run_seq ?_
  refine run_region ?_
  refine ops_ret (fn := 0) (a_move rfl) rfl rfl ?_  -- [0] t3 := Op.move (t0)
  refine ops_isnil (show (EV gl).P.underlying 24 = _ from Tryd.underlying24) rfl rfl fun z hz => ?_  -- [1] t4 := Op.binOp BinOp.eql 24 (t3) (#(slice none 0 0)) 24
  refine ops_nil ?_
  refine run_cond rfl (fun h => ?_) (fun h => ?_)
  · have hn := hz h
    have hbn : b = [] := by simpa [bytesA] using hn
    subst hbn
    refine run_seq ?_
    refine run_region ?_
    refine ops_ret (fn := 0) (a_assign rfl) rfl rfl ?_  -- [0] t2 := Op.assign (#(slice none 0 0))
    refine ops_nil ?_
    exact ret1 rfl ⟨Le.nil, Ext.mx _ _⟩
  refine run_skip ?_
  refine run_seq ?_
  refine run_region ?_
  refine ops_ret (fn := 0) (x_litb rfl tsl24 tib24 rfl rfl rfl) rfl rfl ?_  -- [0] t5 := Op.buildSlice 24 0 #[]
  refine ops_ret (fn := 0) (a_move rfl) rfl rfl ?_  -- [1] t6 := Op.move (t0)
  refine ops_append (m0 := m) (e := 5) 0 b.length 0 rfl tsl24 (show (EV gl).P.underlying 24 = _ from Tryd.underlying24) rfl rfl ⟨Ext.mx _ _, .inr (.inl ⟨0, _, _, [], rfl, rfl, by simp, mx_get rfl rfl, by omega⟩)⟩ (source_bsl b) rfl (by simp [bytesA]) (bytesA_one b) rfl (by simpa using hb) (by unfold maxBytes at hb; unfold maxLen; omega) fun x' M' hacc' _ => ?_  -- [2] t7 := Op.call { callee := Callee.builtin Builtin.append, args := #[t5, t6], argTypes := #[24, 24] }
  refine ops_ret (fn := 0) (a_assign rfl) rfl rfl ?_  -- [3] t2 := Op.assign (t7)
  refine ops_nil ?_
  exact ret1 rfl ⟨hacc'.le (by decide) (by simp [bytesA]), hacc'.1⟩
end
end Go.Vm
