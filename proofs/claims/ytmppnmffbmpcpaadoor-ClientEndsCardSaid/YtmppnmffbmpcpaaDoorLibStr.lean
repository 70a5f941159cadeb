/- The library's strings.Trim at a set of small letters; pieces of a text. -/
import Derived.Test.YtmppnmffbmpcpaaDoorCxTy
set_option linter.unusedVariables false
set_option linter.unusedSimpArgs false
namespace Go.Vm
open Go.RowKit Go.Proofs

def asciiVal (cut : List UInt8) : Value := .agg ((List.range 256).map fun i => Value.bool (cut.contains (UInt8.ofNat i))).toArray
def asciiCells (cut : List UInt8) : List AV := (List.range 256).map fun i => AV.v (.bool (cut.contains (UInt8.ofNat i)))
theorem asciiCells_get (cut : List UInt8) (c : UInt8) : (asciiCells cut)[0 + c.toNat * 1]? = some (.v (.bool (cut.contains c))) := by
  have h : c.toNat < 256 := c.toNat_lt
  simp only [asciiCells, Nat.zero_add, Nat.mul_one, List.getElem?_map]
  rw [List.getElem?_range h]
  simp
theorem asciiVal_cells (cut : List UInt8) : (AV.v (asciiVal cut)).cells = asciiCells cut := by
  simp [asciiVal, asciiCells, AV.cells]
theorem asciiCells_one (cut : List UInt8) : (asciiCells cut).all AV.one = true := by simp [asciiCells, AV.one]

theorem zcells (n : Nat) (v : Value) : (Value.agg (Array.replicate n v)).cells.toList.map AV.v = List.replicate n (.v v) := by simp [Value.cells]
theorem putAt_all {cells xs : List AV} (h : cells.length = xs.length) : putAt cells 0 xs = xs := by
  unfold putAt
  rw [List.take_zero, List.nil_append, Nat.zero_add, ← h, List.drop_length, List.append_nil]
theorem asciiCells_length (cut : List UInt8) : (asciiCells cut).length = 256 := by rw [asciiCells, List.length_map, List.length_range]

section
variable {gl : Nat → Option (List Value)}

theorem makeSet_ok (cut : List UInt8) (h : retV (acall (EV gl) 60 91 [.v (.string (bstr cut))] []) = some (.tuple #[asciiVal cut, .bool true])) : Pure (EV gl) 91 [.v (.string (bstr cut))] (.ret (.v (.tuple #[asciiVal cut, .bool true]))) :=
  Pure.run ev_ok (fun x hx => by simp only [List.mem_singleton] at hx; subst hx; exact Nf.v) h

theorem contains_ok (cut : List UInt8) (c : UInt8) {M : AM} {i : Nat} (hM : M[i]? = some (.wr (asciiCells cut) 149 false)) : Spec (EV gl) 117 [.ptr i 0, byteA c] M fun r M' => r = .ret (.v (.bool (cut.contains c))) ∧ M' = M := by
  refine Spec.mx ?_
  refine spec_body (fn := Tryd.f117) (n := 10) (rs := [ResultVar.tmp 4]) (by decide) Tryd.func117 rfl rfl rfl rfl ?_
  refine run_seq ?_
  refine run_region ?_
  refine ops_ret (fn := 0) (a_assign (y := .v (.bool _)) rfl) rfl rfl ?_  -- [0] t4 := Op.assign (#(bool false))
  refine ops_nil ?_
  refine run_seq ?_
  refine run_region ?_
  refine ops_ret (fn := 0) (a_move rfl) rfl rfl ?_  -- [0] t5 := Op.move (t0)
  refine ops_ret (fn := 0) (a_move (y := .v (.int _ _)) rfl) rfl rfl ?_  -- [1] t6 := Op.move (t1)
  refine ops_ret (fn := 0) (a_nilCheck_ptr rfl) rfl rfl ?_  -- [2] t7 := Op.nilCheck (t5)
  refine ops_ret (fn := 0) (x_idx_arr (show (EV gl).P.underlying 149 = _ from Tryd.underlying149) ts4 rfl rfl rfl c.toNat_lt) rfl rfl ?_  -- [3] t8 := Op.indexAddr 149 (t7) (t6)
  refine ops_ret (fn := 0) (x_load1b hM ta4 ts4 rfl (asciiCells_get cut c)) rfl rfl ?_  -- [4] t9 := Op.load 4 (t8)
  refine ops_ret (fn := 0) (a_assign (y := .v (.bool _)) rfl) rfl rfl ?_  -- [5] t4 := Op.assign (t9)
  refine ops_nil ?_
  exact ret1 rfl ⟨rfl, (mx_nil M).symm⟩

def rdrop (p : UInt8 → Bool) (l : List UInt8) : List UInt8 := (l.reverse.dropWhile p).reverse
theorem rdrop_length (p : UInt8 → Bool) (l : List UInt8) : (rdrop p l).length ≤ l.length := by
  unfold rdrop
  rw [List.length_reverse]
  have := (List.dropWhile_suffix (l := l.reverse) p).length_le
  simpa using this
theorem rdrop_concat (p : UInt8 → Bool) (l : List UInt8) (c : UInt8) : rdrop p (l ++ [c]) = if p c then rdrop p l else l ++ [c] := by
  unfold rdrop
  simp only [List.reverse_append, List.reverse_cons, List.reverse_nil, List.nil_append, List.singleton_append, List.dropWhile_cons]
  split <;> simp

theorem trimRight_ok (cut l : List UInt8) {M : AM} {i : Nat} (hl : l.length ≤ 9223372036854775807) (hM : M[i]? = some (.wr (asciiCells cut) 149 false)) :
    Spec (EV gl) 93 [.v (.string (bstr l)), .ptr i 0] M fun r M' => r = .ret (.v (.string (bstr (rdrop (cut.contains ·) l)))) ∧ M' = M := by
  refine Spec.mx ?_
  refine spec_body (fn := Tryd.f93) (n := 22) (rs := [ResultVar.tmp 4]) (by decide) Tryd.func93 rfl rfl rfl rfl ?_
  refine run_seq ?_
  refine run_region ?_
  refine ops_ret (fn := 0) (a_assign (y := .v (.string (bstr _))) rfl) rfl rfl ?_  -- [0] t4 := Op.assign (#(string { data := #[] }))
  refine ops_nil ?_
  refine run_seq ?_
  refine run_block ?_
  refine run_ind (α := List UInt8) (fun s φ M' => ∃ ψ, φ = updL ψ [(0, .v (.string (bstr s))), (1, .ptr i 0)] ∧ M' = mx M [] ∧ rdrop (cut.contains ·) s = rdrop (cut.contains ·) l ∧ s.length ≤ l.length) List.length l ⟨_, updL_of _ ⟨rfl, rfl, trivial⟩, rfl, rfl, Nat.le_refl _⟩ ?_
  rintro s φ M' ⟨ψ, rfl, rfl, hs, hle⟩ ih
  refine run_seq ?_
  refine run_seq ?_
  refine run_region ?_
  refine ops_ret (fn := 0) (a_move (y := .v (.string (bstr _))) rfl) rfl rfl ?_  -- [0] t5 := Op.move (t0)
  refine ops_ret (fn := 0) (x_len_str (show (EV gl).P.underlying 9 = _ from Tryd.underlying9) rfl) rfl rfl ?_  -- [1] t6 := Op.call { callee := Callee.builtin Builtin.len, args := #[t5], argTypes := #[9] }
  refine ops_ret (fn := 0) (a_gtr rfl rfl) rfl rfl ?_  -- [2] t7 := Op.binOp BinOp.gtr 3 (t6) (#(int i64 0)) 3
  refine ops_nil ?_
  refine run_cond rfl (fun hc => ?_) (fun hc => ?_)
  · have hpos : 0 < s.length := by have := of_decide_eq_true hc; omega
    obtain ⟨t, c, rfl⟩ : ∃ t c, s = t ++ [c] := by
      rcases List.eq_nil_or_concat s with h | ⟨t, c, h⟩
      · rw [h] at hpos; simp at hpos
      · exact ⟨t, c, by rw [h]; simp⟩
    have hlen : (t ++ [c]).length = t.length + 1 := by simp
    refine run_skip ?_
    refine run_block ?_
    refine run_seq ?_
    refine run_seq ?_
    refine run_region ?_
    refine ops_ret (fn := 0) (a_move rfl) rfl rfl ?_  -- [0] t8 := Op.move (t1)
    refine ops_ret (fn := 0) (a_move (y := .v (.string (bstr _))) rfl) rfl rfl ?_  -- [1] t9 := Op.move (t0)
    refine ops_ret (fn := 0) (a_move (y := .v (.string (bstr _))) rfl) rfl rfl ?_  -- [2] t10 := Op.move (t0)
    refine ops_ret (fn := 0) (x_len_str (show (EV gl).P.underlying 9 = _ from Tryd.underlying9) rfl) rfl rfl ?_  -- [3] t11 := Op.call { callee := Callee.builtin Builtin.len, args := #[t10], argTypes := #[9] }
    refine ops_ret (fn := 0) (a_sub rfl rfl (by first | exact w64 (by omega) | rfl)) rfl rfl ?_  -- [4] t12 := Op.binOp BinOp.sub 3 (t11) (#(int i64 1)) 3
    refine ops_ret (fn := 0) (a_index_str (show (EV gl).P.underlying 9 = _ from Tryd.underlying9) rfl rfl (b := c) (show _ = ((t.length : Nat) : Int) by rw [hlen]; omega) (by simp)) rfl rfl ?_  -- [5] t13 := Op.index 9 (t9) (t12)
    refine ops_det (contains_ok cut c (mx_base hM)) ?_  -- [6] t14 := Op.call { callee := Callee.value (Operand.func 117), args := #[t8, t13], argTypes := #[153, 5] }
    refine ops_ret (fn := 0) (a_not rfl) rfl rfl ?_  -- [7] t15 := Op.unOp UnOp.not 4 (t14)
    refine ops_nil ?_
    refine run_cond rfl (fun hn => ?_) (fun hn => ?_)
    · have hn' : cut.contains c = false := by simpa using hn
      refine run_exit rfl ?_
      refine run_seq ?_
      refine run_region ?_
      refine ops_ret (fn := 0) (a_move (y := .v (.string (bstr _))) rfl) rfl rfl ?_  -- [0] t21 := Op.move (t0)
      refine ops_ret (fn := 0) (a_assign (y := .v (.string (bstr _))) rfl) rfl rfl ?_  -- [1] t4 := Op.assign (t21)
      refine ops_nil ?_
      refine ret1 (x := .v (.string (bstr _))) rfl ⟨?_, (mx_nil M).symm⟩
      rw [← hs, rdrop_concat]
      simp only [hn', Bool.false_eq_true, if_false]
    · have hn' : cut.contains c = true := by simpa using hn
      refine run_skip ?_
      refine run_region ?_
      refine ops_ret (fn := 0) (a_move (y := .v (.string (bstr _))) rfl) rfl rfl ?_  -- [0] t16 := Op.move (t0)
      refine ops_ret (fn := 0) (a_move (y := .v (.string (bstr _))) rfl) rfl rfl ?_  -- [1] t17 := Op.move (t0)
      refine ops_ret (fn := 0) (x_len_str (show (EV gl).P.underlying 9 = _ from Tryd.underlying9) rfl) rfl rfl ?_  -- [2] t18 := Op.call { callee := Callee.builtin Builtin.len, args := #[t17], argTypes := #[9] }
      refine ops_ret (fn := 0) (a_sub rfl rfl (by first | exact w64 (by omega) | rfl)) rfl rfl ?_  -- [3] t19 := Op.binOp BinOp.sub 3 (t18) (#(int i64 1)) 3
      refine ops_ret (fn := 0) (a_slice_str (a := 0) (b := t.length) (show (EV gl).P.underlying 9 = _ from Tryd.underlying9) rfl rfl ⟨_, _, rfl, by rw [hlen]; omega⟩ (Nat.zero_le _) (by omega)) rfl rfl ?_  -- [4] t20 := Op.slice 9 (t16) none (some (t19)) none
      refine ops_ret (fn := 0) (a_assign (y := .v (.string (bstr _))) rfl) rfl rfl ?_  -- [5] t0 := Op.assign (t20)
      refine ops_nil ?_
      refine run_inBlock ?_
      have htk : ((t ++ [c]).take t.length).drop 0 = t := by simp
      refine ih t _ _ (by simp) ⟨_, updL_of _ ⟨by show AV.v (.string (bstr (((t ++ [c]).take t.length).drop 0))) = _; rw [htk], rfl, trivial⟩, rfl, ?_, by omega⟩
      rw [← hs, rdrop_concat]
      simp only [hn', if_true]
  · have h0 : s = [] := by
      have := of_decide_eq_false hc
      exact List.length_eq_zero_iff.1 (by omega)
    subst h0
    refine run_exit rfl ?_
    refine run_seq ?_
    refine run_region ?_
    refine ops_ret (fn := 0) (a_move (y := .v (.string (bstr _))) rfl) rfl rfl ?_  -- [0] t21 := Op.move (t0)
    refine ops_ret (fn := 0) (a_assign (y := .v (.string (bstr _))) rfl) rfl rfl ?_  -- [1] t4 := Op.assign (t21)
    refine ops_nil ?_
    exact ret1 (x := .v (.string (bstr _))) rfl ⟨by rw [← hs]; rfl, (mx_nil M).symm⟩

theorem trimLeft_ok (cut l : List UInt8) {M : AM} {i : Nat} (hl : l.length ≤ 9223372036854775807) (hM : M[i]? = some (.wr (asciiCells cut) 149 false)) :
    Spec (EV gl) 92 [.v (.string (bstr l)), .ptr i 0] M fun r M' => r = .ret (.v (.string (bstr (l.dropWhile (cut.contains ·))))) ∧ M' = M := by
  refine Spec.mx ?_
  refine spec_body (fn := Tryd.f92) (n := 16) (rs := [ResultVar.tmp 4]) (by decide) Tryd.func92 rfl rfl rfl rfl ?_
  refine run_seq ?_
  refine run_region ?_
  refine ops_ret (fn := 0) (a_assign (y := .v (.string (bstr _))) rfl) rfl rfl ?_  -- [0] t4 := Op.assign (#(string { data := #[] }))
  refine ops_nil ?_
  refine run_seq ?_
  refine run_block ?_
  refine run_ind (α := List UInt8) (fun s φ M' => ∃ ψ, φ = updL ψ [(0, .v (.string (bstr s))), (1, .ptr i 0)] ∧ M' = mx M [] ∧ s.dropWhile (cut.contains ·) = l.dropWhile (cut.contains ·)) List.length l ⟨_, updL_of _ ⟨rfl, rfl, trivial⟩, rfl, rfl⟩ ?_
  rintro s φ M' ⟨ψ, rfl, rfl, hs⟩ ih
  refine run_seq ?_
  refine run_seq ?_
  refine run_region ?_
  refine ops_ret (fn := 0) (a_move (y := .v (.string (bstr _))) rfl) rfl rfl ?_  -- [0] t5 := Op.move (t0)
  refine ops_ret (fn := 0) (x_len_str (show (EV gl).P.underlying 9 = _ from Tryd.underlying9) rfl) rfl rfl ?_  -- [1] t6 := Op.call { callee := Callee.builtin Builtin.len, args := #[t5], argTypes := #[9] }
  refine ops_ret (fn := 0) (a_gtr rfl rfl) rfl rfl ?_  -- [2] t7 := Op.binOp BinOp.gtr 3 (t6) (#(int i64 0)) 3
  refine ops_nil ?_
  refine run_cond rfl (fun hc => ?_) (fun hc => ?_)
  · have hpos : 0 < s.length := by have := of_decide_eq_true hc; omega
    obtain ⟨c, t, rfl⟩ : ∃ c t, s = c :: t := by
      cases s with
      | nil => simp at hpos
      | cons c t => exact ⟨c, t, rfl⟩
    refine run_skip ?_
    refine run_block ?_
    refine run_seq ?_
    refine run_seq ?_
    refine run_region ?_
    refine ops_ret (fn := 0) (a_move rfl) rfl rfl ?_  -- [0] t8 := Op.move (t1)
    refine ops_ret (fn := 0) (a_move (y := .v (.string (bstr _))) rfl) rfl rfl ?_  -- [1] t9 := Op.move (t0)
    refine ops_ret (fn := 0) (a_index_str (k := 0) (show (EV gl).P.underlying 9 = _ from Tryd.underlying9) rfl rfl rfl rfl) rfl rfl ?_  -- [2] t10 := Op.index 9 (t9) (#(int i64 0))
    refine ops_det (contains_ok cut c (mx_base hM)) ?_  -- [3] t11 := Op.call { callee := Callee.value (Operand.func 117), args := #[t8, t10], argTypes := #[153, 5] }
    refine ops_ret (fn := 0) (a_not rfl) rfl rfl ?_  -- [4] t12 := Op.unOp UnOp.not 4 (t11)
    refine ops_nil ?_
    refine run_cond rfl (fun hn => ?_) (fun hn => ?_)
    · have hn' : cut.contains c = false := by simpa using hn
      refine run_exit rfl ?_
      refine run_seq ?_
      refine run_region ?_
      refine ops_ret (fn := 0) (a_move (y := .v (.string (bstr _))) rfl) rfl rfl ?_  -- [0] t15 := Op.move (t0)
      refine ops_ret (fn := 0) (a_assign (y := .v (.string (bstr _))) rfl) rfl rfl ?_  -- [1] t4 := Op.assign (t15)
      refine ops_nil ?_
      refine ret1 (x := .v (.string (bstr _))) rfl ⟨?_, (mx_nil M).symm⟩
      rw [← hs, List.dropWhile_cons]
      simp only [hn', Bool.false_eq_true, if_false]
    · have hn' : cut.contains c = true := by simpa using hn
      refine run_skip ?_
      refine run_region ?_
      refine ops_ret (fn := 0) (a_move (y := .v (.string (bstr _))) rfl) rfl rfl ?_  -- [0] t13 := Op.move (t0)
      refine ops_ret (fn := 0) (a_slice_str (a := 1) (b := (c :: t).length) (show (EV gl).P.underlying 9 = _ from Tryd.underlying9) rfl ⟨_, _, rfl, rfl⟩ rfl (by simp) (Nat.le_refl _)) rfl rfl ?_  -- [1] t14 := Op.slice 9 (t13) (some (#(int i64 1))) none none
      refine ops_ret (fn := 0) (a_assign (y := .v (.string (bstr _))) rfl) rfl rfl ?_  -- [2] t0 := Op.assign (t14)
      refine ops_nil ?_
      refine run_inBlock ?_
      have htk : ((c :: t).take (c :: t).length).drop 1 = t := by simp
      refine ih t _ _ (by simp) ⟨_, updL_of _ ⟨by show AV.v (.string (bstr (((c :: t).take (c :: t).length).drop 1))) = _; rw [htk], rfl, trivial⟩, rfl, ?_⟩
      rw [← hs, List.dropWhile_cons]
      simp only [hn', if_true]
  · have h0 : s = [] := by
      have := of_decide_eq_false hc
      exact List.length_eq_zero_iff.1 (by omega)
    subst h0
    refine run_exit rfl ?_
    refine run_seq ?_
    refine run_region ?_
    refine ops_ret (fn := 0) (a_move (y := .v (.string (bstr _))) rfl) rfl rfl ?_  -- [0] t15 := Op.move (t0)
    refine ops_ret (fn := 0) (a_assign (y := .v (.string (bstr _))) rfl) rfl rfl ?_  -- [1] t4 := Op.assign (t15)
    refine ops_nil ?_
    exact ret1 (x := .v (.string (bstr _))) rfl ⟨by rw [← hs]; rfl, (mx_nil M).symm⟩

/-- What strings.Trim leaves. -/
def trimL (cut l : List UInt8) : List UInt8 := (rdrop (cut.contains ·) l).dropWhile (cut.contains ·)
theorem dropWhile_nil {p : UInt8 → Bool} : ∀ l : List UInt8, l.dropWhile p = [] ↔ ∀ c ∈ l, p c = true
  | [] => by simp
  | a :: l => by
    rw [List.dropWhile_cons]
    by_cases h : p a = true
    · rw [if_pos h, dropWhile_nil l]; simp [h]
    · rw [if_neg h]; simp [h]
theorem trimL_nil (cut l : List UInt8) : trimL cut l = [] ↔ ∀ c ∈ l, cut.contains c = true := by
  unfold trimL rdrop
  rw [dropWhile_nil]
  constructor
  · intro h c hc
    have key : ∀ (r : List UInt8), (∀ x ∈ (r.dropWhile (cut.contains ·)), cut.contains x = true) → ∀ x ∈ r, cut.contains x = true := by
      intro r
      induction r with
      | nil => simp
      | cons a r ih =>
        intro h x hx
        rw [List.dropWhile_cons] at h
        by_cases ha : cut.contains a = true
        · rw [if_pos ha] at h
          rcases List.mem_cons.1 hx with rfl | hx
          · exact ha
          · exact ih h x hx
        · rw [if_neg ha] at h
          exact h x hx
    exact key l.reverse (fun x hx => h x (List.mem_reverse.2 hx)) c (List.mem_reverse.2 hc)
  · intro h c hc
    exact h c (List.mem_reverse.1 ((List.dropWhile_suffix (l := l.reverse) (cut.contains ·)).subset (List.mem_reverse.1 hc)))

theorem trim_ok (cut l : List UInt8) (h : retV (acall (EV gl) 60 91 [.v (.string (bstr cut))] []) = some (.tuple #[asciiVal cut, .bool true])) (h2 : 2 ≤ cut.length) (hc : cut.length ≤ 100) (hl : l.length ≤ 9223372036854775807) :
    Pure (EV gl) 67 [.v (.string (bstr l)), .v (.string (bstr cut))] (.ret (.v (.string (bstr (trimL cut l))))) := by
  have hcn : decide (cut = []) = false := by
    cases cut with
    | nil => simp at h2
    | cons => simp
  have hln : decide (((cut.length : Nat) : Int) = 1) = false := by
    have : ¬ ((cut.length : Nat) : Int) = 1 := by omega
    simpa using this
  refine Pure.mk (fun _ => Nf.v) fun m => ?_
  refine spec_body (fn := Tryd.f67) (n := 43) (rs := [ResultVar.tmp 4]) (by decide) Tryd.func67 rfl rfl rfl rfl ?_
  refine run_seq ?_
  refine run_region ?_
  refine ops_ret (fn := 0) (a_assign (y := .v (.string (bstr _))) rfl) rfl rfl ?_  -- [0] t4 := Op.assign (#(string { data := #[] }))
  refine ops_nil ?_
  refine run_seq ?_
  refine run_seq ?_
  by_cases hl0 : l = []
  · subst hl0
    refine run_region ?_
    refine ops_ret (fn := 0) (a_move (y := .v (.string (bstr _))) rfl) rfl rfl ?_  -- [0] t7 := Op.move (t0)
    refine ops_ret (fn := 0) (a_eqs rfl rfl) rfl rfl ?_  -- [1] t8 := Op.binOp BinOp.eql 9 (t7) (#(string { data := #[] })) 9
    refine ops_ret (fn := 0) (a_move (y := .v (.bool _)) rfl) rfl rfl ?_  -- [2] t9 := Op.move (t8)
    refine ops_not rfl rfl rfl rfl ?_  -- [3] t10 := Op.move (t1)
    refine ops_not rfl rfl rfl rfl ?_  -- [4] t11 := Op.binOp BinOp.eql 9 (t10) (#(string { data := #[] })) 9
    refine ops_ret (fn := 0) (a_pick_t rfl rfl rfl) rfl rfl ?_  -- [5] t12 := Op.pick (t9) (#(bool true)) (t11)
    refine ops_nil ?_
    refine run_cond rfl (fun _ => ?_) (fun hc => by cases hc)
    refine run_seq ?_
    refine run_region ?_
    refine ops_ret (fn := 0) (a_move (y := .v (.string (bstr _))) rfl) rfl rfl ?_  -- [0] t13 := Op.move (t0)
    refine ops_ret (fn := 0) (a_assign (y := .v (.string (bstr _))) rfl) rfl rfl ?_  -- [1] t4 := Op.assign (t13)
    refine ops_nil ?_
    exact ret1 rfl ⟨Le.refl _, Ext.mx _ _⟩
  · have hld : decide (l = []) = false := by simpa using hl0
    refine run_region ?_
    refine ops_ret (fn := 0) (a_move (y := .v (.string (bstr _))) rfl) rfl rfl ?_  -- [0] t7 := Op.move (t0)
    refine ops_ret (fn := 0) (a_eqs rfl rfl) rfl rfl ?_  -- [1] t8 := Op.binOp BinOp.eql 9 (t7) (#(string { data := #[] })) 9
    refine ops_ret (fn := 0) (a_move (y := .v (.bool _)) rfl) rfl rfl ?_  -- [2] t9 := Op.move (t8)
    refine ops_yes (fn := 0) rfl rfl rfl hld (a_move (y := .v (.string (bstr _))) rfl) rfl ?_  -- [3] t10 := Op.move (t1)
    refine ops_yes (fn := 0) rfl rfl rfl hld (a_eqs rfl rfl) rfl ?_  -- [4] t11 := Op.binOp BinOp.eql 9 (t10) (#(string { data := #[] })) 9
    refine ops_ret (fn := 0) (a_pick_f rfl hld rfl) rfl rfl ?_  -- [5] t12 := Op.pick (t9) (#(bool true)) (t11)
    refine ops_nil ?_
    refine run_cond rfl (fun hc => ?_) (fun _ => ?_)
    · rw [hcn] at hc
      cases hc
    refine run_skip ?_
    refine run_seq ?_
    refine run_seq ?_
    refine run_region ?_
    refine ops_ret (fn := 0) (a_move (y := .v (.string (bstr _))) rfl) rfl rfl ?_  -- [0] t14 := Op.move (t1)
    refine ops_ret (fn := 0) (x_len_str (show (EV gl).P.underlying 9 = _ from Tryd.underlying9) rfl) rfl rfl ?_  -- [1] t15 := Op.call { callee := Callee.builtin Builtin.len, args := #[t14], argTypes := #[9] }
    refine ops_ret (fn := 0) (a_eql rfl rfl) rfl rfl ?_  -- [2] t16 := Op.binOp BinOp.eql 3 (t15) (#(int i64 1)) 3
    refine ops_ret (fn := 0) (a_move (y := .v (.bool _)) rfl) rfl rfl ?_  -- [3] t17 := Op.move (t16)
    refine ops_not rfl rfl rfl hln ?_  -- [4] t18 := Op.move (t1)
    refine ops_not rfl rfl rfl hln ?_  -- [5] t19 := Op.index 9 (t18) (#(int i64 0))
    refine ops_not rfl rfl rfl hln ?_  -- [6] t20 := Op.binOp BinOp.lss 5 (t19) (#(int u8 128)) 5
    refine ops_ret (fn := 0) (a_pick_f rfl hln rfl) rfl rfl ?_  -- [7] t21 := Op.pick (t17) (t20) (#(bool false))
    refine ops_nil ?_
    refine run_cond rfl (fun hc => ?_) (fun _ => ?_)
    · cases hc
    refine run_skip ?_
    refine run_seq ?_
    refine run_seq ?_
    refine run_region ?_
    refine ops_ret (fn := 0) (a_move (y := .v (.string (bstr _))) rfl) rfl rfl ?_  -- [0] t30 := Op.move (t1)
    refine ops_pure (makeSet_ok cut h) ?_  -- [1] t31 := Op.call { callee := Callee.value (Operand.func 91), args := #[t30], argTypes := #[9] }
    refine ops_ret (fn := 0) (a_move rfl) rfl rfl ?_  -- [2] t29 := Op.move (t31)
    refine ops_ret (fn := 0) (a_extract_v rfl rfl) rfl rfl ?_  -- [3] t32 := Op.extract (t29) 0
    refine ops_ret (fn := 0) (a_extract_v rfl rfl) rfl rfl ?_  -- [4] t33 := Op.extract (t29) 1
    refine ops_ret (fn := 0) (x_alloc rfl (z := .agg (Array.replicate 256 (.bool false))) (cs := List.replicate 256 (.v (.bool false))) (by kernel_rfl) (zcells _ _)) rfl rfl ?_  -- [5] t5 := Op.alloc 149
    refine ops_ret (fn := 0) (x_store rfl ts149 rfl rfl rfl (asciiVal_cells cut) (asciiCells_length cut) (by rw [List.length_replicate]; rfl) (asciiCells_one cut) (putAt_all (by rw [List.length_replicate, asciiCells_length]))) rfl rfl ?_  -- [6] none := Op.store 149 (t5) (t32)
    refine ops_ret (fn := 0) (a_assign (y := .v (.bool _)) rfl) rfl rfl ?_  -- [7] t6 := Op.assign (t33)
    refine ops_nil ?_
    refine run_seq ?_
    refine run_region ?_
    refine ops_ret (fn := 0) (a_move (y := .v (.bool _)) rfl) rfl rfl ?_  -- [0] t34 := Op.move (t6)
    refine ops_nil ?_
    refine run_cond rfl (fun _ => ?_) (fun hc => by cases hc)
    refine run_seq ?_
    refine run_region ?_
    refine ops_ret (fn := 0) (a_move (y := .v (.string (bstr _))) rfl) rfl rfl ?_  -- [0] t35 := Op.move (t0)
    refine ops_det (trimRight_ok cut l hl (mx_get rfl rfl)) ?_  -- [1] t36 := Op.call { callee := Callee.value (Operand.func 93), args := #[t35, t5], argTypes := #[9, 153] }
    refine ops_det (trimLeft_ok cut _ (Nat.le_trans (rdrop_length _ _) hl) (mx_get rfl rfl)) ?_  -- [2] t37 := Op.call { callee := Callee.value (Operand.func 92), args := #[t36, t5], argTypes := #[9, 153] }
    refine ops_ret (fn := 0) (a_assign (y := .v (.string (bstr _))) rfl) rfl rfl ?_  -- [3] t4 := Op.assign (t37)
    refine ops_nil ?_
    exact ret1 rfl ⟨Le.refl _, Ext.mx _ _⟩
end
end Go.Vm
