/- The law ClientNew: whatever the number, it answers true. Nothing is asked of the input; the package's variables stand as the row lays them. -/
import Derived.Test.YtmppnmffbmpcpaaDoorCnew
import Derived.Test.YtmppnmffbmpcpaaDoorTie
import Derived.SevenTiedAt
set_option linter.unusedVariables false
set_option linter.unusedSimpArgs false
namespace Go.Vm
open Go.RowKit Go.Proofs
noncomputable def sentOk (l : List (String × DataW Unit)) : Bool :=
  (List.range 22).all fun i => (List.range l.length).any fun k => match l[k]? with
    | some (n, d) => isErr d && Tryd.prog.globalNamed n == some i && (Tryd.prog.globals[i]?).map (·.type) == some 30
    | none => false
theorem sentOk_spec {l : List (String × DataW Unit)} (h : sentOk l = true) : ∀ i, decide (i < 22) = true → ∃ (k : Nat) (n : String) (d : DataW Unit), l[k]? = some (n, d) ∧ isErr d = true ∧ Tryd.prog.globalNamed n = some i ∧ (Tryd.prog.globals[i]?).map (·.type) = some 30 := by
  intro i hi
  have h1 := List.all_eq_true.1 h i (List.mem_range.2 (of_decide_eq_true hi))
  obtain ⟨k, _, hk⟩ := List.any_eq_true.1 h1
  split at hk
  · rename_i n d hd
    simp only [Bool.and_eq_true, beq_iff_eq] at hk
    exact ⟨k, n, d, hd, hk.1.1, hk.1.2, hk.2⟩
  · cases hk
end Go.Vm
namespace Go.Proofs.YtmppnmffbmpcpaaDoor
open Go.RowKit Go.Vm Go.ChangeShapes Go.WideShapes

theorem cnSent : sentOk Rows.clientNewRow.laid = true := by kernel_rfl

theorem cnInv {fs : List Fact} {V : Nat → Value} {W : World} (hL : laidMet Tryd.prog Rows.clientNewRow.laid W) (hf : ∀ f ∈ fs, FactOk Tryd.prog V f) : Inv (cnEnv fs) W (g0 W V) [] W := by
  refine Inv.begin (E := cnEnv fs) hf (sent_of_laid (E := cnEnv fs) hL errTypes (sentOk_spec cnSent)) fun i cs hg off v hv => ?_
  dsimp only [cnEnv, env] at hg
  simp only [Option.map_eq_some_iff] at hg
  obtain ⟨x, hx, rfl⟩ := hg
  have hm := List.mem_of_find?_eq_some hx
  have hb := List.find?_some hx
  simp only [List.mem_singleton] at hm
  subst hm
  simp only [beq_iff_eq] at hb
  subst hb
  exact arr_in_memory (P := Tryd.prog) hL (k := 23) (n := "cartage/message.words") (t := 203) (e := 9) (m := 11) rfl (by kernel_rfl) (by kernel_rfl) (by kernel_rfl) (by kernel_rfl) (vs := litsOf Rows.laid_cartage_message_words) rfl off v hv

theorem cn_facts {id : Int} (fs : List Fact) (h : ∀ f ∈ fs, ∃ c b, f = ⟨f.op, 3, .x 0, .v (.int .i64 c), .v (.bool b)⟩ ∧ ((f.op = .lss ∧ b = decide (id < c)) ∨ (f.op = .geq ∧ b = decide (c ≤ id)) ∨ (f.op = .gtr ∧ b = decide (c < id)))) :
    ∀ f ∈ fs, FactOk Tryd.prog (fun _ => .int .i64 id) f := by
  intro f hf
  obtain ⟨c, b, he, hb⟩ := h f hf
  refine ⟨.int .i64 id, .int .i64 c, .bool b, by rw [he]; rfl, by rw [he]; rfl, .inl (by rw [he]), fun x y w => ?_⟩
  rw [he]
  rcases hb with ⟨ho, rfl⟩ | ⟨ho, rfl⟩ | ⟨ho, rfl⟩ <;> simp only [ho] <;> simp [eqGuard, binOp, Op.intCmp, run_underlying Tryd.underlying3]

theorem cn_law (id : Int) (W : World) (hL : laidMet Tryd.prog Rows.clientNewRow.laid W) :
    Calls Tryd.prog 6 #[.int .i64 id] W fun e W' => e = .returned (.bool true) ∧ Below W.heap.size W W' := by
  have conc : ∀ k : Int, isTrue (acall (cnEnv []) 400 6 [.v (.int .i64 k)] []) = true → Calls Tryd.prog 6 #[.int .i64 k] W fun e W' => e = .returned (.bool true) ∧ Below W.heap.size W W' := fun k hk =>
    finish (E := cnEnv []) (cnEnv_ok []) (cnInv (V := fun _ => undef) hL fun f h => by cases h) (vs := [.int .i64 k]) (.cons (by simp only [Rep]) .nil) hk
  have symb : ∀ fs, (∀ f ∈ fs, FactOk Tryd.prog (fun _ => .int .i64 id) f) → isTrue (acall (cnEnv fs) 400 6 [.x 0] []) = true → Calls Tryd.prog 6 #[.int .i64 id] W fun e W' => e = .returned (.bool true) ∧ Below W.heap.size W W' := fun fs hf hk =>
    finish (E := cnEnv fs) (cnEnv_ok fs) (cnInv (V := fun _ => .int .i64 id) hL hf) (vs := [.int .i64 id]) (.cons (by simp [Rep, g0, Scal]) .nil) hk
  by_cases h0 : id < 0
  · refine symb cnNeg (cn_facts (id := id) _ fun f hf => ?_) cnN
    simp only [cnNeg, List.mem_singleton] at hf
    subst hf
    exact ⟨0, true, rfl, .inl ⟨rfl, by simp [h0]⟩⟩
  by_cases h8 : 8 ≤ id
  · refine symb cnBig (cn_facts (id := id) _ fun f hf => ?_) cnB
    simp only [cnBig, List.mem_cons, List.mem_nil_iff, or_false] at hf
    rcases hf with rfl | rfl | rfl
    · exact ⟨0, false, rfl, .inl ⟨rfl, by simp [h0]⟩⟩
    · exact ⟨8, true, rfl, .inr (.inl ⟨rfl, by simp [h8]⟩)⟩
    · exact ⟨7, true, rfl, .inr (.inr ⟨rfl, by simp; omega⟩)⟩
  have : id = 0 ∨ id = 1 ∨ id = 2 ∨ id = 3 ∨ id = 4 ∨ id = 5 ∨ id = 6 ∨ id = 7 := by omega
  rcases this with rfl | rfl | rfl | rfl | rfl | rfl | rfl | rfl
  · exact conc _ cn0
  · exact conc _ cn1
  · exact conc _ cn2
  · exact conc _ cn3
  · exact conc _ cn4
  · exact conc _ cn5
  · exact conc _ cn6
  · exact conc _ cn7

/-! ### The row -/
theorem cn_met (os : Os) (args : Array Value) : laidMetH Tryd.prog Rows.clientNewRow.laid ((laidWorldOf Rows.clientNewRow.laid os).forCall (fun _ _ => 0) ⟨#[], args, []⟩).memory := by
  rw [laidMetH_plain (by kernel_rfl)]
  exact laidMet_of_run' 8 (by kernel_rfl) (by kernel_rfl)

set_option maxRecDepth 100000 in
theorem cn_lifted (os : Os) (started : os.Started) (H : Type) (enc : TypeId × Value → H) :
    ReturnsInHanded {} Tryd.checked os 6 .any (fun w args => (Rows.clientNewSpec.pre enc Tryd.prog Tryd.f6 [] false w args ∧ laidMetH Tryd.prog Rows.clientNewRow.laid w) ∧ sizedMet enc Tryd.prog Tryd.f6 (OpenSpec.ofChange Rows.clientNewSpec) false w args)
      (Rows.clientNewSpec.post enc Tryd.prog Tryd.f6 false true false false) := by
  refine returnsInHanded_of_change_and (C := Tryd.checked) (X := fun w _ => laidMetH Tryd.prog Rows.clientNewRow.laid w) (fun _ _ _ hh h => h.of_heap hh) own started (by kernel_rfl) Tryd.func6
    (ChangeSpec.witness_at (enc := enc) (C := Tryd.checked) (os := os) (X := fun w _ => laidMetH Tryd.prog Rows.clientNewRow.laid w) false (laidWorldOf Rows.clientNewRow.laid os) #[.int .i64 0] 8 rfl (by kernel_rfl) (by kernel_rfl) (by kernel_rfl) (by kernel_rfl) (by kernel_rfl) (cn_met os _)) ?_
  intro W base args ds gs before hval0 hW _ _ hL _
  have hval : ∀ (j : Nat) t v, Tryd.f6.params[j]? = some t → args[j]? = some v → Value.okWide Tryd.prog W .any base t v := hval0
  have hW' := hW
  obtain ⟨p, q, hA0, hV0, rfl, hfz, hnd⟩ := hW
  have hA : DataW.TrodAll enc Tryd.prog W 0 (fun _ => true) true Tryd.f6.params.toList args.toList ds p := hA0
  have hV : DataW.TrodVars enc Tryd.prog W (fun _ => true) [] gs q := hV0
  rw [Tryd.params6] at hA hval
  obtain ⟨v0, d0, rfl, rfl, h0⟩ := trodAll_one hA
  obtain ⟨n, rfl, rfl, rfl, hwn⟩ := open_int Tryd.underlying3 (hval 0 3 v0 rfl rfl) h0
  obtain ⟨rfl, rfl⟩ : gs = [] ∧ q = [] := by
    cases gs with
    | nil => exact ⟨rfl, hV⟩
    | cons g r => exact absurd hV (by intro h; cases h)
  have e1 : Rows.clientNewSpec.fn H ([.lit (.int .i64 n)] ++ []) = { results := [.lit (.bool true)], args := [.lit (.int .i64 n)] } := by simp [Rows.clientNewSpec]
  rw [laidMetH_plain (by kernel_rfl)] at hL
  refine (cn_law n W hL).mono fun e W' ⟨he, hb⟩ => ?_
  subst he
  refine ⟨_, rfl, _, _, _, [], [], [], hW', ?_, ?_, ?_, hb.frame _, fun h => by cases h⟩
  · rw [e1]; exact trodAll_mk1 (shut_bool Tryd.underlying4 true)
  · rw [e1]; exact trodAll_mk1 (shut_int Tryd.underlying3 hwn)
  · rw [e1]; rfl

theorem cn_holds : Rows.ClientNewSaid :=
  OpenClaim.holds_of_wide 6 Tryd.f6 rfl rfl rfl rfl rfl rfl rfl ⟨rfl, rfl, rfl, rfl, rfl⟩ rfl rfl rfl rfl rfl (by kernel_rfl) Tryd.func6 (by kernel_rfl)
    (of_decide_eq_true (by kernel_rfl)) (by unfold Func.isWrapper; rw [if_neg (of_decide_eq_false (by kernel_rfl))]; exact ⟨rfl, rfl⟩)
    (fun os started H enc _ => cn_lifted os started H enc)
end Go.Proofs.YtmppnmffbmpcpaaDoor
