/- The law ClientEnds, the tied card. -/
import Derived.Test.YtmppnmffbmpcpaaDoorLawER
import Derived.Test.YtmppnmffbmpcpaaDoorCards
import Derived.Test.YtmppnmffbmpcpaaDoorTie
import Derived.SevenTiedAt
set_option linter.unusedVariables false
set_option linter.unusedSimpArgs false
namespace Go.Proofs.YtmppnmffbmpcpaaDoor
open Go Go.RowKit Go.Vm Go.ChangeShapes Go.WideShapes

theorem ends_met (os : Os) (args : Array Value) : laidMetH Tryd.prog Rows.clientEndsRow.laid ((laidWorldOf Rows.clientEndsRow.laid os).forCall (fun _ _ => 0) ⟨#[], args, []⟩).memory := by
  rw [laidMetH_plain (by kernel_rfl)]
  exact laidMet_of_run' 8 (by kernel_rfl) (by kernel_rfl)
set_option maxRecDepth 100000 in
theorem ends_lifted (os : Os) (started : os.Started) (H : Type) (enc : TypeId × Value → H) :
    ReturnsInHanded {} Tryd.checked os 7 .any (fun w args => (Rows.clientEndsSpec.pre enc Tryd.prog Tryd.f7 [] false w args ∧ laidMetH Tryd.prog Rows.clientEndsRow.laid w) ∧ sizedMet enc Tryd.prog Tryd.f7 (OpenSpec.ofChange Rows.clientEndsSpec) false w args)
      (Rows.clientEndsSpec.post enc Tryd.prog Tryd.f7 false true false false) := by
  refine returnsInHanded_of_change_and (C := Tryd.checked) (X := fun w _ => laidMetH Tryd.prog Rows.clientEndsRow.laid w) (fun _ _ _ hh h => h.of_heap hh) own started (by kernel_rfl) Tryd.func7
    (ChangeSpec.witness_at (enc := enc) (C := Tryd.checked) (os := os) (X := fun w _ => laidMetH Tryd.prog Rows.clientEndsRow.laid w) false (laidWorldOf Rows.clientEndsRow.laid os) #[.int .i64 0, .slice none 0 0, .slice none 0 0] 8 rfl (by kernel_rfl) (by kernel_rfl) (by kernel_rfl) (by kernel_rfl) (by kernel_rfl) (ends_met os _)) ?_
  intro W base args ds gs before hval0 hW _ _ hL _
  have hval : ∀ (j : Nat) t v, Tryd.f7.params[j]? = some t → args[j]? = some v → Value.okWide Tryd.prog W .any base t v := hval0
  have hW' := hW
  obtain ⟨p, q, hA0, hV0, rfl, hfz, hnd⟩ := hW
  have hA : DataW.TrodAll enc Tryd.prog W 0 (fun _ => true) true Tryd.f7.params.toList args.toList ds p := hA0
  have hV : DataW.TrodVars enc Tryd.prog W (fun _ => true) [] gs q := hV0
  rw [Tryd.params7] at hA hval
  have hlt := hA.lt
  obtain ⟨v0, v1, v2, d0, d1, d2, p0, p1, p2, rfl, rfl, rfl, h0, h1, h2⟩ := trodAll_three hA
  obtain ⟨n, rfl, rfl, rfl, hwn⟩ := open_int Tryd.underlying3 (hval 0 3 v0 rfl rfl) h0
  obtain ⟨a1, l1, c1, rfl⟩ := okWide_slice Tryd.underlying24 (hval 1 24 v1 rfl rfl)
  obtain ⟨a2, l2, c2, rfl⟩ := okWide_slice Tryd.underlying65 (hval 2 65 v2 rfl rfl)
  obtain ⟨rfl, rfl⟩ : gs = [] ∧ q = [] := by
    cases gs with
    | nil => exact ⟨rfl, hV⟩
    | cons g r => exact absurd hV (by intro h; cases h)
  have hT1 := h1
  have hT2 := h2
  obtain ⟨fuel, hf⟩ := h1
  obtain ⟨fuel2, hf2⟩ := h2
  obtain ⟨body, w1, he1, hr1, _⟩ := open_bytes (V := fun _ => undef) Tryd.underlying24 Tryd.underlying5 cu8 hf
  obtain ⟨msgs, w2, he2, hr2, _, _⟩ := open_msl (V := fun _ => undef) hf2
  obtain rfl : Value.slice a1 l1 c1 = w1 := by simpa [Value.cells] using he1
  obtain rfl : Value.slice a2 l2 c2 = w2 := by simpa [Value.cells] using he2
  have e1 : Rows.clientEndsSpec.fn H ([.lit (.int .i64 n), d1, d2] ++ []) = { results := [.lit (.bool true)], args := [.lit (.int .i64 n), d1, d2] } := by simp [Rows.clientEndsSpec]
  rw [laidMetH_plain (by kernel_rfl)] at hL
  refine (ends_law n body msgs W hL hr1 hr2).mono fun e W' ⟨he, hb⟩ => ?_
  subst he
  refine ⟨_, rfl, _, _, _, [], [] ++ (p1 ++ p2), [], hW', ?_, ?_, ?_, hb.frame _, fun h => by cases h⟩
  · rw [e1]; exact trodAll_mk1 (shut_bool Tryd.underlying4 true)
  · rw [e1]; exact trodAll_mk3 (shut_int Tryd.underlying3 hwn) (Below.trod (by kernel_rfl) (by kernel_rfl) (of_decide_eq_true (by kernel_rfl)) hT1 hb fun x hx => hlt x (by simp [hx])) (Below.trod (by kernel_rfl) (by kernel_rfl) (of_decide_eq_true (by kernel_rfl)) hT2 hb fun x hx => hlt x (by simp [hx]))
  · rw [e1]; rfl
end Go.Proofs.YtmppnmffbmpcpaaDoor
