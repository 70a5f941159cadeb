/- The law ClientDeaf, the tied card. -/
import Derived.Test.YtmppnmffbmpcpaaDoorLawDR
import Derived.Test.YtmppnmffbmpcpaaDoorCards
import Derived.Test.YtmppnmffbmpcpaaDoorTie
import Derived.SevenTiedAt
set_option linter.unusedVariables false
set_option linter.unusedSimpArgs false
namespace Go.Proofs.YtmppnmffbmpcpaaDoor
open Go Go.RowKit Go.Vm Go.ChangeShapes Go.WideShapes

theorem deaf_met (os : Os) (args : Array Value) : laidMetH Tryd.prog Rows.clientDeafRow.laid ((laidWorldOf Rows.clientDeafRow.laid os).forCall (fun _ _ => 0) ⟨#[], args, []⟩).memory := by
  rw [laidMetH_plain (by kernel_rfl)]
  exact laidMet_of_run' 8 (by kernel_rfl) (by kernel_rfl)
/-- A message of zeros. -/
def zeroMsg : Value := .agg #[.int .i64 0, .int .i64 0, .int .i64 0, .int .i64 0, .string (bstr []), .int .i64 0, .int .i64 0, .int .i64 0, .int .i64 0, .int .i64 0, .int .i64 0, .slice none 0 0, .slice none 0 0]

set_option maxRecDepth 100000 in
theorem deaf_lifted (os : Os) (started : os.Started) (H : Type) (enc : TypeId × Value → H) :
    ReturnsInHanded {} Tryd.checked os 8 .any (fun w args => (Rows.clientDeafSpec.pre enc Tryd.prog Tryd.f8 [] false w args ∧ laidMetH Tryd.prog Rows.clientDeafRow.laid w) ∧ sizedMet enc Tryd.prog Tryd.f8 (OpenSpec.ofChange Rows.clientDeafSpec) false w args)
      (Rows.clientDeafSpec.post enc Tryd.prog Tryd.f8 false true false false) := by
  refine returnsInHanded_of_change_and (C := Tryd.checked) (X := fun w _ => laidMetH Tryd.prog Rows.clientDeafRow.laid w) (fun _ _ _ hh h => h.of_heap hh) own started (by kernel_rfl) Tryd.func8
    (ChangeSpec.witness_at (enc := enc) (C := Tryd.checked) (os := os) (X := fun w _ => laidMetH Tryd.prog Rows.clientDeafRow.laid w) false (laidWorldOf Rows.clientDeafRow.laid os) #[.int .i64 0, zeroMsg] 8 rfl (by kernel_rfl) (by kernel_rfl) (by kernel_rfl) (by kernel_rfl) (by kernel_rfl) (deaf_met os _)) ?_
  intro W base args ds gs before hval0 hW _ _ hL _
  have hval : ∀ (j : Nat) t v, Tryd.f8.params[j]? = some t → args[j]? = some v → Value.okWide Tryd.prog W .any base t v := hval0
  have hW' := hW
  obtain ⟨p, q, hA0, hV0, rfl, hfz, hnd⟩ := hW
  have hA : DataW.TrodAll enc Tryd.prog W 0 (fun _ => true) true Tryd.f8.params.toList args.toList ds p := hA0
  have hV : DataW.TrodVars enc Tryd.prog W (fun _ => true) [] gs q := hV0
  rw [Tryd.params8] at hA hval
  have hlt := hA.lt
  obtain ⟨v0, v1, d0, d1, p0, p1, rfl, rfl, rfl, h0, h1⟩ := trodAll_two hA
  obtain ⟨n, rfl, rfl, rfl, hwn⟩ := open_int Tryd.underlying3 (hval 0 3 v0 rfl rfl) h0
  obtain ⟨cs, rfl, hsz⟩ := okWide_struct Tryd.underlying54 (hval 1 54 v1 rfl rfl)
  obtain ⟨rfl, rfl⟩ : gs = [] ∧ q = [] := by
    cases gs with
    | nil => exact ⟨rfl, hV⟩
    | cons g r => exact absurd hV (by intro h; cases h)
  obtain ⟨fuel, hf⟩ := h1
  obtain ⟨M, hM, _⟩ := open_msg (V := fun _ => undef) hf
  have hrep : Rep (g0 W fun _ => undef) (.agg (msgA M)) (.agg cs) := by
    simp only [Rep]
    exact ⟨cs.toList, rfl, hM⟩
  have e1 : Rows.clientDeafSpec.fn H ([.lit (.int .i64 n), d1] ++ []) = { results := [.lit (.bool true)], args := [.lit (.int .i64 n), d1] } := by simp [Rows.clientDeafSpec]
  rw [laidMetH_plain (by kernel_rfl)] at hL
  refine (deaf_law n M W hL hrep).mono fun e W' ⟨he, hb⟩ => ?_
  subst he
  refine ⟨_, rfl, _, _, _, [], [] ++ p1, [], hW', ?_, ?_, ?_, hb.frame _, fun h => by cases h⟩
  · rw [e1]; exact trodAll_mk1 (shut_bool Tryd.underlying4 true)
  · rw [e1]; exact trodAll_mk2 (shut_int Tryd.underlying3 hwn) (Below.trod (by kernel_rfl) (by kernel_rfl) (of_decide_eq_true (by kernel_rfl)) ⟨fuel, hf⟩ hb fun x hx => hlt x (by simp [hx]))
  · rw [e1]; rfl
end Go.Proofs.YtmppnmffbmpcpaaDoor
