/- The law ClientEnds, the tied card: whatever the number, the body and the messages, it answers true. Nothing is asked of the input; the package's variables stand as the program's text lays them. -/
import Derived.Test.YtmppnmffbmpcpaaDoorLawEC
import Derived.Test.YtmppnmffbmpcpaaDoorCards
import Derived.Test.YtmppnmffbmpcpaaDoorTie
import Derived.SevenTiedAt
namespace Go.Proofs.YtmppnmffbmpcpaaDoor
open Go Go.RowKit Go.Vm Go.ChangeShapes Go.WideShapes

theorem ends_holds : Rows.ClientEndsSaid :=
  OpenClaim.holds_of_wide 7 Tryd.f7 rfl rfl rfl rfl rfl rfl rfl ⟨rfl, rfl, rfl, rfl, rfl⟩ rfl rfl rfl rfl rfl (by kernel_rfl) Tryd.func7 (by kernel_rfl)
    (of_decide_eq_true (by kernel_rfl)) (by unfold Func.isWrapper; rw [if_neg (of_decide_eq_false (by kernel_rfl))]; exact ⟨rfl, rfl⟩)
    (fun os started H enc _ => ends_lifted os started H enc)

theorem client_ends_card : Rows.ClientEndsCardSaid :=
  Claim7.holds_tied_plain_at .later [] Rows.clientEndsCard.laidKinds true Rows.clientEndsCard.stood.harness true
    ends_holds (fun _ h => by cases h) (by kernel_rfl) (fun _ h => by cases h) clientEnds_row_tie rfl ⟨rfl, rfl⟩ (by kernel_rfl) rfl
    (fun f fn hf hfn => by
      obtain rfl : f = 7 := Option.some.inj ((show Tryd.prog.funcNamed "cartage/cartagelaw21.ClientEnds" = some 7 by kernel_rfl).symm.trans hf) |>.symm
      obtain rfl : fn = Tryd.f7 := (Option.some.inj (Tryd.func7.symm.trans hfn)).symm
      exact ⟨by kernel_rfl, fun j t ht => by
        rw [Tryd.params7] at ht
        have h3 : t = 3 ∨ t = 24 ∨ t = 65 := by
          rcases j with _ | _ | _ | j
          · left; simpa using ht.symm
          · right; left; simpa using ht.symm
          · right; right; simpa using ht.symm
          · simp at ht
        rcases h3 with rfl | rfl | rfl
        · exact (show Tryd.prog.wantsStandIn 3 = false by kernel_rfl)
        · exact (show Tryd.prog.wantsStandIn 24 = false by kernel_rfl)
        · exact (show Tryd.prog.wantsStandIn 65 = false by kernel_rfl)⟩)
    (by kernel_rfl)
#print axioms client_ends_card
end Go.Proofs.YtmppnmffbmpcpaaDoor
