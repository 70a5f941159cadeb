/- The law ClientDeaf, the tied card: whatever the number and the message, it answers true. Nothing is asked of the input; the package's variables stand as the program's text lays them. -/
import Derived.Test.YtmppnmffbmpcpaaDoorLawDC
import Derived.Test.YtmppnmffbmpcpaaDoorCards
import Derived.Test.YtmppnmffbmpcpaaDoorTie
import Derived.SevenTiedAt
namespace Go.Proofs.YtmppnmffbmpcpaaDoor
open Go Go.RowKit Go.Vm Go.ChangeShapes Go.WideShapes

theorem deaf_holds : Rows.ClientDeafSaid :=
  OpenClaim.holds_of_wide 8 Tryd.f8 rfl rfl rfl rfl rfl rfl rfl ⟨rfl, rfl, rfl, rfl, rfl⟩ rfl rfl rfl rfl rfl (by kernel_rfl) Tryd.func8 (by kernel_rfl)
    (of_decide_eq_true (by kernel_rfl)) (by unfold Func.isWrapper; rw [if_neg (of_decide_eq_false (by kernel_rfl))]; exact ⟨rfl, rfl⟩)
    (fun os started H enc _ => deaf_lifted os started H enc)

theorem client_deaf_card : Rows.ClientDeafCardSaid :=
  Claim7.holds_tied_plain_at .later [] Rows.clientDeafCard.laidKinds true Rows.clientDeafCard.stood.harness true
    deaf_holds (fun _ h => by cases h) (by kernel_rfl) (fun _ h => by cases h) clientDeaf_row_tie rfl ⟨rfl, rfl⟩ (by kernel_rfl) rfl
    (fun f fn hf hfn => by
      obtain rfl : f = 8 := Option.some.inj ((show Tryd.prog.funcNamed "cartage/cartagelaw21.ClientDeaf" = some 8 by kernel_rfl).symm.trans hf) |>.symm
      obtain rfl : fn = Tryd.f8 := (Option.some.inj (Tryd.func8.symm.trans hfn)).symm
      exact ⟨by kernel_rfl, fun j t ht => by
        rw [Tryd.params8] at ht
        have h3 : t = 3 ∨ t = 54 := by
          rcases j with _ | _ | j
          · left; simpa using ht.symm
          · right; simpa using ht.symm
          · simp at ht
        rcases h3 with rfl | rfl
        · exact (show Tryd.prog.wantsStandIn 3 = false by kernel_rfl)
        · exact (show Tryd.prog.wantsStandIn 54 = false by kernel_rfl)⟩)
    (by kernel_rfl)
#print axioms client_deaf_card
end Go.Proofs.YtmppnmffbmpcpaaDoor
