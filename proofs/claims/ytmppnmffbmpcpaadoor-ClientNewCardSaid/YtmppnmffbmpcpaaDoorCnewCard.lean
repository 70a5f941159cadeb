/- The law ClientNew, the tied card: whatever the number, it answers true. Nothing is asked of the input; the package's variables stand as the program's text lays them. -/
import Derived.Test.YtmppnmffbmpcpaaDoorCnewLaw
import Derived.Test.YtmppnmffbmpcpaaDoorCards
import Derived.Test.YtmppnmffbmpcpaaDoorTie
import Derived.SevenTiedAt
namespace Go.Proofs.YtmppnmffbmpcpaaDoor
open Go

theorem client_new_card : Rows.ClientNewCardSaid :=
  Claim7.holds_tied_plain_at .later [] Rows.clientNewCard.laidKinds true Rows.clientNewCard.stood.harness true
    cn_holds (fun _ h => by cases h) (by kernel_rfl) (fun _ h => by cases h) clientNew_row_tie rfl ⟨rfl, rfl⟩ (by kernel_rfl) rfl
    (fun f fn hf hfn => by
      obtain rfl : f = 6 := Option.some.inj ((show Tryd.prog.funcNamed "cartage/cartagelaw21.ClientNew" = some 6 by kernel_rfl).symm.trans hf) |>.symm
      obtain rfl : fn = Tryd.f6 := (Option.some.inj (Tryd.func6.symm.trans hfn)).symm
      exact ⟨by kernel_rfl, fun j t ht => by
        rw [Tryd.params6] at ht
        have h3 : t = 3 := by
          rcases j with _ | j
          · simpa using ht.symm
          · simp at ht
        subst h3
        exact (show Tryd.prog.wantsStandIn 3 = false by kernel_rfl)⟩)
    (by kernel_rfl)
#print axioms client_new_card
end Go.Proofs.YtmppnmffbmpcpaaDoor
