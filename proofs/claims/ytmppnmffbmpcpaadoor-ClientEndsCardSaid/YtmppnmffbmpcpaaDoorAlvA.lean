/- Layer 21: the client lives (a closed run). -/
import Derived.Test.YtmppnmffbmpcpaaDoorCliB
set_option linter.unusedVariables false
set_option linter.unusedSimpArgs false
namespace Go.Vm
open Go.RowKit Go.Proofs
/-- What is known of the package's arrays. -/
def glW : Nat → Option (List Value) := fun i => if i = 25 then some wordsV else none
theorem glW_ok : glW 25 = some wordsV := by simp [glW]
theorem alive21_ok : Pure (EV glW) 25 [] (.ret (.v (.bool true))) := Pure.run ev_ok (n := 600) (fun x hx => by cases hx) (by kernel_rfl)
end Go.Vm
