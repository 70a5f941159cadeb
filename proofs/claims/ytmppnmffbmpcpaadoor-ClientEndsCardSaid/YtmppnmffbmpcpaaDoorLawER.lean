/- The law ClientEnds, its row: whatever the number, the body and the messages, it answers true; the package's variables stand as the row lays them. -/
import Derived.Test.YtmppnmffbmpcpaaDoorLawE
import Derived.Test.YtmppnmffbmpcpaaDoorLawDR
import Derived.Test.YtmppnmffbmpcpaaDoorOpnM
import Derived.Test.YtmppnmffbmpcpaaDoorVmEnd
import Derived.Test.YtmppnmffbmpcpaaDoorTie
import Derived.SevenTiedAt
import Derived.Carry
set_option linter.unusedVariables false
set_option linter.unusedSimpArgs false
namespace Go.Proofs.YtmppnmffbmpcpaaDoor
open Go.RowKit Go.Vm Go.ChangeShapes Go.WideShapes

theorem endsSent : sentOkE Rows.clientEndsRow.laid coreL4 = true := by kernel_rfl
theorem endsInv {V : Nat → Value} {W : World} (hL : laidMet Tryd.prog Rows.clientEndsRow.laid W) : Inv (EV glW) W (g0 W V) [] W := by
  refine Inv.begin (E := EV glW) (fun f hf => by cases hf) (sent_of_laid (E := EV glW) hL errTypes (fun i hi => ?_)) fun i cs hg off v hv => ?_
  · refine sentOkE_spec endsSent i (coreE_mem ?_)
    have h1 : sentE glW i = true := hi
    unfold sentE glW at h1
    rw [Bool.or_eq_true] at h1
    rcases h1 with h1 | h1
    · exact h1
    · rw [if_neg (by omega)] at h1
      simp at h1
  · have hg' : glW i = some cs := hg
    unfold glW at hg'
    split at hg'
    · rename_i he
      subst he
      obtain rfl := Option.some.inj hg'
      exact arr_in_memory (P := Tryd.prog) hL (k := 5) (n := "cartage/message.words") (t := 203) (e := 9) (m := 11) rfl (by kernel_rfl) (by kernel_rfl) (by kernel_rfl) (by kernel_rfl) (vs := litsOf Rows.laid_cartage_message_words) rfl off v hv
    · cases hg'

theorem ends_law (id : Int) (body : List UInt8) (msgs : List Msg) {vb vm : Value} {V : Nat → Value} (W : World) (hL : laidMet Tryd.prog Rows.clientEndsRow.laid W) (hb : Rep (g0 W V) (bsl body) vb) (hm : Rep (g0 W V) (msl msgs) vm) :
    Calls Tryd.prog 7 #[.int .i64 id, vb, vm] W fun e W' => e = .returned (.bool true) ∧ Below W.heap.size W W' :=
  Pure.law (endsInv hL) (vs := [.int .i64 id, vb, vm]) (ends_ok glW_ok alive21_ok id body msgs) (.cons (by simp only [Rep]) (.cons hb (.cons hm .nil)))
end Go.Proofs.YtmppnmffbmpcpaaDoor
