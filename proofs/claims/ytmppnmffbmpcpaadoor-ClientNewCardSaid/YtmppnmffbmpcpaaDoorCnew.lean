/- The law ClientNew: whatever the number, it answers true. Nothing is asked of the input; the package's variables stand as the row lays them. -/
import Derived.Test.YtmppnmffbmpcpaaDoorVmEnd
set_option linter.unusedVariables false
set_option linter.unusedSimpArgs false
namespace Go.Proofs.YtmppnmffbmpcpaaDoor
open Go.RowKit Go.Vm Go.ChangeShapes Go.WideShapes

noncomputable def cnEnv (fs : List Fact) : Env := env fs [(25, Rows.laid_cartage_message_words)] fun _ => none
theorem cnEnv_ok (fs : List Fact) : EnvOk (cnEnv fs) := env_ok fun f p h => by cases h

theorem cn0 : isTrue (acall (cnEnv []) 400 6 [.v (.int .i64 0)] []) = true := by kernel_rfl
theorem cn1 : isTrue (acall (cnEnv []) 400 6 [.v (.int .i64 1)] []) = true := by kernel_rfl
theorem cn2 : isTrue (acall (cnEnv []) 400 6 [.v (.int .i64 2)] []) = true := by kernel_rfl
theorem cn3 : isTrue (acall (cnEnv []) 400 6 [.v (.int .i64 3)] []) = true := by kernel_rfl
theorem cn4 : isTrue (acall (cnEnv []) 400 6 [.v (.int .i64 4)] []) = true := by kernel_rfl
theorem cn5 : isTrue (acall (cnEnv []) 400 6 [.v (.int .i64 5)] []) = true := by kernel_rfl
theorem cn6 : isTrue (acall (cnEnv []) 400 6 [.v (.int .i64 6)] []) = true := by kernel_rfl
theorem cn7 : isTrue (acall (cnEnv []) 400 6 [.v (.int .i64 7)] []) = true := by kernel_rfl

def cnNeg : List Fact := [⟨.lss, 3, .x 0, .v (.int .i64 0), .v (.bool true)⟩]
def cnBig : List Fact := [⟨.lss, 3, .x 0, .v (.int .i64 0), .v (.bool false)⟩, ⟨.geq, 3, .x 0, .v (.int .i64 8), .v (.bool true)⟩, ⟨.gtr, 3, .x 0, .v (.int .i64 7), .v (.bool true)⟩]
theorem cnN : isTrue (acall (cnEnv cnNeg) 400 6 [.x 0] []) = true := by kernel_rfl
theorem cnB : isTrue (acall (cnEnv cnBig) 400 6 [.x 0] []) = true := by kernel_rfl
end Go.Proofs.YtmppnmffbmpcpaaDoor
