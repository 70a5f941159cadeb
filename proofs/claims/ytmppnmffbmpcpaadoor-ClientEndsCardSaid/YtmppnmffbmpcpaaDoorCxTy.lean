/- The symbolic layer over this program: what its table of types says. Printed by genty.py. -/
import Derived.Test.YtmppnmffbmpcpaaDoorCxEnv
set_option linter.unusedVariables false
namespace Go.Vm
open Go.RowKit Go.Proofs
section
variable {gl : Nat → Option (List Value)}
theorem ts1 : tsize (EV gl) 1 = some 1 := by kernel_rfl
theorem ta1 : tagg (EV gl) 1 = some false := by kernel_rfl
theorem tz1 : tzero (EV gl) 1 = some (.nilFunc) := by kernel_rfl
theorem ts2 : tsize (EV gl) 2 = some 1 := by kernel_rfl
theorem ta2 : tagg (EV gl) 2 = some false := by kernel_rfl
theorem tz2 : tzero (EV gl) 2 = some (.int .i64 0) := by kernel_rfl
theorem ts3 : tsize (EV gl) 3 = some 1 := by kernel_rfl
theorem ta3 : tagg (EV gl) 3 = some false := by kernel_rfl
theorem tz3 : tzero (EV gl) 3 = some (.int .i64 0) := by kernel_rfl
theorem ts4 : tsize (EV gl) 4 = some 1 := by kernel_rfl
theorem ta4 : tagg (EV gl) 4 = some false := by kernel_rfl
theorem tz4 : tzero (EV gl) 4 = some (.bool false) := by kernel_rfl
theorem ts5 : tsize (EV gl) 5 = some 1 := by kernel_rfl
theorem ta5 : tagg (EV gl) 5 = some false := by kernel_rfl
theorem tz5 : tzero (EV gl) 5 = some (.int .u8 0) := by kernel_rfl
theorem ts6 : tsize (EV gl) 6 = some 1 := by kernel_rfl
theorem ta6 : tagg (EV gl) 6 = some false := by kernel_rfl
theorem tz6 : tzero (EV gl) 6 = some (.int .u8 0) := by kernel_rfl
theorem ts7 : tsize (EV gl) 7 = some 4 := by kernel_rfl
theorem ta7 : tagg (EV gl) 7 = some true := by kernel_rfl
theorem tz7 : tzero (EV gl) 7 = some (.agg #[.int .i64 0, .int .i64 0, .bool false, .int .u8 0]) := by kernel_rfl
theorem ts8 : tsize (EV gl) 8 = some 4 := by kernel_rfl
theorem ta8 : tagg (EV gl) 8 = some true := by kernel_rfl
theorem tz8 : tzero (EV gl) 8 = some (.agg #[.int .i64 0, .int .i64 0, .bool false, .int .u8 0]) := by kernel_rfl
theorem ts9 : tsize (EV gl) 9 = some 1 := by kernel_rfl
theorem ta9 : tagg (EV gl) 9 = some false := by kernel_rfl
theorem tz9 : tzero (EV gl) 9 = some ((.string (bstr []))) := by kernel_rfl
theorem ts10 : tsize (EV gl) 10 = some 1 := by kernel_rfl
theorem ta10 : tagg (EV gl) 10 = some false := by kernel_rfl
theorem tz10 : tzero (EV gl) 10 = some ((.string (bstr []))) := by kernel_rfl
theorem ts11 : tsize (EV gl) 11 = some 1 := by kernel_rfl
theorem ta11 : tagg (EV gl) 11 = some false := by kernel_rfl
theorem tz11 : tzero (EV gl) 11 = some ((.string (bstr []))) := by kernel_rfl
theorem ts12 : tsize (EV gl) 12 = some 1 := by kernel_rfl
theorem ta12 : tagg (EV gl) 12 = some false := by kernel_rfl
theorem tz12 : tzero (EV gl) 12 = some (.int .u64 0) := by kernel_rfl
theorem ts13 : tsize (EV gl) 13 = some 2 := by kernel_rfl
theorem ta13 : tagg (EV gl) 13 = some true := by kernel_rfl
theorem tz13 : tzero (EV gl) 13 = some (.agg #[(.string (bstr [])), .int .u64 0]) := by kernel_rfl
theorem ts14 : tsize (EV gl) 14 = some 2 := by kernel_rfl
theorem ta14 : tagg (EV gl) 14 = some true := by kernel_rfl
theorem tz14 : tzero (EV gl) 14 = some (.agg #[(.string (bstr [])), .int .u64 0]) := by kernel_rfl
theorem ts15 : tsize (EV gl) 15 = some 1 := by kernel_rfl
theorem ta15 : tagg (EV gl) 15 = some false := by kernel_rfl
theorem tz15 : tzero (EV gl) 15 = some (.pointer none) := by kernel_rfl
theorem ts16 : tsize (EV gl) 16 = some 1 := by kernel_rfl
theorem ta16 : tagg (EV gl) 16 = some false := by kernel_rfl
theorem tz16 : tzero (EV gl) 16 = some (.pointer none) := by kernel_rfl
theorem ts17 : tsize (EV gl) 17 = some 1 := by kernel_rfl
theorem ta17 : tagg (EV gl) 17 = some false := by kernel_rfl
theorem tz17 : tzero (EV gl) 17 = some (.pointer none) := by kernel_rfl
theorem ts18 : tsize (EV gl) 18 = some 1 := by kernel_rfl
theorem ta18 : tagg (EV gl) 18 = some true := by kernel_rfl
theorem tz18 : tzero (EV gl) 18 = some (.agg #[.pointer none]) := by kernel_rfl
theorem ts19 : tsize (EV gl) 19 = some 1 := by kernel_rfl
theorem ta19 : tagg (EV gl) 19 = some true := by kernel_rfl
theorem tz19 : tzero (EV gl) 19 = some (.agg #[.pointer none]) := by kernel_rfl
theorem ts20 : tsize (EV gl) 20 = some 1 := by kernel_rfl
theorem ta20 : tagg (EV gl) 20 = some false := by kernel_rfl
theorem tz20 : tzero (EV gl) 20 = some (.nilIface) := by kernel_rfl
theorem ts21 : tsize (EV gl) 21 = some 1 := by kernel_rfl
theorem ta21 : tagg (EV gl) 21 = some false := by kernel_rfl
theorem tz21 : tzero (EV gl) 21 = some (.int .i32 0) := by kernel_rfl
theorem ts22 : tsize (EV gl) 22 = some 1 := by kernel_rfl
theorem ta22 : tagg (EV gl) 22 = some false := by kernel_rfl
theorem tz22 : tzero (EV gl) 22 = some (.slice none 0 0) := by kernel_rfl
theorem ts23 : tsize (EV gl) 23 = some 1 := by kernel_rfl
theorem ta23 : tagg (EV gl) 23 = some false := by kernel_rfl
theorem tz23 : tzero (EV gl) 23 = some (.nilFunc) := by kernel_rfl
theorem ts24 : tsize (EV gl) 24 = some 1 := by kernel_rfl
theorem ta24 : tagg (EV gl) 24 = some false := by kernel_rfl
theorem tz24 : tzero (EV gl) 24 = some (.slice none 0 0) := by kernel_rfl
theorem ts25 : tsize (EV gl) 25 = some 2 := by kernel_rfl
theorem ta25 : tagg (EV gl) 25 = some true := by kernel_rfl
theorem tz25 : tzero (EV gl) 25 = some (.agg #[.int .i64 0, .slice none 0 0]) := by kernel_rfl
theorem ts26 : tsize (EV gl) 26 = some 2 := by kernel_rfl
theorem ta26 : tagg (EV gl) 26 = some true := by kernel_rfl
theorem tz26 : tzero (EV gl) 26 = some (.agg #[.int .i64 0, .slice none 0 0]) := by kernel_rfl
theorem ts27 : tsize (EV gl) 27 = some 1 := by kernel_rfl
theorem ta27 : tagg (EV gl) 27 = some false := by kernel_rfl
theorem tz27 : tzero (EV gl) 27 = some (.slice none 0 0) := by kernel_rfl
theorem ts28 : tsize (EV gl) 28 = some 1 := by kernel_rfl
theorem ta28 : tagg (EV gl) 28 = some false := by kernel_rfl
theorem tz28 : tzero (EV gl) 28 = some (.nilFunc) := by kernel_rfl
theorem ts29 : tsize (EV gl) 29 = some 1 := by kernel_rfl
theorem ta29 : tagg (EV gl) 29 = some false := by kernel_rfl
theorem tz29 : tzero (EV gl) 29 = some (.nilIface) := by kernel_rfl
theorem ts30 : tsize (EV gl) 30 = some 1 := by kernel_rfl
theorem ta30 : tagg (EV gl) 30 = some false := by kernel_rfl
theorem tz30 : tzero (EV gl) 30 = some (.nilIface) := by kernel_rfl
theorem ts32 : tsize (EV gl) 32 = some 1 := by kernel_rfl
theorem ta32 : tagg (EV gl) 32 = some false := by kernel_rfl
theorem tz32 : tzero (EV gl) 32 = some (.nilFunc) := by kernel_rfl
theorem ts34 : tsize (EV gl) 34 = some 1 := by kernel_rfl
theorem ta34 : tagg (EV gl) 34 = some false := by kernel_rfl
theorem tz34 : tzero (EV gl) 34 = some (.nilFunc) := by kernel_rfl
theorem ts35 : tsize (EV gl) 35 = some 1 := by kernel_rfl
theorem ta35 : tagg (EV gl) 35 = some false := by kernel_rfl
theorem tz35 : tzero (EV gl) 35 = some (.nilFunc) := by kernel_rfl
theorem ts37 : tsize (EV gl) 37 = some 1 := by kernel_rfl
theorem ta37 : tagg (EV gl) 37 = some false := by kernel_rfl
theorem tz37 : tzero (EV gl) 37 = some (.nilFunc) := by kernel_rfl
theorem ts39 : tsize (EV gl) 39 = some 1 := by kernel_rfl
theorem ta39 : tagg (EV gl) 39 = some false := by kernel_rfl
theorem tz39 : tzero (EV gl) 39 = some (.nilFunc) := by kernel_rfl
theorem ts40 : tsize (EV gl) 40 = some 1 := by kernel_rfl
theorem ta40 : tagg (EV gl) 40 = some false := by kernel_rfl
theorem tz40 : tzero (EV gl) 40 = some (.nilFunc) := by kernel_rfl
theorem ts41 : tsize (EV gl) 41 = some 1 := by kernel_rfl
theorem ta41 : tagg (EV gl) 41 = some false := by kernel_rfl
theorem tz41 : tzero (EV gl) 41 = some (.nilFunc) := by kernel_rfl
theorem ts42 : tsize (EV gl) 42 = some 1 := by kernel_rfl
theorem ta42 : tagg (EV gl) 42 = some false := by kernel_rfl
theorem tz42 : tzero (EV gl) 42 = some (.slice none 0 0) := by kernel_rfl
theorem ts43 : tsize (EV gl) 43 = some 1 := by kernel_rfl
theorem ta43 : tagg (EV gl) 43 = some false := by kernel_rfl
theorem tz43 : tzero (EV gl) 43 = some (.nilFunc) := by kernel_rfl
theorem ts44 : tsize (EV gl) 44 = some 32 := by kernel_rfl
theorem ta44 : tagg (EV gl) 44 = some true := by kernel_rfl
theorem tz44 : tzero (EV gl) 44 = some (.agg #[.int .u8 0, .int .u8 0, .int .u8 0, .int .u8 0, .int .u8 0, .int .u8 0, .int .u8 0, .int .u8 0, .int .u8 0, .int .u8 0, .int .u8 0, .int .u8 0, .int .u8 0, .int .u8 0, .int .u8 0, .int .u8 0, .int .u8 0, .int .u8 0, .int .u8 0, .int .u8 0, .int .u8 0, .int .u8 0, .int .u8 0, .int .u8 0, .int .u8 0, .int .u8 0, .int .u8 0, .int .u8 0, .int .u8 0, .int .u8 0, .int .u8 0, .int .u8 0]) := by kernel_rfl
theorem ts45 : tsize (EV gl) 45 = some 32 := by kernel_rfl
theorem ta45 : tagg (EV gl) 45 = some true := by kernel_rfl
theorem tz45 : tzero (EV gl) 45 = some (.agg #[.int .u8 0, .int .u8 0, .int .u8 0, .int .u8 0, .int .u8 0, .int .u8 0, .int .u8 0, .int .u8 0, .int .u8 0, .int .u8 0, .int .u8 0, .int .u8 0, .int .u8 0, .int .u8 0, .int .u8 0, .int .u8 0, .int .u8 0, .int .u8 0, .int .u8 0, .int .u8 0, .int .u8 0, .int .u8 0, .int .u8 0, .int .u8 0, .int .u8 0, .int .u8 0, .int .u8 0, .int .u8 0, .int .u8 0, .int .u8 0, .int .u8 0, .int .u8 0]) := by kernel_rfl
theorem ts46 : tsize (EV gl) 46 = some 1 := by kernel_rfl
theorem ta46 : tagg (EV gl) 46 = some false := by kernel_rfl
theorem tz46 : tzero (EV gl) 46 = some (.nilFunc) := by kernel_rfl
theorem ts47 : tsize (EV gl) 47 = some 1 := by kernel_rfl
theorem ta47 : tagg (EV gl) 47 = some false := by kernel_rfl
theorem tz47 : tzero (EV gl) 47 = some (.nilFunc) := by kernel_rfl
theorem ts48 : tsize (EV gl) 48 = some 1 := by kernel_rfl
theorem ta48 : tagg (EV gl) 48 = some false := by kernel_rfl
theorem tz48 : tzero (EV gl) 48 = some (.nilFunc) := by kernel_rfl
theorem ts49 : tsize (EV gl) 49 = some 1 := by kernel_rfl
theorem ta49 : tagg (EV gl) 49 = some false := by kernel_rfl
theorem tz49 : tzero (EV gl) 49 = some (.nilFunc) := by kernel_rfl
theorem ts50 : tsize (EV gl) 50 = some 1 := by kernel_rfl
theorem ta50 : tagg (EV gl) 50 = some false := by kernel_rfl
theorem tz50 : tzero (EV gl) 50 = some (.int .u64 0) := by kernel_rfl
theorem ts51 : tsize (EV gl) 51 = some 1 := by kernel_rfl
theorem ta51 : tagg (EV gl) 51 = some false := by kernel_rfl
theorem tz51 : tzero (EV gl) 51 = some (.nilFunc) := by kernel_rfl
theorem ts52 : tsize (EV gl) 52 = some 1 := by kernel_rfl
theorem ta52 : tagg (EV gl) 52 = some false := by kernel_rfl
theorem tz52 : tzero (EV gl) 52 = some (.slice none 0 0) := by kernel_rfl
theorem ts53 : tsize (EV gl) 53 = some 13 := by kernel_rfl
theorem ta53 : tagg (EV gl) 53 = some true := by kernel_rfl
theorem tz53 : tzero (EV gl) 53 = some (.agg #[.int .i64 0, .int .i64 0, .int .i64 0, .int .i64 0, (.string (bstr [])), .int .i64 0, .int .i64 0, .int .i64 0, .int .i64 0, .int .i64 0, .int .i64 0, .slice none 0 0, .slice none 0 0]) := by kernel_rfl
theorem ts54 : tsize (EV gl) 54 = some 13 := by kernel_rfl
theorem ta54 : tagg (EV gl) 54 = some true := by kernel_rfl
theorem tz54 : tzero (EV gl) 54 = some (.agg #[.int .i64 0, .int .i64 0, .int .i64 0, .int .i64 0, (.string (bstr [])), .int .i64 0, .int .i64 0, .int .i64 0, .int .i64 0, .int .i64 0, .int .i64 0, .slice none 0 0, .slice none 0 0]) := by kernel_rfl
theorem ts55 : tsize (EV gl) 55 = some 33 := by kernel_rfl
theorem ta55 : tagg (EV gl) 55 = some true := by kernel_rfl
theorem tz55 : tzero (EV gl) 55 = some (.agg #[.int .i64 0, .int .i64 0, .bool false, .bool false, .int .i64 0, .int .i64 0, .int .i64 0, .int .i64 0, .int .i64 0, .int .i64 0, .int .i64 0, (.string (bstr [])), .int .i64 0, .int .i64 0, .int .i64 0, .int .i64 0, .int .i64 0, .int .i64 0, .slice none 0 0, .slice none 0 0, .int .i64 0, .int .i64 0, .int .i64 0, .int .i64 0, (.string (bstr [])), .int .i64 0, .int .i64 0, .int .i64 0, .int .i64 0, .int .i64 0, .int .i64 0, .slice none 0 0, .slice none 0 0]) := by kernel_rfl
theorem ts56 : tsize (EV gl) 56 = some 33 := by kernel_rfl
theorem ta56 : tagg (EV gl) 56 = some true := by kernel_rfl
theorem tz56 : tzero (EV gl) 56 = some (.agg #[.int .i64 0, .int .i64 0, .bool false, .bool false, .int .i64 0, .int .i64 0, .int .i64 0, .int .i64 0, .int .i64 0, .int .i64 0, .int .i64 0, (.string (bstr [])), .int .i64 0, .int .i64 0, .int .i64 0, .int .i64 0, .int .i64 0, .int .i64 0, .slice none 0 0, .slice none 0 0, .int .i64 0, .int .i64 0, .int .i64 0, .int .i64 0, (.string (bstr [])), .int .i64 0, .int .i64 0, .int .i64 0, .int .i64 0, .int .i64 0, .int .i64 0, .slice none 0 0, .slice none 0 0]) := by kernel_rfl
theorem ts58 : tsize (EV gl) 58 = some 1 := by kernel_rfl
theorem ta58 : tagg (EV gl) 58 = some false := by kernel_rfl
theorem tz58 : tzero (EV gl) 58 = some (.nilFunc) := by kernel_rfl
theorem ts59 : tsize (EV gl) 59 = some 1 := by kernel_rfl
theorem ta59 : tagg (EV gl) 59 = some false := by kernel_rfl
theorem tz59 : tzero (EV gl) 59 = some (.nilFunc) := by kernel_rfl
theorem ts60 : tsize (EV gl) 60 = some 13 := by kernel_rfl
theorem ta60 : tagg (EV gl) 60 = some true := by kernel_rfl
theorem tz60 : tzero (EV gl) 60 = some (.agg #[.int .i64 0, .int .i64 0, .int .i64 0, .int .i64 0, (.string (bstr [])), .int .i64 0, .int .i64 0, .int .i64 0, .int .i64 0, .int .i64 0, .int .i64 0, .slice none 0 0, .slice none 0 0]) := by kernel_rfl
theorem ts61 : tsize (EV gl) 61 = some 33 := by kernel_rfl
theorem ta61 : tagg (EV gl) 61 = some true := by kernel_rfl
theorem tz61 : tzero (EV gl) 61 = some (.agg #[.int .i64 0, .int .i64 0, .bool false, .bool false, .int .i64 0, .int .i64 0, .int .i64 0, .int .i64 0, .int .i64 0, .int .i64 0, .int .i64 0, (.string (bstr [])), .int .i64 0, .int .i64 0, .int .i64 0, .int .i64 0, .int .i64 0, .int .i64 0, .slice none 0 0, .slice none 0 0, .int .i64 0, .int .i64 0, .int .i64 0, .int .i64 0, (.string (bstr [])), .int .i64 0, .int .i64 0, .int .i64 0, .int .i64 0, .int .i64 0, .int .i64 0, .slice none 0 0, .slice none 0 0]) := by kernel_rfl
theorem ts62 : tsize (EV gl) 62 = some 33 := by kernel_rfl
theorem ta62 : tagg (EV gl) 62 = some true := by kernel_rfl
theorem tz62 : tzero (EV gl) 62 = some (.agg #[.int .i64 0, .int .i64 0, .bool false, .bool false, .int .i64 0, .int .i64 0, .int .i64 0, .int .i64 0, .int .i64 0, .int .i64 0, .int .i64 0, (.string (bstr [])), .int .i64 0, .int .i64 0, .int .i64 0, .int .i64 0, .int .i64 0, .int .i64 0, .slice none 0 0, .slice none 0 0, .int .i64 0, .int .i64 0, .int .i64 0, .int .i64 0, (.string (bstr [])), .int .i64 0, .int .i64 0, .int .i64 0, .int .i64 0, .int .i64 0, .int .i64 0, .slice none 0 0, .slice none 0 0]) := by kernel_rfl
theorem ts63 : tsize (EV gl) 63 = some 1 := by kernel_rfl
theorem ta63 : tagg (EV gl) 63 = some false := by kernel_rfl
theorem tz63 : tzero (EV gl) 63 = some (.nilFunc) := by kernel_rfl
theorem ts64 : tsize (EV gl) 64 = some 1 := by kernel_rfl
theorem ta64 : tagg (EV gl) 64 = some false := by kernel_rfl
theorem tz64 : tzero (EV gl) 64 = some (.nilFunc) := by kernel_rfl
theorem ts65 : tsize (EV gl) 65 = some 1 := by kernel_rfl
theorem ta65 : tagg (EV gl) 65 = some false := by kernel_rfl
theorem tz65 : tzero (EV gl) 65 = some (.slice none 0 0) := by kernel_rfl
theorem ts66 : tsize (EV gl) 66 = some 1 := by kernel_rfl
theorem ta66 : tagg (EV gl) 66 = some false := by kernel_rfl
theorem tz66 : tzero (EV gl) 66 = some (.int .u64 0) := by kernel_rfl
theorem ts68 : tsize (EV gl) 68 = some 1 := by kernel_rfl
theorem ta68 : tagg (EV gl) 68 = some false := by kernel_rfl
theorem tz68 : tzero (EV gl) 68 = some (.nilFunc) := by kernel_rfl
theorem ts69 : tsize (EV gl) 69 = some 1 := by kernel_rfl
theorem ta69 : tagg (EV gl) 69 = some false := by kernel_rfl
theorem tz69 : tzero (EV gl) 69 = some (.nilFunc) := by kernel_rfl
theorem ts71 : tsize (EV gl) 71 = some 1 := by kernel_rfl
theorem ta71 : tagg (EV gl) 71 = some false := by kernel_rfl
theorem tz71 : tzero (EV gl) 71 = some (.nilFunc) := by kernel_rfl
theorem ts73 : tsize (EV gl) 73 = some 1 := by kernel_rfl
theorem ta73 : tagg (EV gl) 73 = some false := by kernel_rfl
theorem tz73 : tzero (EV gl) 73 = some (.nilFunc) := by kernel_rfl
theorem ts74 : tsize (EV gl) 74 = some 1 := by kernel_rfl
theorem ta74 : tagg (EV gl) 74 = some false := by kernel_rfl
theorem tz74 : tzero (EV gl) 74 = some (.nilFunc) := by kernel_rfl
theorem ts75 : tsize (EV gl) 75 = some 1 := by kernel_rfl
theorem ta75 : tagg (EV gl) 75 = some false := by kernel_rfl
theorem tz75 : tzero (EV gl) 75 = some (.nilFunc) := by kernel_rfl
theorem ts76 : tsize (EV gl) 76 = some 1 := by kernel_rfl
theorem ta76 : tagg (EV gl) 76 = some false := by kernel_rfl
theorem tz76 : tzero (EV gl) 76 = some (.slice none 0 0) := by kernel_rfl
theorem ts77 : tsize (EV gl) 77 = some 1 := by kernel_rfl
theorem ta77 : tagg (EV gl) 77 = some false := by kernel_rfl
theorem tz77 : tzero (EV gl) 77 = some (.nilFunc) := by kernel_rfl
theorem ts78 : tsize (EV gl) 78 = some 1 := by kernel_rfl
theorem ta78 : tagg (EV gl) 78 = some false := by kernel_rfl
theorem tz78 : tzero (EV gl) 78 = some (.slice none 0 0) := by kernel_rfl
theorem ts79 : tsize (EV gl) 79 = some 1 := by kernel_rfl
theorem ta79 : tagg (EV gl) 79 = some false := by kernel_rfl
theorem tz79 : tzero (EV gl) 79 = some (.nilFunc) := by kernel_rfl
theorem ts80 : tsize (EV gl) 80 = some 1 := by kernel_rfl
theorem ta80 : tagg (EV gl) 80 = some false := by kernel_rfl
theorem tz80 : tzero (EV gl) 80 = some (.nilFunc) := by kernel_rfl
theorem ts81 : tsize (EV gl) 81 = some 1 := by kernel_rfl
theorem ta81 : tagg (EV gl) 81 = some false := by kernel_rfl
theorem tz81 : tzero (EV gl) 81 = some (.slice none 0 0) := by kernel_rfl
theorem ts82 : tsize (EV gl) 82 = some 7 := by kernel_rfl
theorem ta82 : tagg (EV gl) 82 = some true := by kernel_rfl
theorem tz82 : tzero (EV gl) 82 = some (.agg #[.int .i64 0, .int .i64 0, .int .i64 0, .int .i64 0, (.string (bstr [])), .slice none 0 0, .slice none 0 0]) := by kernel_rfl
theorem ts83 : tsize (EV gl) 83 = some 7 := by kernel_rfl
theorem ta83 : tagg (EV gl) 83 = some true := by kernel_rfl
theorem tz83 : tzero (EV gl) 83 = some (.agg #[.int .i64 0, .int .i64 0, .int .i64 0, .int .i64 0, (.string (bstr [])), .slice none 0 0, .slice none 0 0]) := by kernel_rfl
theorem ts84 : tsize (EV gl) 84 = some 7 := by kernel_rfl
theorem ta84 : tagg (EV gl) 84 = some true := by kernel_rfl
theorem tz84 : tzero (EV gl) 84 = some (.agg #[.int .i64 0, .int .i64 0, .int .i64 0, .int .i64 0, (.string (bstr [])), .slice none 0 0, .slice none 0 0]) := by kernel_rfl
theorem ts85 : tsize (EV gl) 85 = some 1 := by kernel_rfl
theorem ta85 : tagg (EV gl) 85 = some false := by kernel_rfl
theorem tz85 : tzero (EV gl) 85 = some (.nilFunc) := by kernel_rfl
theorem ts86 : tsize (EV gl) 86 = some 1 := by kernel_rfl
theorem ta86 : tagg (EV gl) 86 = some false := by kernel_rfl
theorem tz86 : tzero (EV gl) 86 = some (.nilFunc) := by kernel_rfl
theorem ts87 : tsize (EV gl) 87 = some 1 := by kernel_rfl
theorem ta87 : tagg (EV gl) 87 = some false := by kernel_rfl
theorem tz87 : tzero (EV gl) 87 = some (.nilFunc) := by kernel_rfl
theorem ts88 : tsize (EV gl) 88 = some 1 := by kernel_rfl
theorem ta88 : tagg (EV gl) 88 = some false := by kernel_rfl
theorem tz88 : tzero (EV gl) 88 = some (.nilFunc) := by kernel_rfl
theorem ts89 : tsize (EV gl) 89 = some 1 := by kernel_rfl
theorem ta89 : tagg (EV gl) 89 = some false := by kernel_rfl
theorem tz89 : tzero (EV gl) 89 = some (.nilFunc) := by kernel_rfl
theorem ts90 : tsize (EV gl) 90 = some 1 := by kernel_rfl
theorem ta90 : tagg (EV gl) 90 = some false := by kernel_rfl
theorem tz90 : tzero (EV gl) 90 = some (.nilFunc) := by kernel_rfl
theorem ts91 : tsize (EV gl) 91 = some 2 := by kernel_rfl
theorem ta91 : tagg (EV gl) 91 = some true := by kernel_rfl
theorem tz91 : tzero (EV gl) 91 = some (.agg #[.int .i64 0, .slice none 0 0]) := by kernel_rfl
theorem ts92 : tsize (EV gl) 92 = some 1 := by kernel_rfl
theorem ta92 : tagg (EV gl) 92 = some false := by kernel_rfl
theorem tz92 : tzero (EV gl) 92 = some (.nilFunc) := by kernel_rfl
theorem ts93 : tsize (EV gl) 93 = some 1 := by kernel_rfl
theorem ta93 : tagg (EV gl) 93 = some false := by kernel_rfl
theorem tz93 : tzero (EV gl) 93 = some (.nilFunc) := by kernel_rfl
theorem ts94 : tsize (EV gl) 94 = some 1 := by kernel_rfl
theorem ta94 : tagg (EV gl) 94 = some false := by kernel_rfl
theorem tz94 : tzero (EV gl) 94 = some (.nilFunc) := by kernel_rfl
theorem ts95 : tsize (EV gl) 95 = some 1 := by kernel_rfl
theorem ta95 : tagg (EV gl) 95 = some false := by kernel_rfl
theorem tz95 : tzero (EV gl) 95 = some (.nilFunc) := by kernel_rfl
theorem ts96 : tsize (EV gl) 96 = some 1 := by kernel_rfl
theorem ta96 : tagg (EV gl) 96 = some false := by kernel_rfl
theorem tz96 : tzero (EV gl) 96 = some (.nilFunc) := by kernel_rfl
theorem ts97 : tsize (EV gl) 97 = some 1 := by kernel_rfl
theorem ta97 : tagg (EV gl) 97 = some false := by kernel_rfl
theorem tz97 : tzero (EV gl) 97 = some (.slice none 0 0) := by kernel_rfl
theorem ts98 : tsize (EV gl) 98 = some 1 := by kernel_rfl
theorem ta98 : tagg (EV gl) 98 = some false := by kernel_rfl
theorem tz98 : tzero (EV gl) 98 = some (.nilFunc) := by kernel_rfl
theorem ts100 : tsize (EV gl) 100 = some 1 := by kernel_rfl
theorem ta100 : tagg (EV gl) 100 = some false := by kernel_rfl
theorem tz100 : tzero (EV gl) 100 = some (.nilFunc) := by kernel_rfl
theorem ts101 : tsize (EV gl) 101 = some 1 := by kernel_rfl
theorem ta101 : tagg (EV gl) 101 = some false := by kernel_rfl
theorem tz101 : tzero (EV gl) 101 = some (.nilFunc) := by kernel_rfl
theorem ts102 : tsize (EV gl) 102 = some 1 := by kernel_rfl
theorem ta102 : tagg (EV gl) 102 = some false := by kernel_rfl
theorem tz102 : tzero (EV gl) 102 = some (.nilFunc) := by kernel_rfl
theorem ts103 : tsize (EV gl) 103 = some 1 := by kernel_rfl
theorem ta103 : tagg (EV gl) 103 = some false := by kernel_rfl
theorem tz103 : tzero (EV gl) 103 = some (.nilFunc) := by kernel_rfl
theorem ts104 : tsize (EV gl) 104 = some 1 := by kernel_rfl
theorem ta104 : tagg (EV gl) 104 = some false := by kernel_rfl
theorem tz104 : tzero (EV gl) 104 = some (.nilFunc) := by kernel_rfl
theorem ts105 : tsize (EV gl) 105 = some 1 := by kernel_rfl
theorem ta105 : tagg (EV gl) 105 = some false := by kernel_rfl
theorem tz105 : tzero (EV gl) 105 = some (.nilFunc) := by kernel_rfl
theorem ts106 : tsize (EV gl) 106 = some 1 := by kernel_rfl
theorem ta106 : tagg (EV gl) 106 = some false := by kernel_rfl
theorem tz106 : tzero (EV gl) 106 = some (.slice none 0 0) := by kernel_rfl
theorem ts107 : tsize (EV gl) 107 = some 1 := by kernel_rfl
theorem ta107 : tagg (EV gl) 107 = some false := by kernel_rfl
theorem tz107 : tzero (EV gl) 107 = some (.nilFunc) := by kernel_rfl
theorem ts108 : tsize (EV gl) 108 = some 1 := by kernel_rfl
theorem ta108 : tagg (EV gl) 108 = some false := by kernel_rfl
theorem tz108 : tzero (EV gl) 108 = some (.nilFunc) := by kernel_rfl
theorem ts109 : tsize (EV gl) 109 = some 1 := by kernel_rfl
theorem ta109 : tagg (EV gl) 109 = some false := by kernel_rfl
theorem tz109 : tzero (EV gl) 109 = some (.nilFunc) := by kernel_rfl
theorem ts110 : tsize (EV gl) 110 = some 1 := by kernel_rfl
theorem ta110 : tagg (EV gl) 110 = some false := by kernel_rfl
theorem tz110 : tzero (EV gl) 110 = some (.nilFunc) := by kernel_rfl
theorem ts112 : tsize (EV gl) 112 = some 1 := by kernel_rfl
theorem ta112 : tagg (EV gl) 112 = some false := by kernel_rfl
theorem tz112 : tzero (EV gl) 112 = some (.nilFunc) := by kernel_rfl
theorem ts114 : tsize (EV gl) 114 = some 1 := by kernel_rfl
theorem ta114 : tagg (EV gl) 114 = some false := by kernel_rfl
theorem tz114 : tzero (EV gl) 114 = some (.nilFunc) := by kernel_rfl
theorem ts116 : tsize (EV gl) 116 = some 1 := by kernel_rfl
theorem ta116 : tagg (EV gl) 116 = some false := by kernel_rfl
theorem tz116 : tzero (EV gl) 116 = some (.nilFunc) := by kernel_rfl
theorem ts118 : tsize (EV gl) 118 = some 1 := by kernel_rfl
theorem ta118 : tagg (EV gl) 118 = some false := by kernel_rfl
theorem tz118 : tzero (EV gl) 118 = some (.nilFunc) := by kernel_rfl
theorem ts119 : tsize (EV gl) 119 = some 1 := by kernel_rfl
theorem ta119 : tagg (EV gl) 119 = some false := by kernel_rfl
theorem tz119 : tzero (EV gl) 119 = some (.nilFunc) := by kernel_rfl
theorem ts120 : tsize (EV gl) 120 = some 1 := by kernel_rfl
theorem ta120 : tagg (EV gl) 120 = some false := by kernel_rfl
theorem tz120 : tzero (EV gl) 120 = some (.nilFunc) := by kernel_rfl
theorem ts122 : tsize (EV gl) 122 = some 1 := by kernel_rfl
theorem ta122 : tagg (EV gl) 122 = some false := by kernel_rfl
theorem tz122 : tzero (EV gl) 122 = some (.nilFunc) := by kernel_rfl
theorem ts123 : tsize (EV gl) 123 = some 1 := by kernel_rfl
theorem ta123 : tagg (EV gl) 123 = some false := by kernel_rfl
theorem tz123 : tzero (EV gl) 123 = some (.nilFunc) := by kernel_rfl
theorem ts124 : tsize (EV gl) 124 = some 1 := by kernel_rfl
theorem ta124 : tagg (EV gl) 124 = some false := by kernel_rfl
theorem tz124 : tzero (EV gl) 124 = some (.nilIface) := by kernel_rfl
theorem ts125 : tsize (EV gl) 125 = some 1 := by kernel_rfl
theorem ta125 : tagg (EV gl) 125 = some false := by kernel_rfl
theorem tz125 : tzero (EV gl) 125 = some (.nilIface) := by kernel_rfl
theorem ts126 : tsize (EV gl) 126 = some 1 := by kernel_rfl
theorem ta126 : tagg (EV gl) 126 = some false := by kernel_rfl
theorem tz126 : tzero (EV gl) 126 = some (.nilFunc) := by kernel_rfl
theorem ts127 : tsize (EV gl) 127 = some 1 := by kernel_rfl
theorem ta127 : tagg (EV gl) 127 = some false := by kernel_rfl
theorem tz127 : tzero (EV gl) 127 = some (.nilFunc) := by kernel_rfl
theorem ts128 : tsize (EV gl) 128 = some 1 := by kernel_rfl
theorem ta128 : tagg (EV gl) 128 = some false := by kernel_rfl
theorem tz128 : tzero (EV gl) 128 = some (.nilFunc) := by kernel_rfl
theorem ts129 : tsize (EV gl) 129 = some 1 := by kernel_rfl
theorem ta129 : tagg (EV gl) 129 = some false := by kernel_rfl
theorem tz129 : tzero (EV gl) 129 = some (.pointer none) := by kernel_rfl
theorem ts130 : tsize (EV gl) 130 = some 1 := by kernel_rfl
theorem ta130 : tagg (EV gl) 130 = some false := by kernel_rfl
theorem tz130 : tzero (EV gl) 130 = some (.nilFunc) := by kernel_rfl
theorem ts131 : tsize (EV gl) 131 = some 1 := by kernel_rfl
theorem ta131 : tagg (EV gl) 131 = some false := by kernel_rfl
theorem tz131 : tzero (EV gl) 131 = some (.nilFunc) := by kernel_rfl
theorem ts132 : tsize (EV gl) 132 = some 1 := by kernel_rfl
theorem ta132 : tagg (EV gl) 132 = some false := by kernel_rfl
theorem tz132 : tzero (EV gl) 132 = some (.nilFunc) := by kernel_rfl
theorem ts133 : tsize (EV gl) 133 = some 1 := by kernel_rfl
theorem ta133 : tagg (EV gl) 133 = some false := by kernel_rfl
theorem tz133 : tzero (EV gl) 133 = some (.int .u32 0) := by kernel_rfl
theorem ts134 : tsize (EV gl) 134 = some 8 := by kernel_rfl
theorem ta134 : tagg (EV gl) 134 = some true := by kernel_rfl
theorem tz134 : tzero (EV gl) 134 = some (.agg #[.int .u32 0, .int .u32 0, .int .u32 0, .int .u32 0, .int .u32 0, .int .u32 0, .int .u32 0, .int .u32 0]) := by kernel_rfl
theorem ts135 : tsize (EV gl) 135 = some 8 := by kernel_rfl
theorem ta135 : tagg (EV gl) 135 = some true := by kernel_rfl
theorem tz135 : tzero (EV gl) 135 = some (.agg #[.int .u32 0, .int .u32 0, .int .u32 0, .int .u32 0, .int .u32 0, .int .u32 0, .int .u32 0, .int .u32 0]) := by kernel_rfl
theorem ts136 : tsize (EV gl) 136 = some 1 := by kernel_rfl
theorem ta136 : tagg (EV gl) 136 = some false := by kernel_rfl
theorem tz136 : tzero (EV gl) 136 = some (.nilFunc) := by kernel_rfl
theorem ts137 : tsize (EV gl) 137 = some 1 := by kernel_rfl
theorem ta137 : tagg (EV gl) 137 = some false := by kernel_rfl
theorem tz137 : tzero (EV gl) 137 = some (.nilFunc) := by kernel_rfl
theorem ts138 : tsize (EV gl) 138 = some 1 := by kernel_rfl
theorem ta138 : tagg (EV gl) 138 = some false := by kernel_rfl
theorem tz138 : tzero (EV gl) 138 = some (.nilFunc) := by kernel_rfl
theorem ts139 : tsize (EV gl) 139 = some 1 := by kernel_rfl
theorem ta139 : tagg (EV gl) 139 = some false := by kernel_rfl
theorem tz139 : tzero (EV gl) 139 = some (.nilFunc) := by kernel_rfl
theorem ts140 : tsize (EV gl) 140 = some 1 := by kernel_rfl
theorem ta140 : tagg (EV gl) 140 = some false := by kernel_rfl
theorem tz140 : tzero (EV gl) 140 = some (.nilFunc) := by kernel_rfl
theorem ts141 : tsize (EV gl) 141 = some 1 := by kernel_rfl
theorem ta141 : tagg (EV gl) 141 = some false := by kernel_rfl
theorem tz141 : tzero (EV gl) 141 = some (.nilFunc) := by kernel_rfl
theorem ts142 : tsize (EV gl) 142 = some 1 := by kernel_rfl
theorem ta142 : tagg (EV gl) 142 = some false := by kernel_rfl
theorem tz142 : tzero (EV gl) 142 = some (.nilFunc) := by kernel_rfl
theorem ts143 : tsize (EV gl) 143 = some 1 := by kernel_rfl
theorem ta143 : tagg (EV gl) 143 = some false := by kernel_rfl
theorem tz143 : tzero (EV gl) 143 = some (.nilFunc) := by kernel_rfl
theorem ts145 : tsize (EV gl) 145 = some 1 := by kernel_rfl
theorem ta145 : tagg (EV gl) 145 = some false := by kernel_rfl
theorem tz145 : tzero (EV gl) 145 = some (.nilFunc) := by kernel_rfl
theorem ts146 : tsize (EV gl) 146 = some 1 := by kernel_rfl
theorem ta146 : tagg (EV gl) 146 = some false := by kernel_rfl
theorem tz146 : tzero (EV gl) 146 = some (.nilFunc) := by kernel_rfl
theorem ts147 : tsize (EV gl) 147 = some 1 := by kernel_rfl
theorem ta147 : tagg (EV gl) 147 = some false := by kernel_rfl
theorem tz147 : tzero (EV gl) 147 = some (.nilFunc) := by kernel_rfl
theorem ts148 : tsize (EV gl) 148 = some 256 := by kernel_rfl
theorem ta148 : tagg (EV gl) 148 = some true := by kernel_rfl
theorem ts149 : tsize (EV gl) 149 = some 256 := by kernel_rfl
theorem ta149 : tagg (EV gl) 149 = some true := by kernel_rfl
theorem ts151 : tsize (EV gl) 151 = some 1 := by kernel_rfl
theorem ta151 : tagg (EV gl) 151 = some false := by kernel_rfl
theorem tz151 : tzero (EV gl) 151 = some (.nilFunc) := by kernel_rfl
theorem ts152 : tsize (EV gl) 152 = some 1 := by kernel_rfl
theorem ta152 : tagg (EV gl) 152 = some false := by kernel_rfl
theorem tz152 : tzero (EV gl) 152 = some (.nilFunc) := by kernel_rfl
theorem ts153 : tsize (EV gl) 153 = some 1 := by kernel_rfl
theorem ta153 : tagg (EV gl) 153 = some false := by kernel_rfl
theorem tz153 : tzero (EV gl) 153 = some (.pointer none) := by kernel_rfl
theorem ts154 : tsize (EV gl) 154 = some 1 := by kernel_rfl
theorem ta154 : tagg (EV gl) 154 = some false := by kernel_rfl
theorem tz154 : tzero (EV gl) 154 = some (.nilFunc) := by kernel_rfl
theorem ts155 : tsize (EV gl) 155 = some 1 := by kernel_rfl
theorem ta155 : tagg (EV gl) 155 = some true := by kernel_rfl
theorem tz155 : tzero (EV gl) 155 = some (.agg #[.pointer none]) := by kernel_rfl
theorem ts156 : tsize (EV gl) 156 = some 1 := by kernel_rfl
theorem ta156 : tagg (EV gl) 156 = some true := by kernel_rfl
theorem tz156 : tzero (EV gl) 156 = some (.agg #[.pointer none]) := by kernel_rfl
theorem ts157 : tsize (EV gl) 157 = some 1 := by kernel_rfl
theorem ta157 : tagg (EV gl) 157 = some false := by kernel_rfl
theorem tz157 : tzero (EV gl) 157 = some (.pointer none) := by kernel_rfl
theorem ts158 : tsize (EV gl) 158 = some 1 := by kernel_rfl
theorem ta158 : tagg (EV gl) 158 = some false := by kernel_rfl
theorem tz158 : tzero (EV gl) 158 = some (.nilIface) := by kernel_rfl
theorem ts160 : tsize (EV gl) 160 = some 1 := by kernel_rfl
theorem ta160 : tagg (EV gl) 160 = some false := by kernel_rfl
theorem tz160 : tzero (EV gl) 160 = some (.nilFunc) := by kernel_rfl
theorem ts161 : tsize (EV gl) 161 = some 1 := by kernel_rfl
theorem ta161 : tagg (EV gl) 161 = some false := by kernel_rfl
theorem tz161 : tzero (EV gl) 161 = some (.nilIface) := by kernel_rfl
theorem ts162 : tsize (EV gl) 162 = some 1 := by kernel_rfl
theorem ta162 : tagg (EV gl) 162 = some false := by kernel_rfl
theorem tz162 : tzero (EV gl) 162 = some (.nilIface) := by kernel_rfl
theorem ts163 : tsize (EV gl) 163 = some 1 := by kernel_rfl
theorem ta163 : tagg (EV gl) 163 = some false := by kernel_rfl
theorem tz163 : tzero (EV gl) 163 = some (.nilFunc) := by kernel_rfl
theorem ts164 : tsize (EV gl) 164 = some 1 := by kernel_rfl
theorem ta164 : tagg (EV gl) 164 = some true := by kernel_rfl
theorem tz164 : tzero (EV gl) 164 = some (.agg #[.slice none 0 0]) := by kernel_rfl
theorem ts165 : tsize (EV gl) 165 = some 1 := by kernel_rfl
theorem ta165 : tagg (EV gl) 165 = some true := by kernel_rfl
theorem tz165 : tzero (EV gl) 165 = some (.agg #[.slice none 0 0]) := by kernel_rfl
theorem ts166 : tsize (EV gl) 166 = some 1 := by kernel_rfl
theorem ta166 : tagg (EV gl) 166 = some false := by kernel_rfl
theorem tz166 : tzero (EV gl) 166 = some (.nilFunc) := by kernel_rfl
theorem ts167 : tsize (EV gl) 167 = some 1 := by kernel_rfl
theorem ta167 : tagg (EV gl) 167 = some false := by kernel_rfl
theorem tz167 : tzero (EV gl) 167 = some (.pointer none) := by kernel_rfl
theorem ts168 : tsize (EV gl) 168 = some 1 := by kernel_rfl
theorem ta168 : tagg (EV gl) 168 = some false := by kernel_rfl
theorem tz168 : tzero (EV gl) 168 = some (.nilFunc) := by kernel_rfl
theorem ts169 : tsize (EV gl) 169 = some 1 := by kernel_rfl
theorem ta169 : tagg (EV gl) 169 = some false := by kernel_rfl
theorem tz169 : tzero (EV gl) 169 = some (.nilFunc) := by kernel_rfl
theorem ts170 : tsize (EV gl) 170 = some 64 := by kernel_rfl
theorem ta170 : tagg (EV gl) 170 = some true := by kernel_rfl
theorem tz170 : tzero (EV gl) 170 = some (.agg #[.int .u32 0, .int .u32 0, .int .u32 0, .int .u32 0, .int .u32 0, .int .u32 0, .int .u32 0, .int .u32 0, .int .u32 0, .int .u32 0, .int .u32 0, .int .u32 0, .int .u32 0, .int .u32 0, .int .u32 0, .int .u32 0, .int .u32 0, .int .u32 0, .int .u32 0, .int .u32 0, .int .u32 0, .int .u32 0, .int .u32 0, .int .u32 0, .int .u32 0, .int .u32 0, .int .u32 0, .int .u32 0, .int .u32 0, .int .u32 0, .int .u32 0, .int .u32 0, .int .u32 0, .int .u32 0, .int .u32 0, .int .u32 0, .int .u32 0, .int .u32 0, .int .u32 0, .int .u32 0, .int .u32 0, .int .u32 0, .int .u32 0, .int .u32 0, .int .u32 0, .int .u32 0, .int .u32 0, .int .u32 0, .int .u32 0, .int .u32 0, .int .u32 0, .int .u32 0, .int .u32 0, .int .u32 0, .int .u32 0, .int .u32 0, .int .u32 0, .int .u32 0, .int .u32 0, .int .u32 0, .int .u32 0, .int .u32 0, .int .u32 0, .int .u32 0]) := by kernel_rfl
theorem ts171 : tsize (EV gl) 171 = some 1 := by kernel_rfl
theorem ta171 : tagg (EV gl) 171 = some false := by kernel_rfl
theorem tz171 : tzero (EV gl) 171 = some (.nilFunc) := by kernel_rfl
theorem ts172 : tsize (EV gl) 172 = some 1 := by kernel_rfl
theorem ta172 : tagg (EV gl) 172 = some false := by kernel_rfl
theorem tz172 : tzero (EV gl) 172 = some (.nilFunc) := by kernel_rfl
theorem ts173 : tsize (EV gl) 173 = some 1 := by kernel_rfl
theorem ta173 : tagg (EV gl) 173 = some false := by kernel_rfl
theorem tz173 : tzero (EV gl) 173 = some (.nilFunc) := by kernel_rfl
theorem ts174 : tsize (EV gl) 174 = some 1 := by kernel_rfl
theorem ta174 : tagg (EV gl) 174 = some false := by kernel_rfl
theorem tz174 : tzero (EV gl) 174 = some (.int .i64 0) := by kernel_rfl
theorem ts176 : tsize (EV gl) 176 = some 1 := by kernel_rfl
theorem ta176 : tagg (EV gl) 176 = some false := by kernel_rfl
theorem tz176 : tzero (EV gl) 176 = some (.nilFunc) := by kernel_rfl
theorem ts177 : tsize (EV gl) 177 = some 1 := by kernel_rfl
theorem ta177 : tagg (EV gl) 177 = some false := by kernel_rfl
theorem tz177 : tzero (EV gl) 177 = some (.nilFunc) := by kernel_rfl
theorem ts178 : tsize (EV gl) 178 = some 1 := by kernel_rfl
theorem ta178 : tagg (EV gl) 178 = some false := by kernel_rfl
theorem tz178 : tzero (EV gl) 178 = some (.nilFunc) := by kernel_rfl
theorem ts180 : tsize (EV gl) 180 = some 1 := by kernel_rfl
theorem ta180 : tagg (EV gl) 180 = some false := by kernel_rfl
theorem tz180 : tzero (EV gl) 180 = some (.nilFunc) := by kernel_rfl
theorem ts181 : tsize (EV gl) 181 = some 1 := by kernel_rfl
theorem ta181 : tagg (EV gl) 181 = some false := by kernel_rfl
theorem tz181 : tzero (EV gl) 181 = some (.nilFunc) := by kernel_rfl
theorem ts182 : tsize (EV gl) 182 = some 1 := by kernel_rfl
theorem ta182 : tagg (EV gl) 182 = some false := by kernel_rfl
theorem tz182 : tzero (EV gl) 182 = some (.nilFunc) := by kernel_rfl
theorem ts183 : tsize (EV gl) 183 = some 1 := by kernel_rfl
theorem ta183 : tagg (EV gl) 183 = some false := by kernel_rfl
theorem tz183 : tzero (EV gl) 183 = some (.nilFunc) := by kernel_rfl
theorem ts185 : tsize (EV gl) 185 = some 1 := by kernel_rfl
theorem ta185 : tagg (EV gl) 185 = some false := by kernel_rfl
theorem tz185 : tzero (EV gl) 185 = some (.nilFunc) := by kernel_rfl
theorem ts186 : tsize (EV gl) 186 = some 1 := by kernel_rfl
theorem ta186 : tagg (EV gl) 186 = some false := by kernel_rfl
theorem tz186 : tzero (EV gl) 186 = some (.nilFunc) := by kernel_rfl
theorem ts187 : tsize (EV gl) 187 = some 1 := by kernel_rfl
theorem ta187 : tagg (EV gl) 187 = some false := by kernel_rfl
theorem tz187 : tzero (EV gl) 187 = some (.nilFunc) := by kernel_rfl
theorem ts188 : tsize (EV gl) 188 = some 1 := by kernel_rfl
theorem ta188 : tagg (EV gl) 188 = some false := by kernel_rfl
theorem tz188 : tzero (EV gl) 188 = some (.slice none 0 0) := by kernel_rfl
theorem ts189 : tsize (EV gl) 189 = some 1 := by kernel_rfl
theorem ta189 : tagg (EV gl) 189 = some false := by kernel_rfl
theorem tz189 : tzero (EV gl) 189 = some (.nilFunc) := by kernel_rfl
theorem ts191 : tsize (EV gl) 191 = some 1 := by kernel_rfl
theorem ta191 : tagg (EV gl) 191 = some false := by kernel_rfl
theorem tz191 : tzero (EV gl) 191 = some (.nilFunc) := by kernel_rfl
theorem ts192 : tsize (EV gl) 192 = some 1 := by kernel_rfl
theorem ta192 : tagg (EV gl) 192 = some false := by kernel_rfl
theorem tz192 : tzero (EV gl) 192 = some (.nilFunc) := by kernel_rfl
theorem ts193 : tsize (EV gl) 193 = some 1 := by kernel_rfl
theorem ta193 : tagg (EV gl) 193 = some true := by kernel_rfl
theorem tz193 : tzero (EV gl) 193 = some (.agg #[.nilIface]) := by kernel_rfl
theorem ts194 : tsize (EV gl) 194 = some 1 := by kernel_rfl
theorem ta194 : tagg (EV gl) 194 = some true := by kernel_rfl
theorem tz194 : tzero (EV gl) 194 = some (.agg #[.nilIface]) := by kernel_rfl
theorem ts195 : tsize (EV gl) 195 = some 1 := by kernel_rfl
theorem ta195 : tagg (EV gl) 195 = some false := by kernel_rfl
theorem tz195 : tzero (EV gl) 195 = some (.nilFunc) := by kernel_rfl
theorem ts196 : tsize (EV gl) 196 = some 1 := by kernel_rfl
theorem ta196 : tagg (EV gl) 196 = some false := by kernel_rfl
theorem tz196 : tzero (EV gl) 196 = some (.nilFunc) := by kernel_rfl
theorem ts197 : tsize (EV gl) 197 = some 1 := by kernel_rfl
theorem ta197 : tagg (EV gl) 197 = some false := by kernel_rfl
theorem tz197 : tzero (EV gl) 197 = some (.int .u64 0) := by kernel_rfl
theorem ts198 : tsize (EV gl) 198 = some 1 := by kernel_rfl
theorem ta198 : tagg (EV gl) 198 = some false := by kernel_rfl
theorem tz198 : tzero (EV gl) 198 = some (.nilFunc) := by kernel_rfl
theorem ts199 : tsize (EV gl) 199 = some 1 := by kernel_rfl
theorem ta199 : tagg (EV gl) 199 = some false := by kernel_rfl
theorem tz199 : tzero (EV gl) 199 = some (.nilFunc) := by kernel_rfl
theorem ts200 : tsize (EV gl) 200 = some 1 := by kernel_rfl
theorem ta200 : tagg (EV gl) 200 = some false := by kernel_rfl
theorem tz200 : tzero (EV gl) 200 = some (.nilFunc) := by kernel_rfl
theorem ts201 : tsize (EV gl) 201 = some 1 := by kernel_rfl
theorem ta201 : tagg (EV gl) 201 = some false := by kernel_rfl
theorem tz201 : tzero (EV gl) 201 = some (.pointer none) := by kernel_rfl
theorem ts202 : tsize (EV gl) 202 = some 1 := by kernel_rfl
theorem ta202 : tagg (EV gl) 202 = some false := by kernel_rfl
theorem tz202 : tzero (EV gl) 202 = some (.nilFunc) := by kernel_rfl
theorem ts203 : tsize (EV gl) 203 = some 11 := by kernel_rfl
theorem ta203 : tagg (EV gl) 203 = some true := by kernel_rfl
theorem tz203 : tzero (EV gl) 203 = some (.agg #[(.string (bstr [])), (.string (bstr [])), (.string (bstr [])), (.string (bstr [])), (.string (bstr [])), (.string (bstr [])), (.string (bstr [])), (.string (bstr [])), (.string (bstr [])), (.string (bstr [])), (.string (bstr []))]) := by kernel_rfl
theorem ts204 : tsize (EV gl) 204 = some 1 := by kernel_rfl
theorem ta204 : tagg (EV gl) 204 = some false := by kernel_rfl
theorem tz204 : tzero (EV gl) 204 = some (.nilFunc) := by kernel_rfl
theorem ts205 : tsize (EV gl) 205 = some 1 := by kernel_rfl
theorem ta205 : tagg (EV gl) 205 = some false := by kernel_rfl
theorem tz205 : tzero (EV gl) 205 = some (.pointer none) := by kernel_rfl
theorem ts206 : tsize (EV gl) 206 = some 1 := by kernel_rfl
theorem ta206 : tagg (EV gl) 206 = some false := by kernel_rfl
theorem tz206 : tzero (EV gl) 206 = some (.nilFunc) := by kernel_rfl
theorem ts207 : tsize (EV gl) 207 = some 256 := by kernel_rfl
theorem ta207 : tagg (EV gl) 207 = some true := by kernel_rfl
theorem ts208 : tsize (EV gl) 208 = some 2 := by kernel_rfl
theorem ta208 : tagg (EV gl) 208 = some true := by kernel_rfl
theorem tz208 : tzero (EV gl) 208 = some (.agg #[.int .u8 0, .int .u8 0]) := by kernel_rfl
theorem ts209 : tsize (EV gl) 209 = some 2 := by kernel_rfl
theorem ta209 : tagg (EV gl) 209 = some true := by kernel_rfl
theorem tz209 : tzero (EV gl) 209 = some (.agg #[.int .u8 0, .int .u8 0]) := by kernel_rfl
theorem ts210 : tsize (EV gl) 210 = some 32 := by kernel_rfl
theorem ta210 : tagg (EV gl) 210 = some true := by kernel_rfl
theorem tz210 : tzero (EV gl) 210 = some (.agg #[.int .u8 0, .int .u8 0, .int .u8 0, .int .u8 0, .int .u8 0, .int .u8 0, .int .u8 0, .int .u8 0, .int .u8 0, .int .u8 0, .int .u8 0, .int .u8 0, .int .u8 0, .int .u8 0, .int .u8 0, .int .u8 0, .int .u8 0, .int .u8 0, .int .u8 0, .int .u8 0, .int .u8 0, .int .u8 0, .int .u8 0, .int .u8 0, .int .u8 0, .int .u8 0, .int .u8 0, .int .u8 0, .int .u8 0, .int .u8 0, .int .u8 0, .int .u8 0]) := by kernel_rfl
theorem ts211 : tsize (EV gl) 211 = some 1 := by kernel_rfl
theorem ta211 : tagg (EV gl) 211 = some false := by kernel_rfl
theorem tz211 : tzero (EV gl) 211 = some (.nilFunc) := by kernel_rfl
theorem ts212 : tsize (EV gl) 212 = some 1 := by kernel_rfl
theorem ta212 : tagg (EV gl) 212 = some false := by kernel_rfl
theorem tz212 : tzero (EV gl) 212 = some (.nilFunc) := by kernel_rfl
theorem ts213 : tsize (EV gl) 213 = some 1 := by kernel_rfl
theorem ta213 : tagg (EV gl) 213 = some false := by kernel_rfl
theorem tz213 : tzero (EV gl) 213 = some (.nilFunc) := by kernel_rfl
theorem ts214 : tsize (EV gl) 214 = some 1 := by kernel_rfl
theorem ta214 : tagg (EV gl) 214 = some false := by kernel_rfl
theorem tz214 : tzero (EV gl) 214 = some (.pointer none) := by kernel_rfl
theorem ts215 : tsize (EV gl) 215 = some 1 := by kernel_rfl
theorem ta215 : tagg (EV gl) 215 = some false := by kernel_rfl
theorem tz215 : tzero (EV gl) 215 = some (.nilFunc) := by kernel_rfl
theorem ts216 : tsize (EV gl) 216 = some 4 := by kernel_rfl
theorem ta216 : tagg (EV gl) 216 = some true := by kernel_rfl
theorem tz216 : tzero (EV gl) 216 = some (.agg #[.pointer none, .pointer none, .pointer none, (.string (bstr []))]) := by kernel_rfl
theorem ts217 : tsize (EV gl) 217 = some 4 := by kernel_rfl
theorem ta217 : tagg (EV gl) 217 = some true := by kernel_rfl
theorem tz217 : tzero (EV gl) 217 = some (.agg #[.pointer none, .pointer none, .pointer none, (.string (bstr []))]) := by kernel_rfl
theorem ts218 : tsize (EV gl) 218 = some 0 := by kernel_rfl
theorem ta218 : tagg (EV gl) 218 = some true := by kernel_rfl
theorem tz218 : tzero (EV gl) 218 = some (.agg #[]) := by kernel_rfl
theorem ts219 : tsize (EV gl) 219 = some 0 := by kernel_rfl
theorem ta219 : tagg (EV gl) 219 = some true := by kernel_rfl
theorem tz219 : tzero (EV gl) 219 = some (.agg #[]) := by kernel_rfl
theorem ts220 : tsize (EV gl) 220 = some 0 := by kernel_rfl
theorem ta220 : tagg (EV gl) 220 = some true := by kernel_rfl
theorem tz220 : tzero (EV gl) 220 = some (.agg #[]) := by kernel_rfl
theorem ts221 : tsize (EV gl) 221 = some 1 := by kernel_rfl
theorem ta221 : tagg (EV gl) 221 = some false := by kernel_rfl
theorem tz221 : tzero (EV gl) 221 = some (.nilFunc) := by kernel_rfl
theorem ts222 : tsize (EV gl) 222 = some 1 := by kernel_rfl
theorem ta222 : tagg (EV gl) 222 = some false := by kernel_rfl
theorem tz222 : tzero (EV gl) 222 = some (.int .u8 0) := by kernel_rfl
theorem ts223 : tsize (EV gl) 223 = some 1 := by kernel_rfl
theorem ta223 : tagg (EV gl) 223 = some false := by kernel_rfl
theorem tz223 : tzero (EV gl) 223 = some (.int .u8 0) := by kernel_rfl
theorem ts224 : tsize (EV gl) 224 = some 1 := by kernel_rfl
theorem ta224 : tagg (EV gl) 224 = some false := by kernel_rfl
theorem tz224 : tzero (EV gl) 224 = some (.nilFunc) := by kernel_rfl
theorem ts225 : tsize (EV gl) 225 = some 1 := by kernel_rfl
theorem ta225 : tagg (EV gl) 225 = some false := by kernel_rfl
theorem tz225 : tzero (EV gl) 225 = some (.pointer none) := by kernel_rfl
theorem ts226 : tsize (EV gl) 226 = some 1 := by kernel_rfl
theorem ta226 : tagg (EV gl) 226 = some false := by kernel_rfl
theorem tz226 : tzero (EV gl) 226 = some (.int .i32 0) := by kernel_rfl
theorem ts227 : tsize (EV gl) 227 = some 1 := by kernel_rfl
theorem ta227 : tagg (EV gl) 227 = some false := by kernel_rfl
theorem tz227 : tzero (EV gl) 227 = some (.int .i32 0) := by kernel_rfl
theorem ts228 : tsize (EV gl) 228 = some 11 := by kernel_rfl
theorem ta228 : tagg (EV gl) 228 = some true := by kernel_rfl
theorem tz228 : tzero (EV gl) 228 = some (.agg #[.int .u64 0, .int .u64 0, .int .u32 0, .int .u8 0, .int .u8 0, .int .u8 0, .int .u8 0, .nilFunc, .pointer none, .int .i32 0, .int .i32 0]) := by kernel_rfl
theorem ts229 : tsize (EV gl) 229 = some 11 := by kernel_rfl
theorem ta229 : tagg (EV gl) 229 = some true := by kernel_rfl
theorem tz229 : tzero (EV gl) 229 = some (.agg #[.int .u64 0, .int .u64 0, .int .u32 0, .int .u8 0, .int .u8 0, .int .u8 0, .int .u8 0, .nilFunc, .pointer none, .int .i32 0, .int .i32 0]) := by kernel_rfl
theorem ts230 : tsize (EV gl) 230 = some 1 := by kernel_rfl
theorem ta230 : tagg (EV gl) 230 = some false := by kernel_rfl
theorem tz230 : tzero (EV gl) 230 = some (.nilFunc) := by kernel_rfl
theorem ts231 : tsize (EV gl) 231 = some 1 := by kernel_rfl
theorem ta231 : tagg (EV gl) 231 = some false := by kernel_rfl
theorem tz231 : tzero (EV gl) 231 = some (.nilFunc) := by kernel_rfl
theorem ts232 : tsize (EV gl) 232 = some 1 := by kernel_rfl
theorem ta232 : tagg (EV gl) 232 = some false := by kernel_rfl
theorem tz232 : tzero (EV gl) 232 = some (.nilFunc) := by kernel_rfl
theorem ts233 : tsize (EV gl) 233 = some 1 := by kernel_rfl
theorem ta233 : tagg (EV gl) 233 = some false := by kernel_rfl
theorem tz233 : tzero (EV gl) 233 = some (.nilFunc) := by kernel_rfl
theorem ts234 : tsize (EV gl) 234 = some 1 := by kernel_rfl
theorem ta234 : tagg (EV gl) 234 = some false := by kernel_rfl
theorem tz234 : tzero (EV gl) 234 = some (.nilFunc) := by kernel_rfl
theorem ts235 : tsize (EV gl) 235 = some 1 := by kernel_rfl
theorem ta235 : tagg (EV gl) 235 = some false := by kernel_rfl
theorem tz235 : tzero (EV gl) 235 = some (.nilFunc) := by kernel_rfl
theorem ts236 : tsize (EV gl) 236 = some 2 := by kernel_rfl
theorem ta236 : tagg (EV gl) 236 = some true := by kernel_rfl
theorem tz236 : tzero (EV gl) 236 = some (.agg #[(.string (bstr [])), .int .u8 0]) := by kernel_rfl
theorem ts237 : tsize (EV gl) 237 = some 2 := by kernel_rfl
theorem ta237 : tagg (EV gl) 237 = some true := by kernel_rfl
theorem tz237 : tzero (EV gl) 237 = some (.agg #[(.string (bstr [])), .int .u8 0]) := by kernel_rfl
theorem ts238 : tsize (EV gl) 238 = some 1 := by kernel_rfl
theorem ta238 : tagg (EV gl) 238 = some true := by kernel_rfl
theorem tz238 : tzero (EV gl) 238 = some (.agg #[(.string (bstr []))]) := by kernel_rfl
theorem ts239 : tsize (EV gl) 239 = some 1 := by kernel_rfl
theorem ta239 : tagg (EV gl) 239 = some true := by kernel_rfl
theorem tz239 : tzero (EV gl) 239 = some (.agg #[(.string (bstr []))]) := by kernel_rfl
theorem ts240 : tsize (EV gl) 240 = some 1 := by kernel_rfl
theorem ta240 : tagg (EV gl) 240 = some false := by kernel_rfl
theorem tz240 : tzero (EV gl) 240 = some (.pointer none) := by kernel_rfl
theorem ts241 : tsize (EV gl) 241 = some 1 := by kernel_rfl
theorem ta241 : tagg (EV gl) 241 = some false := by kernel_rfl
theorem tz241 : tzero (EV gl) 241 = some (.pointer none) := by kernel_rfl
theorem ts242 : tsize (EV gl) 242 = some 1 := by kernel_rfl
theorem ta242 : tagg (EV gl) 242 = some false := by kernel_rfl
theorem tz242 : tzero (EV gl) 242 = some (.nilFunc) := by kernel_rfl
theorem ts243 : tsize (EV gl) 243 = some 1 := by kernel_rfl
theorem ta243 : tagg (EV gl) 243 = some false := by kernel_rfl
theorem tz243 : tzero (EV gl) 243 = some (.int .u16 0) := by kernel_rfl
theorem ts244 : tsize (EV gl) 244 = some 5 := by kernel_rfl
theorem ta244 : tagg (EV gl) 244 = some true := by kernel_rfl
theorem tz244 : tzero (EV gl) 244 = some (.agg #[.int .i32 0, .int .u16 0, .int .u16 0, .int .u32 0, .int .u32 0]) := by kernel_rfl
theorem ts245 : tsize (EV gl) 245 = some 5 := by kernel_rfl
theorem ta245 : tagg (EV gl) 245 = some true := by kernel_rfl
theorem tz245 : tzero (EV gl) 245 = some (.agg #[.int .i32 0, .int .u16 0, .int .u16 0, .int .u32 0, .int .u32 0]) := by kernel_rfl
theorem ts246 : tsize (EV gl) 246 = some 1 := by kernel_rfl
theorem ta246 : tagg (EV gl) 246 = some false := by kernel_rfl
theorem tz246 : tzero (EV gl) 246 = some (.slice none 0 0) := by kernel_rfl
theorem ts247 : tsize (EV gl) 247 = some 1 := by kernel_rfl
theorem ta247 : tagg (EV gl) 247 = some false := by kernel_rfl
theorem tz247 : tzero (EV gl) 247 = some (.int .i32 0) := by kernel_rfl
theorem ts248 : tsize (EV gl) 248 = some 4 := by kernel_rfl
theorem ta248 : tagg (EV gl) 248 = some true := by kernel_rfl
theorem tz248 : tzero (EV gl) 248 = some (.agg #[.int .i32 0, .int .i32 0, .int .i32 0, .int .i32 0]) := by kernel_rfl
theorem ts249 : tsize (EV gl) 249 = some 4 := by kernel_rfl
theorem ta249 : tagg (EV gl) 249 = some true := by kernel_rfl
theorem tz249 : tzero (EV gl) 249 = some (.agg #[.int .i32 0, .int .i32 0, .int .i32 0, .int .i32 0]) := by kernel_rfl
theorem ts250 : tsize (EV gl) 250 = some 1 := by kernel_rfl
theorem ta250 : tagg (EV gl) 250 = some false := by kernel_rfl
theorem tz250 : tzero (EV gl) 250 = some (.nilFunc) := by kernel_rfl
theorem tsl22 : SlT (EV gl) 22 26 2 32 (.agg #[.int .i64 0, .slice none 0 0]) := ⟨Tryd.underlying22, ts26, by kernel_rfl, tz26, by rfl, by decide⟩
theorem tib22 : isByte (EV gl) 26 = false := by kernel_rfl
theorem tsl24 : SlT (EV gl) 24 5 1 1 (.int .u8 0) := ⟨Tryd.underlying24, ts5, by kernel_rfl, tz5, by rfl, by decide⟩
theorem tib24 : isByte (EV gl) 5 = true := by kernel_rfl
theorem tsl27 : SlT (EV gl) 27 91 2 32 (.agg #[.int .i64 0, .slice none 0 0]) := ⟨Tryd.underlying27, ts91, by kernel_rfl, tz91, by rfl, by decide⟩
theorem tib27 : isByte (EV gl) 91 = false := by kernel_rfl
theorem tsl42 : SlT (EV gl) 42 45 32 32 (.agg #[.int .u8 0, .int .u8 0, .int .u8 0, .int .u8 0, .int .u8 0, .int .u8 0, .int .u8 0, .int .u8 0, .int .u8 0, .int .u8 0, .int .u8 0, .int .u8 0, .int .u8 0, .int .u8 0, .int .u8 0, .int .u8 0, .int .u8 0, .int .u8 0, .int .u8 0, .int .u8 0, .int .u8 0, .int .u8 0, .int .u8 0, .int .u8 0, .int .u8 0, .int .u8 0, .int .u8 0, .int .u8 0, .int .u8 0, .int .u8 0, .int .u8 0, .int .u8 0]) := ⟨Tryd.underlying42, ts45, by kernel_rfl, tz45, by rfl, by decide⟩
theorem tib42 : isByte (EV gl) 45 = false := by kernel_rfl
theorem tsl52 : SlT (EV gl) 52 24 1 24 (.slice none 0 0) := ⟨Tryd.underlying52, ts24, by kernel_rfl, tz24, by rfl, by decide⟩
theorem tib52 : isByte (EV gl) 24 = false := by kernel_rfl
theorem tsl65 : SlT (EV gl) 65 54 13 144 (.agg #[.int .i64 0, .int .i64 0, .int .i64 0, .int .i64 0, (.string (bstr [])), .int .i64 0, .int .i64 0, .int .i64 0, .int .i64 0, .int .i64 0, .int .i64 0, .slice none 0 0, .slice none 0 0]) := ⟨Tryd.underlying65, ts54, by kernel_rfl, tz54, by rfl, by decide⟩
theorem tib65 : isByte (EV gl) 54 = false := by kernel_rfl
theorem tsl76 : SlT (EV gl) 76 84 7 96 (.agg #[.int .i64 0, .int .i64 0, .int .i64 0, .int .i64 0, (.string (bstr [])), .slice none 0 0, .slice none 0 0]) := ⟨Tryd.underlying76, ts84, by kernel_rfl, tz84, by rfl, by decide⟩
theorem tib76 : isByte (EV gl) 84 = false := by kernel_rfl
theorem tsl78 : SlT (EV gl) 78 83 7 96 (.agg #[.int .i64 0, .int .i64 0, .int .i64 0, .int .i64 0, (.string (bstr [])), .slice none 0 0, .slice none 0 0]) := ⟨Tryd.underlying78, ts83, by kernel_rfl, tz83, by rfl, by decide⟩
theorem tib78 : isByte (EV gl) 83 = false := by kernel_rfl
theorem tsl81 : SlT (EV gl) 81 4 1 1 (.bool false) := ⟨Tryd.underlying81, ts4, by kernel_rfl, tz4, by rfl, by decide⟩
theorem tib81 : isByte (EV gl) 4 = false := by kernel_rfl
theorem tsl97 : SlT (EV gl) 97 30 1 16 (.nilIface) := ⟨Tryd.underlying97, ts30, by kernel_rfl, tz30, by rfl, by decide⟩
theorem tib97 : isByte (EV gl) 30 = false := by kernel_rfl
theorem tsl106 : SlT (EV gl) 106 3 1 8 (.int .i64 0) := ⟨Tryd.underlying106, ts3, by kernel_rfl, tz3, by rfl, by decide⟩
theorem tib106 : isByte (EV gl) 3 = false := by kernel_rfl
theorem tsl188 : SlT (EV gl) 188 9 1 16 ((.string (bstr []))) := ⟨Tryd.underlying188, ts9, by kernel_rfl, tz9, by rfl, by decide⟩
theorem tib188 : isByte (EV gl) 9 = false := by kernel_rfl
theorem tsl246 : SlT (EV gl) 246 249 4 16 (.agg #[.int .i32 0, .int .i32 0, .int .i32 0, .int .i32 0]) := ⟨Tryd.underlying246, ts249, by kernel_rfl, tz249, by rfl, by decide⟩
theorem tib246 : isByte (EV gl) 249 = false := by kernel_rfl
theorem tst7 : StT (EV gl) 7 (.agg #[.int .i64 0, .int .i64 0, .bool false, .int .u8 0]) [(0, 1, false), (1, 1, false), (2, 1, false), (3, 1, false)] := stT_of tz7 (by kernel_rfl)
theorem tst8 : StT (EV gl) 8 (.agg #[.int .i64 0, .int .i64 0, .bool false, .int .u8 0]) [(0, 1, false), (1, 1, false), (2, 1, false), (3, 1, false)] := stT_of tz8 (by kernel_rfl)
theorem tst13 : StT (EV gl) 13 (.agg #[(.string (bstr [])), .int .u64 0]) [(0, 1, false), (1, 1, false)] := stT_of tz13 (by kernel_rfl)
theorem tst14 : StT (EV gl) 14 (.agg #[(.string (bstr [])), .int .u64 0]) [(0, 1, false), (1, 1, false)] := stT_of tz14 (by kernel_rfl)
theorem tst18 : StT (EV gl) 18 (.agg #[.pointer none]) [(0, 1, false)] := stT_of tz18 (by kernel_rfl)
theorem tst19 : StT (EV gl) 19 (.agg #[.pointer none]) [(0, 1, false)] := stT_of tz19 (by kernel_rfl)
theorem tst25 : StT (EV gl) 25 (.agg #[.int .i64 0, .slice none 0 0]) [(0, 1, false), (1, 1, false)] := stT_of tz25 (by kernel_rfl)
theorem tst26 : StT (EV gl) 26 (.agg #[.int .i64 0, .slice none 0 0]) [(0, 1, false), (1, 1, false)] := stT_of tz26 (by kernel_rfl)
theorem tar44 : ArT (EV gl) 44 32 5 1 (.agg #[.int .u8 0, .int .u8 0, .int .u8 0, .int .u8 0, .int .u8 0, .int .u8 0, .int .u8 0, .int .u8 0, .int .u8 0, .int .u8 0, .int .u8 0, .int .u8 0, .int .u8 0, .int .u8 0, .int .u8 0, .int .u8 0, .int .u8 0, .int .u8 0, .int .u8 0, .int .u8 0, .int .u8 0, .int .u8 0, .int .u8 0, .int .u8 0, .int .u8 0, .int .u8 0, .int .u8 0, .int .u8 0, .int .u8 0, .int .u8 0, .int .u8 0, .int .u8 0]) := ⟨tz44, Tryd.underlying44, ts5⟩
theorem tar45 : ArT (EV gl) 45 32 5 1 (.agg #[.int .u8 0, .int .u8 0, .int .u8 0, .int .u8 0, .int .u8 0, .int .u8 0, .int .u8 0, .int .u8 0, .int .u8 0, .int .u8 0, .int .u8 0, .int .u8 0, .int .u8 0, .int .u8 0, .int .u8 0, .int .u8 0, .int .u8 0, .int .u8 0, .int .u8 0, .int .u8 0, .int .u8 0, .int .u8 0, .int .u8 0, .int .u8 0, .int .u8 0, .int .u8 0, .int .u8 0, .int .u8 0, .int .u8 0, .int .u8 0, .int .u8 0, .int .u8 0]) := ⟨tz45, Tryd.underlying45, ts5⟩
theorem tst53 : StT (EV gl) 53 (.agg #[.int .i64 0, .int .i64 0, .int .i64 0, .int .i64 0, (.string (bstr [])), .int .i64 0, .int .i64 0, .int .i64 0, .int .i64 0, .int .i64 0, .int .i64 0, .slice none 0 0, .slice none 0 0]) [(0, 1, false), (1, 1, false), (2, 1, false), (3, 1, false), (4, 1, false), (5, 1, false), (6, 1, false), (7, 1, false), (8, 1, false), (9, 1, false), (10, 1, false), (11, 1, false), (12, 1, false)] := stT_of tz53 (by kernel_rfl)
theorem tst54 : StT (EV gl) 54 (.agg #[.int .i64 0, .int .i64 0, .int .i64 0, .int .i64 0, (.string (bstr [])), .int .i64 0, .int .i64 0, .int .i64 0, .int .i64 0, .int .i64 0, .int .i64 0, .slice none 0 0, .slice none 0 0]) [(0, 1, false), (1, 1, false), (2, 1, false), (3, 1, false), (4, 1, false), (5, 1, false), (6, 1, false), (7, 1, false), (8, 1, false), (9, 1, false), (10, 1, false), (11, 1, false), (12, 1, false)] := stT_of tz54 (by kernel_rfl)
theorem tst55 : StT (EV gl) 55 (.agg #[.int .i64 0, .int .i64 0, .bool false, .bool false, .int .i64 0, .int .i64 0, .int .i64 0, .int .i64 0, .int .i64 0, .int .i64 0, .int .i64 0, (.string (bstr [])), .int .i64 0, .int .i64 0, .int .i64 0, .int .i64 0, .int .i64 0, .int .i64 0, .slice none 0 0, .slice none 0 0, .int .i64 0, .int .i64 0, .int .i64 0, .int .i64 0, (.string (bstr [])), .int .i64 0, .int .i64 0, .int .i64 0, .int .i64 0, .int .i64 0, .int .i64 0, .slice none 0 0, .slice none 0 0]) [(0, 1, false), (1, 1, false), (2, 1, false), (3, 1, false), (4, 1, false), (5, 1, false), (6, 1, false), (7, 13, true), (20, 13, true)] := stT_of tz55 (by kernel_rfl)
theorem tst56 : StT (EV gl) 56 (.agg #[.int .i64 0, .int .i64 0, .bool false, .bool false, .int .i64 0, .int .i64 0, .int .i64 0, .int .i64 0, .int .i64 0, .int .i64 0, .int .i64 0, (.string (bstr [])), .int .i64 0, .int .i64 0, .int .i64 0, .int .i64 0, .int .i64 0, .int .i64 0, .slice none 0 0, .slice none 0 0, .int .i64 0, .int .i64 0, .int .i64 0, .int .i64 0, (.string (bstr [])), .int .i64 0, .int .i64 0, .int .i64 0, .int .i64 0, .int .i64 0, .int .i64 0, .slice none 0 0, .slice none 0 0]) [(0, 1, false), (1, 1, false), (2, 1, false), (3, 1, false), (4, 1, false), (5, 1, false), (6, 1, false), (7, 13, true), (20, 13, true)] := stT_of tz56 (by kernel_rfl)
theorem tst60 : StT (EV gl) 60 (.agg #[.int .i64 0, .int .i64 0, .int .i64 0, .int .i64 0, (.string (bstr [])), .int .i64 0, .int .i64 0, .int .i64 0, .int .i64 0, .int .i64 0, .int .i64 0, .slice none 0 0, .slice none 0 0]) [(0, 1, false), (1, 1, false), (2, 1, false), (3, 1, false), (4, 1, false), (5, 1, false), (6, 1, false), (7, 1, false), (8, 1, false), (9, 1, false), (10, 1, false), (11, 1, false), (12, 1, false)] := stT_of tz60 (by kernel_rfl)
theorem tst61 : StT (EV gl) 61 (.agg #[.int .i64 0, .int .i64 0, .bool false, .bool false, .int .i64 0, .int .i64 0, .int .i64 0, .int .i64 0, .int .i64 0, .int .i64 0, .int .i64 0, (.string (bstr [])), .int .i64 0, .int .i64 0, .int .i64 0, .int .i64 0, .int .i64 0, .int .i64 0, .slice none 0 0, .slice none 0 0, .int .i64 0, .int .i64 0, .int .i64 0, .int .i64 0, (.string (bstr [])), .int .i64 0, .int .i64 0, .int .i64 0, .int .i64 0, .int .i64 0, .int .i64 0, .slice none 0 0, .slice none 0 0]) [(0, 1, false), (1, 1, false), (2, 1, false), (3, 1, false), (4, 1, false), (5, 1, false), (6, 1, false), (7, 13, true), (20, 13, true)] := stT_of tz61 (by kernel_rfl)
theorem tst62 : StT (EV gl) 62 (.agg #[.int .i64 0, .int .i64 0, .bool false, .bool false, .int .i64 0, .int .i64 0, .int .i64 0, .int .i64 0, .int .i64 0, .int .i64 0, .int .i64 0, (.string (bstr [])), .int .i64 0, .int .i64 0, .int .i64 0, .int .i64 0, .int .i64 0, .int .i64 0, .slice none 0 0, .slice none 0 0, .int .i64 0, .int .i64 0, .int .i64 0, .int .i64 0, (.string (bstr [])), .int .i64 0, .int .i64 0, .int .i64 0, .int .i64 0, .int .i64 0, .int .i64 0, .slice none 0 0, .slice none 0 0]) [(0, 1, false), (1, 1, false), (2, 1, false), (3, 1, false), (4, 1, false), (5, 1, false), (6, 1, false), (7, 13, true), (20, 13, true)] := stT_of tz62 (by kernel_rfl)
theorem tst82 : StT (EV gl) 82 (.agg #[.int .i64 0, .int .i64 0, .int .i64 0, .int .i64 0, (.string (bstr [])), .slice none 0 0, .slice none 0 0]) [(0, 1, false), (1, 1, false), (2, 1, false), (3, 1, false), (4, 1, false), (5, 1, false), (6, 1, false)] := stT_of tz82 (by kernel_rfl)
theorem tst83 : StT (EV gl) 83 (.agg #[.int .i64 0, .int .i64 0, .int .i64 0, .int .i64 0, (.string (bstr [])), .slice none 0 0, .slice none 0 0]) [(0, 1, false), (1, 1, false), (2, 1, false), (3, 1, false), (4, 1, false), (5, 1, false), (6, 1, false)] := stT_of tz83 (by kernel_rfl)
theorem tst84 : StT (EV gl) 84 (.agg #[.int .i64 0, .int .i64 0, .int .i64 0, .int .i64 0, (.string (bstr [])), .slice none 0 0, .slice none 0 0]) [(0, 1, false), (1, 1, false), (2, 1, false), (3, 1, false), (4, 1, false), (5, 1, false), (6, 1, false)] := stT_of tz84 (by kernel_rfl)
theorem tst91 : StT (EV gl) 91 (.agg #[.int .i64 0, .slice none 0 0]) [(0, 1, false), (1, 1, false)] := stT_of tz91 (by kernel_rfl)
theorem tar134 : ArT (EV gl) 134 8 133 1 (.agg #[.int .u32 0, .int .u32 0, .int .u32 0, .int .u32 0, .int .u32 0, .int .u32 0, .int .u32 0, .int .u32 0]) := ⟨tz134, Tryd.underlying134, ts133⟩
theorem tar135 : ArT (EV gl) 135 8 133 1 (.agg #[.int .u32 0, .int .u32 0, .int .u32 0, .int .u32 0, .int .u32 0, .int .u32 0, .int .u32 0, .int .u32 0]) := ⟨tz135, Tryd.underlying135, ts133⟩
theorem tst155 : StT (EV gl) 155 (.agg #[.pointer none]) [(0, 1, false)] := stT_of tz155 (by kernel_rfl)
theorem tst156 : StT (EV gl) 156 (.agg #[.pointer none]) [(0, 1, false)] := stT_of tz156 (by kernel_rfl)
theorem tst164 : StT (EV gl) 164 (.agg #[.slice none 0 0]) [(0, 1, false)] := stT_of tz164 (by kernel_rfl)
theorem tst165 : StT (EV gl) 165 (.agg #[.slice none 0 0]) [(0, 1, false)] := stT_of tz165 (by kernel_rfl)
theorem tar170 : ArT (EV gl) 170 64 133 1 (.agg #[.int .u32 0, .int .u32 0, .int .u32 0, .int .u32 0, .int .u32 0, .int .u32 0, .int .u32 0, .int .u32 0, .int .u32 0, .int .u32 0, .int .u32 0, .int .u32 0, .int .u32 0, .int .u32 0, .int .u32 0, .int .u32 0, .int .u32 0, .int .u32 0, .int .u32 0, .int .u32 0, .int .u32 0, .int .u32 0, .int .u32 0, .int .u32 0, .int .u32 0, .int .u32 0, .int .u32 0, .int .u32 0, .int .u32 0, .int .u32 0, .int .u32 0, .int .u32 0, .int .u32 0, .int .u32 0, .int .u32 0, .int .u32 0, .int .u32 0, .int .u32 0, .int .u32 0, .int .u32 0, .int .u32 0, .int .u32 0, .int .u32 0, .int .u32 0, .int .u32 0, .int .u32 0, .int .u32 0, .int .u32 0, .int .u32 0, .int .u32 0, .int .u32 0, .int .u32 0, .int .u32 0, .int .u32 0, .int .u32 0, .int .u32 0, .int .u32 0, .int .u32 0, .int .u32 0, .int .u32 0, .int .u32 0, .int .u32 0, .int .u32 0, .int .u32 0]) := ⟨tz170, Tryd.underlying170, ts133⟩
theorem tst193 : StT (EV gl) 193 (.agg #[.nilIface]) [(0, 1, false)] := stT_of tz193 (by kernel_rfl)
theorem tst194 : StT (EV gl) 194 (.agg #[.nilIface]) [(0, 1, false)] := stT_of tz194 (by kernel_rfl)
theorem tar203 : ArT (EV gl) 203 11 9 1 (.agg #[(.string (bstr [])), (.string (bstr [])), (.string (bstr [])), (.string (bstr [])), (.string (bstr [])), (.string (bstr [])), (.string (bstr [])), (.string (bstr [])), (.string (bstr [])), (.string (bstr [])), (.string (bstr []))]) := ⟨tz203, Tryd.underlying203, ts9⟩
theorem tst208 : StT (EV gl) 208 (.agg #[.int .u8 0, .int .u8 0]) [(0, 1, false), (1, 1, false)] := stT_of tz208 (by kernel_rfl)
theorem tst209 : StT (EV gl) 209 (.agg #[.int .u8 0, .int .u8 0]) [(0, 1, false), (1, 1, false)] := stT_of tz209 (by kernel_rfl)
theorem tar210 : ArT (EV gl) 210 16 209 2 (.agg #[.int .u8 0, .int .u8 0, .int .u8 0, .int .u8 0, .int .u8 0, .int .u8 0, .int .u8 0, .int .u8 0, .int .u8 0, .int .u8 0, .int .u8 0, .int .u8 0, .int .u8 0, .int .u8 0, .int .u8 0, .int .u8 0, .int .u8 0, .int .u8 0, .int .u8 0, .int .u8 0, .int .u8 0, .int .u8 0, .int .u8 0, .int .u8 0, .int .u8 0, .int .u8 0, .int .u8 0, .int .u8 0, .int .u8 0, .int .u8 0, .int .u8 0, .int .u8 0]) := ⟨tz210, Tryd.underlying210, ts209⟩
theorem tst216 : StT (EV gl) 216 (.agg #[.pointer none, .pointer none, .pointer none, (.string (bstr []))]) [(0, 1, false), (1, 1, false), (2, 1, false), (3, 1, false)] := stT_of tz216 (by kernel_rfl)
theorem tst217 : StT (EV gl) 217 (.agg #[.pointer none, .pointer none, .pointer none, (.string (bstr []))]) [(0, 1, false), (1, 1, false), (2, 1, false), (3, 1, false)] := stT_of tz217 (by kernel_rfl)
theorem tar218 : ArT (EV gl) 218 0 16 1 (.agg #[]) := ⟨tz218, Tryd.underlying218, ts16⟩
theorem tst219 : StT (EV gl) 219 (.agg #[]) [(0, 0, true)] := stT_of tz219 (by kernel_rfl)
theorem tst220 : StT (EV gl) 220 (.agg #[]) [(0, 0, true)] := stT_of tz220 (by kernel_rfl)
theorem tst228 : StT (EV gl) 228 (.agg #[.int .u64 0, .int .u64 0, .int .u32 0, .int .u8 0, .int .u8 0, .int .u8 0, .int .u8 0, .nilFunc, .pointer none, .int .i32 0, .int .i32 0]) [(0, 1, false), (1, 1, false), (2, 1, false), (3, 1, false), (4, 1, false), (5, 1, false), (6, 1, false), (7, 1, false), (8, 1, false), (9, 1, false), (10, 1, false)] := stT_of tz228 (by kernel_rfl)
theorem tst229 : StT (EV gl) 229 (.agg #[.int .u64 0, .int .u64 0, .int .u32 0, .int .u8 0, .int .u8 0, .int .u8 0, .int .u8 0, .nilFunc, .pointer none, .int .i32 0, .int .i32 0]) [(0, 1, false), (1, 1, false), (2, 1, false), (3, 1, false), (4, 1, false), (5, 1, false), (6, 1, false), (7, 1, false), (8, 1, false), (9, 1, false), (10, 1, false)] := stT_of tz229 (by kernel_rfl)
theorem tst236 : StT (EV gl) 236 (.agg #[(.string (bstr [])), .int .u8 0]) [(0, 1, false), (1, 1, false)] := stT_of tz236 (by kernel_rfl)
theorem tst237 : StT (EV gl) 237 (.agg #[(.string (bstr [])), .int .u8 0]) [(0, 1, false), (1, 1, false)] := stT_of tz237 (by kernel_rfl)
theorem tst238 : StT (EV gl) 238 (.agg #[(.string (bstr []))]) [(0, 1, false)] := stT_of tz238 (by kernel_rfl)
theorem tst239 : StT (EV gl) 239 (.agg #[(.string (bstr []))]) [(0, 1, false)] := stT_of tz239 (by kernel_rfl)
theorem tst244 : StT (EV gl) 244 (.agg #[.int .i32 0, .int .u16 0, .int .u16 0, .int .u32 0, .int .u32 0]) [(0, 1, false), (1, 1, false), (2, 1, false), (3, 1, false), (4, 1, false)] := stT_of tz244 (by kernel_rfl)
theorem tst245 : StT (EV gl) 245 (.agg #[.int .i32 0, .int .u16 0, .int .u16 0, .int .u32 0, .int .u32 0]) [(0, 1, false), (1, 1, false), (2, 1, false), (3, 1, false), (4, 1, false)] := stT_of tz245 (by kernel_rfl)
theorem tst248 : StT (EV gl) 248 (.agg #[.int .i32 0, .int .i32 0, .int .i32 0, .int .i32 0]) [(0, 1, false), (1, 1, false), (2, 1, false), (3, 1, false)] := stT_of tz248 (by kernel_rfl)
theorem tst249 : StT (EV gl) 249 (.agg #[.int .i32 0, .int .i32 0, .int .i32 0, .int .i32 0]) [(0, 1, false), (1, 1, false), (2, 1, false), (3, 1, false)] := stT_of tz249 (by kernel_rfl)
theorem tmix : (EV gl).P.follows .mixedOrders = true := by kernel_rfl
end
end Go.Vm
