/-
  DERIVED. GIVEN WITH THE SEED: THE CARDS: each row of YtmppnmffbmpcpaaDoorRows.lean that lists a variable, with what it lists TIED to the program's text (the seventh form; the later family's looks); each row that meets fmt, with fmt's text TOLD by the authors' own Lean function (tested against real Go, not proved from fmt's source: count such statements apart). THE CARD IS WHAT COUNTS. Prove the row's statement (the work); the ties are given (YtmppnmffbmpcpaaDoorTie.lean); close each card by the builder's one call (the guide's Derived/Test/ToyasCard.lean, 'card_holds'). Laid BY PROGRAM, IN A SANDBOX (cutbox-door.mjs). By AI agents, Wed Nov 11 2026. No macro, syntax, notation, axiom, sorry.
-/
import Derived.Test.YtmppnmffbmpcpaaDoorRows
import GoSem.ClaimSeven
namespace Go.Proofs.YtmppnmffbmpcpaaDoor
namespace Rows

/-- THE TIED CARD OF 'cartagelaw02.OctetsWrite'. -/
def octetsWriteCard : Claim7 := { stood := { row := octetsWriteRow, standIns := [], harness := (true, "1c46edd74504bcb2d8dd85d78fdbdd4bd4e2afff34e0fa295218c3a74f80069e"), looks := true }, kinds := [], alts := [], laidByText := true, laidKinds := [.data, .sentinel, .sentinel, .sentinel, .sentinel, .sentinel, .sentinel, .sentinel, .sentinel, .sentinel, .sentinel, .sentinel, .sentinel, .sentinel, .sentinel, .sentinel, .sentinel, .sentinel, .sentinel, .sentinel, .sentinel, .sentinel, .sentinel, .pinned], laidTests := true, laidLooks := .later }
def OctetsWriteCardSaid : Prop := Claim7.holds Tryd.pinned (.plain (OpenSpec.ofChange octetsWriteSpec)) octetsWriteCard

/-- THE TIED CARD OF 'cartagelaw01.ShaSorts'. -/
def shaSortsCard : Claim7 := { stood := { row := shaSortsRow, standIns := [], harness := (true, "1c46edd74504bcb2d8dd85d78fdbdd4bd4e2afff34e0fa295218c3a74f80069e"), looks := true }, kinds := [], alts := [], laidByText := true, laidKinds := [.data, .data], laidTests := true, laidLooks := .later }
def ShaSortsCardSaid : Prop := Claim7.holds Tryd.pinned (.plain (OpenSpec.ofChange shaSortsSpec)) shaSortsCard

/-- THE TIED CARD OF 'cartagelaw01.ShaOrder'. -/
def shaOrderCard : Claim7 := { stood := { row := shaOrderRow, standIns := [], harness := (true, "1c46edd74504bcb2d8dd85d78fdbdd4bd4e2afff34e0fa295218c3a74f80069e"), looks := true }, kinds := [], alts := [], laidByText := true, laidKinds := [.data, .data], laidTests := true, laidLooks := .later }
def ShaOrderCardSaid : Prop := Claim7.holds Tryd.pinned (.plain (OpenSpec.ofChange shaOrderSpec)) shaOrderCard

/-- THE TIED CARD OF 'cartagelaw21.ClientNew'. -/
def clientNewCard : Claim7 := { stood := { row := clientNewRow, standIns := [], harness := (true, "1c46edd74504bcb2d8dd85d78fdbdd4bd4e2afff34e0fa295218c3a74f80069e"), looks := true }, kinds := [], alts := [], laidByText := true, laidKinds := [.data, .sentinel, .sentinel, .sentinel, .sentinel, .sentinel, .sentinel, .sentinel, .sentinel, .sentinel, .sentinel, .sentinel, .sentinel, .sentinel, .sentinel, .sentinel, .sentinel, .sentinel, .sentinel, .sentinel, .sentinel, .sentinel, .sentinel, .data, .pinned], laidTests := true, laidLooks := .later }
def ClientNewCardSaid : Prop := Claim7.holds Tryd.pinned (.plain (OpenSpec.ofChange clientNewSpec)) clientNewCard

/-- THE TIED CARD OF 'cartagelaw21.ClientEnds'. -/
def clientEndsCard : Claim7 := { stood := { row := clientEndsRow, standIns := [], harness := (true, "1c46edd74504bcb2d8dd85d78fdbdd4bd4e2afff34e0fa295218c3a74f80069e"), looks := true }, kinds := [], alts := [], laidByText := true, laidKinds := [.data, .sentinel, .sentinel, .sentinel, .sentinel, .data, .pinned], laidTests := true, laidLooks := .later }
def ClientEndsCardSaid : Prop := Claim7.holds Tryd.pinned (.plain (OpenSpec.ofChange clientEndsSpec)) clientEndsCard

/-- THE TIED CARD OF 'cartagelaw21.ClientDeaf'. -/
def clientDeafCard : Claim7 := { stood := { row := clientDeafRow, standIns := [], harness := (true, "1c46edd74504bcb2d8dd85d78fdbdd4bd4e2afff34e0fa295218c3a74f80069e"), looks := true }, kinds := [], alts := [], laidByText := true, laidKinds := [.data, .sentinel, .sentinel, .sentinel, .sentinel, .data, .pinned], laidTests := true, laidLooks := .later }
def ClientDeafCardSaid : Prop := Claim7.holds Tryd.pinned (.plain (OpenSpec.ofChange clientDeafSpec)) clientDeafCard

/-- THE TIED CARD OF 'cartagelaw31.ScriptDecodes'. -/
def scriptDecodesCard : Claim7 := { stood := { row := scriptDecodesRow, standIns := [], harness := (true, "1c46edd74504bcb2d8dd85d78fdbdd4bd4e2afff34e0fa295218c3a74f80069e"), looks := true }, kinds := [], alts := [], laidByText := true, laidKinds := [.data, .sentinel, .sentinel, .sentinel, .sentinel, .sentinel, .pinned], laidTests := true, laidLooks := .later }
def ScriptDecodesCardSaid : Prop := Claim7.holds Tryd.pinned (.plain (OpenSpec.ofChange scriptDecodesSpec)) scriptDecodesCard

/-- THE TIED CARD OF 'cartagelaw31.ScriptJoin'. -/
def scriptJoinCard : Claim7 := { stood := { row := scriptJoinRow, standIns := [], harness := (true, "1c46edd74504bcb2d8dd85d78fdbdd4bd4e2afff34e0fa295218c3a74f80069e"), looks := true }, kinds := [], alts := [], laidByText := true, laidKinds := [.data, .sentinel, .sentinel, .sentinel, .sentinel, .sentinel, .pinned], laidTests := true, laidLooks := .later }
def ScriptJoinCardSaid : Prop := Claim7.holds Tryd.pinned (.plain (OpenSpec.ofChange scriptJoinSpec)) scriptJoinCard

/-- THE SECOND FORM's CARD OF 'cartagelaw02.OctetsWrite'. -/
def octetsWriteUptoCard : Claim7 := { stood := { row := octetsWriteUptoRow, standIns := [], harness := (true, "1c46edd74504bcb2d8dd85d78fdbdd4bd4e2afff34e0fa295218c3a74f80069e"), looks := true }, kinds := [], alts := [], laidByText := true, laidKinds := [.data, .sentinel, .sentinel, .sentinel, .sentinel, .sentinel, .sentinel, .sentinel, .sentinel, .sentinel, .sentinel, .sentinel, .sentinel, .sentinel, .sentinel, .sentinel, .sentinel, .sentinel, .sentinel, .sentinel, .sentinel, .sentinel, .sentinel, .pinned], laidTests := true, laidLooks := .later }
def OctetsWriteUptoCardSaid : Prop := Claim7.holds Tryd.pinned (.plain (OpenSpec.upto octetsWriteSpec)) octetsWriteUptoCard

/-- THE SECOND FORM's CARD OF 'cartagelaw01.ShaSorts'. -/
def shaSortsUptoCard : Claim7 := { stood := { row := shaSortsUptoRow, standIns := [], harness := (true, "1c46edd74504bcb2d8dd85d78fdbdd4bd4e2afff34e0fa295218c3a74f80069e"), looks := true }, kinds := [], alts := [], laidByText := true, laidKinds := [.data, .data], laidTests := true, laidLooks := .later }
def ShaSortsUptoCardSaid : Prop := Claim7.holds Tryd.pinned (.plain (OpenSpec.upto shaSortsSpec)) shaSortsUptoCard

/-- THE SECOND FORM's CARD OF 'cartagelaw01.ShaOrder'. -/
def shaOrderUptoCard : Claim7 := { stood := { row := shaOrderUptoRow, standIns := [], harness := (true, "1c46edd74504bcb2d8dd85d78fdbdd4bd4e2afff34e0fa295218c3a74f80069e"), looks := true }, kinds := [], alts := [], laidByText := true, laidKinds := [.data, .data], laidTests := true, laidLooks := .later }
def ShaOrderUptoCardSaid : Prop := Claim7.holds Tryd.pinned (.plain (OpenSpec.upto shaOrderSpec)) shaOrderUptoCard

/-- THE SECOND FORM's CARD OF 'cartagelaw21.ClientNew'. -/
def clientNewUptoCard : Claim7 := { stood := { row := clientNewUptoRow, standIns := [], harness := (true, "1c46edd74504bcb2d8dd85d78fdbdd4bd4e2afff34e0fa295218c3a74f80069e"), looks := true }, kinds := [], alts := [], laidByText := true, laidKinds := [.data, .sentinel, .sentinel, .sentinel, .sentinel, .sentinel, .sentinel, .sentinel, .sentinel, .sentinel, .sentinel, .sentinel, .sentinel, .sentinel, .sentinel, .sentinel, .sentinel, .sentinel, .sentinel, .sentinel, .sentinel, .sentinel, .sentinel, .data, .pinned], laidTests := true, laidLooks := .later }
def ClientNewUptoCardSaid : Prop := Claim7.holds Tryd.pinned (.plain (OpenSpec.upto clientNewSpec)) clientNewUptoCard

/-- THE SECOND FORM's CARD OF 'cartagelaw21.ClientEnds'. -/
def clientEndsUptoCard : Claim7 := { stood := { row := clientEndsUptoRow, standIns := [], harness := (true, "1c46edd74504bcb2d8dd85d78fdbdd4bd4e2afff34e0fa295218c3a74f80069e"), looks := true }, kinds := [], alts := [], laidByText := true, laidKinds := [.data, .sentinel, .sentinel, .sentinel, .sentinel, .data, .pinned], laidTests := true, laidLooks := .later }
def ClientEndsUptoCardSaid : Prop := Claim7.holds Tryd.pinned (.plain (OpenSpec.upto clientEndsSpec)) clientEndsUptoCard

/-- THE SECOND FORM's CARD OF 'cartagelaw21.ClientDeaf'. -/
def clientDeafUptoCard : Claim7 := { stood := { row := clientDeafUptoRow, standIns := [], harness := (true, "1c46edd74504bcb2d8dd85d78fdbdd4bd4e2afff34e0fa295218c3a74f80069e"), looks := true }, kinds := [], alts := [], laidByText := true, laidKinds := [.data, .sentinel, .sentinel, .sentinel, .sentinel, .data, .pinned], laidTests := true, laidLooks := .later }
def ClientDeafUptoCardSaid : Prop := Claim7.holds Tryd.pinned (.plain (OpenSpec.upto clientDeafSpec)) clientDeafUptoCard

/-- THE SECOND FORM's CARD OF 'cartagelaw31.ScriptDecodes'. -/
def scriptDecodesUptoCard : Claim7 := { stood := { row := scriptDecodesUptoRow, standIns := [], harness := (true, "1c46edd74504bcb2d8dd85d78fdbdd4bd4e2afff34e0fa295218c3a74f80069e"), looks := true }, kinds := [], alts := [], laidByText := true, laidKinds := [.data, .sentinel, .sentinel, .sentinel, .sentinel, .sentinel, .pinned], laidTests := true, laidLooks := .later }
def ScriptDecodesUptoCardSaid : Prop := Claim7.holds Tryd.pinned (.plain (OpenSpec.upto scriptDecodesSpec)) scriptDecodesUptoCard

/-- THE SECOND FORM's CARD OF 'cartagelaw31.ScriptJoin'. -/
def scriptJoinUptoCard : Claim7 := { stood := { row := scriptJoinUptoRow, standIns := [], harness := (true, "1c46edd74504bcb2d8dd85d78fdbdd4bd4e2afff34e0fa295218c3a74f80069e"), looks := true }, kinds := [], alts := [], laidByText := true, laidKinds := [.data, .sentinel, .sentinel, .sentinel, .sentinel, .sentinel, .pinned], laidTests := true, laidLooks := .later }
def ScriptJoinUptoCardSaid : Prop := Claim7.holds Tryd.pinned (.plain (OpenSpec.upto scriptJoinSpec)) scriptJoinUptoCard
end Rows
end Go.Proofs.YtmppnmffbmpcpaaDoor
