/-
  NARROWER THAN 'FOR EVERY INPUT', by the rows' own cells (each row's printed sentence says how): OctetsWrite: laid · ShaSorts: laid · ShaOrder: laid · ClientNew: laid · ClientEnds: laid · ClientDeaf: laid · ScriptDecodes: laid · ScriptJoin: laid.
  DERIVED. THE GIVEN ROWS OF THIS SEAT. 8 by the template 'for every input the law returns true; each argument reads behind the call as it read before'; 0 by the template 'total and deterministic' (their statements: YtmppnmffbmpcpaaDoorTotals.lean).
  GIVEN WITH THE SEED: the statements are not yours to turn. If you find one false, say at which input.
  Laid BY PROGRAM, IN A SANDBOX (cutbox-rows.mjs): the forced cells as the released guide's own fill.sh prints them over the translation 30ce01adeac6d43e… (all of the seat's roots in one cut). By AI agents, Wed Nov 11 2026. No macro, syntax, notation, axiom, sorry.
-/
import Derived.Test.YtmppnmffbmpcpaaDoorChecked
import GoSem.PinnedTables
import GoSem.Claim
import GoSem.ClaimJoined
import GoSem.ClaimMapViews
import Derived.JoinedTies
import Derived.KernelRfl
namespace Go.Proofs.YtmppnmffbmpcpaaDoor
/- THE CELL 'sum', in the pinned program and in every row, IS THE sha256 OF THE DUMP (.gsa) THAT YtmppnmffbmpcpaaDoorProg.lean LOADS. Nothing in Lean hashes anything: it is a label: what it is worth is what the hold of that sum in a sandbox is worth. -/
noncomputable def Tryd.pinned : Pinned := { name := "ytmppnmffbmpcpaadoor", sum := "30ce01adeac6d43e1efce68d3b9f908e3b8f198602f3b935dce7aaf0feba3d3e", checked := Tryd.checked }
namespace Rows
def none {H : Type} : Left H := { results := [], args := [] }

/- WHAT THE LISTED PACKAGE-LEVEL VARIABLES READ AS WHEN THE CALL BEGINS. Each datum BY PROGRAM (the guide's laid-datum.mjs) off the statement by which the dump's own 'gosem.cut.vars' lays the variable. In a bare row this is a premise. The card (YtmppnmffbmpcpaaDoorCards.lean) ties it to the program's text. -/
def laid_unicode_utf8_acceptRanges {H : Type} : DataW H := .agg [.agg [.lit (.int .u8 128), .lit (.int .u8 191)], .agg [.lit (.int .u8 160), .lit (.int .u8 191)], .agg [.lit (.int .u8 128), .lit (.int .u8 159)], .agg [.lit (.int .u8 144), .lit (.int .u8 191)], .agg [.lit (.int .u8 128), .lit (.int .u8 143)], .agg [.lit (.int .u8 0), .lit (.int .u8 0)], .agg [.lit (.int .u8 0), .lit (.int .u8 0)], .agg [.lit (.int .u8 0), .lit (.int .u8 0)], .agg [.lit (.int .u8 0), .lit (.int .u8 0)], .agg [.lit (.int .u8 0), .lit (.int .u8 0)], .agg [.lit (.int .u8 0), .lit (.int .u8 0)], .agg [.lit (.int .u8 0), .lit (.int .u8 0)], .agg [.lit (.int .u8 0), .lit (.int .u8 0)], .agg [.lit (.int .u8 0), .lit (.int .u8 0)], .agg [.lit (.int .u8 0), .lit (.int .u8 0)], .agg [.lit (.int .u8 0), .lit (.int .u8 0)]]
def laid_cartage_api_ErrRange {H : Type} : DataW H := .iface "*errors.errorString" (.ptr (.agg [.lit (.string [97, 32, 110, 117, 109, 98, 101, 114, 32, 105, 115, 32, 111, 117, 116, 32, 111, 102, 32, 105, 116, 115, 32, 114, 97, 110, 103, 101])]))
def laid_cartage_api_ErrShort {H : Type} : DataW H := .iface "*errors.errorString" (.ptr (.agg [.lit (.string [115, 111, 109, 101, 116, 104, 105, 110, 103, 32, 105, 115, 32, 109, 105, 115, 115, 105, 110, 103, 32, 97, 116, 32, 116, 104, 101, 32, 101, 110, 100])]))
def laid_cartage_api_ErrLong {H : Type} : DataW H := .iface "*errors.errorString" (.ptr (.agg [.lit (.string [116, 104, 101, 114, 101, 32, 105, 115, 32, 109, 111, 114, 101, 32, 116, 104, 97, 110, 32, 109, 97, 121, 32, 98, 101])]))
def laid_cartage_api_ErrForm {H : Type} : DataW H := .iface "*errors.errorString" (.ptr (.agg [.lit (.string [105, 116, 32, 105, 115, 32, 110, 111, 116, 32, 111, 102, 32, 105, 116, 115, 32, 102, 111, 114, 109])]))
def laid_cartage_api_ErrSum {H : Type} : DataW H := .iface "*errors.errorString" (.ptr (.agg [.lit (.string [116, 104, 101, 32, 115, 117, 109, 32, 105, 115, 32, 110, 111, 116, 32, 114, 105, 103, 104, 116])]))
def laid_cartage_api_ErrName {H : Type} : DataW H := .iface "*errors.errorString" (.ptr (.agg [.lit (.string [105, 116, 32, 105, 115, 32, 110, 111, 32, 114, 105, 103, 104, 116, 32, 110, 97, 109, 101])]))
def laid_cartage_api_ErrKind {H : Type} : DataW H := .iface "*errors.errorString" (.ptr (.agg [.lit (.string [105, 116, 32, 105, 115, 32, 111, 102, 32, 97, 110, 111, 116, 104, 101, 114, 32, 107, 105, 110, 100])]))
def laid_cartage_api_ErrDepth {H : Type} : DataW H := .iface "*errors.errorString" (.ptr (.agg [.lit (.string [105, 116, 32, 103, 111, 101, 115, 32, 116, 111, 111, 32, 100, 101, 101, 112])]))
def laid_cartage_api_ErrMissing {H : Type} : DataW H := .iface "*errors.errorString" (.ptr (.agg [.lit (.string [97, 110, 32, 111, 98, 106, 101, 99, 116, 32, 105, 115, 32, 109, 105, 115, 115, 105, 110, 103])]))
def laid_cartage_api_ErrCas {H : Type} : DataW H := .iface "*errors.errorString" (.ptr (.agg [.lit (.string [97, 32, 114, 101, 102, 32, 105, 115, 32, 110, 111, 116, 32, 119, 104, 97, 116, 32, 119, 97, 115, 32, 101, 120, 112, 101, 99, 116, 101, 100])]))
def laid_cartage_api_ErrQuota {H : Type} : DataW H := .iface "*errors.errorString" (.ptr (.agg [.lit (.string [116, 104, 101, 32, 100, 105, 115, 107, 32, 104, 97, 115, 32, 110, 111, 32, 114, 111, 111, 109])]))
def laid_cartage_api_ErrQueue {H : Type} : DataW H := .iface "*errors.errorString" (.ptr (.agg [.lit (.string [116, 104, 101, 32, 113, 117, 101, 117, 101, 32, 104, 97, 115, 32, 110, 111, 32, 114, 111, 111, 109])]))
def laid_cartage_api_ErrLarge {H : Type} : DataW H := .iface "*errors.errorString" (.ptr (.agg [.lit (.string [105, 116, 32, 105, 115, 32, 116, 111, 111, 32, 108, 97, 114, 103, 101])]))
def laid_cartage_api_ErrNoRepo {H : Type} : DataW H := .iface "*errors.errorString" (.ptr (.agg [.lit (.string [116, 104, 101, 114, 101, 32, 105, 115, 32, 110, 111, 32, 115, 117, 99, 104, 32, 114, 101, 112, 111, 115, 105, 116, 111, 114, 121])]))
def laid_cartage_api_ErrExists {H : Type} : DataW H := .iface "*errors.errorString" (.ptr (.agg [.lit (.string [116, 104, 101, 114, 101, 32, 105, 115, 32, 115, 117, 99, 104, 32, 97, 32, 114, 101, 112, 111, 115, 105, 116, 111, 114, 121, 32, 97, 108, 114, 101, 97, 100, 121])]))
def laid_cartage_api_ErrDown {H : Type} : DataW H := .iface "*errors.errorString" (.ptr (.agg [.lit (.string [105, 116, 32, 105, 115, 32, 110, 111, 116, 32, 97, 118, 97, 105, 108, 97, 98, 108, 101, 32, 110, 111, 119])]))
def laid_cartage_api_ErrTimeout {H : Type} : DataW H := .iface "*errors.errorString" (.ptr (.agg [.lit (.string [110, 111, 98, 111, 100, 121, 32, 97, 110, 115, 119, 101, 114, 101, 100, 32, 105, 110, 32, 116, 105, 109, 101])]))
def laid_cartage_api_ErrStale {H : Type} : DataW H := .iface "*errors.errorString" (.ptr (.agg [.lit (.string [116, 104, 101, 32, 101, 112, 111, 99, 104, 32, 105, 115, 32, 110, 111, 116, 32, 116, 104, 101, 32, 99, 117, 114, 114, 101, 110, 116, 32, 111, 110, 101])]))
def laid_cartage_api_ErrState {H : Type} : DataW H := .iface "*errors.errorString" (.ptr (.agg [.lit (.string [105, 116, 32, 99, 97, 110, 32, 110, 111, 116, 32, 98, 101, 32, 100, 111, 110, 101, 32, 105, 110, 32, 116, 104, 105, 115, 32, 115, 116, 97, 116, 101])]))
def laid_cartage_api_ErrDup {H : Type} : DataW H := .iface "*errors.errorString" (.ptr (.agg [.lit (.string [105, 116, 32, 105, 115, 32, 116, 104, 101, 114, 101, 32, 97, 108, 114, 101, 97, 100, 121])]))
def laid_cartage_api_ErrNone {H : Type} : DataW H := .iface "*errors.errorString" (.ptr (.agg [.lit (.string [116, 104, 101, 114, 101, 32, 105, 115, 32, 110, 111, 110, 101])]))
def laid_cartage_api_ErrFull {H : Type} : DataW H := .iface "*errors.errorString" (.ptr (.agg [.lit (.string [116, 104, 101, 114, 101, 32, 97, 114, 101, 32, 97, 115, 32, 109, 97, 110, 121, 32, 97, 115, 32, 109, 97, 121, 32, 98, 101])]))
/-- One of Go's own tables, pinned by name: the form's constant. -/
def laid_unicode_utf8_first : DataW Unit := Go.Pinned.utf8First
def laid_cartage_sha_grains {H : Type} : DataW H := .agg [.lit (.int .u32 1116352408), .lit (.int .u32 1899447441), .lit (.int .u32 3049323471), .lit (.int .u32 3921009573), .lit (.int .u32 961987163), .lit (.int .u32 1508970993), .lit (.int .u32 2453635748), .lit (.int .u32 2870763221), .lit (.int .u32 3624381080), .lit (.int .u32 310598401), .lit (.int .u32 607225278), .lit (.int .u32 1426881987), .lit (.int .u32 1925078388), .lit (.int .u32 2162078206), .lit (.int .u32 2614888103), .lit (.int .u32 3248222580), .lit (.int .u32 3835390401), .lit (.int .u32 4022224774), .lit (.int .u32 264347078), .lit (.int .u32 604807628), .lit (.int .u32 770255983), .lit (.int .u32 1249150122), .lit (.int .u32 1555081692), .lit (.int .u32 1996064986), .lit (.int .u32 2554220882), .lit (.int .u32 2821834349), .lit (.int .u32 2952996808), .lit (.int .u32 3210313671), .lit (.int .u32 3336571891), .lit (.int .u32 3584528711), .lit (.int .u32 113926993), .lit (.int .u32 338241895), .lit (.int .u32 666307205), .lit (.int .u32 773529912), .lit (.int .u32 1294757372), .lit (.int .u32 1396182291), .lit (.int .u32 1695183700), .lit (.int .u32 1986661051), .lit (.int .u32 2177026350), .lit (.int .u32 2456956037), .lit (.int .u32 2730485921), .lit (.int .u32 2820302411), .lit (.int .u32 3259730800), .lit (.int .u32 3345764771), .lit (.int .u32 3516065817), .lit (.int .u32 3600352804), .lit (.int .u32 4094571909), .lit (.int .u32 275423344), .lit (.int .u32 430227734), .lit (.int .u32 506948616), .lit (.int .u32 659060556), .lit (.int .u32 883997877), .lit (.int .u32 958139571), .lit (.int .u32 1322822218), .lit (.int .u32 1537002063), .lit (.int .u32 1747873779), .lit (.int .u32 1955562222), .lit (.int .u32 2024104815), .lit (.int .u32 2227730452), .lit (.int .u32 2361852424), .lit (.int .u32 2428436474), .lit (.int .u32 2756734187), .lit (.int .u32 3204031479), .lit (.int .u32 3329325298)]
def laid_cartage_sha_start {H : Type} : DataW H := .agg [.lit (.int .u32 1779033703), .lit (.int .u32 3144134277), .lit (.int .u32 1013904242), .lit (.int .u32 2773480762), .lit (.int .u32 1359893119), .lit (.int .u32 2600822924), .lit (.int .u32 528734635), .lit (.int .u32 1541459225)]
def laid_cartage_message_words {H : Type} : DataW H := .agg [.lit (.string []), .lit (.string [97, 115, 107]), .lit (.string [112, 97, 115, 115]), .lit (.string [97, 110, 115, 119, 101, 114]), .lit (.string [112, 117, 108, 108]), .lit (.string [112, 117, 108, 108, 101, 100]), .lit (.string [112, 117, 116]), .lit (.string [100, 111, 110, 101]), .lit (.string [116, 117, 114, 110]), .lit (.string [100, 101, 99, 105, 100, 101]), .lit (.string [100, 101, 99, 105, 100, 101, 100])]

/-- 'cartagelaw02.OctetsWrite': WHATEVER THE INPUT: true; the input reads as it did. -/
def octetsWriteSpec : ChangeSpec := { name := "octetsWrite", fn := fun _ => fun
  | [d1, d2] => { results := [.lit (.bool true)], args := [d1, d2] }
  | _ => none }
def octetsWriteRow : OpenClaim := { program := "ytmppnmffbmpcpaadoor", sum := "30ce01adeac6d43e1efce68d3b9f908e3b8f198602f3b935dce7aaf0feba3d3e", func := "cartage/cartagelaw02.OctetsWrite", spec := "octetsWrite", inPlace := ["internal/bytealg.IndexByteString", "internal/bytealg.IndexString", "internal/reflectlite.TypeOf"], unfollowed := true, recurses := true, named := ["cartage/api.ErrKind", "cartage/api.ErrRange", "unicode/utf8.first", "unicode/utf8.acceptRanges", "cartage/api.ErrShort", "cartage/api.ErrLong", "cartage/api.ErrForm", "cartage/api.ErrSum", "cartage/api.ErrName", "cartage/api.ErrDepth", "cartage/api.ErrMissing", "cartage/api.ErrCas", "cartage/api.ErrQuota", "cartage/api.ErrQueue", "cartage/api.ErrLarge", "cartage/api.ErrNoRepo", "cartage/api.ErrExists", "cartage/api.ErrDown", "cartage/api.ErrTimeout", "cartage/api.ErrStale", "cartage/api.ErrState", "cartage/api.ErrDup", "cartage/api.ErrNone", "cartage/api.ErrFull", "internal/bytealg.MaxLen"], apart := false, laid := [("unicode/utf8.acceptRanges", laid_unicode_utf8_acceptRanges), ("cartage/api.ErrRange", laid_cartage_api_ErrRange), ("cartage/api.ErrShort", laid_cartage_api_ErrShort), ("cartage/api.ErrLong", laid_cartage_api_ErrLong), ("cartage/api.ErrForm", laid_cartage_api_ErrForm), ("cartage/api.ErrSum", laid_cartage_api_ErrSum), ("cartage/api.ErrName", laid_cartage_api_ErrName), ("cartage/api.ErrKind", laid_cartage_api_ErrKind), ("cartage/api.ErrDepth", laid_cartage_api_ErrDepth), ("cartage/api.ErrMissing", laid_cartage_api_ErrMissing), ("cartage/api.ErrCas", laid_cartage_api_ErrCas), ("cartage/api.ErrQuota", laid_cartage_api_ErrQuota), ("cartage/api.ErrQueue", laid_cartage_api_ErrQueue), ("cartage/api.ErrLarge", laid_cartage_api_ErrLarge), ("cartage/api.ErrNoRepo", laid_cartage_api_ErrNoRepo), ("cartage/api.ErrExists", laid_cartage_api_ErrExists), ("cartage/api.ErrDown", laid_cartage_api_ErrDown), ("cartage/api.ErrTimeout", laid_cartage_api_ErrTimeout), ("cartage/api.ErrStale", laid_cartage_api_ErrStale), ("cartage/api.ErrState", laid_cartage_api_ErrState), ("cartage/api.ErrDup", laid_cartage_api_ErrDup), ("cartage/api.ErrNone", laid_cartage_api_ErrNone), ("cartage/api.ErrFull", laid_cartage_api_ErrFull), ("unicode/utf8.first", laid_unicode_utf8_first)] }
def OctetsWriteSaid : Prop := octetsWriteRow.holds Tryd.pinned (OpenSpec.ofChange octetsWriteSpec)

/-- ITS FALSE NEIGHBOUR: 'it returns false'. Refute it at one input. -/
def octetsWriteWrong : ChangeSpec := { name := "octetsWrite", fn := fun _ => fun
  | [d1, d2] => { results := [.lit (.bool false)], args := [d1, d2] }
  | _ => none }
def OctetsWriteWrongFalsely : Prop := octetsWriteRow.holds Tryd.pinned (OpenSpec.ofChange octetsWriteWrong)

/-- 'cartagelaw01.ShaSorts': WHATEVER THE INPUT: true; the input reads as it did. -/
def shaSortsSpec : ChangeSpec := { name := "shaSorts", fn := fun _ => fun
  | [d] => { results := [.lit (.bool true)], args := [d] }
  | _ => none }
def shaSortsRow : OpenClaim := { program := "ytmppnmffbmpcpaadoor", sum := "30ce01adeac6d43e1efce68d3b9f908e3b8f198602f3b935dce7aaf0feba3d3e", func := "cartage/cartagelaw01.ShaSorts", spec := "shaSorts", inPlace := ["internal/bytealg.Compare"], unfollowed := true, recurses := true, named := ["cartage/sha.start", "cartage/sha.grains"], apart := false, laid := [("cartage/sha.grains", laid_cartage_sha_grains), ("cartage/sha.start", laid_cartage_sha_start)] }
def ShaSortsSaid : Prop := shaSortsRow.holds Tryd.pinned (OpenSpec.ofChange shaSortsSpec)

/-- ITS FALSE NEIGHBOUR: 'it returns false'. Refute it at one input. -/
def shaSortsWrong : ChangeSpec := { name := "shaSorts", fn := fun _ => fun
  | [d] => { results := [.lit (.bool false)], args := [d] }
  | _ => none }
def ShaSortsWrongFalsely : Prop := shaSortsRow.holds Tryd.pinned (OpenSpec.ofChange shaSortsWrong)

/-- 'cartagelaw01.ShaOrder': WHATEVER THE INPUT: true; the input reads as it did. -/
def shaOrderSpec : ChangeSpec := { name := "shaOrder", fn := fun _ => fun
  | [d1, d2] => { results := [.lit (.bool true)], args := [d1, d2] }
  | _ => none }
def shaOrderRow : OpenClaim := { program := "ytmppnmffbmpcpaadoor", sum := "30ce01adeac6d43e1efce68d3b9f908e3b8f198602f3b935dce7aaf0feba3d3e", func := "cartage/cartagelaw01.ShaOrder", spec := "shaOrder", inPlace := ["internal/bytealg.Compare"], unfollowed := true, recurses := true, named := ["cartage/sha.start", "cartage/sha.grains"], apart := false, laid := [("cartage/sha.grains", laid_cartage_sha_grains), ("cartage/sha.start", laid_cartage_sha_start)] }
def ShaOrderSaid : Prop := shaOrderRow.holds Tryd.pinned (OpenSpec.ofChange shaOrderSpec)

/-- ITS FALSE NEIGHBOUR: 'it returns false'. Refute it at one input. -/
def shaOrderWrong : ChangeSpec := { name := "shaOrder", fn := fun _ => fun
  | [d1, d2] => { results := [.lit (.bool false)], args := [d1, d2] }
  | _ => none }
def ShaOrderWrongFalsely : Prop := shaOrderRow.holds Tryd.pinned (OpenSpec.ofChange shaOrderWrong)

/-- 'cartagelaw21.ClientNew': WHATEVER THE INPUT: true; the input reads as it did. -/
def clientNewSpec : ChangeSpec := { name := "clientNew", fn := fun _ => fun
  | [d] => { results := [.lit (.bool true)], args := [d] }
  | _ => none }
def clientNewRow : OpenClaim := { program := "ytmppnmffbmpcpaadoor", sum := "30ce01adeac6d43e1efce68d3b9f908e3b8f198602f3b935dce7aaf0feba3d3e", func := "cartage/cartagelaw21.ClientNew", spec := "clientNew", inPlace := ["internal/bytealg.IndexByteString", "internal/bytealg.IndexString", "internal/reflectlite.TypeOf"], unfollowed := true, recurses := true, named := ["cartage/api.ErrRange", "cartage/api.ErrState", "cartage/api.ErrLarge", "cartage/api.ErrKind", "cartage/message.words", "unicode/utf8.first", "unicode/utf8.acceptRanges", "cartage/api.ErrShort", "cartage/api.ErrLong", "cartage/api.ErrForm", "cartage/api.ErrSum", "cartage/api.ErrName", "cartage/api.ErrDepth", "cartage/api.ErrMissing", "cartage/api.ErrCas", "cartage/api.ErrQuota", "cartage/api.ErrQueue", "cartage/api.ErrNoRepo", "cartage/api.ErrExists", "cartage/api.ErrDown", "cartage/api.ErrTimeout", "cartage/api.ErrStale", "cartage/api.ErrDup", "cartage/api.ErrNone", "cartage/api.ErrFull", "internal/bytealg.MaxLen"], apart := false, laid := [("unicode/utf8.acceptRanges", laid_unicode_utf8_acceptRanges), ("cartage/api.ErrRange", laid_cartage_api_ErrRange), ("cartage/api.ErrShort", laid_cartage_api_ErrShort), ("cartage/api.ErrLong", laid_cartage_api_ErrLong), ("cartage/api.ErrForm", laid_cartage_api_ErrForm), ("cartage/api.ErrSum", laid_cartage_api_ErrSum), ("cartage/api.ErrName", laid_cartage_api_ErrName), ("cartage/api.ErrKind", laid_cartage_api_ErrKind), ("cartage/api.ErrDepth", laid_cartage_api_ErrDepth), ("cartage/api.ErrMissing", laid_cartage_api_ErrMissing), ("cartage/api.ErrCas", laid_cartage_api_ErrCas), ("cartage/api.ErrQuota", laid_cartage_api_ErrQuota), ("cartage/api.ErrQueue", laid_cartage_api_ErrQueue), ("cartage/api.ErrLarge", laid_cartage_api_ErrLarge), ("cartage/api.ErrNoRepo", laid_cartage_api_ErrNoRepo), ("cartage/api.ErrExists", laid_cartage_api_ErrExists), ("cartage/api.ErrDown", laid_cartage_api_ErrDown), ("cartage/api.ErrTimeout", laid_cartage_api_ErrTimeout), ("cartage/api.ErrStale", laid_cartage_api_ErrStale), ("cartage/api.ErrState", laid_cartage_api_ErrState), ("cartage/api.ErrDup", laid_cartage_api_ErrDup), ("cartage/api.ErrNone", laid_cartage_api_ErrNone), ("cartage/api.ErrFull", laid_cartage_api_ErrFull), ("cartage/message.words", laid_cartage_message_words), ("unicode/utf8.first", laid_unicode_utf8_first)] }
def ClientNewSaid : Prop := clientNewRow.holds Tryd.pinned (OpenSpec.ofChange clientNewSpec)

/-- ITS FALSE NEIGHBOUR: 'it returns false'. Refute it at one input. -/
def clientNewWrong : ChangeSpec := { name := "clientNew", fn := fun _ => fun
  | [d] => { results := [.lit (.bool false)], args := [d] }
  | _ => none }
def ClientNewWrongFalsely : Prop := clientNewRow.holds Tryd.pinned (OpenSpec.ofChange clientNewWrong)

/-- 'cartagelaw21.ClientEnds': WHATEVER THE INPUT: true; the input reads as it did. -/
def clientEndsSpec : ChangeSpec := { name := "clientEnds", fn := fun _ => fun
  | [d1, d2, d3] => { results := [.lit (.bool true)], args := [d1, d2, d3] }
  | _ => none }
def clientEndsRow : OpenClaim := { program := "ytmppnmffbmpcpaadoor", sum := "30ce01adeac6d43e1efce68d3b9f908e3b8f198602f3b935dce7aaf0feba3d3e", func := "cartage/cartagelaw21.ClientEnds", spec := "clientEnds", inPlace := ["internal/bytealg.IndexByteString", "internal/bytealg.IndexString", "internal/reflectlite.TypeOf"], unfollowed := true, recurses := true, named := ["cartage/api.ErrRange", "cartage/api.ErrState", "cartage/api.ErrLarge", "cartage/api.ErrKind", "cartage/message.words", "unicode/utf8.first", "unicode/utf8.acceptRanges", "internal/bytealg.MaxLen"], apart := false, laid := [("unicode/utf8.acceptRanges", laid_unicode_utf8_acceptRanges), ("cartage/api.ErrRange", laid_cartage_api_ErrRange), ("cartage/api.ErrKind", laid_cartage_api_ErrKind), ("cartage/api.ErrLarge", laid_cartage_api_ErrLarge), ("cartage/api.ErrState", laid_cartage_api_ErrState), ("cartage/message.words", laid_cartage_message_words), ("unicode/utf8.first", laid_unicode_utf8_first)] }
def ClientEndsSaid : Prop := clientEndsRow.holds Tryd.pinned (OpenSpec.ofChange clientEndsSpec)

/-- ITS FALSE NEIGHBOUR: 'it returns false'. Refute it at one input. -/
def clientEndsWrong : ChangeSpec := { name := "clientEnds", fn := fun _ => fun
  | [d1, d2, d3] => { results := [.lit (.bool false)], args := [d1, d2, d3] }
  | _ => none }
def ClientEndsWrongFalsely : Prop := clientEndsRow.holds Tryd.pinned (OpenSpec.ofChange clientEndsWrong)

/-- 'cartagelaw21.ClientDeaf': WHATEVER THE INPUT: true; the input reads as it did. -/
def clientDeafSpec : ChangeSpec := { name := "clientDeaf", fn := fun _ => fun
  | [d1, d2] => { results := [.lit (.bool true)], args := [d1, d2] }
  | _ => none }
def clientDeafRow : OpenClaim := { program := "ytmppnmffbmpcpaadoor", sum := "30ce01adeac6d43e1efce68d3b9f908e3b8f198602f3b935dce7aaf0feba3d3e", func := "cartage/cartagelaw21.ClientDeaf", spec := "clientDeaf", inPlace := ["internal/bytealg.IndexByteString", "internal/bytealg.IndexString", "internal/reflectlite.TypeOf"], unfollowed := true, recurses := true, named := ["cartage/api.ErrRange", "cartage/api.ErrState", "cartage/api.ErrLarge", "cartage/api.ErrKind", "cartage/message.words", "unicode/utf8.first", "unicode/utf8.acceptRanges", "internal/bytealg.MaxLen"], apart := false, laid := [("unicode/utf8.acceptRanges", laid_unicode_utf8_acceptRanges), ("cartage/api.ErrRange", laid_cartage_api_ErrRange), ("cartage/api.ErrKind", laid_cartage_api_ErrKind), ("cartage/api.ErrLarge", laid_cartage_api_ErrLarge), ("cartage/api.ErrState", laid_cartage_api_ErrState), ("cartage/message.words", laid_cartage_message_words), ("unicode/utf8.first", laid_unicode_utf8_first)] }
def ClientDeafSaid : Prop := clientDeafRow.holds Tryd.pinned (OpenSpec.ofChange clientDeafSpec)

/-- ITS FALSE NEIGHBOUR: 'it returns false'. Refute it at one input. -/
def clientDeafWrong : ChangeSpec := { name := "clientDeaf", fn := fun _ => fun
  | [d1, d2] => { results := [.lit (.bool false)], args := [d1, d2] }
  | _ => none }
def ClientDeafWrongFalsely : Prop := clientDeafRow.holds Tryd.pinned (OpenSpec.ofChange clientDeafWrong)

/-- 'cartagelaw31.ScriptDecodes': WHATEVER THE INPUT: true; the input reads as it did. -/
def scriptDecodesSpec : ChangeSpec := { name := "scriptDecodes", fn := fun _ => fun
  | [d] => { results := [.lit (.bool true)], args := [d] }
  | _ => none }
def scriptDecodesRow : OpenClaim := { program := "ytmppnmffbmpcpaadoor", sum := "30ce01adeac6d43e1efce68d3b9f908e3b8f198602f3b935dce7aaf0feba3d3e", func := "cartage/cartagelaw31.ScriptDecodes", spec := "scriptDecodes", inPlace := ["internal/bytealg.IndexByteString", "internal/bytealg.IndexString"], unfollowed := true, recurses := true, named := ["cartage/api.ErrKind", "cartage/api.ErrRange", "unicode/utf8.first", "unicode/utf8.acceptRanges", "cartage/api.ErrShort", "cartage/api.ErrLong", "cartage/api.ErrForm", "internal/bytealg.MaxLen"], apart := false, laid := [("unicode/utf8.acceptRanges", laid_unicode_utf8_acceptRanges), ("cartage/api.ErrRange", laid_cartage_api_ErrRange), ("cartage/api.ErrShort", laid_cartage_api_ErrShort), ("cartage/api.ErrLong", laid_cartage_api_ErrLong), ("cartage/api.ErrForm", laid_cartage_api_ErrForm), ("cartage/api.ErrKind", laid_cartage_api_ErrKind), ("unicode/utf8.first", laid_unicode_utf8_first)] }
def ScriptDecodesSaid : Prop := scriptDecodesRow.holds Tryd.pinned (OpenSpec.ofChange scriptDecodesSpec)

/-- ITS FALSE NEIGHBOUR: 'it returns false'. Refute it at one input. -/
def scriptDecodesWrong : ChangeSpec := { name := "scriptDecodes", fn := fun _ => fun
  | [d] => { results := [.lit (.bool false)], args := [d] }
  | _ => none }
def ScriptDecodesWrongFalsely : Prop := scriptDecodesRow.holds Tryd.pinned (OpenSpec.ofChange scriptDecodesWrong)

/-- 'cartagelaw31.ScriptJoin': WHATEVER THE INPUT: true; the input reads as it did. -/
def scriptJoinSpec : ChangeSpec := { name := "scriptJoin", fn := fun _ => fun
  | [d1, d2] => { results := [.lit (.bool true)], args := [d1, d2] }
  | _ => none }
def scriptJoinRow : OpenClaim := { program := "ytmppnmffbmpcpaadoor", sum := "30ce01adeac6d43e1efce68d3b9f908e3b8f198602f3b935dce7aaf0feba3d3e", func := "cartage/cartagelaw31.ScriptJoin", spec := "scriptJoin", inPlace := ["internal/bytealg.IndexByteString", "internal/bytealg.IndexString"], unfollowed := true, recurses := true, named := ["cartage/api.ErrKind", "cartage/api.ErrRange", "unicode/utf8.first", "unicode/utf8.acceptRanges", "cartage/api.ErrShort", "cartage/api.ErrLong", "cartage/api.ErrForm", "internal/bytealg.MaxLen"], apart := false, laid := [("unicode/utf8.acceptRanges", laid_unicode_utf8_acceptRanges), ("cartage/api.ErrRange", laid_cartage_api_ErrRange), ("cartage/api.ErrShort", laid_cartage_api_ErrShort), ("cartage/api.ErrLong", laid_cartage_api_ErrLong), ("cartage/api.ErrForm", laid_cartage_api_ErrForm), ("cartage/api.ErrKind", laid_cartage_api_ErrKind), ("unicode/utf8.first", laid_unicode_utf8_first)] }
def ScriptJoinSaid : Prop := scriptJoinRow.holds Tryd.pinned (OpenSpec.ofChange scriptJoinSpec)

/-- ITS FALSE NEIGHBOUR: 'it returns false'. Refute it at one input. -/
def scriptJoinWrong : ChangeSpec := { name := "scriptJoin", fn := fun _ => fun
  | [d1, d2] => { results := [.lit (.bool false)], args := [d1, d2] }
  | _ => none }
def ScriptJoinWrongFalsely : Prop := scriptJoinRow.holds Tryd.pinned (OpenSpec.ofChange scriptJoinWrong)

/- THE SECOND FORM. 'bulk': how many values and letters a reading holds, each counted each time it is reached (what is shared counts as often as it is met; a slice's spare places count too). A statement '..UptoSaid' is the law's where the arguments, and the package variables that the reading takes, are together of bulk at most 1048576: NARROWER than '..Said'. Prove '..Said' where nothing that the law and all that it calls make is longer than what came in: it says more and counts as full. Else prove '..UptoSaid'. A law counts once. -/
mutual
def uptoBulk {H : Type} : DataW H → Nat
  | .lit (.string bytes) => bytes.length + 1
  | .lit _ => 1
  | .nil => 1
  | .ptr d => uptoBulk d + 1
  | .slice elems spare => uptoBulkAll elems + uptoBulkAll spare + 1
  | .agg parts => uptoBulkAll parts + 1
  | .iface _ d => uptoBulk d + 1
  | .map entries => uptoBulkEntries entries + 1
  | .held _ => 1
def uptoBulkAll {H : Type} : List (DataW H) → Nat
  | [] => 0
  | d :: r => uptoBulk d + uptoBulkAll r
def uptoBulkEntries {H : Type} : List (Lit × DataW H) → Nat
  | [] => 0
  | x :: r => uptoBulkEntry x + uptoBulkEntries r
def uptoBulkEntry {H : Type} : Lit × DataW H → Nat
  | (.string bytes, d) => bytes.length + uptoBulk d + 1
  | (_, d) => uptoBulk d + 1
 end
def uptoSmall : (H : Type) → List (DataW H) → Bool := fun _ ds => decide (uptoBulkAll ds ≤ 1048576)
def OpenSpec.upto (s : _root_.Go.ChangeSpec) : _root_.Go.OpenSpec := { _root_.Go.OpenSpec.ofChange s with cond := some uptoSmall }

/-- 'cartagelaw02.OctetsWrite', WHERE WHAT IT READS IS OF BULK AT MOST 1048576: true; the input reads as it did. -/
def octetsWriteUptoRow : OpenClaim := { program := "ytmppnmffbmpcpaadoor", sum := "30ce01adeac6d43e1efce68d3b9f908e3b8f198602f3b935dce7aaf0feba3d3e", func := "cartage/cartagelaw02.OctetsWrite", spec := "octetsWrite", inPlace := ["internal/bytealg.IndexByteString", "internal/bytealg.IndexString", "internal/reflectlite.TypeOf"], unfollowed := true, recurses := true, named := ["cartage/api.ErrKind", "cartage/api.ErrRange", "unicode/utf8.first", "unicode/utf8.acceptRanges", "cartage/api.ErrShort", "cartage/api.ErrLong", "cartage/api.ErrForm", "cartage/api.ErrSum", "cartage/api.ErrName", "cartage/api.ErrDepth", "cartage/api.ErrMissing", "cartage/api.ErrCas", "cartage/api.ErrQuota", "cartage/api.ErrQueue", "cartage/api.ErrLarge", "cartage/api.ErrNoRepo", "cartage/api.ErrExists", "cartage/api.ErrDown", "cartage/api.ErrTimeout", "cartage/api.ErrStale", "cartage/api.ErrState", "cartage/api.ErrDup", "cartage/api.ErrNone", "cartage/api.ErrFull", "internal/bytealg.MaxLen"], apart := false, laid := [("unicode/utf8.acceptRanges", laid_unicode_utf8_acceptRanges), ("cartage/api.ErrRange", laid_cartage_api_ErrRange), ("cartage/api.ErrShort", laid_cartage_api_ErrShort), ("cartage/api.ErrLong", laid_cartage_api_ErrLong), ("cartage/api.ErrForm", laid_cartage_api_ErrForm), ("cartage/api.ErrSum", laid_cartage_api_ErrSum), ("cartage/api.ErrName", laid_cartage_api_ErrName), ("cartage/api.ErrKind", laid_cartage_api_ErrKind), ("cartage/api.ErrDepth", laid_cartage_api_ErrDepth), ("cartage/api.ErrMissing", laid_cartage_api_ErrMissing), ("cartage/api.ErrCas", laid_cartage_api_ErrCas), ("cartage/api.ErrQuota", laid_cartage_api_ErrQuota), ("cartage/api.ErrQueue", laid_cartage_api_ErrQueue), ("cartage/api.ErrLarge", laid_cartage_api_ErrLarge), ("cartage/api.ErrNoRepo", laid_cartage_api_ErrNoRepo), ("cartage/api.ErrExists", laid_cartage_api_ErrExists), ("cartage/api.ErrDown", laid_cartage_api_ErrDown), ("cartage/api.ErrTimeout", laid_cartage_api_ErrTimeout), ("cartage/api.ErrStale", laid_cartage_api_ErrStale), ("cartage/api.ErrState", laid_cartage_api_ErrState), ("cartage/api.ErrDup", laid_cartage_api_ErrDup), ("cartage/api.ErrNone", laid_cartage_api_ErrNone), ("cartage/api.ErrFull", laid_cartage_api_ErrFull), ("unicode/utf8.first", laid_unicode_utf8_first)], narrowed := true }
def OctetsWriteUptoSaid : Prop := octetsWriteUptoRow.holds Tryd.pinned (OpenSpec.upto octetsWriteSpec)

/-- 'cartagelaw01.ShaSorts', WHERE WHAT IT READS IS OF BULK AT MOST 1048576: true; the input reads as it did. -/
def shaSortsUptoRow : OpenClaim := { program := "ytmppnmffbmpcpaadoor", sum := "30ce01adeac6d43e1efce68d3b9f908e3b8f198602f3b935dce7aaf0feba3d3e", func := "cartage/cartagelaw01.ShaSorts", spec := "shaSorts", inPlace := ["internal/bytealg.Compare"], unfollowed := true, recurses := true, named := ["cartage/sha.start", "cartage/sha.grains"], apart := false, laid := [("cartage/sha.grains", laid_cartage_sha_grains), ("cartage/sha.start", laid_cartage_sha_start)], narrowed := true }
def ShaSortsUptoSaid : Prop := shaSortsUptoRow.holds Tryd.pinned (OpenSpec.upto shaSortsSpec)

/-- 'cartagelaw01.ShaOrder', WHERE WHAT IT READS IS OF BULK AT MOST 1048576: true; the input reads as it did. -/
def shaOrderUptoRow : OpenClaim := { program := "ytmppnmffbmpcpaadoor", sum := "30ce01adeac6d43e1efce68d3b9f908e3b8f198602f3b935dce7aaf0feba3d3e", func := "cartage/cartagelaw01.ShaOrder", spec := "shaOrder", inPlace := ["internal/bytealg.Compare"], unfollowed := true, recurses := true, named := ["cartage/sha.start", "cartage/sha.grains"], apart := false, laid := [("cartage/sha.grains", laid_cartage_sha_grains), ("cartage/sha.start", laid_cartage_sha_start)], narrowed := true }
def ShaOrderUptoSaid : Prop := shaOrderUptoRow.holds Tryd.pinned (OpenSpec.upto shaOrderSpec)

/-- 'cartagelaw21.ClientNew', WHERE WHAT IT READS IS OF BULK AT MOST 1048576: true; the input reads as it did. -/
def clientNewUptoRow : OpenClaim := { program := "ytmppnmffbmpcpaadoor", sum := "30ce01adeac6d43e1efce68d3b9f908e3b8f198602f3b935dce7aaf0feba3d3e", func := "cartage/cartagelaw21.ClientNew", spec := "clientNew", inPlace := ["internal/bytealg.IndexByteString", "internal/bytealg.IndexString", "internal/reflectlite.TypeOf"], unfollowed := true, recurses := true, named := ["cartage/api.ErrRange", "cartage/api.ErrState", "cartage/api.ErrLarge", "cartage/api.ErrKind", "cartage/message.words", "unicode/utf8.first", "unicode/utf8.acceptRanges", "cartage/api.ErrShort", "cartage/api.ErrLong", "cartage/api.ErrForm", "cartage/api.ErrSum", "cartage/api.ErrName", "cartage/api.ErrDepth", "cartage/api.ErrMissing", "cartage/api.ErrCas", "cartage/api.ErrQuota", "cartage/api.ErrQueue", "cartage/api.ErrNoRepo", "cartage/api.ErrExists", "cartage/api.ErrDown", "cartage/api.ErrTimeout", "cartage/api.ErrStale", "cartage/api.ErrDup", "cartage/api.ErrNone", "cartage/api.ErrFull", "internal/bytealg.MaxLen"], apart := false, laid := [("unicode/utf8.acceptRanges", laid_unicode_utf8_acceptRanges), ("cartage/api.ErrRange", laid_cartage_api_ErrRange), ("cartage/api.ErrShort", laid_cartage_api_ErrShort), ("cartage/api.ErrLong", laid_cartage_api_ErrLong), ("cartage/api.ErrForm", laid_cartage_api_ErrForm), ("cartage/api.ErrSum", laid_cartage_api_ErrSum), ("cartage/api.ErrName", laid_cartage_api_ErrName), ("cartage/api.ErrKind", laid_cartage_api_ErrKind), ("cartage/api.ErrDepth", laid_cartage_api_ErrDepth), ("cartage/api.ErrMissing", laid_cartage_api_ErrMissing), ("cartage/api.ErrCas", laid_cartage_api_ErrCas), ("cartage/api.ErrQuota", laid_cartage_api_ErrQuota), ("cartage/api.ErrQueue", laid_cartage_api_ErrQueue), ("cartage/api.ErrLarge", laid_cartage_api_ErrLarge), ("cartage/api.ErrNoRepo", laid_cartage_api_ErrNoRepo), ("cartage/api.ErrExists", laid_cartage_api_ErrExists), ("cartage/api.ErrDown", laid_cartage_api_ErrDown), ("cartage/api.ErrTimeout", laid_cartage_api_ErrTimeout), ("cartage/api.ErrStale", laid_cartage_api_ErrStale), ("cartage/api.ErrState", laid_cartage_api_ErrState), ("cartage/api.ErrDup", laid_cartage_api_ErrDup), ("cartage/api.ErrNone", laid_cartage_api_ErrNone), ("cartage/api.ErrFull", laid_cartage_api_ErrFull), ("cartage/message.words", laid_cartage_message_words), ("unicode/utf8.first", laid_unicode_utf8_first)], narrowed := true }
def ClientNewUptoSaid : Prop := clientNewUptoRow.holds Tryd.pinned (OpenSpec.upto clientNewSpec)

/-- 'cartagelaw21.ClientEnds', WHERE WHAT IT READS IS OF BULK AT MOST 1048576: true; the input reads as it did. -/
def clientEndsUptoRow : OpenClaim := { program := "ytmppnmffbmpcpaadoor", sum := "30ce01adeac6d43e1efce68d3b9f908e3b8f198602f3b935dce7aaf0feba3d3e", func := "cartage/cartagelaw21.ClientEnds", spec := "clientEnds", inPlace := ["internal/bytealg.IndexByteString", "internal/bytealg.IndexString", "internal/reflectlite.TypeOf"], unfollowed := true, recurses := true, named := ["cartage/api.ErrRange", "cartage/api.ErrState", "cartage/api.ErrLarge", "cartage/api.ErrKind", "cartage/message.words", "unicode/utf8.first", "unicode/utf8.acceptRanges", "internal/bytealg.MaxLen"], apart := false, laid := [("unicode/utf8.acceptRanges", laid_unicode_utf8_acceptRanges), ("cartage/api.ErrRange", laid_cartage_api_ErrRange), ("cartage/api.ErrKind", laid_cartage_api_ErrKind), ("cartage/api.ErrLarge", laid_cartage_api_ErrLarge), ("cartage/api.ErrState", laid_cartage_api_ErrState), ("cartage/message.words", laid_cartage_message_words), ("unicode/utf8.first", laid_unicode_utf8_first)], narrowed := true }
def ClientEndsUptoSaid : Prop := clientEndsUptoRow.holds Tryd.pinned (OpenSpec.upto clientEndsSpec)

/-- 'cartagelaw21.ClientDeaf', WHERE WHAT IT READS IS OF BULK AT MOST 1048576: true; the input reads as it did. -/
def clientDeafUptoRow : OpenClaim := { program := "ytmppnmffbmpcpaadoor", sum := "30ce01adeac6d43e1efce68d3b9f908e3b8f198602f3b935dce7aaf0feba3d3e", func := "cartage/cartagelaw21.ClientDeaf", spec := "clientDeaf", inPlace := ["internal/bytealg.IndexByteString", "internal/bytealg.IndexString", "internal/reflectlite.TypeOf"], unfollowed := true, recurses := true, named := ["cartage/api.ErrRange", "cartage/api.ErrState", "cartage/api.ErrLarge", "cartage/api.ErrKind", "cartage/message.words", "unicode/utf8.first", "unicode/utf8.acceptRanges", "internal/bytealg.MaxLen"], apart := false, laid := [("unicode/utf8.acceptRanges", laid_unicode_utf8_acceptRanges), ("cartage/api.ErrRange", laid_cartage_api_ErrRange), ("cartage/api.ErrKind", laid_cartage_api_ErrKind), ("cartage/api.ErrLarge", laid_cartage_api_ErrLarge), ("cartage/api.ErrState", laid_cartage_api_ErrState), ("cartage/message.words", laid_cartage_message_words), ("unicode/utf8.first", laid_unicode_utf8_first)], narrowed := true }
def ClientDeafUptoSaid : Prop := clientDeafUptoRow.holds Tryd.pinned (OpenSpec.upto clientDeafSpec)

/-- 'cartagelaw31.ScriptDecodes', WHERE WHAT IT READS IS OF BULK AT MOST 1048576: true; the input reads as it did. -/
def scriptDecodesUptoRow : OpenClaim := { program := "ytmppnmffbmpcpaadoor", sum := "30ce01adeac6d43e1efce68d3b9f908e3b8f198602f3b935dce7aaf0feba3d3e", func := "cartage/cartagelaw31.ScriptDecodes", spec := "scriptDecodes", inPlace := ["internal/bytealg.IndexByteString", "internal/bytealg.IndexString"], unfollowed := true, recurses := true, named := ["cartage/api.ErrKind", "cartage/api.ErrRange", "unicode/utf8.first", "unicode/utf8.acceptRanges", "cartage/api.ErrShort", "cartage/api.ErrLong", "cartage/api.ErrForm", "internal/bytealg.MaxLen"], apart := false, laid := [("unicode/utf8.acceptRanges", laid_unicode_utf8_acceptRanges), ("cartage/api.ErrRange", laid_cartage_api_ErrRange), ("cartage/api.ErrShort", laid_cartage_api_ErrShort), ("cartage/api.ErrLong", laid_cartage_api_ErrLong), ("cartage/api.ErrForm", laid_cartage_api_ErrForm), ("cartage/api.ErrKind", laid_cartage_api_ErrKind), ("unicode/utf8.first", laid_unicode_utf8_first)], narrowed := true }
def ScriptDecodesUptoSaid : Prop := scriptDecodesUptoRow.holds Tryd.pinned (OpenSpec.upto scriptDecodesSpec)

/-- 'cartagelaw31.ScriptJoin', WHERE WHAT IT READS IS OF BULK AT MOST 1048576: true; the input reads as it did. -/
def scriptJoinUptoRow : OpenClaim := { program := "ytmppnmffbmpcpaadoor", sum := "30ce01adeac6d43e1efce68d3b9f908e3b8f198602f3b935dce7aaf0feba3d3e", func := "cartage/cartagelaw31.ScriptJoin", spec := "scriptJoin", inPlace := ["internal/bytealg.IndexByteString", "internal/bytealg.IndexString"], unfollowed := true, recurses := true, named := ["cartage/api.ErrKind", "cartage/api.ErrRange", "unicode/utf8.first", "unicode/utf8.acceptRanges", "cartage/api.ErrShort", "cartage/api.ErrLong", "cartage/api.ErrForm", "internal/bytealg.MaxLen"], apart := false, laid := [("unicode/utf8.acceptRanges", laid_unicode_utf8_acceptRanges), ("cartage/api.ErrRange", laid_cartage_api_ErrRange), ("cartage/api.ErrShort", laid_cartage_api_ErrShort), ("cartage/api.ErrLong", laid_cartage_api_ErrLong), ("cartage/api.ErrForm", laid_cartage_api_ErrForm), ("cartage/api.ErrKind", laid_cartage_api_ErrKind), ("unicode/utf8.first", laid_unicode_utf8_first)], narrowed := true }
def ScriptJoinUptoSaid : Prop := scriptJoinUptoRow.holds Tryd.pinned (OpenSpec.upto scriptJoinSpec)

end Rows
end Go.Proofs.YtmppnmffbmpcpaaDoor
