/-
  DERIVED. GIVEN WITH THE SEED: THE PROGRAM's TIES (one call each: nine closed facts by the kernel) AND EACH ROW's TIE, after the 31st guide's Derived/Test/Toyas{Tie, Card}.lean. No idea stands in it: it is a product of the set-up. Laid BY PROGRAM, IN A SANDBOX (cutbox-door.mjs). By AI agents, Wed Nov 11 2026. No macro, syntax, notation, axiom, sorry.
-/
import Derived.Test.YtmppnmffbmpcpaaDoorRows
import Derived.LaidByTextLater
import Derived.SevenTiedAt
import Derived.LaidSub
import Derived.LaidOnce
namespace Go.Proofs.YtmppnmffbmpcpaaDoor
open Go
set_option maxRecDepth 100000
theorem seatTie1 : Tryd.prog.laidByTextLater [("unicode/utf8.acceptRanges", Rows.laid_unicode_utf8_acceptRanges), ("cartage/api.ErrRange", Rows.laid_cartage_api_ErrRange), ("cartage/api.ErrShort", Rows.laid_cartage_api_ErrShort), ("cartage/api.ErrLong", Rows.laid_cartage_api_ErrLong), ("cartage/api.ErrForm", Rows.laid_cartage_api_ErrForm), ("cartage/api.ErrSum", Rows.laid_cartage_api_ErrSum), ("cartage/api.ErrName", Rows.laid_cartage_api_ErrName), ("cartage/api.ErrKind", Rows.laid_cartage_api_ErrKind), ("cartage/api.ErrDepth", Rows.laid_cartage_api_ErrDepth), ("cartage/api.ErrMissing", Rows.laid_cartage_api_ErrMissing), ("cartage/api.ErrCas", Rows.laid_cartage_api_ErrCas), ("cartage/api.ErrQuota", Rows.laid_cartage_api_ErrQuota), ("cartage/api.ErrQueue", Rows.laid_cartage_api_ErrQueue), ("cartage/api.ErrLarge", Rows.laid_cartage_api_ErrLarge), ("cartage/api.ErrNoRepo", Rows.laid_cartage_api_ErrNoRepo), ("cartage/api.ErrExists", Rows.laid_cartage_api_ErrExists), ("cartage/api.ErrDown", Rows.laid_cartage_api_ErrDown), ("cartage/api.ErrTimeout", Rows.laid_cartage_api_ErrTimeout), ("cartage/api.ErrStale", Rows.laid_cartage_api_ErrStale), ("cartage/api.ErrState", Rows.laid_cartage_api_ErrState), ("cartage/api.ErrDup", Rows.laid_cartage_api_ErrDup), ("cartage/api.ErrNone", Rows.laid_cartage_api_ErrNone), ("cartage/api.ErrFull", Rows.laid_cartage_api_ErrFull), ("cartage/sha.grains", Rows.laid_cartage_sha_grains), ("cartage/sha.start", Rows.laid_cartage_sha_start)] [.data, .sentinel, .sentinel, .sentinel, .sentinel, .sentinel, .sentinel, .sentinel, .sentinel, .sentinel, .sentinel, .sentinel, .sentinel, .sentinel, .sentinel, .sentinel, .sentinel, .sentinel, .sentinel, .sentinel, .sentinel, .sentinel, .sentinel, .data, .data] true :=
  Program.laidByTextLater_by_one 452 8 65 (by kernel_rfl) (by kernel_rfl) (by kernel_rfl) (by kernel_rfl) (by kernel_rfl) (by kernel_rfl) (fun _ _ => by kernel_rfl)
theorem seatTie2 : Tryd.prog.laidByTextLater [("unicode/utf8.acceptRanges", Rows.laid_unicode_utf8_acceptRanges), ("cartage/api.ErrRange", Rows.laid_cartage_api_ErrRange), ("cartage/api.ErrShort", Rows.laid_cartage_api_ErrShort), ("cartage/api.ErrLong", Rows.laid_cartage_api_ErrLong), ("cartage/api.ErrForm", Rows.laid_cartage_api_ErrForm), ("cartage/api.ErrSum", Rows.laid_cartage_api_ErrSum), ("cartage/api.ErrName", Rows.laid_cartage_api_ErrName), ("cartage/api.ErrKind", Rows.laid_cartage_api_ErrKind), ("cartage/api.ErrDepth", Rows.laid_cartage_api_ErrDepth), ("cartage/api.ErrMissing", Rows.laid_cartage_api_ErrMissing), ("cartage/api.ErrCas", Rows.laid_cartage_api_ErrCas), ("cartage/api.ErrQuota", Rows.laid_cartage_api_ErrQuota), ("cartage/api.ErrQueue", Rows.laid_cartage_api_ErrQueue), ("cartage/api.ErrLarge", Rows.laid_cartage_api_ErrLarge), ("cartage/api.ErrNoRepo", Rows.laid_cartage_api_ErrNoRepo), ("cartage/api.ErrExists", Rows.laid_cartage_api_ErrExists), ("cartage/api.ErrDown", Rows.laid_cartage_api_ErrDown), ("cartage/api.ErrTimeout", Rows.laid_cartage_api_ErrTimeout), ("cartage/api.ErrStale", Rows.laid_cartage_api_ErrStale), ("cartage/api.ErrState", Rows.laid_cartage_api_ErrState), ("cartage/api.ErrDup", Rows.laid_cartage_api_ErrDup), ("cartage/api.ErrNone", Rows.laid_cartage_api_ErrNone), ("cartage/api.ErrFull", Rows.laid_cartage_api_ErrFull), ("cartage/message.words", Rows.laid_cartage_message_words)] [.data, .sentinel, .sentinel, .sentinel, .sentinel, .sentinel, .sentinel, .sentinel, .sentinel, .sentinel, .sentinel, .sentinel, .sentinel, .sentinel, .sentinel, .sentinel, .sentinel, .sentinel, .sentinel, .sentinel, .sentinel, .sentinel, .sentinel, .data] true :=
  Program.laidByTextLater_by_one 452 8 65 (by kernel_rfl) (by kernel_rfl) (by kernel_rfl) (by kernel_rfl) (by kernel_rfl) (by kernel_rfl) (fun _ _ => by kernel_rfl)
theorem pin_laid_unicode_utf8_first : Tryd.pinned.checked.prog.pinnedFits "unicode/utf8.first" = true := by kernel_rfl
theorem noOwnUnsafe : Tryd.pinned.checked.prog.headLifts.contains "ownunsafe" = false := by kernel_rfl
theorem fits1 : Tryd.pinned.checked.prog.listedFits [("unicode/utf8.acceptRanges", Rows.laid_unicode_utf8_acceptRanges), ("cartage/api.ErrRange", Rows.laid_cartage_api_ErrRange), ("cartage/api.ErrShort", Rows.laid_cartage_api_ErrShort), ("cartage/api.ErrLong", Rows.laid_cartage_api_ErrLong), ("cartage/api.ErrForm", Rows.laid_cartage_api_ErrForm), ("cartage/api.ErrSum", Rows.laid_cartage_api_ErrSum), ("cartage/api.ErrName", Rows.laid_cartage_api_ErrName), ("cartage/api.ErrKind", Rows.laid_cartage_api_ErrKind), ("cartage/api.ErrDepth", Rows.laid_cartage_api_ErrDepth), ("cartage/api.ErrMissing", Rows.laid_cartage_api_ErrMissing), ("cartage/api.ErrCas", Rows.laid_cartage_api_ErrCas), ("cartage/api.ErrQuota", Rows.laid_cartage_api_ErrQuota), ("cartage/api.ErrQueue", Rows.laid_cartage_api_ErrQueue), ("cartage/api.ErrLarge", Rows.laid_cartage_api_ErrLarge), ("cartage/api.ErrNoRepo", Rows.laid_cartage_api_ErrNoRepo), ("cartage/api.ErrExists", Rows.laid_cartage_api_ErrExists), ("cartage/api.ErrDown", Rows.laid_cartage_api_ErrDown), ("cartage/api.ErrTimeout", Rows.laid_cartage_api_ErrTimeout), ("cartage/api.ErrStale", Rows.laid_cartage_api_ErrStale), ("cartage/api.ErrState", Rows.laid_cartage_api_ErrState), ("cartage/api.ErrDup", Rows.laid_cartage_api_ErrDup), ("cartage/api.ErrNone", Rows.laid_cartage_api_ErrNone), ("cartage/api.ErrFull", Rows.laid_cartage_api_ErrFull), ("unicode/utf8.first", Rows.laid_unicode_utf8_first)] = true := by
  unfold Program.listedFits
  rw [noOwnUnsafe]
  kernel_rfl
theorem tie : Tryd.prog.laidByTextLater [("unicode/utf8.acceptRanges", Rows.laid_unicode_utf8_acceptRanges), ("cartage/api.ErrRange", Rows.laid_cartage_api_ErrRange), ("cartage/api.ErrShort", Rows.laid_cartage_api_ErrShort), ("cartage/api.ErrLong", Rows.laid_cartage_api_ErrLong), ("cartage/api.ErrForm", Rows.laid_cartage_api_ErrForm), ("cartage/api.ErrSum", Rows.laid_cartage_api_ErrSum), ("cartage/api.ErrName", Rows.laid_cartage_api_ErrName), ("cartage/api.ErrKind", Rows.laid_cartage_api_ErrKind), ("cartage/api.ErrDepth", Rows.laid_cartage_api_ErrDepth), ("cartage/api.ErrMissing", Rows.laid_cartage_api_ErrMissing), ("cartage/api.ErrCas", Rows.laid_cartage_api_ErrCas), ("cartage/api.ErrQuota", Rows.laid_cartage_api_ErrQuota), ("cartage/api.ErrQueue", Rows.laid_cartage_api_ErrQueue), ("cartage/api.ErrLarge", Rows.laid_cartage_api_ErrLarge), ("cartage/api.ErrNoRepo", Rows.laid_cartage_api_ErrNoRepo), ("cartage/api.ErrExists", Rows.laid_cartage_api_ErrExists), ("cartage/api.ErrDown", Rows.laid_cartage_api_ErrDown), ("cartage/api.ErrTimeout", Rows.laid_cartage_api_ErrTimeout), ("cartage/api.ErrStale", Rows.laid_cartage_api_ErrStale), ("cartage/api.ErrState", Rows.laid_cartage_api_ErrState), ("cartage/api.ErrDup", Rows.laid_cartage_api_ErrDup), ("cartage/api.ErrNone", Rows.laid_cartage_api_ErrNone), ("cartage/api.ErrFull", Rows.laid_cartage_api_ErrFull)] [.data, .sentinel, .sentinel, .sentinel, .sentinel, .sentinel, .sentinel, .sentinel, .sentinel, .sentinel, .sentinel, .sentinel, .sentinel, .sentinel, .sentinel, .sentinel, .sentinel, .sentinel, .sentinel, .sentinel, .sentinel, .sentinel, .sentinel] true :=
  Program.laidByTextLater.sub seatTie1 ["unicode/utf8.acceptRanges", "cartage/api.ErrRange", "cartage/api.ErrShort", "cartage/api.ErrLong", "cartage/api.ErrForm", "cartage/api.ErrSum", "cartage/api.ErrName", "cartage/api.ErrKind", "cartage/api.ErrDepth", "cartage/api.ErrMissing", "cartage/api.ErrCas", "cartage/api.ErrQuota", "cartage/api.ErrQueue", "cartage/api.ErrLarge", "cartage/api.ErrNoRepo", "cartage/api.ErrExists", "cartage/api.ErrDown", "cartage/api.ErrTimeout", "cartage/api.ErrStale", "cartage/api.ErrState", "cartage/api.ErrDup", "cartage/api.ErrNone", "cartage/api.ErrFull"] (by kernel_rfl) (by kernel_rfl)
theorem octetsWrite_row_tie : Rows.octetsWriteRow.laidByTextAt .later Tryd.pinned [.data, .sentinel, .sentinel, .sentinel, .sentinel, .sentinel, .sentinel, .sentinel, .sentinel, .sentinel, .sentinel, .sentinel, .sentinel, .sentinel, .sentinel, .sentinel, .sentinel, .sentinel, .sentinel, .sentinel, .sentinel, .sentinel, .sentinel, .pinned] true :=
  OpenClaim.laidByTextAt_pinned rfl rfl tie rfl rfl rfl rfl (fun y hy _e => by
    simp only [Rows.octetsWriteRow, List.zip_cons_cons, List.zip_nil_right, List.mem_cons, List.mem_nil_iff, or_false] at hy
    rcases hy with rfl | rfl | rfl | rfl | rfl | rfl | rfl | rfl | rfl | rfl | rfl | rfl | rfl | rfl | rfl | rfl | rfl | rfl | rfl | rfl | rfl | rfl | rfl | rfl
    · cases _e
    · cases _e
    · cases _e
    · cases _e
    · cases _e
    · cases _e
    · cases _e
    · cases _e
    · cases _e
    · cases _e
    · cases _e
    · cases _e
    · cases _e
    · cases _e
    · cases _e
    · cases _e
    · cases _e
    · cases _e
    · cases _e
    · cases _e
    · cases _e
    · cases _e
    · cases _e
    · exact ⟨pin_laid_unicode_utf8_first, by kernel_rfl⟩) fits1
theorem tie2 : Tryd.prog.laidByTextLater [("cartage/sha.grains", Rows.laid_cartage_sha_grains), ("cartage/sha.start", Rows.laid_cartage_sha_start)] [.data, .data] true :=
  Program.laidByTextLater.sub seatTie1 ["cartage/sha.grains", "cartage/sha.start"] (by kernel_rfl) (by kernel_rfl)
theorem shaSorts_row_tie : Rows.shaSortsRow.laidByTextAt .later Tryd.pinned [.data, .data] true :=
  OpenClaim.laidByTextAt_later rfl rfl tie2 noOwnUnsafe
theorem shaOrder_row_tie : Rows.shaOrderRow.laidByTextAt .later Tryd.pinned [.data, .data] true :=
  OpenClaim.laidByTextAt_later rfl rfl tie2 noOwnUnsafe
theorem fits3 : Tryd.pinned.checked.prog.listedFits [("unicode/utf8.acceptRanges", Rows.laid_unicode_utf8_acceptRanges), ("cartage/api.ErrRange", Rows.laid_cartage_api_ErrRange), ("cartage/api.ErrShort", Rows.laid_cartage_api_ErrShort), ("cartage/api.ErrLong", Rows.laid_cartage_api_ErrLong), ("cartage/api.ErrForm", Rows.laid_cartage_api_ErrForm), ("cartage/api.ErrSum", Rows.laid_cartage_api_ErrSum), ("cartage/api.ErrName", Rows.laid_cartage_api_ErrName), ("cartage/api.ErrKind", Rows.laid_cartage_api_ErrKind), ("cartage/api.ErrDepth", Rows.laid_cartage_api_ErrDepth), ("cartage/api.ErrMissing", Rows.laid_cartage_api_ErrMissing), ("cartage/api.ErrCas", Rows.laid_cartage_api_ErrCas), ("cartage/api.ErrQuota", Rows.laid_cartage_api_ErrQuota), ("cartage/api.ErrQueue", Rows.laid_cartage_api_ErrQueue), ("cartage/api.ErrLarge", Rows.laid_cartage_api_ErrLarge), ("cartage/api.ErrNoRepo", Rows.laid_cartage_api_ErrNoRepo), ("cartage/api.ErrExists", Rows.laid_cartage_api_ErrExists), ("cartage/api.ErrDown", Rows.laid_cartage_api_ErrDown), ("cartage/api.ErrTimeout", Rows.laid_cartage_api_ErrTimeout), ("cartage/api.ErrStale", Rows.laid_cartage_api_ErrStale), ("cartage/api.ErrState", Rows.laid_cartage_api_ErrState), ("cartage/api.ErrDup", Rows.laid_cartage_api_ErrDup), ("cartage/api.ErrNone", Rows.laid_cartage_api_ErrNone), ("cartage/api.ErrFull", Rows.laid_cartage_api_ErrFull), ("cartage/message.words", Rows.laid_cartage_message_words), ("unicode/utf8.first", Rows.laid_unicode_utf8_first)] = true := by
  unfold Program.listedFits
  rw [noOwnUnsafe]
  kernel_rfl
theorem tie3 : Tryd.prog.laidByTextLater [("unicode/utf8.acceptRanges", Rows.laid_unicode_utf8_acceptRanges), ("cartage/api.ErrRange", Rows.laid_cartage_api_ErrRange), ("cartage/api.ErrShort", Rows.laid_cartage_api_ErrShort), ("cartage/api.ErrLong", Rows.laid_cartage_api_ErrLong), ("cartage/api.ErrForm", Rows.laid_cartage_api_ErrForm), ("cartage/api.ErrSum", Rows.laid_cartage_api_ErrSum), ("cartage/api.ErrName", Rows.laid_cartage_api_ErrName), ("cartage/api.ErrKind", Rows.laid_cartage_api_ErrKind), ("cartage/api.ErrDepth", Rows.laid_cartage_api_ErrDepth), ("cartage/api.ErrMissing", Rows.laid_cartage_api_ErrMissing), ("cartage/api.ErrCas", Rows.laid_cartage_api_ErrCas), ("cartage/api.ErrQuota", Rows.laid_cartage_api_ErrQuota), ("cartage/api.ErrQueue", Rows.laid_cartage_api_ErrQueue), ("cartage/api.ErrLarge", Rows.laid_cartage_api_ErrLarge), ("cartage/api.ErrNoRepo", Rows.laid_cartage_api_ErrNoRepo), ("cartage/api.ErrExists", Rows.laid_cartage_api_ErrExists), ("cartage/api.ErrDown", Rows.laid_cartage_api_ErrDown), ("cartage/api.ErrTimeout", Rows.laid_cartage_api_ErrTimeout), ("cartage/api.ErrStale", Rows.laid_cartage_api_ErrStale), ("cartage/api.ErrState", Rows.laid_cartage_api_ErrState), ("cartage/api.ErrDup", Rows.laid_cartage_api_ErrDup), ("cartage/api.ErrNone", Rows.laid_cartage_api_ErrNone), ("cartage/api.ErrFull", Rows.laid_cartage_api_ErrFull), ("cartage/message.words", Rows.laid_cartage_message_words)] [.data, .sentinel, .sentinel, .sentinel, .sentinel, .sentinel, .sentinel, .sentinel, .sentinel, .sentinel, .sentinel, .sentinel, .sentinel, .sentinel, .sentinel, .sentinel, .sentinel, .sentinel, .sentinel, .sentinel, .sentinel, .sentinel, .sentinel, .data] true :=
  Program.laidByTextLater.sub seatTie2 ["unicode/utf8.acceptRanges", "cartage/api.ErrRange", "cartage/api.ErrShort", "cartage/api.ErrLong", "cartage/api.ErrForm", "cartage/api.ErrSum", "cartage/api.ErrName", "cartage/api.ErrKind", "cartage/api.ErrDepth", "cartage/api.ErrMissing", "cartage/api.ErrCas", "cartage/api.ErrQuota", "cartage/api.ErrQueue", "cartage/api.ErrLarge", "cartage/api.ErrNoRepo", "cartage/api.ErrExists", "cartage/api.ErrDown", "cartage/api.ErrTimeout", "cartage/api.ErrStale", "cartage/api.ErrState", "cartage/api.ErrDup", "cartage/api.ErrNone", "cartage/api.ErrFull", "cartage/message.words"] (by kernel_rfl) (by kernel_rfl)
theorem clientNew_row_tie : Rows.clientNewRow.laidByTextAt .later Tryd.pinned [.data, .sentinel, .sentinel, .sentinel, .sentinel, .sentinel, .sentinel, .sentinel, .sentinel, .sentinel, .sentinel, .sentinel, .sentinel, .sentinel, .sentinel, .sentinel, .sentinel, .sentinel, .sentinel, .sentinel, .sentinel, .sentinel, .sentinel, .data, .pinned] true :=
  OpenClaim.laidByTextAt_pinned rfl rfl tie3 rfl rfl rfl rfl (fun y hy _e => by
    simp only [Rows.clientNewRow, List.zip_cons_cons, List.zip_nil_right, List.mem_cons, List.mem_nil_iff, or_false] at hy
    rcases hy with rfl | rfl | rfl | rfl | rfl | rfl | rfl | rfl | rfl | rfl | rfl | rfl | rfl | rfl | rfl | rfl | rfl | rfl | rfl | rfl | rfl | rfl | rfl | rfl | rfl
    · cases _e
    · cases _e
    · cases _e
    · cases _e
    · cases _e
    · cases _e
    · cases _e
    · cases _e
    · cases _e
    · cases _e
    · cases _e
    · cases _e
    · cases _e
    · cases _e
    · cases _e
    · cases _e
    · cases _e
    · cases _e
    · cases _e
    · cases _e
    · cases _e
    · cases _e
    · cases _e
    · cases _e
    · exact ⟨pin_laid_unicode_utf8_first, by kernel_rfl⟩) fits3
theorem fits4 : Tryd.pinned.checked.prog.listedFits [("unicode/utf8.acceptRanges", Rows.laid_unicode_utf8_acceptRanges), ("cartage/api.ErrRange", Rows.laid_cartage_api_ErrRange), ("cartage/api.ErrKind", Rows.laid_cartage_api_ErrKind), ("cartage/api.ErrLarge", Rows.laid_cartage_api_ErrLarge), ("cartage/api.ErrState", Rows.laid_cartage_api_ErrState), ("cartage/message.words", Rows.laid_cartage_message_words), ("unicode/utf8.first", Rows.laid_unicode_utf8_first)] = true := by
  unfold Program.listedFits
  rw [noOwnUnsafe]
  kernel_rfl
theorem tie4 : Tryd.prog.laidByTextLater [("unicode/utf8.acceptRanges", Rows.laid_unicode_utf8_acceptRanges), ("cartage/api.ErrRange", Rows.laid_cartage_api_ErrRange), ("cartage/api.ErrKind", Rows.laid_cartage_api_ErrKind), ("cartage/api.ErrLarge", Rows.laid_cartage_api_ErrLarge), ("cartage/api.ErrState", Rows.laid_cartage_api_ErrState), ("cartage/message.words", Rows.laid_cartage_message_words)] [.data, .sentinel, .sentinel, .sentinel, .sentinel, .data] true :=
  Program.laidByTextLater.sub seatTie2 ["unicode/utf8.acceptRanges", "cartage/api.ErrRange", "cartage/api.ErrKind", "cartage/api.ErrLarge", "cartage/api.ErrState", "cartage/message.words"] (by kernel_rfl) (by kernel_rfl)
theorem clientEnds_row_tie : Rows.clientEndsRow.laidByTextAt .later Tryd.pinned [.data, .sentinel, .sentinel, .sentinel, .sentinel, .data, .pinned] true :=
  OpenClaim.laidByTextAt_pinned rfl rfl tie4 rfl rfl rfl rfl (fun y hy _e => by
    simp only [Rows.clientEndsRow, List.zip_cons_cons, List.zip_nil_right, List.mem_cons, List.mem_nil_iff, or_false] at hy
    rcases hy with rfl | rfl | rfl | rfl | rfl | rfl | rfl
    · cases _e
    · cases _e
    · cases _e
    · cases _e
    · cases _e
    · cases _e
    · exact ⟨pin_laid_unicode_utf8_first, by kernel_rfl⟩) fits4
theorem clientDeaf_row_tie : Rows.clientDeafRow.laidByTextAt .later Tryd.pinned [.data, .sentinel, .sentinel, .sentinel, .sentinel, .data, .pinned] true :=
  OpenClaim.laidByTextAt_pinned rfl rfl tie4 rfl rfl rfl rfl (fun y hy _e => by
    simp only [Rows.clientDeafRow, List.zip_cons_cons, List.zip_nil_right, List.mem_cons, List.mem_nil_iff, or_false] at hy
    rcases hy with rfl | rfl | rfl | rfl | rfl | rfl | rfl
    · cases _e
    · cases _e
    · cases _e
    · cases _e
    · cases _e
    · cases _e
    · exact ⟨pin_laid_unicode_utf8_first, by kernel_rfl⟩) fits4
theorem fits5 : Tryd.pinned.checked.prog.listedFits [("unicode/utf8.acceptRanges", Rows.laid_unicode_utf8_acceptRanges), ("cartage/api.ErrRange", Rows.laid_cartage_api_ErrRange), ("cartage/api.ErrShort", Rows.laid_cartage_api_ErrShort), ("cartage/api.ErrLong", Rows.laid_cartage_api_ErrLong), ("cartage/api.ErrForm", Rows.laid_cartage_api_ErrForm), ("cartage/api.ErrKind", Rows.laid_cartage_api_ErrKind), ("unicode/utf8.first", Rows.laid_unicode_utf8_first)] = true := by
  unfold Program.listedFits
  rw [noOwnUnsafe]
  kernel_rfl
theorem tie5 : Tryd.prog.laidByTextLater [("unicode/utf8.acceptRanges", Rows.laid_unicode_utf8_acceptRanges), ("cartage/api.ErrRange", Rows.laid_cartage_api_ErrRange), ("cartage/api.ErrShort", Rows.laid_cartage_api_ErrShort), ("cartage/api.ErrLong", Rows.laid_cartage_api_ErrLong), ("cartage/api.ErrForm", Rows.laid_cartage_api_ErrForm), ("cartage/api.ErrKind", Rows.laid_cartage_api_ErrKind)] [.data, .sentinel, .sentinel, .sentinel, .sentinel, .sentinel] true :=
  Program.laidByTextLater.sub seatTie1 ["unicode/utf8.acceptRanges", "cartage/api.ErrRange", "cartage/api.ErrShort", "cartage/api.ErrLong", "cartage/api.ErrForm", "cartage/api.ErrKind"] (by kernel_rfl) (by kernel_rfl)
theorem scriptDecodes_row_tie : Rows.scriptDecodesRow.laidByTextAt .later Tryd.pinned [.data, .sentinel, .sentinel, .sentinel, .sentinel, .sentinel, .pinned] true :=
  OpenClaim.laidByTextAt_pinned rfl rfl tie5 rfl rfl rfl rfl (fun y hy _e => by
    simp only [Rows.scriptDecodesRow, List.zip_cons_cons, List.zip_nil_right, List.mem_cons, List.mem_nil_iff, or_false] at hy
    rcases hy with rfl | rfl | rfl | rfl | rfl | rfl | rfl
    · cases _e
    · cases _e
    · cases _e
    · cases _e
    · cases _e
    · cases _e
    · exact ⟨pin_laid_unicode_utf8_first, by kernel_rfl⟩) fits5
theorem scriptJoin_row_tie : Rows.scriptJoinRow.laidByTextAt .later Tryd.pinned [.data, .sentinel, .sentinel, .sentinel, .sentinel, .sentinel, .pinned] true :=
  OpenClaim.laidByTextAt_pinned rfl rfl tie5 rfl rfl rfl rfl (fun y hy _e => by
    simp only [Rows.scriptJoinRow, List.zip_cons_cons, List.zip_nil_right, List.mem_cons, List.mem_nil_iff, or_false] at hy
    rcases hy with rfl | rfl | rfl | rfl | rfl | rfl | rfl
    · cases _e
    · cases _e
    · cases _e
    · cases _e
    · cases _e
    · cases _e
    · exact ⟨pin_laid_unicode_utf8_first, by kernel_rfl⟩) fits5
theorem octetsWriteUpto_row_tie : Rows.octetsWriteUptoRow.laidByTextAt .later Tryd.pinned [.data, .sentinel, .sentinel, .sentinel, .sentinel, .sentinel, .sentinel, .sentinel, .sentinel, .sentinel, .sentinel, .sentinel, .sentinel, .sentinel, .sentinel, .sentinel, .sentinel, .sentinel, .sentinel, .sentinel, .sentinel, .sentinel, .sentinel, .pinned] true :=
  OpenClaim.laidByTextAt_pinned rfl rfl tie rfl rfl rfl rfl (fun y hy _e => by
    simp only [Rows.octetsWriteUptoRow, List.zip_cons_cons, List.zip_nil_right, List.mem_cons, List.mem_nil_iff, or_false] at hy
    rcases hy with rfl | rfl | rfl | rfl | rfl | rfl | rfl | rfl | rfl | rfl | rfl | rfl | rfl | rfl | rfl | rfl | rfl | rfl | rfl | rfl | rfl | rfl | rfl | rfl
    · cases _e
    · cases _e
    · cases _e
    · cases _e
    · cases _e
    · cases _e
    · cases _e
    · cases _e
    · cases _e
    · cases _e
    · cases _e
    · cases _e
    · cases _e
    · cases _e
    · cases _e
    · cases _e
    · cases _e
    · cases _e
    · cases _e
    · cases _e
    · cases _e
    · cases _e
    · cases _e
    · exact ⟨pin_laid_unicode_utf8_first, by kernel_rfl⟩) fits1
theorem shaSortsUpto_row_tie : Rows.shaSortsUptoRow.laidByTextAt .later Tryd.pinned [.data, .data] true :=
  OpenClaim.laidByTextAt_later rfl rfl tie2 noOwnUnsafe
theorem shaOrderUpto_row_tie : Rows.shaOrderUptoRow.laidByTextAt .later Tryd.pinned [.data, .data] true :=
  OpenClaim.laidByTextAt_later rfl rfl tie2 noOwnUnsafe
theorem clientNewUpto_row_tie : Rows.clientNewUptoRow.laidByTextAt .later Tryd.pinned [.data, .sentinel, .sentinel, .sentinel, .sentinel, .sentinel, .sentinel, .sentinel, .sentinel, .sentinel, .sentinel, .sentinel, .sentinel, .sentinel, .sentinel, .sentinel, .sentinel, .sentinel, .sentinel, .sentinel, .sentinel, .sentinel, .sentinel, .data, .pinned] true :=
  OpenClaim.laidByTextAt_pinned rfl rfl tie3 rfl rfl rfl rfl (fun y hy _e => by
    simp only [Rows.clientNewUptoRow, List.zip_cons_cons, List.zip_nil_right, List.mem_cons, List.mem_nil_iff, or_false] at hy
    rcases hy with rfl | rfl | rfl | rfl | rfl | rfl | rfl | rfl | rfl | rfl | rfl | rfl | rfl | rfl | rfl | rfl | rfl | rfl | rfl | rfl | rfl | rfl | rfl | rfl | rfl
    · cases _e
    · cases _e
    · cases _e
    · cases _e
    · cases _e
    · cases _e
    · cases _e
    · cases _e
    · cases _e
    · cases _e
    · cases _e
    · cases _e
    · cases _e
    · cases _e
    · cases _e
    · cases _e
    · cases _e
    · cases _e
    · cases _e
    · cases _e
    · cases _e
    · cases _e
    · cases _e
    · cases _e
    · exact ⟨pin_laid_unicode_utf8_first, by kernel_rfl⟩) fits3
theorem clientEndsUpto_row_tie : Rows.clientEndsUptoRow.laidByTextAt .later Tryd.pinned [.data, .sentinel, .sentinel, .sentinel, .sentinel, .data, .pinned] true :=
  OpenClaim.laidByTextAt_pinned rfl rfl tie4 rfl rfl rfl rfl (fun y hy _e => by
    simp only [Rows.clientEndsUptoRow, List.zip_cons_cons, List.zip_nil_right, List.mem_cons, List.mem_nil_iff, or_false] at hy
    rcases hy with rfl | rfl | rfl | rfl | rfl | rfl | rfl
    · cases _e
    · cases _e
    · cases _e
    · cases _e
    · cases _e
    · cases _e
    · exact ⟨pin_laid_unicode_utf8_first, by kernel_rfl⟩) fits4
theorem clientDeafUpto_row_tie : Rows.clientDeafUptoRow.laidByTextAt .later Tryd.pinned [.data, .sentinel, .sentinel, .sentinel, .sentinel, .data, .pinned] true :=
  OpenClaim.laidByTextAt_pinned rfl rfl tie4 rfl rfl rfl rfl (fun y hy _e => by
    simp only [Rows.clientDeafUptoRow, List.zip_cons_cons, List.zip_nil_right, List.mem_cons, List.mem_nil_iff, or_false] at hy
    rcases hy with rfl | rfl | rfl | rfl | rfl | rfl | rfl
    · cases _e
    · cases _e
    · cases _e
    · cases _e
    · cases _e
    · cases _e
    · exact ⟨pin_laid_unicode_utf8_first, by kernel_rfl⟩) fits4
theorem scriptDecodesUpto_row_tie : Rows.scriptDecodesUptoRow.laidByTextAt .later Tryd.pinned [.data, .sentinel, .sentinel, .sentinel, .sentinel, .sentinel, .pinned] true :=
  OpenClaim.laidByTextAt_pinned rfl rfl tie5 rfl rfl rfl rfl (fun y hy _e => by
    simp only [Rows.scriptDecodesUptoRow, List.zip_cons_cons, List.zip_nil_right, List.mem_cons, List.mem_nil_iff, or_false] at hy
    rcases hy with rfl | rfl | rfl | rfl | rfl | rfl | rfl
    · cases _e
    · cases _e
    · cases _e
    · cases _e
    · cases _e
    · cases _e
    · exact ⟨pin_laid_unicode_utf8_first, by kernel_rfl⟩) fits5
theorem scriptJoinUpto_row_tie : Rows.scriptJoinUptoRow.laidByTextAt .later Tryd.pinned [.data, .sentinel, .sentinel, .sentinel, .sentinel, .sentinel, .pinned] true :=
  OpenClaim.laidByTextAt_pinned rfl rfl tie5 rfl rfl rfl rfl (fun y hy _e => by
    simp only [Rows.scriptJoinUptoRow, List.zip_cons_cons, List.zip_nil_right, List.mem_cons, List.mem_nil_iff, or_false] at hy
    rcases hy with rfl | rfl | rfl | rfl | rfl | rfl | rfl
    · cases _e
    · cases _e
    · cases _e
    · cases _e
    · cases _e
    · cases _e
    · exact ⟨pin_laid_unicode_utf8_first, by kernel_rfl⟩) fits5
end Go.Proofs.YtmppnmffbmpcpaaDoor
