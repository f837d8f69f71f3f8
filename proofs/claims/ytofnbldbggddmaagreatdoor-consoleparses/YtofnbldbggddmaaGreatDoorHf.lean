/-
  A part of the proof of ConsoleParses, over the seat YtofnbldbggddmaaGreatDoor: for every input the law returns true, and the input reads as it did.
-/
import Derived.Test.YtofnbldbggddmaaGreatDoorRows
import Derived.LaidByTextLater
import Derived.SevenTiedAt
import Derived.LaidSub
import Derived.LaidOnce
set_option linter.all false
set_option linter.all false
namespace Go.Proofs.YtofnbldbggddmaaGreatDoor
open Go Go.Proofs Go.Proofs.YtofnbldbggddmaaGreatDoor
set_option maxRecDepth 100000
theorem own_seatTie1 : Tryz.prog.laidByTextLater [("math/bits.deBruijn32tab", Go.Proofs.YtofnbldbggddmaaGreatDoor.Rows.laid_math_bits_deBruijn32tab), ("math/bits.deBruijn64tab", Go.Proofs.YtofnbldbggddmaaGreatDoor.Rows.laid_math_bits_deBruijn64tab), ("internal/strconv.uint64pow10", Go.Proofs.YtofnbldbggddmaaGreatDoor.Rows.laid_internal_strconv_uint64pow10), ("unicode/utf8.acceptRanges", Go.Proofs.YtofnbldbggddmaaGreatDoor.Rows.laid_unicode_utf8_acceptRanges), ("strconv.ErrRange", Go.Proofs.YtofnbldbggddmaaGreatDoor.Rows.laid_strconv_ErrRange), ("strconv.ErrSyntax", Go.Proofs.YtofnbldbggddmaaGreatDoor.Rows.laid_strconv_ErrSyntax), ("copyist/ident.root", Go.Proofs.YtofnbldbggddmaaGreatDoor.Rows.laid_copyist_ident_root), ("copyist/console.words", Go.Proofs.YtofnbldbggddmaaGreatDoor.Rows.laid_copyist_console_words)] [.data, .data, .data, .data, .sentinel, .sentinel, .data, .data] true :=
  Program.laidByTextLater_by_one 82 8 65 (by kernel_rfl) (by kernel_rfl) (by kernel_rfl) (by kernel_rfl) (by kernel_rfl) (by kernel_rfl) (fun _ _ => by kernel_rfl)
theorem own_pin_laid_unicode_utf8_first : Tryz.pinned.checked.prog.pinnedFits "unicode/utf8.first" = true := by kernel_rfl
theorem own_noOwnUnsafe : Tryz.pinned.checked.prog.headLifts.contains "ownunsafe" = false := by kernel_rfl
theorem own_fits1 : Tryz.pinned.checked.prog.listedFits [("math/bits.deBruijn32tab", Go.Proofs.YtofnbldbggddmaaGreatDoor.Rows.laid_math_bits_deBruijn32tab), ("math/bits.deBruijn64tab", Go.Proofs.YtofnbldbggddmaaGreatDoor.Rows.laid_math_bits_deBruijn64tab), ("internal/strconv.uint64pow10", Go.Proofs.YtofnbldbggddmaaGreatDoor.Rows.laid_internal_strconv_uint64pow10), ("unicode/utf8.acceptRanges", Go.Proofs.YtofnbldbggddmaaGreatDoor.Rows.laid_unicode_utf8_acceptRanges), ("strconv.ErrRange", Go.Proofs.YtofnbldbggddmaaGreatDoor.Rows.laid_strconv_ErrRange), ("strconv.ErrSyntax", Go.Proofs.YtofnbldbggddmaaGreatDoor.Rows.laid_strconv_ErrSyntax), ("copyist/ident.root", Go.Proofs.YtofnbldbggddmaaGreatDoor.Rows.laid_copyist_ident_root), ("copyist/console.words", Go.Proofs.YtofnbldbggddmaaGreatDoor.Rows.laid_copyist_console_words), ("unicode/utf8.first", Go.Proofs.YtofnbldbggddmaaGreatDoor.Rows.laid_unicode_utf8_first)] = true := by
  unfold Program.listedFits
  rw [own_noOwnUnsafe]
  kernel_rfl
theorem own_tie : Tryz.prog.laidByTextLater [("math/bits.deBruijn32tab", Go.Proofs.YtofnbldbggddmaaGreatDoor.Rows.laid_math_bits_deBruijn32tab), ("math/bits.deBruijn64tab", Go.Proofs.YtofnbldbggddmaaGreatDoor.Rows.laid_math_bits_deBruijn64tab), ("internal/strconv.uint64pow10", Go.Proofs.YtofnbldbggddmaaGreatDoor.Rows.laid_internal_strconv_uint64pow10), ("unicode/utf8.acceptRanges", Go.Proofs.YtofnbldbggddmaaGreatDoor.Rows.laid_unicode_utf8_acceptRanges), ("strconv.ErrRange", Go.Proofs.YtofnbldbggddmaaGreatDoor.Rows.laid_strconv_ErrRange), ("strconv.ErrSyntax", Go.Proofs.YtofnbldbggddmaaGreatDoor.Rows.laid_strconv_ErrSyntax), ("copyist/ident.root", Go.Proofs.YtofnbldbggddmaaGreatDoor.Rows.laid_copyist_ident_root), ("copyist/console.words", Go.Proofs.YtofnbldbggddmaaGreatDoor.Rows.laid_copyist_console_words)] [.data, .data, .data, .data, .sentinel, .sentinel, .data, .data] true :=
  Program.laidByTextLater.sub own_seatTie1 ["math/bits.deBruijn32tab", "math/bits.deBruijn64tab", "internal/strconv.uint64pow10", "unicode/utf8.acceptRanges", "strconv.ErrRange", "strconv.ErrSyntax", "copyist/ident.root", "copyist/console.words"] (by kernel_rfl) (by kernel_rfl)
theorem consoleQuotes_own_tie : Go.Proofs.YtofnbldbggddmaaGreatDoor.Rows.consoleQuotesRow.laidByTextAt .later Tryz.pinned [.data, .data, .data, .data, .sentinel, .sentinel, .data, .data, .pinned] true :=
  OpenClaim.laidByTextAt_pinned rfl rfl own_tie rfl rfl rfl rfl (fun y hy _e => by
    simp only [Go.Proofs.YtofnbldbggddmaaGreatDoor.Rows.consoleQuotesRow, List.zip_cons_cons, List.zip_nil_right, List.mem_cons, List.mem_nil_iff, or_false] at hy
    rcases hy with rfl | rfl | rfl | rfl | rfl | rfl | rfl | rfl | rfl
    · cases _e
    · cases _e
    · cases _e
    · cases _e
    · cases _e
    · cases _e
    · cases _e
    · cases _e
    · exact ⟨own_pin_laid_unicode_utf8_first, by kernel_rfl⟩) own_fits1
theorem consoleWords_own_tie : Go.Proofs.YtofnbldbggddmaaGreatDoor.Rows.consoleWordsRow.laidByTextAt .later Tryz.pinned [.data, .data, .data, .data, .sentinel, .sentinel, .data, .data, .pinned] true :=
  OpenClaim.laidByTextAt_pinned rfl rfl own_tie rfl rfl rfl rfl (fun y hy _e => by
    simp only [Go.Proofs.YtofnbldbggddmaaGreatDoor.Rows.consoleWordsRow, List.zip_cons_cons, List.zip_nil_right, List.mem_cons, List.mem_nil_iff, or_false] at hy
    rcases hy with rfl | rfl | rfl | rfl | rfl | rfl | rfl | rfl | rfl
    · cases _e
    · cases _e
    · cases _e
    · cases _e
    · cases _e
    · cases _e
    · cases _e
    · cases _e
    · exact ⟨own_pin_laid_unicode_utf8_first, by kernel_rfl⟩) own_fits1
theorem consoleParses_own_tie : Go.Proofs.YtofnbldbggddmaaGreatDoor.Rows.consoleParsesRow.laidByTextAt .later Tryz.pinned [.data, .data, .data, .data, .sentinel, .sentinel, .data, .data, .pinned] true :=
  OpenClaim.laidByTextAt_pinned rfl rfl own_tie rfl rfl rfl rfl (fun y hy _e => by
    simp only [Go.Proofs.YtofnbldbggddmaaGreatDoor.Rows.consoleParsesRow, List.zip_cons_cons, List.zip_nil_right, List.mem_cons, List.mem_nil_iff, or_false] at hy
    rcases hy with rfl | rfl | rfl | rfl | rfl | rfl | rfl | rfl | rfl
    · cases _e
    · cases _e
    · cases _e
    · cases _e
    · cases _e
    · cases _e
    · cases _e
    · cases _e
    · exact ⟨own_pin_laid_unicode_utf8_first, by kernel_rfl⟩) own_fits1
end Go.Proofs.YtofnbldbggddmaaGreatDoor
