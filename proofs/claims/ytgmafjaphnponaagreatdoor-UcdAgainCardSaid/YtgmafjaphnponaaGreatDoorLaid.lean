/- What the library's variables hold, out of a row's condition and the world's shape. -/
import Derived.Test.YtgmafjaphnponaaGreatDoorRows
import Derived.Test.YtgmafjaphnponaaGreatDoorEnv
import Derived.Test.YtgmafjaphnponaaGreatDoorRow
import Derived.Lib.LaidTab
import Derived.Shelf.Vars
import Derived.MakeChecks
namespace Go.Proofs.YtgmafjaphnponaaGreatDoor
open Go.RowKit

def bruijn64 : List Int := [0, 1, 56, 2, 57, 49, 28, 3, 61, 58, 42, 50, 38, 29, 17, 4, 62, 47, 59, 36, 45, 43, 51, 22, 53, 39, 33, 30, 24, 18, 12, 5, 63, 55, 48, 27, 60, 41, 37, 16, 46, 35, 44, 21, 52, 32, 23, 11, 54, 26, 40, 15, 34, 20, 31, 10, 25, 14, 19, 9, 13, 8, 7, 6]

theorem env_of {W : World} (h : laidMetH Tryz.prog Rows.ucdAgainRow.laid W) (hs : W.ShapedOpen Tryz.prog) : Env W := by
  rw [MakeChecks.laidMetH_plain _ _ _ (by kernel_rfl)] at h
  obtain ⟨ps, hl, _⟩ := h
  refine ⟨?_, ?_, ?_, ?_, ?_⟩
  · exact cell_of_shapedOpen_int (t := 3) (zero := #[.int .i64 0]) hs (by decide +kernel) (by kernel_rfl) rfl (by kernel_rfl) (by kernel_rfl) Tryz.underlying3
  · obtain ⟨g, t, cs, fuel, p, hg, ht, hv, hd⟩ := laid_at (n := "math/bits.deBruijn64tab") (d := Rows.laid_math_bits_deBruijn64tab) hl (List.Mem.tail _ (List.Mem.head _))
    obtain rfl := Option.some.inj ((show Tryz.prog.globalNamed "math/bits.deBruijn64tab" = some 8 by kernel_rfl).symm.trans hg)
    obtain rfl := Option.some.inj ((show (Tryz.prog.globals[8]?).map (·.type) = some 218 by kernel_rfl).symm.trans ht)
    have e : (Rows.laid_math_bits_deBruijn64tab : DataW Unit) = Lib.tabData .u8 bruijn64 := by kernel_rfl
    rw [e] at hd
    have hc := Lib.cells_of_tab Tryz.underlying218 Tryz.underlying5 (by kernel_rfl) (by kernel_rfl) hd
    have ht : Lib.TabIs Tryz.prog W "math/bits.deBruijn64tab" .u8 bruijn64 := by
      unfold Lib.TabIs
      rw [hv, ← hc]
    exact ht.cell hg 15 (by decide)
  · obtain ⟨g, t, cs, fuel, p, hg, ht, hv, hd⟩ := laid_at (n := "internal/strconv.uint64pow10") (d := Rows.laid_internal_strconv_uint64pow10) hl (List.Mem.tail _ (List.Mem.tail _ (List.Mem.head _)))
    obtain rfl := Option.some.inj ((show Tryz.prog.globalNamed "internal/strconv.uint64pow10" = some 1 by kernel_rfl).symm.trans hg)
    obtain rfl := Option.some.inj ((show (Tryz.prog.globals[1]?).map (·.type) = some 190 by kernel_rfl).symm.trans ht)
    have e : (Rows.laid_internal_strconv_uint64pow10 : DataW Unit) = Lib.tabData .u64 Lib.pow10Tab := by kernel_rfl
    rw [e] at hd
    have := Lib.cells_of_tab Tryz.underlying190 Tryz.underlying148 (by kernel_rfl) (by kernel_rfl) hd
    unfold Lib.TabIs
    rw [hv, ← this]
  · obtain ⟨g, t, cs, fuel, p, hg, ht, hv, hd⟩ := laid_at (n := "strconv.ErrSyntax") (d := Rows.laid_strconv_ErrSyntax) hl (List.Mem.tail _ (List.Mem.tail _ (List.Mem.tail _ (List.Mem.tail _ (List.Mem.tail _ (List.Mem.head _))))))
    obtain rfl := Option.some.inj ((show Tryz.prog.globalNamed "strconv.ErrSyntax" = some 3 by kernel_rfl).symm.trans hg)
    obtain rfl := Option.some.inj ((show (Tryz.prog.globals[3]?).map (·.type) = some 112 by kernel_rfl).symm.trans ht)
    obtain ⟨u, v, e⟩ := trod_iface ⟨_, Tryz.underlying112⟩ hd
    exact ⟨u, v, by rw [hv, ← e]⟩
  · obtain ⟨g, t, cs, fuel, p, hg, ht, hv, hd⟩ := laid_at (n := "strconv.ErrRange") (d := Rows.laid_strconv_ErrRange) hl (List.Mem.tail _ (List.Mem.tail _ (List.Mem.tail _ (List.Mem.tail _ (List.Mem.head _)))))
    obtain rfl := Option.some.inj ((show Tryz.prog.globalNamed "strconv.ErrRange" = some 4 by kernel_rfl).symm.trans hg)
    obtain rfl := Option.some.inj ((show (Tryz.prog.globals[4]?).map (·.type) = some 112 by kernel_rfl).symm.trans ht)
    obtain ⟨u, v, e⟩ := trod_iface ⟨_, Tryz.underlying112⟩ hd
    exact ⟨u, v, by rw [hv, ← e]⟩
end Go.Proofs.YtgmafjaphnponaaGreatDoor
