/- From the listed variables of the rows to the tables that the walks take. -/
import Derived.Test.YtpeiamllkddhiaaDoorAppZ
import Derived.Test.YtpeiamllkddhiaaDoorCards
import Derived.Lib.LaidU8
import Derived.Lib.LaidTab
import Derived.LaidLaws
import Derived.PinnedBridge
namespace Go.Proofs.YtpeiamllkddhiaaDoor.P
open Go.RowKit Go.PlainAid Go.Lib Go.Proofs.YtpeiamllkddhiaaDoor.R

theorem u8x : Go.Proofs.U8Extra Tryd.prog Tryd.lays260_ren := ⟨by kernel_rfl, by kernel_rfl, by kernel_rfl, by kernel_rfl, by kernel_rfl, by kernel_rfl, by kernel_rfl⟩
theorem accept_eq : Rows.laid_unicode_utf8_acceptRanges (H := Unit) = Go.Lib.acceptData := by kernel_rfl
theorem bruijn_of {W : World} {n : String} (hn : Tryd.prog.globalNamed n = some 5) (h : Go.Lib.VarReads Tryd.prog W n Rows.laid_math_bits_deBruijn64tab) :
    W.cell? ⟨5, 15, none⟩ = some (.int .u8 4) := by
  obtain ⟨g, t, cs, fuel, p, hg, hty, hvar, hd⟩ := h
  obtain rfl := Option.some.inj (hn.symm.trans hg)
  obtain rfl : 157 = t := Option.some.inj ((show (Tryd.prog.globals[5]?).map (·.type) = some 157 by kernel_rfl).symm.trans hty)
  have hcs := cells_of_tab (zs := [0, 1, 56, 2, 57, 49, 28, 3, 61, 58, 42, 50, 38, 29, 17, 4, 62, 47, 59, 36, 45, 43, 51, 22, 53, 39, 33, 30, 24, 18, 12, 5, 63, 55, 48, 27, 60, 41, 37, 16, 46, 35, 44, 21, 52, 32, 23, 11, 54, 26, 40, 15, 34, 20, 31, 10, 25, 14, 19, 9, 13, 8, 7, 6]) Tryd.underlying157 Tryd.underlying5 (by kernel_rfl) (by kernel_rfl) hd
  have := World.var?_cell hg hvar 15
  rw [this, ← Array.getElem?_toList, hcs]
  rfl
theorem pow_of {W : World} (hn : Tryd.prog.globalNamed "internal/strconv.uint64pow10" = some 2) (h : Go.Lib.VarReads Tryd.prog W "internal/strconv.uint64pow10" Rows.laid_internal_strconv_uint64pow10) :
    Lib.TabIs Tryd.prog W "internal/strconv.uint64pow10" .u64 Lib.pow10Tab := by
  obtain ⟨g, t, cs, fuel, p, hg, hty, hvar, hd⟩ := h
  obtain rfl := Option.some.inj (hn.symm.trans hg)
  obtain rfl : 150 = t := Option.some.inj ((show (Tryd.prog.globals[2]?).map (·.type) = some 150 by kernel_rfl).symm.trans hty)
  have e : Rows.laid_internal_strconv_uint64pow10 (H := Unit) = Go.Lib.tabData .u64 Go.Lib.pow10Tab := by kernel_rfl
  rw [e] at hd
  have hcs := cells_of_tab (zs := Go.Lib.pow10Tab) Tryd.underlying150 Tryd.underlying129 (by kernel_rfl) (by kernel_rfl) hd
  unfold Lib.TabIs
  rw [hvar]
  congr 1
  exact Array.toList_inj.1 (by rw [hcs])
theorem tabs_mk {W : World} (hu : Lib.Utf8Tabs 0 1 W) (hd : W.cell? ⟨5, 15, none⟩ = some (.int .u8 4)) : Tabs W :=
  ⟨hu, hd, World.block_lt_of_cell? W _ (hu.1 0 (by decide)), World.block_lt_of_cell? W _ (hu.2 0 (by decide)).1, World.block_lt_of_cell? W _ hd⟩
theorem tabsI_of {W : World} (hL : laidMet Tryd.prog Rows.appRevsRow.laid W) : TabsI W :=
  ⟨tabs_mk (Go.Proofs.utf8Tabs_of_reads Tryd.lays260 u8x (Pinned.utf8First_eq ▸ Go.Lib.laidMet.reads hL (.tail _ (.tail _ (.tail _ (.tail _ (.head _)))))) (accept_eq ▸ Go.Lib.laidMet.reads hL (.tail _ (.tail _ (.tail _ (.head _))))))
    (bruijn_of (by kernel_rfl) (Go.Lib.laidMet.reads hL (.tail _ (.head _)))),
   pow_of (by kernel_rfl) (Go.Lib.laidMet.reads hL (.tail _ (.tail _ (.head _))))⟩
end Go.Proofs.YtpeiamllkddhiaaDoor.P
