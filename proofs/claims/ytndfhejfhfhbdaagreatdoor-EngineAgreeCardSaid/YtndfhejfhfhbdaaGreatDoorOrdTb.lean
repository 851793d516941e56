/- From the listed variables of the rows to the tables that the walks take. -/
import Derived.Test.YtndfhejfhfhbdaaGreatDoorMrg7
import Derived.Test.YtndfhejfhfhbdaaGreatDoorCards
import Derived.Lib.LaidU8
import Derived.Lib.LaidTab
import Derived.LaidLaws
import Derived.PinnedBridge
namespace Go.Proofs.YtndfhejfhfhbdaaGreatDoor.O
open Go.RowKit Go.PlainAid Go.Lib Go.Proofs.YtndfhejfhfhbdaaGreatDoor.R

theorem u8x : Go.Proofs.U8Extra Tryz.prog Tryz.lays260_ren := ⟨by kernel_rfl, by kernel_rfl, by kernel_rfl, by kernel_rfl, by kernel_rfl, by kernel_rfl, by kernel_rfl⟩
theorem accept_eq : Rows.laid_unicode_utf8_acceptRanges (H := Unit) = Go.Lib.acceptData := by kernel_rfl
theorem tabs_mk {W : World} (hu : Lib.Utf8Tabs 0 1 W) : Tabs W :=
  ⟨hu, World.block_lt_of_cell? W _ (hu.1 0 (by decide)), World.block_lt_of_cell? W _ (hu.2 0 (by decide)).1⟩
theorem tabsR_of {W : World} (hL : laidMet Tryz.prog Rows.orderPartsRow.laid W) : Tabs W :=
  tabs_mk (Go.Proofs.utf8Tabs_of_reads Tryz.lays260 u8x (Pinned.utf8First_eq ▸ Go.Lib.laidMet.reads hL (.tail _ (.head _))) (accept_eq ▸ Go.Lib.laidMet.reads hL (.head _)))
end Go.Proofs.YtndfhejfhfhbdaaGreatDoor.O
