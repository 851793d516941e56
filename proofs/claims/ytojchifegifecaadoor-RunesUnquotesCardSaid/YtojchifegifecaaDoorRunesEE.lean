/- From the listed variables of the rows of RunesQuotes and RunesUnquotes to what the walks take. -/
import Derived.Test.YtojchifegifecaaDoorRunesDD
import Derived.Test.YtojchifegifecaaDoorRunesK
import Derived.LaidLaws
namespace Go.Proofs.YtojchifegifecaaDoor.R
open Go.RowKit Go.PlainAid Go.Lib

theorem errAt_of {W : World} {n m : String} {g : Nat} {d : DataW Unit} (hn : Tryd.prog.globalNamed n = some g) (hty : (Tryd.prog.globals[g]?).map (·.type) = some 41) (h : Go.Lib.VarReads Tryd.prog W n (.iface m d)) : ErrAt g W := by
  obtain ⟨g', t, cs, fuel, p, hg, ht, hvar, hd⟩ := h
  obtain rfl := Option.some.inj (hn.symm.trans hg)
  obtain rfl := Option.some.inj (hty.symm.trans ht)
  obtain ⟨_, u, v, hcs, _⟩ := iface_of_trod Tryd.underlying41 hd
  refine ⟨.iface u v, ?_, .inr ⟨u, v, rfl⟩⟩
  have := World.var?_cell hg hvar 0
  rw [this, ← Array.getElem?_toList, hcs]
  rfl
theorem tabs2_of {W : World} (hL : laidMet Tryd.prog Rows.runesQuotesRow.laid W) (hS : W.ShapedOpen Tryd.prog) : Tabs2 W where
  t := tabs_mk (Go.Proofs.utf8Tabs_of_reads Tryd.lays260 u8x (Pinned.utf8First_eq ▸ Go.Lib.laidMet.reads hL (.tail _ (.tail _ (.tail _ (.tail _ (.tail _ (.tail _ (.head _)))))))) (accept_eq ▸ Go.Lib.laidMet.reads hL (.tail _ (.tail _ (.tail _ (.head _))))))
    (bruijn_of (by kernel_rfl) (Go.Lib.laidMet.reads hL (.tail _ (.head _))))
  e1 := errAt_of (n := "strconv.ErrSyntax") (by kernel_rfl) (by kernel_rfl) (Go.Lib.laidMet.reads hL (.tail _ (.tail _ (.tail _ (.tail _ (.tail _ (.head _)))))))
  e2 := errAt_of (n := "strconv.ErrRange") (by kernel_rfl) (by kernel_rfl) (Go.Lib.laidMet.reads hL (.tail _ (.tail _ (.tail _ (.tail _ (.head _))))))
  ml := Tryd.laysM145.s1_3 W hS
end Go.Proofs.YtojchifegifecaaDoor.R
