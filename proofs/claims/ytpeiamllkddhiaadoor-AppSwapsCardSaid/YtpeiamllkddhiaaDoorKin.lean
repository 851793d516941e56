/- Regions that draw their order, whose operations read and whose calls make memory: one walk of the text's order, over every world that keeps the old memory. -/
import Derived.Test.YtpeiamllkddhiaaDoorMem
import Derived.Deep.QuietTactic
import Derived.BigQuiet
namespace Go.Proofs.YtpeiamllkddhiaaDoor.M
open Go.RowKit
set_option linter.unusedVariables false
/-- a world that keeps what W had -/
structure Kin (W : World) where
  w : World
  h : Below W.heap.size W w
instance (W : World) : Nonempty (Kin W) := ⟨⟨W, Below.refl _ _⟩⟩
instance (W : World) : Inhabited (Kin W) := ⟨⟨W, Below.refl _ _⟩⟩
theorem below_drawn (w : World) : Below w.heap.size w { w with drawn := w.drawn + 1 } := ⟨rfl, rfl, rfl, Nat.le_refl _, fun _ _ => rfl⟩
theorem wp_region_kin {P : Program} {id : Nat} {Q : Exit → Act → World → Prop} {a : Act} {w : World} {l : List Oper} (hm : P.follows .mixedOrders = true) (hB : Region.lexB .any l.toArray = true)
    (h : wpQuiet P l.toArray (fun w' => ∃ x : Kin w, w' = x.w) (fun a' => ∀ w', (∃ x : Kin w, w' = x.w) → Q .normal a' w') l a) : (Code.region id l.toArray true).wp P Q a w :=
  wp_region_quiet (C := fun w' => ∃ x : Kin w, w' = x.w) hm hB ⟨⟨_, below_drawn w⟩, rfl⟩ (by simpa using h)
theorem Kin.cell {W : World} {p : Addr} {v : Value} (hc : W.cell? p = some v) : ∀ x : Kin W, x.w.cell? p = some v := fun x => (x.h.cell (World.block_lt_of_cell? W _ hc)).trans hc
theorem Kin.call {P : Program} {f : FuncId} {args : Array Value} {W : World} {v : Value} (x : Kin W) (h : Calls P f args x.w fun e w' => e = .returned v ∧ Below x.w.heap.size x.w w') : Calls P f args x.w fun e w'' => e = .returned v ∧ ∃ y : Kin W, w'' = y.w :=
  h.mono fun e w' ⟨he, hb⟩ => ⟨he, ⟨w', x.h.trans (hb.mono x.h.size)⟩, rfl⟩
theorem Kin.same {P : Program} {f : FuncId} {args : Array Value} {W : World} {v : Value} (x : Kin W) (h : Calls P f args x.w fun e w' => e = .returned v ∧ x.w = w') : Calls P f args x.w fun e w'' => e = .returned v ∧ ∃ y : Kin W, w'' = y.w :=
  h.mono fun e w' ⟨he, hb⟩ => ⟨he, x, hb.symm⟩
end Go.Proofs.YtpeiamllkddhiaaDoor.M
