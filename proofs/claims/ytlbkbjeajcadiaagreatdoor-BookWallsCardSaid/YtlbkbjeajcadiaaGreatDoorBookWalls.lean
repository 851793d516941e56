/- Proved here: BookWalls: for every input that can be read the call returns true, does not panic, and each argument reads afterwards as it read before. Conditions: none beyond the form's own. -/
import Derived.Test.YtlbkbjeajcadiaaGreatDoorRows
import Derived.WalkKit
import Derived.ProofKit
import Derived.OpenShut
import Derived.Test.YtlbkbjeajcadiaaGreatDoorCom
import Derived.Test.YtlbkbjeajcadiaaGreatDoorCards
import Derived.Test.YtlbkbjeajcadiaaGreatDoorTie
import Derived.PinnedBridge
import Derived.Lay
import Derived.LaidOnce
import Derived.SevenTiedAt
import Derived.Test.YtlbkbjeajcadiaaGreatDoorMrg17
namespace Go.Proofs.YtlbkbjeajcadiaaGreatDoor.bookWalls
open Go.ChangeShapes Go.WideShapes Go.ChangeAt Go.RowKit
open Go.ChangeMaps (open_string shut_string)
set_option linter.unusedVariables false
theorem own : ownKnob Tryz.checked.prog.godebug = none := by kernel_rfl
set_option maxRecDepth 100000 in
theorem walked {H : Type} {enc : TypeId × Value → H} (W : World) (base : Nat) (args : Array Value) (ds : List (DataW H)) (p : List MemPlace)
      (hval : ∀ (j : Nat) t v, Tryz.f4.params[j]? = some t → args[j]? = some v → Value.okWide Tryz.checked.prog W .any base t v)
      (hA : DataW.TrodAll enc Tryz.checked.prog W 0 (fun _ => true) true Tryz.f4.params.toList args.toList ds p) (hlt : ∀ x ∈ p, x.block < W.heap.size)
      (hsz : (DataW.weightsEach Tryz.checked.prog Tryz.f4.params.toList ds).all (· ≤ reachBytes) = true) (hL : laidMetH Tryz.checked.prog Rows.bookWallsRow.laid W) :
      Calls Tryz.checked.prog 4 args W fun e w' => e = .returned (.bool true) ∧ Below W.heap.size W w' := by
  rw [Tryz.params4] at hA hval
  obtain ⟨v0, d0, rfl, rfl, h0⟩ := trodAll_one hA
  obtain ⟨ao0, cap0, X0, rfl, hV0⟩ := O.recs_view h0 hlt (okWide_slice Tryz.underlying22 (hval 0 _ v0 rfl rfl))
  rw [MakeChecks.laidMetH_plain _ _ _ (by kernel_rfl)] at hL
  exact B.walls_law X0 ao0 cap0 W hV0 (B.tabsR_of hL)

set_option maxRecDepth 100000 in
theorem lifted (os : Os) (started : os.Started) (H : Type) (enc : TypeId × Value → H) :
    ReturnsInHanded {} Tryz.checked os 4 .any (fun w args => (Rows.bookWallsSpec.pre enc Tryz.prog Tryz.f4 [] false w args ∧ laidMetH Tryz.prog Rows.bookWallsRow.laid w) ∧ sizedMet enc Tryz.prog Tryz.f4 (OpenSpec.ofChange Rows.bookWallsSpec) false w args) (Rows.bookWallsSpec.post enc Tryz.prog Tryz.f4 false true false false) :=
  C.law_lifted_laid (s := Rows.bookWallsSpec) (F := Tryz.f4) (laid := Rows.bookWallsRow.laid) started 4 own (by kernel_rfl) Tryz.func4 rfl (fun ds h => match ds, h with | [_], _ => rfl) (by kernel_rfl) Tryz.underlying4 (by kernel_rfl) (by kernel_rfl)
    (ChangeSpec.witness_shaped (enc := enc) (C := Tryz.checked) (os := os) (X := fun w _ => laidMetH Tryz.prog Rows.bookWallsRow.laid w) false (World.laidAll Tryz.prog os Rows.bookWallsRow.laid) #[.slice none 0 0] 8 (World.laidAll_os _ _ _)
      (World.shaped_of_ZipB (by kernel_rfl) (by kernel_rfl)) (by kernel_rfl) (by kernel_rfl) (by kernel_rfl)
      (by rw [MakeChecks.laidMetH_plain _ _ _ (by kernel_rfl)]; exact laidMet_laidAll _ (by kernel_rfl) (by kernel_rfl)))
    walked

theorem over : Rows.bookWallsRow.holds Tryz.pinned (OpenSpec.ofChange Rows.bookWallsSpec) :=
  OpenClaim.holds_of_wide 4 Tryz.f4 rfl rfl rfl rfl rfl rfl rfl ⟨rfl, rfl, rfl, rfl, rfl⟩ rfl rfl rfl rfl rfl (by kernel_rfl) Tryz.func4 (by kernel_rfl)
    (of_decide_eq_true (by kernel_rfl)) (by unfold Func.isWrapper; first | (rw [if_pos (by decide +kernel)]; kernel_rfl) | (rw [if_neg (by decide +kernel)]; exact ⟨rfl, rfl⟩))
    (fun os started H enc _ => lifted os started H enc)

theorem said : Rows.BookWallsSaid := over
theorem proved : Rows.BookWallsCardSaid :=
  Claim7.holds_tied_plain_at .later [] _ _ _ _ said (fun _ h => by cases h) (by kernel_rfl) (fun _ h => by cases h) bookWalls_row_tie rfl ⟨rfl, rfl⟩ (by kernel_rfl) rfl
    (fun f fn hf hfn => by
      obtain rfl : f = 4 := Option.some.inj ((show Tryz.prog.funcNamed Tryz.f4.name = some 4 by kernel_rfl).symm.trans hf) |>.symm
      obtain rfl : fn = Tryz.f4 := (Option.some.inj (Tryz.func4.symm.trans hfn)).symm
      exact ⟨by kernel_rfl, fun j t ht => by
        rw [Tryz.params4] at ht
        have hm : t ∈ Tryz.f4.params.toList := by rw [Tryz.params4]; simpa using Array.mem_of_getElem? ht
        have hall : (Tryz.f4.params.toList.all fun u => !Tryz.prog.wantsStandIn u) = true := by kernel_rfl
        exact (show Tryz.prog.wantsStandIn t = false by simpa using List.all_eq_true.1 hall t hm)⟩)
    (by kernel_rfl)
#print axioms proved
end Go.Proofs.YtlbkbjeajcadiaaGreatDoor.bookWalls
