/- Proved here: BookHangs: for every input that can be read the call returns true, does not panic, and each argument reads afterwards as it read before. Conditions: none beyond the form's own. -/
import Derived.Test.YtlbkbjeajcadiaaGreatDoorRows
import Derived.WalkKit
import Derived.ProofKit
import Derived.OpenShut
import Derived.Test.YtlbkbjeajcadiaaGreatDoorCom
import Derived.Test.YtlbkbjeajcadiaaGreatDoorCards
import Derived.Test.YtlbkbjeajcadiaaGreatDoorTie
import Derived.PinnedBridge
import Derived.Lay
import Derived.LaidOnce
import Derived.SevenTiedAt
import Derived.Test.YtlbkbjeajcadiaaGreatDoorMrg27
namespace Go.Proofs.YtlbkbjeajcadiaaGreatDoor.bookHangs
open Go.ChangeShapes Go.WideShapes Go.ChangeAt Go.RowKit
open Go.ChangeMaps (open_string shut_string)
set_option linter.unusedVariables false
theorem own : ownKnob Tryz.checked.prog.godebug = none := by kernel_rfl
set_option maxRecDepth 100000 in
theorem walked {H : Type} {enc : TypeId × Value → H} (W : World) (base : Nat) (args : Array Value) (ds : List (DataW H)) (p : List MemPlace)
      (hval : ∀ (j : Nat) t v, Tryz.f3.params[j]? = some t → args[j]? = some v → Value.okWide Tryz.checked.prog W .any base t v)
      (hA : DataW.TrodAll enc Tryz.checked.prog W 0 (fun _ => true) true Tryz.f3.params.toList args.toList ds p) (hlt : ∀ x ∈ p, x.block < W.heap.size)
      (hsz : (DataW.weightsEach Tryz.checked.prog Tryz.f3.params.toList ds).all (· ≤ reachBytes) = true) (hL : laidMetH Tryz.checked.prog Rows.bookHangsRow.laid W) :
      Calls Tryz.checked.prog 3 args W fun e w' => e = .returned (.bool true) ∧ Below W.heap.size W w' := by
  rw [Tryz.params3] at hA hval
  obtain ⟨v0, v1, d0, d1, p0, p1, rfl, rfl, rfl, h0, h1⟩ := trodAll_two hA
  obtain ⟨ao0, cap0, X0, rfl, hV0⟩ := O.recs_view h0 (fun y hy => hlt y (by simp [hy])) (okWide_slice Tryz.underlying22 (hval 0 _ v0 rfl rfl))
  obtain ⟨c1, rfl, hC1⟩ := P.cmd_arg h1 (hval 1 _ v1 rfl rfl) (fun y hy => hlt y (by simp [hy]))
  rw [MakeChecks.laidMetH_plain _ _ _ (by kernel_rfl)] at hL
  exact B.hangs_law X0 ao0 cap0 c1 W hV0 hC1 (B.tabsR_of hL)

set_option maxRecDepth 100000 in
theorem lifted (os : Os) (started : os.Started) (H : Type) (enc : TypeId × Value → H) :
    ReturnsInHanded {} Tryz.checked os 3 .any (fun w args => (Rows.bookHangsSpec.pre enc Tryz.prog Tryz.f3 [] false w args ∧ laidMetH Tryz.prog Rows.bookHangsRow.laid w) ∧ sizedMet enc Tryz.prog Tryz.f3 (OpenSpec.ofChange Rows.bookHangsSpec) false w args) (Rows.bookHangsSpec.post enc Tryz.prog Tryz.f3 false true false false) :=
  C.law_lifted_laid (s := Rows.bookHangsSpec) (F := Tryz.f3) (laid := Rows.bookHangsRow.laid) started 4 own (by kernel_rfl) Tryz.func3 rfl (fun ds h => match ds, h with | [_, _], _ => rfl) (by kernel_rfl) Tryz.underlying4 (by kernel_rfl) (by kernel_rfl)
    (ChangeSpec.witness_shaped (enc := enc) (C := Tryz.checked) (os := os) (X := fun w _ => laidMetH Tryz.prog Rows.bookHangsRow.laid w) false (World.laidAll Tryz.prog os Rows.bookHangsRow.laid) #[.slice none 0 0, .agg #[.int .i64 0, .int .i64 0, .int .i64 0, .string ⟨#[]⟩, .string ⟨#[]⟩, .int .i64 0]] 8 (World.laidAll_os _ _ _)
      (World.shaped_of_ZipB (by kernel_rfl) (by kernel_rfl)) (by kernel_rfl) (by kernel_rfl) (by kernel_rfl)
      (by rw [MakeChecks.laidMetH_plain _ _ _ (by kernel_rfl)]; exact laidMet_laidAll _ (by kernel_rfl) (by kernel_rfl)))
    walked

theorem over : Rows.bookHangsRow.holds Tryz.pinned (OpenSpec.ofChange Rows.bookHangsSpec) :=
  OpenClaim.holds_of_wide 3 Tryz.f3 rfl rfl rfl rfl rfl rfl rfl ⟨rfl, rfl, rfl, rfl, rfl⟩ rfl rfl rfl rfl rfl (by kernel_rfl) Tryz.func3 (by kernel_rfl)
    (of_decide_eq_true (by kernel_rfl)) (by unfold Func.isWrapper; first | (rw [if_pos (by decide +kernel)]; kernel_rfl) | (rw [if_neg (by decide +kernel)]; exact ⟨rfl, rfl⟩))
    (fun os started H enc _ => lifted os started H enc)

theorem said : Rows.BookHangsSaid := over
theorem proved : Rows.BookHangsCardSaid :=
  Claim7.holds_tied_plain_at .later [] _ _ _ _ said (fun _ h => by cases h) (by kernel_rfl) (fun _ h => by cases h) bookHangs_row_tie rfl ⟨rfl, rfl⟩ (by kernel_rfl) rfl
    (fun f fn hf hfn => by
      obtain rfl : f = 3 := Option.some.inj ((show Tryz.prog.funcNamed Tryz.f3.name = some 3 by kernel_rfl).symm.trans hf) |>.symm
      obtain rfl : fn = Tryz.f3 := (Option.some.inj (Tryz.func3.symm.trans hfn)).symm
      exact ⟨by kernel_rfl, fun j t ht => by
        rw [Tryz.params3] at ht
        have hm : t ∈ Tryz.f3.params.toList := by rw [Tryz.params3]; simpa using Array.mem_of_getElem? ht
        have hall : (Tryz.f3.params.toList.all fun u => !Tryz.prog.wantsStandIn u) = true := by kernel_rfl
        exact (show Tryz.prog.wantsStandIn t = false by simpa using List.all_eq_true.1 hall t hm)⟩)
    (by kernel_rfl)
#print axioms proved
end Go.Proofs.YtlbkbjeajcadiaaGreatDoor.bookHangs
