/- Proved here: AppSwaps: for every input that can be read the call returns true, does not panic, and each argument reads afterwards as it read before. Conditions: none beyond the form's own. -/
import Derived.Test.YtpeiamllkddhiaaDoorRows
import Derived.WalkKit
import Derived.ProofKit
import Derived.OpenShut
import Derived.Test.YtpeiamllkddhiaaDoorCom
import Derived.Test.YtpeiamllkddhiaaDoorCards
import Derived.Test.YtpeiamllkddhiaaDoorTie
import Derived.PinnedBridge
import Derived.Lay
import Derived.LaidOnce
import Derived.SevenTiedAt
import Derived.Test.YtpeiamllkddhiaaDoorAppSwapsW
import Derived.Test.YtpeiamllkddhiaaDoorAppTb
namespace Go.Proofs.YtpeiamllkddhiaaDoor.appSwaps
open Go.ChangeShapes Go.WideShapes Go.ChangeAt Go.RowKit
open Go.ChangeMaps (open_string shut_string)
set_option linter.unusedVariables false
theorem own : ownKnob Tryd.checked.prog.godebug = none := by kernel_rfl
set_option maxRecDepth 100000 in
theorem walked {H : Type} {enc : TypeId × Value → H} (W : World) (base : Nat) (args : Array Value) (ds : List (DataW H)) (p : List MemPlace)
      (hval : ∀ (j : Nat) t v, Tryd.f8.params[j]? = some t → args[j]? = some v → Value.okWide Tryd.checked.prog W .any base t v)
      (hA : DataW.TrodAll enc Tryd.checked.prog W 0 (fun _ => true) true Tryd.f8.params.toList args.toList ds p) (hlt : ∀ x ∈ p, x.block < W.heap.size)
      (hsz : (DataW.weightsEach Tryd.checked.prog Tryd.f8.params.toList ds).all (· ≤ reachBytes) = true) (hL : laidMetH Tryd.checked.prog Rows.appSwapsRow.laid W) :
      Calls Tryd.checked.prog 8 args W fun e w' => e = .returned (.bool true) ∧ Below W.heap.size W w' := by
  rw [Tryd.params8] at hA hval
  obtain ⟨v0, v1, v2, d0, d1, d2, p0, p1, p2, rfl, rfl, rfl, h0, h1, h2⟩ := trodAll_three hA
  obtain ⟨ao0, cap0, L0, rfl, hV0⟩ := P.cmds_view h0 (fun y hy => hlt y (by simp [hy])) (okWide_slice Tryd.underlying22 (hval 0 _ v0 rfl rfl))
  obtain ⟨c1, rfl, hC1⟩ := P.cmd_arg h1 (hval 1 _ v1 rfl rfl) (fun y hy => hlt y (by simp [hy]))
  obtain ⟨c2, rfl, hC2⟩ := P.cmd_arg h2 (hval 2 _ v2 rfl rfl) (fun y hy => hlt y (by simp [hy]))
  rw [MakeChecks.laidMetH_plain _ _ _ (by kernel_rfl)] at hL
  exact P.swaps_law L0 ao0 cap0 c1 c2 W hV0 hC1 hC2 (P.tabsI_of hL)

set_option maxRecDepth 100000 in
theorem lifted (os : Os) (started : os.Started) (H : Type) (enc : TypeId × Value → H) :
    ReturnsInHanded {} Tryd.checked os 8 .any (fun w args => (Rows.appSwapsSpec.pre enc Tryd.prog Tryd.f8 [] false w args ∧ laidMetH Tryd.prog Rows.appSwapsRow.laid w) ∧ sizedMet enc Tryd.prog Tryd.f8 (OpenSpec.ofChange Rows.appSwapsSpec) false w args) (Rows.appSwapsSpec.post enc Tryd.prog Tryd.f8 false true false false) :=
  C.law_lifted_laid (s := Rows.appSwapsSpec) (F := Tryd.f8) (laid := Rows.appSwapsRow.laid) started 4 own (by kernel_rfl) Tryd.func8 rfl (fun ds h => match ds, h with | [_, _, _], _ => rfl) (by kernel_rfl) Tryd.underlying4 (by kernel_rfl) (by kernel_rfl)
    (ChangeSpec.witness_shaped (enc := enc) (C := Tryd.checked) (os := os) (X := fun w _ => laidMetH Tryd.prog Rows.appSwapsRow.laid w) false (World.laidAll Tryd.prog os Rows.appSwapsRow.laid) #[.slice none 0 0, .agg #[.int .i64 0, .int .i64 0, .int .i64 0, .string ⟨#[]⟩, .string ⟨#[]⟩, .int .i64 0], .agg #[.int .i64 0, .int .i64 0, .int .i64 0, .string ⟨#[]⟩, .string ⟨#[]⟩, .int .i64 0]] 8 (World.laidAll_os _ _ _)
      (World.shaped_of_ZipB (by kernel_rfl) (by kernel_rfl)) (by kernel_rfl) (by kernel_rfl) (by kernel_rfl)
      (by rw [MakeChecks.laidMetH_plain _ _ _ (by kernel_rfl)]; exact laidMet_laidAll _ (by kernel_rfl) (by kernel_rfl)))
    walked

theorem over : Rows.appSwapsRow.holds Tryd.pinned (OpenSpec.ofChange Rows.appSwapsSpec) :=
  OpenClaim.holds_of_wide 8 Tryd.f8 rfl rfl rfl rfl rfl rfl rfl ⟨rfl, rfl, rfl, rfl, rfl⟩ rfl rfl rfl rfl rfl (by kernel_rfl) Tryd.func8 (by kernel_rfl)
    (of_decide_eq_true (by kernel_rfl)) (by unfold Func.isWrapper; first | (rw [if_pos (by decide +kernel)]; kernel_rfl) | (rw [if_neg (by decide +kernel)]; exact ⟨rfl, rfl⟩))
    (fun os started H enc _ => lifted os started H enc)

theorem said : Rows.AppSwapsSaid := over
theorem proved : Rows.AppSwapsCardSaid :=
  Claim7.holds_tied_plain_at .later [] _ _ _ _ said (fun _ h => by cases h) (by kernel_rfl) (fun _ h => by cases h) appSwaps_row_tie rfl ⟨rfl, rfl⟩ (by kernel_rfl) rfl
    (fun f fn hf hfn => by
      obtain rfl : f = 8 := Option.some.inj ((show Tryd.prog.funcNamed Tryd.f8.name = some 8 by kernel_rfl).symm.trans hf) |>.symm
      obtain rfl : fn = Tryd.f8 := (Option.some.inj (Tryd.func8.symm.trans hfn)).symm
      exact ⟨by kernel_rfl, fun j t ht => by
        rw [Tryd.params8] at ht
        have hm : t ∈ Tryd.f8.params.toList := by rw [Tryd.params8]; simpa using Array.mem_of_getElem? ht
        have hall : (Tryd.f8.params.toList.all fun u => !Tryd.prog.wantsStandIn u) = true := by kernel_rfl
        exact (show Tryd.prog.wantsStandIn t = false by simpa using List.all_eq_true.1 hall t hm)⟩)
    (by kernel_rfl)
#print axioms proved
end Go.Proofs.YtpeiamllkddhiaaDoor.appSwaps
