/- Proved here: AppReads: for every input that can be read the call returns true, does not panic, and each argument reads afterwards as it read before. Conditions: none beyond the form's own. -/
import Derived.Test.YtpeiamllkddhiaaDoorRows
import Derived.WalkKit
import Derived.ProofKit
import Derived.OpenShut
import Derived.Test.YtpeiamllkddhiaaDoorCom
import Derived.Test.YtpeiamllkddhiaaDoorCards
import Derived.Test.YtpeiamllkddhiaaDoorTie
import Derived.PinnedBridge
import Derived.Lay
import Derived.LaidOnce
import Derived.SevenTiedAt
import Derived.Test.YtpeiamllkddhiaaDoorAppReadsW
import Derived.Test.YtpeiamllkddhiaaDoorAppTb
namespace Go.Proofs.YtpeiamllkddhiaaDoor.appReads
open Go.ChangeShapes Go.WideShapes Go.ChangeAt Go.RowKit
open Go.ChangeMaps (open_string shut_string)
set_option linter.unusedVariables false
theorem own : ownKnob Tryd.checked.prog.godebug = none := by kernel_rfl
set_option maxRecDepth 100000 in
theorem walked {H : Type} {enc : TypeId × Value → H} (W : World) (base : Nat) (args : Array Value) (ds : List (DataW H)) (p : List MemPlace)
      (hval : ∀ (j : Nat) t v, Tryd.f5.params[j]? = some t → args[j]? = some v → Value.okWide Tryd.checked.prog W .any base t v)
      (hA : DataW.TrodAll enc Tryd.checked.prog W 0 (fun _ => true) true Tryd.f5.params.toList args.toList ds p) (hlt : ∀ x ∈ p, x.block < W.heap.size)
      (hsz : (DataW.weightsEach Tryd.checked.prog Tryd.f5.params.toList ds).all (· ≤ reachBytes) = true) (hL : laidMetH Tryd.checked.prog Rows.appReadsRow.laid W) :
      Calls Tryd.checked.prog 5 args W fun e w' => e = .returned (.bool true) ∧ Below W.heap.size W w' := by
  rw [Tryd.params5] at hA hval
  obtain ⟨v0, v1, d0, d1, p0, p1, rfl, rfl, rfl, h0, h1⟩ := trodAll_two hA
  obtain ⟨ao0, cap0, L0, rfl, hV0⟩ := P.cmds_view h0 (fun y hy => hlt y (by simp [hy])) (okWide_slice Tryd.underlying22 (hval 0 _ v0 rfl rfl))
  obtain ⟨c1, rfl, hC1⟩ := P.cmd_arg h1 (hval 1 _ v1 rfl rfl) (fun y hy => hlt y (by simp [hy]))
  rw [MakeChecks.laidMetH_plain _ _ _ (by kernel_rfl)] at hL
  exact P.reads_law L0 ao0 cap0 c1 W hV0 hC1 (P.tabsI_of hL)

set_option maxRecDepth 100000 in
theorem lifted (os : Os) (started : os.Started) (H : Type) (enc : TypeId × Value → H) :
    ReturnsInHanded {} Tryd.checked os 5 .any (fun w args => (Rows.appReadsSpec.pre enc Tryd.prog Tryd.f5 [] false w args ∧ laidMetH Tryd.prog Rows.appReadsRow.laid w) ∧ sizedMet enc Tryd.prog Tryd.f5 (OpenSpec.ofChange Rows.appReadsSpec) false w args) (Rows.appReadsSpec.post enc Tryd.prog Tryd.f5 false true false false) :=
  C.law_lifted_laid (s := Rows.appReadsSpec) (F := Tryd.f5) (laid := Rows.appReadsRow.laid) started 4 own (by kernel_rfl) Tryd.func5 rfl (fun ds h => match ds, h with | [_, _], _ => rfl) (by kernel_rfl) Tryd.underlying4 (by kernel_rfl) (by kernel_rfl)
    (ChangeSpec.witness_shaped (enc := enc) (C := Tryd.checked) (os := os) (X := fun w _ => laidMetH Tryd.prog Rows.appReadsRow.laid w) false (World.laidAll Tryd.prog os Rows.appReadsRow.laid) #[.slice none 0 0, .agg #[.int .i64 0, .int .i64 0, .int .i64 0, .string ⟨#[]⟩, .string ⟨#[]⟩, .int .i64 0]] 8 (World.laidAll_os _ _ _)
      (World.shaped_of_ZipB (by kernel_rfl) (by kernel_rfl)) (by kernel_rfl) (by kernel_rfl) (by kernel_rfl)
      (by rw [MakeChecks.laidMetH_plain _ _ _ (by kernel_rfl)]; exact laidMet_laidAll _ (by kernel_rfl) (by kernel_rfl)))
    walked

theorem over : Rows.appReadsRow.holds Tryd.pinned (OpenSpec.ofChange Rows.appReadsSpec) :=
  OpenClaim.holds_of_wide 5 Tryd.f5 rfl rfl rfl rfl rfl rfl rfl ⟨rfl, rfl, rfl, rfl, rfl⟩ rfl rfl rfl rfl rfl (by kernel_rfl) Tryd.func5 (by kernel_rfl)
    (of_decide_eq_true (by kernel_rfl)) (by unfold Func.isWrapper; first | (rw [if_pos (by decide +kernel)]; kernel_rfl) | (rw [if_neg (by decide +kernel)]; exact ⟨rfl, rfl⟩))
    (fun os started H enc _ => lifted os started H enc)

theorem said : Rows.AppReadsSaid := over
theorem proved : Rows.AppReadsCardSaid :=
  Claim7.holds_tied_plain_at .later [] _ _ _ _ said (fun _ h => by cases h) (by kernel_rfl) (fun _ h => by cases h) appReads_row_tie rfl ⟨rfl, rfl⟩ (by kernel_rfl) rfl
    (fun f fn hf hfn => by
      obtain rfl : f = 5 := Option.some.inj ((show Tryd.prog.funcNamed Tryd.f5.name = some 5 by kernel_rfl).symm.trans hf) |>.symm
      obtain rfl : fn = Tryd.f5 := (Option.some.inj (Tryd.func5.symm.trans hfn)).symm
      exact ⟨by kernel_rfl, fun j t ht => by
        rw [Tryd.params5] at ht
        have hm : t ∈ Tryd.f5.params.toList := by rw [Tryd.params5]; simpa using Array.mem_of_getElem? ht
        have hall : (Tryd.f5.params.toList.all fun u => !Tryd.prog.wantsStandIn u) = true := by kernel_rfl
        exact (show Tryd.prog.wantsStandIn t = false by simpa using List.all_eq_true.1 hall t hm)⟩)
    (by kernel_rfl)
#print axioms proved
end Go.Proofs.YtpeiamllkddhiaaDoor.appReads
