/- Proved here: BagPlays: for every input that can be read the call returns true, does not panic, and each argument reads afterwards as it read before. Conditions: none beyond the form's own. -/
import Derived.Test.YtngackbgcknphaaRows
import Derived.WalkKit
import Derived.ProofKit
import Derived.OpenShut
import Derived.Test.YtngackbgcknphaaCom
import Derived.Test.YtngackbgcknphaaBagP
namespace Go.Proofs.Ytngackbgcknphaa.bagPlays
open Go.ChangeShapes Go.WideShapes Go.ChangeAt Go.RowKit
open Go.ChangeMaps (open_string shut_string)
set_option linter.unusedVariables false
theorem own : ownKnob Try.checked.prog.godebug = none := by kernel_rfl
theorem walked {H : Type} {enc : TypeId × Value → H} (W : World) (base : Nat) (args : Array Value) (ds : List (DataW H)) (p : List MemPlace)
      (hval : ∀ (j : Nat) t v, Try.f5.params[j]? = some t → args[j]? = some v → Value.okWide Try.checked.prog W .any base t v)
      (hA : DataW.TrodAll enc Try.checked.prog W 0 (fun _ => true) true Try.f5.params.toList args.toList ds p) (hlt : ∀ x ∈ p, x.block < W.heap.size)
      (hsz : (DataW.weightsEach Try.checked.prog Try.f5.params.toList ds).all (· ≤ reachBytes) = true) :
      Calls Try.checked.prog 5 args W fun e w' => e = .returned (.bool true) ∧ Below W.heap.size W w' := by
  rw [Try.params5] at hA hval
  obtain ⟨v0, v1, d0, d1, p0, p1, rfl, rfl, rfl, h0, h1⟩ := trodAll_two hA
  obtain ⟨a1, rfl, rfl, rfl, w1⟩ := open_int Try.underlying3 (hval 0 3 v0 rfl rfl) h0
  obtain ⟨ao, cap, Y, rfl, hm, hY⟩ := B.acts_view h1 (fun y hy => hlt y (by simp [hy])) (okWide_slice Try.underlying36 (hval 1 _ v1 rfl rfl))
  have hr : -9223372036854775808 ≤ a1 ∧ a1 ≤ 9223372036854775807 := by
    simp only [Lit.wf, Bool.and_eq_true, decide_eq_true_eq] at w1
    exact w1
  exact B.plays_all W a1 ao cap Y hY hm hr.1 hr.2


set_option maxRecDepth 100000 in
theorem lifted (os : Os) (started : os.Started) (H : Type) (enc : TypeId × Value → H) :
    ReturnsInHanded {} Try.checked os 5 .any (Rows.bagPlaysSpec.pre6 enc Try.prog Try.f5 Rows.bagPlaysRow.domain false) (Rows.bagPlaysSpec.post enc Try.prog Try.f5 false true false false) :=
  C.law_lifted (s := Rows.bagPlaysSpec) (F := Try.f5) started 4 own (by kernel_rfl) Try.func5 rfl (fun ds h => match ds, h with | [_, _], _ => rfl) (by kernel_rfl) Try.underlying4 (by kernel_rfl) (by kernel_rfl)
    (ChangeSpec.witness6 (enc := enc) (C := Try.checked) false ⟨#[], #[.int .i64 0, .slice none 0 0], []⟩ 8 (by kernel_rfl) (by kernel_rfl) (by kernel_rfl) (by kernel_rfl))
    walked

theorem over : Rows.bagPlaysRow.holds Try.pinned (OpenSpec.ofChange Rows.bagPlaysSpec) :=
  OpenClaim.holds_of_wide 5 Try.f5 rfl rfl rfl rfl rfl rfl rfl ⟨rfl, rfl, rfl, rfl, rfl⟩ rfl rfl rfl rfl rfl (by kernel_rfl) Try.func5 (by kernel_rfl)
    (of_decide_eq_true (by kernel_rfl)) (by unfold Func.isWrapper; first | (rw [if_pos (by decide +kernel)]; kernel_rfl) | (rw [if_neg (by decide +kernel)]; exact ⟨rfl, rfl⟩))
    (fun os started H enc _ => lifted os started H enc)

theorem proved : Rows.BagPlaysSaid := over
#print axioms proved
end Go.Proofs.Ytngackbgcknphaa.bagPlays
