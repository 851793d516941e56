/- Proved here: CompLong: for every input that can be read the call returns true, does not panic, and each argument reads afterwards as it read before. Conditions: none beyond the form's own. -/
import Derived.Test.YtmmggeaaheegmaaRows
import Derived.WalkKit
import Derived.ProofKit
import Derived.OpenShut
import Derived.Test.YtmmggeaaheegmaaCom
import Derived.Test.YtmmggeaaheegmaaCompEE
namespace Go.Proofs.Ytmmggeaaheegmaa.compLong
open Go.ChangeShapes Go.WideShapes Go.ChangeAt Go.RowKit
open Go.ChangeMaps (open_string shut_string)
set_option linter.unusedVariables false
theorem own : ownKnob Try.checked.prog.godebug = none := by kernel_rfl
theorem walked {H : Type} {enc : TypeId × Value → H} (W : World) (base : Nat) (args : Array Value) (ds : List (DataW H)) (p : List MemPlace)
      (hval : ∀ (j : Nat) t v, Try.f4.params[j]? = some t → args[j]? = some v → Value.okWide Try.checked.prog W .any base t v)
      (hA : DataW.TrodAll enc Try.checked.prog W 0 (fun _ => true) true Try.f4.params.toList args.toList ds p) (hlt : ∀ x ∈ p, x.block < W.heap.size)
      (hsz : (DataW.weightsEach Try.checked.prog Try.f4.params.toList ds).all (· ≤ reachBytes) = true) :
      Calls Try.checked.prog 4 args W fun e w' => e = .returned (.bool true) ∧ Below W.heap.size W w' := by
  rw [Try.params4] at hA hval hsz
  obtain ⟨v0, d0, rfl, rfl, h0⟩ := trodAll_one hA
  obtain ⟨a0, rfl, rfl, rfl, w0⟩ := open_int Try.underlying27 (hval 0 27 v0 rfl rfl) h0
  have r0 : 0 ≤ a0 ∧ a0 ≤ 65535 := by
    simp only [Lit.wf, Bool.and_eq_true, decide_eq_true_eq] at w0
    exact w0
  exact K.long_all a0 r0.1 r0.2 W


set_option maxRecDepth 100000 in
theorem lifted (os : Os) (started : os.Started) (H : Type) (enc : TypeId × Value → H) :
    ReturnsInHanded {} Try.checked os 4 .any (Rows.compLongSpec.pre6 enc Try.prog Try.f4 Rows.compLongRow.domain false) (Rows.compLongSpec.post enc Try.prog Try.f4 false true false false) :=
  C.law_lifted (s := Rows.compLongSpec) (F := Try.f4) started 4 own (by kernel_rfl) Try.func4 rfl (fun ds h => match ds, h with | [_], _ => rfl) (by kernel_rfl) Try.underlying4 (by kernel_rfl) (by kernel_rfl)
    (ChangeSpec.witness6 (enc := enc) (C := Try.checked) false ⟨#[], #[.int .u16 0], []⟩ 8 (by kernel_rfl) (by kernel_rfl) (by kernel_rfl) (by kernel_rfl))
    walked

theorem over : Rows.compLongRow.holds Try.pinned (OpenSpec.ofChange Rows.compLongSpec) :=
  OpenClaim.holds_of_wide 4 Try.f4 rfl rfl rfl rfl rfl rfl rfl ⟨rfl, rfl, rfl, rfl, rfl⟩ rfl rfl rfl rfl rfl (by kernel_rfl) Try.func4 (by kernel_rfl)
    (of_decide_eq_true (by kernel_rfl)) (by unfold Func.isWrapper; first | (rw [if_pos (by decide +kernel)]; kernel_rfl) | (rw [if_neg (by decide +kernel)]; exact ⟨rfl, rfl⟩))
    (fun os started H enc _ => lifted os started H enc)

theorem proved : Rows.CompLongSaid := over
#print axioms proved
end Go.Proofs.Ytmmggeaaheegmaa.compLong
