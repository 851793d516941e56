/- Proved here: CompOnce: for every input that can be read the call returns true, does not panic, and each argument reads afterwards as it read before. Conditions: none beyond the form's own. -/
import Derived.Test.YtmmggeaaheegmaaRows
import Derived.WalkKit
import Derived.ProofKit
import Derived.OpenShut
import Derived.Test.YtmmggeaaheegmaaCom
import Derived.Test.YtmmggeaaheegmaaCompBB
namespace Go.Proofs.Ytmmggeaaheegmaa.compOnce
open Go.ChangeShapes Go.WideShapes Go.ChangeAt Go.RowKit
open Go.ChangeMaps (open_string shut_string)
set_option linter.unusedVariables false
theorem own : ownKnob Try.checked.prog.godebug = none := by kernel_rfl
theorem walked {H : Type} {enc : TypeId × Value → H} (W : World) (base : Nat) (args : Array Value) (ds : List (DataW H)) (p : List MemPlace)
      (hval : ∀ (j : Nat) t v, Try.f3.params[j]? = some t → args[j]? = some v → Value.okWide Try.checked.prog W .any base t v)
      (hA : DataW.TrodAll enc Try.checked.prog W 0 (fun _ => true) true Try.f3.params.toList args.toList ds p) (hlt : ∀ x ∈ p, x.block < W.heap.size)
      (hsz : (DataW.weightsEach Try.checked.prog Try.f3.params.toList ds).all (· ≤ reachBytes) = true) :
      Calls Try.checked.prog 3 args W fun e w' => e = .returned (.bool true) ∧ Below W.heap.size W w' := by
  rw [Try.params3] at hA hval hsz
  obtain ⟨v0, d0, rfl, rfl, h0⟩ := trodAll_one hA
  have hw0 : ∀ m ∈ d0.weights Try.prog 22, m ≤ reachBytes := fun m hm => by
    have := List.all_eq_true.1 hsz m (by have hm' : m ∈ d0.weights Try.checked.prog 22 := hm; simp [DataW.weightsEach, hm'])
    simpa using this
  obtain ⟨eo0, n0, ec0, E0, rfl, hE0, hB0⟩ := K.edges_view h0 hlt (okWide_slice Try.underlying22 (hval 0 _ v0 rfl rfl)) hw0
  exact K.once_all E0 n0 eo0 ec0 W hE0 hB0


set_option maxRecDepth 100000 in
theorem lifted (os : Os) (started : os.Started) (H : Type) (enc : TypeId × Value → H) :
    ReturnsInHanded {} Try.checked os 3 .any (Rows.compOnceSpec.pre6 enc Try.prog Try.f3 Rows.compOnceRow.domain false) (Rows.compOnceSpec.post enc Try.prog Try.f3 false true false false) :=
  C.law_lifted (s := Rows.compOnceSpec) (F := Try.f3) started 4 own (by kernel_rfl) Try.func3 rfl (fun ds h => match ds, h with | [_], _ => rfl) (by kernel_rfl) Try.underlying4 (by kernel_rfl) (by kernel_rfl)
    (ChangeSpec.witness6 (enc := enc) (C := Try.checked) false ⟨#[], #[.slice none 0 0], []⟩ 8 (by kernel_rfl) (by kernel_rfl) (by kernel_rfl) (by kernel_rfl))
    walked

theorem over : Rows.compOnceRow.holds Try.pinned (OpenSpec.ofChange Rows.compOnceSpec) :=
  OpenClaim.holds_of_wide 3 Try.f3 rfl rfl rfl rfl rfl rfl rfl ⟨rfl, rfl, rfl, rfl, rfl⟩ rfl rfl rfl rfl rfl (by kernel_rfl) Try.func3 (by kernel_rfl)
    (of_decide_eq_true (by kernel_rfl)) (by unfold Func.isWrapper; first | (rw [if_pos (by decide +kernel)]; kernel_rfl) | (rw [if_neg (by decide +kernel)]; exact ⟨rfl, rfl⟩))
    (fun os started H enc _ => lifted os started H enc)

theorem proved : Rows.CompOnceSaid := over
#print axioms proved
end Go.Proofs.Ytmmggeaaheegmaa.compOnce
