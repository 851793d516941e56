/- Proved here: CompLeads: for every input that can be read the call returns true, does not panic, and each argument reads afterwards as it read before. Conditions: none beyond the form's own. -/
import Derived.Test.YtmmggeaaheegmaaRows
import Derived.WalkKit
import Derived.ProofKit
import Derived.OpenShut
import Derived.Test.YtmmggeaaheegmaaCom
import Derived.Test.YtmmggeaaheegmaaCompCC
namespace Go.Proofs.Ytmmggeaaheegmaa.compLeads
open Go.ChangeShapes Go.WideShapes Go.ChangeAt Go.RowKit
open Go.ChangeMaps (open_string shut_string)
set_option linter.unusedVariables false
theorem own : ownKnob Try.checked.prog.godebug = none := by kernel_rfl
theorem walked {H : Type} {enc : TypeId × Value → H} (W : World) (base : Nat) (args : Array Value) (ds : List (DataW H)) (p : List MemPlace)
      (hval : ∀ (j : Nat) t v, Try.f7.params[j]? = some t → args[j]? = some v → Value.okWide Try.checked.prog W .any base t v)
      (hA : DataW.TrodAll enc Try.checked.prog W 0 (fun _ => true) true Try.f7.params.toList args.toList ds p) (hlt : ∀ x ∈ p, x.block < W.heap.size)
      (hsz : (DataW.weightsEach Try.checked.prog Try.f7.params.toList ds).all (· ≤ reachBytes) = true) :
      Calls Try.checked.prog 7 args W fun e w' => e = .returned (.bool true) ∧ Below W.heap.size W w' := by
  rw [Try.params7] at hA hval hsz
  obtain ⟨v0, v1, v2, d0, d1, d2, p0, p1, p2, rfl, rfl, rfl, h0, h1, h2⟩ := trodAll_three hA
  have hw0 : ∀ m ∈ d0.weights Try.prog 22, m ≤ reachBytes := fun m hm => by
    have := List.all_eq_true.1 hsz m (by have hm' : m ∈ d0.weights Try.checked.prog 22 := hm; simp [DataW.weightsEach, hm'])
    simpa using this
  obtain ⟨eo0, n0, ec0, E0, rfl, hE0, hB0⟩ := K.edges_view h0 (fun y hy => hlt y (by simp [hy])) (okWide_slice Try.underlying22 (hval 0 _ v0 rfl rfl)) hw0
  obtain ⟨a1, rfl, rfl, rfl, w1⟩ := open_int Try.underlying3 (hval 1 3 v1 rfl rfl) h1
  have r1 : -9223372036854775808 ≤ a1 ∧ a1 ≤ 9223372036854775807 := by
    simp only [Lit.wf, Bool.and_eq_true, decide_eq_true_eq] at w1
    exact w1
  obtain ⟨a2, rfl, rfl, rfl, w2⟩ := open_int Try.underlying3 (hval 2 3 v2 rfl rfl) h2
  have r2 : -9223372036854775808 ≤ a2 ∧ a2 ≤ 9223372036854775807 := by
    simp only [Lit.wf, Bool.and_eq_true, decide_eq_true_eq] at w2
    exact w2
  exact K.leadsl_any E0 n0 eo0 ec0 a1 a2 W hE0 hB0


set_option maxRecDepth 100000 in
theorem lifted (os : Os) (started : os.Started) (H : Type) (enc : TypeId × Value → H) :
    ReturnsInHanded {} Try.checked os 7 .any (Rows.compLeadsSpec.pre6 enc Try.prog Try.f7 Rows.compLeadsRow.domain false) (Rows.compLeadsSpec.post enc Try.prog Try.f7 false true false false) :=
  C.law_lifted (s := Rows.compLeadsSpec) (F := Try.f7) started 4 own (by kernel_rfl) Try.func7 rfl (fun ds h => match ds, h with | [_, _, _], _ => rfl) (by kernel_rfl) Try.underlying4 (by kernel_rfl) (by kernel_rfl)
    (ChangeSpec.witness6 (enc := enc) (C := Try.checked) false ⟨#[], #[.slice none 0 0, .int .i64 0, .int .i64 0], []⟩ 8 (by kernel_rfl) (by kernel_rfl) (by kernel_rfl) (by kernel_rfl))
    walked

theorem over : Rows.compLeadsRow.holds Try.pinned (OpenSpec.ofChange Rows.compLeadsSpec) :=
  OpenClaim.holds_of_wide 7 Try.f7 rfl rfl rfl rfl rfl rfl rfl ⟨rfl, rfl, rfl, rfl, rfl⟩ rfl rfl rfl rfl rfl (by kernel_rfl) Try.func7 (by kernel_rfl)
    (of_decide_eq_true (by kernel_rfl)) (by unfold Func.isWrapper; first | (rw [if_pos (by decide +kernel)]; kernel_rfl) | (rw [if_neg (by decide +kernel)]; exact ⟨rfl, rfl⟩))
    (fun os started H enc _ => lifted os started H enc)

theorem proved : Rows.CompLeadsSaid := over
#print axioms proved
end Go.Proofs.Ytmmggeaaheegmaa.compLeads
