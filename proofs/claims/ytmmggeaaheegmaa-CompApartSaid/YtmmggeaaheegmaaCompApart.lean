/- Proved here: CompApart: for every input that can be read the call returns true, does not panic, and each argument reads afterwards as it read before. Conditions: none beyond the form's own. -/
import Derived.Test.YtmmggeaaheegmaaRows
import Derived.WalkKit
import Derived.ProofKit
import Derived.OpenShut
import Derived.Test.YtmmggeaaheegmaaCom
import Derived.Test.YtmmggeaaheegmaaCompGG
namespace Go.Proofs.Ytmmggeaaheegmaa.compApart
open Go.ChangeShapes Go.WideShapes Go.ChangeAt Go.RowKit
open Go.ChangeMaps (open_string shut_string)
set_option linter.unusedVariables false
theorem own : ownKnob Try.checked.prog.godebug = none := by kernel_rfl
theorem walked {H : Type} {enc : TypeId × Value → H} (W : World) (base : Nat) (args : Array Value) (ds : List (DataW H)) (p : List MemPlace)
      (hval : ∀ (j : Nat) t v, Try.f5.params[j]? = some t → args[j]? = some v → Value.okWide Try.checked.prog W .any base t v)
      (hA : DataW.TrodAll enc Try.checked.prog W 0 (fun _ => true) true Try.f5.params.toList args.toList ds p) (hlt : ∀ x ∈ p, x.block < W.heap.size)
      (hsz : (DataW.weightsEach Try.checked.prog Try.f5.params.toList ds).all (· ≤ reachBytes) = true) :
      Calls Try.checked.prog 5 args W fun e w' => e = .returned (.bool true) ∧ Below W.heap.size W w' := by
  rw [Try.params5] at hA hval hsz
  obtain ⟨v0, v1, d0, d1, p0, p1, rfl, rfl, rfl, h0, h1⟩ := trodAll_two hA
  have hw0 : ∀ m ∈ d0.weights Try.prog 22, m ≤ reachBytes := fun m hm => by
    have := List.all_eq_true.1 hsz m (by have hm' : m ∈ d0.weights Try.checked.prog 22 := hm; simp [DataW.weightsEach, hm'])
    simpa using this
  obtain ⟨eo0, n0, ec0, E0, rfl, hE0, hB0⟩ := K.edges_view h0 (fun y hy => hlt y (by simp [hy])) (okWide_slice Try.underlying22 (hval 0 _ v0 rfl rfl)) hw0
  have hN0 := K.edges_nil h0 (fun y hy => hlt y (by simp [hy]))
  obtain ⟨a1, rfl, rfl, rfl, w1⟩ := open_int Try.underlying5 (hval 1 5 v1 rfl rfl) h1
  have r1 : 0 ≤ a1 ∧ a1 ≤ 255 := by
    simp only [Lit.wf, Bool.and_eq_true, decide_eq_true_eq] at w1
    exact w1
  exact K.apart_all E0 n0 eo0 ec0 a1 r1.1 r1.2 W hE0 hB0 hN0


set_option maxRecDepth 100000 in
theorem lifted (os : Os) (started : os.Started) (H : Type) (enc : TypeId × Value → H) :
    ReturnsInHanded {} Try.checked os 5 .any (Rows.compApartSpec.pre6 enc Try.prog Try.f5 Rows.compApartRow.domain false) (Rows.compApartSpec.post enc Try.prog Try.f5 false true false false) :=
  C.law_lifted (s := Rows.compApartSpec) (F := Try.f5) started 4 own (by kernel_rfl) Try.func5 rfl (fun ds h => match ds, h with | [_, _], _ => rfl) (by kernel_rfl) Try.underlying4 (by kernel_rfl) (by kernel_rfl)
    (ChangeSpec.witness6 (enc := enc) (C := Try.checked) false ⟨#[], #[.slice none 0 0, .int .u8 0], []⟩ 8 (by kernel_rfl) (by kernel_rfl) (by kernel_rfl) (by kernel_rfl))
    walked

theorem over : Rows.compApartRow.holds Try.pinned (OpenSpec.ofChange Rows.compApartSpec) :=
  OpenClaim.holds_of_wide 5 Try.f5 rfl rfl rfl rfl rfl rfl rfl ⟨rfl, rfl, rfl, rfl, rfl⟩ rfl rfl rfl rfl rfl (by kernel_rfl) Try.func5 (by kernel_rfl)
    (of_decide_eq_true (by kernel_rfl)) (by unfold Func.isWrapper; first | (rw [if_pos (by decide +kernel)]; kernel_rfl) | (rw [if_neg (by decide +kernel)]; exact ⟨rfl, rfl⟩))
    (fun os started H enc _ => lifted os started H enc)

theorem proved : Rows.CompApartSaid := over
#print axioms proved
end Go.Proofs.Ytmmggeaaheegmaa.compApart
