/- Proved here: BagKeeps: for every input that can be read the call returns true, does not panic, and each argument reads afterwards as it read before. Conditions: none beyond the form's own. -/
import Derived.Test.YtngackbgcknphaaRows
import Derived.WalkKit
import Derived.ProofKit
import Derived.OpenShut
import Derived.Test.YtngackbgcknphaaCom
import Derived.Test.YtngackbgcknphaaBagI
import Derived.Test.YtngackbgcknphaaBagH
namespace Go.Proofs.Ytngackbgcknphaa.bagKeeps
open Go.ChangeShapes Go.WideShapes Go.ChangeAt Go.RowKit
open Go.ChangeMaps (open_string shut_string)
set_option linter.unusedVariables false
theorem own : ownKnob Try.checked.prog.godebug = none := by kernel_rfl
theorem walked {H : Type} {enc : TypeId × Value → H} (W : World) (base : Nat) (args : Array Value) (ds : List (DataW H)) (p : List MemPlace)
      (hval : ∀ (j : Nat) t v, Try.f3.params[j]? = some t → args[j]? = some v → Value.okWide Try.checked.prog W .any base t v)
      (hA : DataW.TrodAll enc Try.checked.prog W 0 (fun _ => true) true Try.f3.params.toList args.toList ds p) (hlt : ∀ x ∈ p, x.block < W.heap.size)
      (hsz : (DataW.weightsEach Try.checked.prog Try.f3.params.toList ds).all (· ≤ reachBytes) = true) :
      Calls Try.checked.prog 3 args W fun e w' => e = .returned (.bool true) ∧ Below W.heap.size W w' := by
  rw [Try.params3] at hA hval
  obtain ⟨v0, d0, rfl, rfl, h0⟩ := trodAll_one hA
  obtain ⟨cs, rfl, _⟩ := okWide_struct Try.underlying24 (hval 0 _ v0 rfl rfl)
  obtain ⟨fuel, hf⟩ := h0
  obtain ⟨y, hy, hb, ha⟩ := B.env_view hf hlt
  have e : cs = #[.int .i64 y.f, .int .i64 y.t, .slice y.ao y.l.length y.cap] := Array.toList_inj.1 hy
  subst e
  exact B.keeps_all W y.f y.t y.ao y.cap y.l hb ha


set_option maxRecDepth 100000 in
theorem lifted (os : Os) (started : os.Started) (H : Type) (enc : TypeId × Value → H) :
    ReturnsInHanded {} Try.checked os 3 .any (Rows.bagKeepsSpec.pre6 enc Try.prog Try.f3 Rows.bagKeepsRow.domain false) (Rows.bagKeepsSpec.post enc Try.prog Try.f3 false true false false) :=
  C.law_lifted (s := Rows.bagKeepsSpec) (F := Try.f3) started 4 own (by kernel_rfl) Try.func3 rfl (fun ds h => match ds, h with | [_], _ => rfl) (by kernel_rfl) Try.underlying4 (by kernel_rfl) (by kernel_rfl)
    (ChangeSpec.witness6 (enc := enc) (C := Try.checked) false ⟨#[], #[.agg #[.int .i64 0, .int .i64 0, .slice none 0 0]], []⟩ 8 (by kernel_rfl) (by kernel_rfl) (by kernel_rfl) (by kernel_rfl))
    walked

theorem over : Rows.bagKeepsRow.holds Try.pinned (OpenSpec.ofChange Rows.bagKeepsSpec) :=
  OpenClaim.holds_of_wide 3 Try.f3 rfl rfl rfl rfl rfl rfl rfl ⟨rfl, rfl, rfl, rfl, rfl⟩ rfl rfl rfl rfl rfl (by kernel_rfl) Try.func3 (by kernel_rfl)
    (of_decide_eq_true (by kernel_rfl)) (by unfold Func.isWrapper; first | (rw [if_pos (by decide +kernel)]; kernel_rfl) | (rw [if_neg (by decide +kernel)]; exact ⟨rfl, rfl⟩))
    (fun os started H enc _ => lifted os started H enc)

theorem proved : Rows.BagKeepsSaid := over
#print axioms proved
end Go.Proofs.Ytngackbgcknphaa.bagKeeps
