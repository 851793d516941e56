/- Proved here: EngineAgree: for every input that can be read the call returns true, does not panic, and each argument reads afterwards as it read before. Conditions: none beyond the form's own. -/
import Derived.Test.YtndfhejfhfhbdaaGreatDoorRows
import Derived.WalkKit
import Derived.ProofKit
import Derived.OpenShut
import Derived.Test.YtndfhejfhfhbdaaGreatDoorCom
import Derived.Test.YtndfhejfhfhbdaaGreatDoorCards
import Derived.Test.YtndfhejfhfhbdaaGreatDoorTie
import Derived.PinnedBridge
import Derived.Lay
import Derived.LaidOnce
import Derived.SevenTiedAt
import Derived.Test.YtndfhejfhfhbdaaGreatDoorOrdEr
import Derived.Test.YtndfhejfhfhbdaaGreatDoorOrdTb
namespace Go.Proofs.YtndfhejfhfhbdaaGreatDoor.engineAgree
open Go.ChangeShapes Go.WideShapes Go.ChangeAt Go.RowKit
open Go.ChangeMaps (open_string shut_string)
set_option linter.unusedVariables false
theorem own : ownKnob Tryz.checked.prog.godebug = none := by kernel_rfl
open Go.ChangeShapes in
theorem trodAll_four {H : Type} {enc : TypeId × Value → H} {P : Program} {w : World} {base : Nat} {spare : Nat → Bool} {held : Bool} {t t' t'' u : TypeId} {args : Array Value} {ds : List (DataW H)} {ps : List MemPlace} (h : DataW.TrodAll enc P w base spare held [t, t', t'', u] args.toList ds ps) :
    ∃ v v' v'' v3 d d' d'' d3 p p' p'' p3, args = #[v, v', v'', v3] ∧ ds = [d, d', d'', d3] ∧ ps = p ++ p' ++ p'' ++ p3 ∧ DataW.Trod enc P w base spare held t v d p ∧ DataW.Trod enc P w base spare held t' v' d' p' ∧ DataW.Trod enc P w base spare held t'' v'' d'' p'' ∧ DataW.Trod enc P w base spare held u v3 d3 p3 := by
  obtain ⟨v, vs, d, ds', p, q, hargs, rfl, rfl, hd, hrest⟩ := trodAll_cons h
  obtain ⟨v', vs', d', ds'', p', q', rfl, rfl, rfl, hd', hrest'⟩ := trodAll_cons hrest
  obtain ⟨v'', vs'', d'', dsA, p'', q'', rfl, rfl, rfl, hd'', hrest''⟩ := trodAll_cons hrest'
  obtain ⟨v3, vs3, d3, ds3, p3, q3, rfl, rfl, rfl, hd3, hrest3⟩ := trodAll_cons hrest''
  obtain ⟨rfl, rfl, rfl⟩ := trodAll_nil hrest3
  exact ⟨v, v', v'', v3, d, d', d'', d3, p, p', p'', p3, by cases args; simp_all, rfl, by simp, hd, hd', hd'', hd3⟩
set_option maxRecDepth 100000 in
theorem walked {H : Type} {enc : TypeId × Value → H} (W : World) (base : Nat) (args : Array Value) (ds : List (DataW H)) (p : List MemPlace)
      (hval : ∀ (j : Nat) t v, Tryz.f9.params[j]? = some t → args[j]? = some v → Value.okWide Tryz.checked.prog W .any base t v)
      (hA : DataW.TrodAll enc Tryz.checked.prog W 0 (fun _ => true) true Tryz.f9.params.toList args.toList ds p) (hlt : ∀ x ∈ p, x.block < W.heap.size)
      (hsz : (DataW.weightsEach Tryz.checked.prog Tryz.f9.params.toList ds).all (· ≤ reachBytes) = true) (hL : laidMetH Tryz.checked.prog Rows.engineAgreeRow.laid W) :
      Calls Tryz.checked.prog 9 args W fun e w' => e = .returned (.bool true) ∧ Below W.heap.size W w' := by
  rw [Tryz.params9] at hA hval
  obtain ⟨v0, v1, v2, v3, d0, d1, d2, d3, p0, p1, p2, p3, rfl, rfl, rfl, h0, h1, h2, h3⟩ := trodAll_four hA
  obtain ⟨ao0, cap0, X0, rfl, hV0⟩ := O.recs_view h0 (fun y hy => hlt y (by simp [hy])) (okWide_slice Tryz.underlying28 (hval 0 _ v0 rfl rfl))
  obtain ⟨a1, rfl, rfl, rfl, w1⟩ := open_int Tryz.underlying3 (hval 1 3 v1 rfl rfl) h1
  have r1 := P.wf_in w1
  obtain ⟨ao2, cap2, X2, rfl, hV2⟩ := O.bools_view h2 (fun y hy => hlt y (by simp [hy])) (okWide_slice Tryz.underlying22 (hval 2 _ v2 rfl rfl))
  obtain ⟨ao3, cap3, X3, rfl, hV3⟩ := O.bools_view h3 (fun y hy => hlt y (by simp [hy])) (okWide_slice Tryz.underlying22 (hval 3 _ v3 rfl rfl))
  rw [MakeChecks.laidMetH_plain _ _ _ (by kernel_rfl)] at hL
  exact O.agree_law X0 ao0 cap0 a1 X2 ao2 cap2 X3 ao3 cap3 W hV0 r1 hV2 hV3 (O.tabsR_of hL)

set_option maxRecDepth 100000 in
theorem lifted (os : Os) (started : os.Started) (H : Type) (enc : TypeId × Value → H) :
    ReturnsInHanded {} Tryz.checked os 9 .any (fun w args => (Rows.engineAgreeSpec.pre enc Tryz.prog Tryz.f9 [] false w args ∧ laidMetH Tryz.prog Rows.engineAgreeRow.laid w) ∧ sizedMet enc Tryz.prog Tryz.f9 (OpenSpec.ofChange Rows.engineAgreeSpec) false w args) (Rows.engineAgreeSpec.post enc Tryz.prog Tryz.f9 false true false false) :=
  C.law_lifted_laid (s := Rows.engineAgreeSpec) (F := Tryz.f9) (laid := Rows.engineAgreeRow.laid) started 4 own (by kernel_rfl) Tryz.func9 rfl (fun ds h => match ds, h with | [_, _, _, _], _ => rfl) (by kernel_rfl) Tryz.underlying4 (by kernel_rfl) (by kernel_rfl)
    (ChangeSpec.witness_shaped (enc := enc) (C := Tryz.checked) (os := os) (X := fun w _ => laidMetH Tryz.prog Rows.engineAgreeRow.laid w) false (World.laidAll Tryz.prog os Rows.engineAgreeRow.laid) #[.slice none 0 0, .int .i64 0, .slice none 0 0, .slice none 0 0] 8 (World.laidAll_os _ _ _)
      (World.shaped_of_ZipB (by kernel_rfl) (by kernel_rfl)) (by kernel_rfl) (by kernel_rfl) (by kernel_rfl)
      (by rw [MakeChecks.laidMetH_plain _ _ _ (by kernel_rfl)]; exact laidMet_laidAll _ (by kernel_rfl) (by kernel_rfl)))
    walked

theorem over : Rows.engineAgreeRow.holds Tryz.pinned (OpenSpec.ofChange Rows.engineAgreeSpec) :=
  OpenClaim.holds_of_wide 9 Tryz.f9 rfl rfl rfl rfl rfl rfl rfl ⟨rfl, rfl, rfl, rfl, rfl⟩ rfl rfl rfl rfl rfl (by kernel_rfl) Tryz.func9 (by kernel_rfl)
    (of_decide_eq_true (by kernel_rfl)) (by unfold Func.isWrapper; first | (rw [if_pos (by decide +kernel)]; kernel_rfl) | (rw [if_neg (by decide +kernel)]; exact ⟨rfl, rfl⟩))
    (fun os started H enc _ => lifted os started H enc)

theorem said : Rows.EngineAgreeSaid := over
theorem proved : Rows.EngineAgreeCardSaid :=
  Claim7.holds_tied_plain_at .later [] _ _ _ _ said (fun _ h => by cases h) (by kernel_rfl) (fun _ h => by cases h) engineAgree_row_tie rfl ⟨rfl, rfl⟩ (by kernel_rfl) rfl
    (fun f fn hf hfn => by
      obtain rfl : f = 9 := Option.some.inj ((show Tryz.prog.funcNamed Tryz.f9.name = some 9 by kernel_rfl).symm.trans hf) |>.symm
      obtain rfl : fn = Tryz.f9 := (Option.some.inj (Tryz.func9.symm.trans hfn)).symm
      exact ⟨by kernel_rfl, fun j t ht => by
        rw [Tryz.params9] at ht
        have hm : t ∈ Tryz.f9.params.toList := by rw [Tryz.params9]; simpa using Array.mem_of_getElem? ht
        have hall : (Tryz.f9.params.toList.all fun u => !Tryz.prog.wantsStandIn u) = true := by kernel_rfl
        exact (show Tryz.prog.wantsStandIn t = false by simpa using List.all_eq_true.1 hall t hm)⟩)
    (by kernel_rfl)
#print axioms proved
end Go.Proofs.YtndfhejfhfhbdaaGreatDoor.engineAgree
