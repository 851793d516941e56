/- Proved here: BookPlays: for every input that can be read the call returns true, does not panic, and each argument reads afterwards as it read before. Conditions: none beyond the form's own. -/
import Derived.Test.YtlbkbjeajcadiaaGreatDoorRows
import Derived.WalkKit
import Derived.ProofKit
import Derived.OpenShut
import Derived.Test.YtlbkbjeajcadiaaGreatDoorCom
import Derived.Test.YtlbkbjeajcadiaaGreatDoorCards
import Derived.Test.YtlbkbjeajcadiaaGreatDoorTie
import Derived.PinnedBridge
import Derived.Lay
import Derived.LaidOnce
import Derived.SevenTiedAt
import Derived.Test.YtlbkbjeajcadiaaGreatDoorBlL
import Derived.Test.YtlbkbjeajcadiaaGreatDoorMrg27
namespace Go.Proofs.YtlbkbjeajcadiaaGreatDoor.bookPlays
open Go.ChangeShapes Go.WideShapes Go.ChangeAt Go.RowKit
open Go.ChangeMaps (open_string shut_string)
set_option linter.unusedVariables false
theorem own : ownKnob Tryz.checked.prog.godebug = none := by kernel_rfl
open Go.ChangeShapes in
theorem trodAll_five {H : Type} {enc : TypeId × Value → H} {P : Program} {w : World} {base : Nat} {spare : Nat → Bool} {held : Bool} {t t' t'' u u' : TypeId} {args : Array Value} {ds : List (DataW H)} {ps : List MemPlace} (h : DataW.TrodAll enc P w base spare held [t, t', t'', u, u'] args.toList ds ps) :
    ∃ v v' v'' v3 v4 d d' d'' d3 d4 p p' p'' p3 p4, args = #[v, v', v'', v3, v4] ∧ ds = [d, d', d'', d3, d4] ∧ ps = p ++ p' ++ p'' ++ p3 ++ p4 ∧ DataW.Trod enc P w base spare held t v d p ∧ DataW.Trod enc P w base spare held t' v' d' p' ∧ DataW.Trod enc P w base spare held t'' v'' d'' p'' ∧ DataW.Trod enc P w base spare held u v3 d3 p3 ∧ DataW.Trod enc P w base spare held u' v4 d4 p4 := by
  obtain ⟨v, vs, d, ds', p, q, hargs, rfl, rfl, hd, hrest⟩ := trodAll_cons h
  obtain ⟨v', vs', d', ds'', p', q', rfl, rfl, rfl, hd', hrest'⟩ := trodAll_cons hrest
  obtain ⟨v'', vs'', d'', dsA, p'', q'', rfl, rfl, rfl, hd'', hrest''⟩ := trodAll_cons hrest'
  obtain ⟨v3, vs3, d3, ds3, p3, q3, rfl, rfl, rfl, hd3, hrest3⟩ := trodAll_cons hrest''
  obtain ⟨v4, vs4, d4, ds4, p4, q4, rfl, rfl, rfl, hd4, hrest4⟩ := trodAll_cons hrest3
  obtain ⟨rfl, rfl, rfl⟩ := trodAll_nil hrest4
  exact ⟨v, v', v'', v3, v4, d, d', d'', d3, d4, p, p', p'', p3, p4, by cases args; simp_all, rfl, by simp, hd, hd', hd'', hd3, hd4⟩
set_option maxRecDepth 100000 in
theorem walked {H : Type} {enc : TypeId × Value → H} (W : World) (base : Nat) (args : Array Value) (ds : List (DataW H)) (p : List MemPlace)
      (hval : ∀ (j : Nat) t v, Tryz.f5.params[j]? = some t → args[j]? = some v → Value.okWide Tryz.checked.prog W .any base t v)
      (hA : DataW.TrodAll enc Tryz.checked.prog W 0 (fun _ => true) true Tryz.f5.params.toList args.toList ds p) (hlt : ∀ x ∈ p, x.block < W.heap.size)
      (hsz : (DataW.weightsEach Tryz.checked.prog Tryz.f5.params.toList ds).all (· ≤ reachBytes) = true) (hL : laidMetH Tryz.checked.prog Rows.bookPlaysRow.laid W) :
      Calls Tryz.checked.prog 5 args W fun e w' => e = .returned (.bool true) ∧ Below W.heap.size W w' := by
  rw [Tryz.params5] at hA hval
  obtain ⟨v0, v1, v2, v3, v4, d0, d1, d2, d3, d4, p0, p1, p2, p3, p4, rfl, rfl, rfl, h0, h1, h2, h3, h4⟩ := trodAll_five hA
  obtain ⟨ao0, cap0, X0, rfl, hV0⟩ := O.recs_view h0 (fun y hy => hlt y (by simp [hy])) (okWide_slice Tryz.underlying22 (hval 0 _ v0 rfl rfl))
  obtain ⟨ao1, cap1, X1, rfl, hV1⟩ := O.recs_view h1 (fun y hy => hlt y (by simp [hy])) (okWide_slice Tryz.underlying22 (hval 1 _ v1 rfl rfl))
  obtain ⟨c2, rfl, hC2⟩ := P.cmd_arg h2 (hval 2 _ v2 rfl rfl) (fun y hy => hlt y (by simp [hy]))
  obtain ⟨i3, rfl, hI3⟩ := O.id_arg h3 (hval 3 _ v3 rfl rfl) (fun y hy => hlt y (by simp [hy]))
  obtain ⟨a4, rfl, rfl, rfl, w4⟩ := open_int Tryz.underlying3 (hval 4 3 v4 rfl rfl) h4
  have r4 := P.wf_in w4
  rw [MakeChecks.laidMetH_plain _ _ _ (by kernel_rfl)] at hL
  exact B.plays_law X0 ao0 cap0 X1 ao1 cap1 c2 i3 a4 W hV0 hV1 hC2 hI3 (B.tabsR_of hL)

set_option maxRecDepth 100000 in
theorem lifted (os : Os) (started : os.Started) (H : Type) (enc : TypeId × Value → H) :
    ReturnsInHanded {} Tryz.checked os 5 .any (fun w args => (Rows.bookPlaysSpec.pre enc Tryz.prog Tryz.f5 [] false w args ∧ laidMetH Tryz.prog Rows.bookPlaysRow.laid w) ∧ sizedMet enc Tryz.prog Tryz.f5 (OpenSpec.ofChange Rows.bookPlaysSpec) false w args) (Rows.bookPlaysSpec.post enc Tryz.prog Tryz.f5 false true false false) :=
  C.law_lifted_laid (s := Rows.bookPlaysSpec) (F := Tryz.f5) (laid := Rows.bookPlaysRow.laid) started 4 own (by kernel_rfl) Tryz.func5 rfl (fun ds h => match ds, h with | [_, _, _, _, _], _ => rfl) (by kernel_rfl) Tryz.underlying4 (by kernel_rfl) (by kernel_rfl)
    (ChangeSpec.witness_shaped (enc := enc) (C := Tryz.checked) (os := os) (X := fun w _ => laidMetH Tryz.prog Rows.bookPlaysRow.laid w) false (World.laidAll Tryz.prog os Rows.bookPlaysRow.laid) #[.slice none 0 0, .slice none 0 0, .agg #[.int .i64 0, .int .i64 0, .int .i64 0, .string ⟨#[]⟩, .string ⟨#[]⟩, .int .i64 0], .agg #[.int .i64 0, .int .i64 0], .int .i64 0] 8 (World.laidAll_os _ _ _)
      (World.shaped_of_ZipB (by kernel_rfl) (by kernel_rfl)) (by kernel_rfl) (by kernel_rfl) (by kernel_rfl)
      (by rw [MakeChecks.laidMetH_plain _ _ _ (by kernel_rfl)]; exact laidMet_laidAll _ (by kernel_rfl) (by kernel_rfl)))
    walked

theorem over : Rows.bookPlaysRow.holds Tryz.pinned (OpenSpec.ofChange Rows.bookPlaysSpec) :=
  OpenClaim.holds_of_wide 5 Tryz.f5 rfl rfl rfl rfl rfl rfl rfl ⟨rfl, rfl, rfl, rfl, rfl⟩ rfl rfl rfl rfl rfl (by kernel_rfl) Tryz.func5 (by kernel_rfl)
    (of_decide_eq_true (by kernel_rfl)) (by unfold Func.isWrapper; first | (rw [if_pos (by decide +kernel)]; kernel_rfl) | (rw [if_neg (by decide +kernel)]; exact ⟨rfl, rfl⟩))
    (fun os started H enc _ => lifted os started H enc)

theorem said : Rows.BookPlaysSaid := over
theorem proved : Rows.BookPlaysCardSaid :=
  Claim7.holds_tied_plain_at .later [] _ _ _ _ said (fun _ h => by cases h) (by kernel_rfl) (fun _ h => by cases h) bookPlays_row_tie rfl ⟨rfl, rfl⟩ (by kernel_rfl) rfl
    (fun f fn hf hfn => by
      obtain rfl : f = 5 := Option.some.inj ((show Tryz.prog.funcNamed Tryz.f5.name = some 5 by kernel_rfl).symm.trans hf) |>.symm
      obtain rfl : fn = Tryz.f5 := (Option.some.inj (Tryz.func5.symm.trans hfn)).symm
      exact ⟨by kernel_rfl, fun j t ht => by
        rw [Tryz.params5] at ht
        have hm : t ∈ Tryz.f5.params.toList := by rw [Tryz.params5]; simpa using Array.mem_of_getElem? ht
        have hall : (Tryz.f5.params.toList.all fun u => !Tryz.prog.wantsStandIn u) = true := by kernel_rfl
        exact (show Tryz.prog.wantsStandIn t = false by simpa using List.all_eq_true.1 hall t hm)⟩)
    (by kernel_rfl)
#print axioms proved
end Go.Proofs.YtlbkbjeajcadiaaGreatDoor.bookPlays
