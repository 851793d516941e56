/- CheckTime: the walk. -/
import Derived.Test.YtkgjfagejnppbaaGreatDoorMrg32
import Derived.Deep.DeepCutAuto
namespace Go.Proofs.YtkgjfagejnppbaaGreatDoor.X
open Go.RowKit Go.Proofs.YtkgjfagejnppbaaGreatDoor.M Go.BigFrame Go.Proofs.YtkgjfagejnppbaaGreatDoor.O Go.Proofs.YtkgjfagejnppbaaGreatDoor.P Go.Proofs.YtkgjfagejnppbaaGreatDoor.Mp Go.Proofs.YtkgjfagejnppbaaGreatDoor.Rw
set_option linter.unusedVariables false
set_option linter.unusedSimpArgs false

theorem two_alloc (W : World) (A B : Obj) : ((W.alloc A).alloc B).heap[W.heap.size]? = some A ∧ ((W.alloc A).alloc B).heap[W.heap.size + 1]? = some B ∧ Below W.heap.size W ((W.alloc A).alloc B) := by
  refine ⟨?_, ?_, ((Below.refl _ _).alloc (Nat.le_refl _) _).alloc (by simp) _⟩
  · rw [heap_al, if_neg (by simp)]; exact heap_alloc_new W _
  · have := heap_alloc_new (W.alloc A) B
    rwa [World.size_alloc] at this
theorem td_ok : CmdOk td ∧ CmdOk tc := by
  constructor <;> refine ⟨?_, ?_, ?_, ?_, ?_, ?_⟩ <;> first | (unfold InI td; decide) | (unfold InI tc; decide) | (unfold td maxLen; decide) | (unfold tc maxLen; decide)
theorem ev_okM {a : Int} : EvOkM (cC a) ∧ EvOkM (cD a) ∧ EvOkM (aC a) ∧ EvOkM (aD a) := by
  have h0 : CmdOk cmd0 := by
    refine ⟨?_, ?_, ?_, ?_, ?_, ?_⟩ <;> first | (unfold InI cmd0; decide) | (unfold cmd0 maxLen; decide)
  have i0 : InI 0 := by unfold InI; decide
  have i1 : InI 1 := by unfold InI; decide
  have i2 : InI 2 := by unfold InI; decide
  exact ⟨⟨i1, td_ok.2, i0, i0⟩, ⟨i1, td_ok.1, i0, i0⟩, ⟨i2, h0, i1, i1⟩, ⟨i2, h0, i2, i1⟩⟩
theorem recs_two {w : World} {gr gi : Nat} (hr : w.heap[gr]? = some (.cells (([tA, tB gi].flatMap recC).toArray) 43 (0, 0))) (hi : w.heap[gi]? = some (.cells #[.int .i64 0, .int .i64 1] 37 (0, 0))) : RecsV w (some ⟨gr, 0, none⟩) 2 [tA, tB gi] := by
  refine recs_of (B := 0) (own_lit (B := 0) lRR (cs := (([tA, tB gi].flatMap recC).toArray)) (g := gr) (X := [tA, tB gi]) hr rfl (Nat.zero_le _) (by show 2 ≤ 1000000; decide)) (fun x hx => ?_)
  have z : InI 0 ∧ InI 1 := by unfold InI; decide
  rcases List.mem_cons.1 hx with rfl | hx
  · exact ⟨td_ok.2, ⟨⟨Nat.le_refl _, Nat.zero_le _⟩, fun _ => rfl, fun i x h => by simp [tA, mkR] at h, fun d hd => by cases hd⟩, z.1, z.2⟩
  · rw [List.mem_singleton.1 hx]
    refine ⟨td_ok.1, IdsV.of_own (B := 0) (own_lit (S := sRI) (B := 0) lRI (cs := #[.int .i64 0, .int .i64 1]) (g := gi) (X := [(⟨0, 1⟩ : O.Id)]) hi rfl (Nat.zero_le _) (by show 1 ≤ 1000000; decide)) (fun d hd => ?_), z.2, z.2⟩
    rw [List.mem_singleton.1 hd]
    exact z
theorem EvAt.below {w w1 : World} {b o : Nat} {e : Ev} (h : EvAt w b o e) (hl : b < w.heap.size) (hb : Below w.heap.size w w1) : EvAt w1 b o e := by
  have hc : ∀ j v, w.cell? ⟨b, j, none⟩ = some v → w1.cell? ⟨b, j, none⟩ = some v := fun j v h => (hb.cell (p := ⟨b, j, none⟩) hl).trans h
  exact ⟨hc _ _ h.c0, hc _ _ h.c1, hc _ _ h.c2, hc _ _ h.c3, hc _ _ h.c4, hc _ _ h.c5, hc _ _ h.c6, hc _ _ h.c7, hc _ _ h.c8, hc _ _ h.c9, hc _ _ h.c10, hc _ _ h.c11, hc _ _ h.c12⟩
theorem time_okM1 (a b : Int) : ∀ e ∈ [cD b, cC a, aD b, aC a], EvOkM e := by
  intro e he
  simp only [List.mem_cons, List.not_mem_nil, or_false] at he
  rcases he with rfl | rfl | rfl | rfl
  · exact ev_okM.2.1
  · exact ev_okM.1
  · exact ev_okM.2.2.2
  · exact ev_okM.2.2.1
theorem time_okM2 (a b : Int) : ∀ e ∈ [cD b, aD b, cC a, aC a], EvOkM e := by
  intro e he
  simp only [List.mem_cons, List.not_mem_nil, or_false] at he
  rcases he with rfl | rfl | rfl | rfl
  · exact ev_okM.2.1
  · exact ev_okM.2.2.2
  · exact ev_okM.1
  · exact ev_okM.2.2.1
theorem time_okM3 (a b : Int) : ∀ e ∈ [cC a, aC a, cD b, aD b], EvOkM e := by
  intro e he
  simp only [List.mem_cons, List.not_mem_nil, or_false] at he
  rcases he with rfl | rfl | rfl | rfl
  · exact ev_okM.1
  · exact ev_okM.2.2.1
  · exact ev_okM.2.1
  · exact ev_okM.2.2.2
theorem evs_four {w : World} {e1 e2 e3 e4 : Ev} {g : Nat} {cs : Array Value} (h : w.heap[g]? = some (.cells cs 45 (0, 0))) (hc : cs.toList = [e1, e2, e3, e4].flatMap evC) : RowV sRE w (some ⟨g, 0, none⟩) 4 [e1, e2, e3, e4] :=
  (own_lit (B := 0) lRE (X := [e1, e2, e3, e4]) h hc (Nat.zero_le _) (by show 4 ≤ 1000000; decide)).view lRE
set_option maxRecDepth 100000 in
set_option maxHeartbeats 4000000 in
theorem time_law (a b : Int) (both : Bool) (w : World) (ha : InI a) (hb : InI b) (hT : TabsI w) :
    Calls Tryz.prog 4 #[.int .i64 a, .int .i64 b, .bool both] w fun e w' => e = .returned (.bool true) ∧ Below w.heap.size w w' := by
  have HT := Lib.hid hT
  have HA := Lib.hid ha
  have HBI := Lib.hid hb
  clear hT ha hb
  go_enter Tryz.func4, Tryz.ntmps4
  go_upto_region 5 with fail
  obtain ⟨W, hW⟩ : ∃ W, W = ((((((w.alloc (.cells #[.int .i64 0, .int .i64 1] 37)).alloc (.cells #[.int .i64 1, .int .i64 1] 37)).alloc (.cells #[.int .i64 2, .int .i64 1, .int .i64 1, .string ⟨#[107]⟩, .string ⟨#[120]⟩, .int .i64 0] 30)).alloc (.cells #[.int .i64 2, .int .i64 2, .int .i64 1, .string ⟨#[107]⟩, .string ⟨#[121]⟩, .int .i64 0] 30)).alloc (.cells #[.int .i64 0, .int .i64 1] 37)).alloc (.cells #[.int .i64 0, .int .i64 1, .int .i64 3, .int .i64 0, .int .i64 0, .int .i64 0, .int .i64 0, .int .i64 2, .int .i64 1, .int .i64 1, .string ⟨#[107]⟩, .string ⟨#[120]⟩, .int .i64 0, .slice none 0 0, .int .i64 0, .int .i64 2, .int .i64 1, .int .i64 1, .int .i64 3, .int .i64 0, .int .i64 0, .int .i64 0, .int .i64 0, .int .i64 2, .int .i64 2, .int .i64 1, .string ⟨#[107]⟩, .string ⟨#[121]⟩, .int .i64 0, .slice (some ⟨w.heap.size + 1 + 1 + 1 + 1, 0, none⟩) 1 1, .int .i64 0, .int .i64 2] 43)) := ⟨_, rfl⟩
  rw [← hW]
  have HB : Hid (Below w.heap.size w W) := Lib.hid (by rw [hW]; exact ((((((Below.refl _ _).alloc (Nat.le_refl _) _).alloc (by simp) _).alloc (by simp; omega) _).alloc (by simp; omega) _).alloc (by simp; omega) _).alloc (by simp; omega) _)
  obtain ⟨gc, hgc⟩ : ∃ g, g = w.heap.size + 1 + 1 := ⟨_, rfl⟩
  obtain ⟨gd, hgd⟩ : ∃ g, g = w.heap.size + 1 + 1 + 1 := ⟨_, rfl⟩
  obtain ⟨gi, hgi⟩ : ∃ g, g = w.heap.size + 1 + 1 + 1 + 1 := ⟨_, rfl⟩
  obtain ⟨gr, hgr⟩ : ∃ g, g = w.heap.size + 1 + 1 + 1 + 1 + 1 := ⟨_, rfl⟩
  have HC : Hid (W.heap[gc]? = some (.cells (cmdA tc) 30 (0, 0))) := Lib.hid (by rw [hW, hgc]; simp only [heap_al, World.size_alloc]; refine (if_neg ?_).trans ?_; (focus (first | omega | trivial | simp)); refine (if_neg ?_).trans ?_; (focus (first | omega | trivial | simp)); refine (if_neg ?_).trans ?_; (focus (first | omega | trivial | simp)); refine (if_pos ?_).trans ?_; (focus (first | omega | trivial | simp)); rfl)
  have HDD : Hid (W.heap[gd]? = some (.cells (cmdA td) 30 (0, 0))) := Lib.hid (by rw [hW, hgd]; simp only [heap_al, World.size_alloc]; refine (if_neg ?_).trans ?_; (focus (first | omega | trivial | simp)); refine (if_neg ?_).trans ?_; (focus (first | omega | trivial | simp)); refine (if_pos ?_).trans ?_; (focus (first | omega | trivial | simp)); rfl)
  have HI : Hid (W.heap[gi]? = some (.cells #[.int .i64 0, .int .i64 1] 37 (0, 0))) := Lib.hid (by rw [hW, hgi]; simp only [heap_al, World.size_alloc]; refine (if_neg ?_).trans ?_; (focus (first | omega | trivial | simp)); refine (if_pos ?_).trans ?_; (focus (first | omega | trivial | simp)); rfl)
  have HR : Hid (W.heap[gr]? = some (.cells (([tA, tB gi].flatMap recC).toArray) 43 (0, 0))) := Lib.hid (by rw [hW, hgr, hgi]; simp only [heap_al, World.size_alloc]; refine (if_pos ?_).trans ?_; (focus (first | omega | trivial | simp)); rfl)
  rw [← hgr, ← hgd, ← hgc]
  clear hW hgc hgd hgi hgr
  obtain ⟨⟨c0, c1, c2, c3, c4, c5⟩, _⟩ := box6 HC.out
  obtain ⟨⟨d0, d1, d2, d3, d4, d5⟩, _⟩ := box6 HDD.out
  have hlc := M.heap_lt HC.out
  have hld := M.heap_lt HDD.out
  go_cut [12, 13] (fun v1 v2 wx => ∃ g1 g2, v1 = .pointer (some ⟨g1, 0, none⟩) ∧ v2 = .pointer (some ⟨g2, 0, none⟩) ∧ wx.heap[g1]? = some (evO (cC a)) ∧ wx.heap[g2]? = some (evO (cD b)) ∧ Below W.heap.size W wx)
  case first =>
    clear HB HI HR HT HA HBI
    go_region
    all_goals
      (first | go_meet | (go_wp2_with fail; go_meet))
      first
        | exact ⟨W.heap.size, W.heap.size + 1, rfl, rfl, (two_alloc W _ _).1, (two_alloc W _ _).2.1, (two_alloc W _ _).2.2.drew⟩
        | exact ⟨W.heap.size + 1, W.heap.size, rfl, rfl, (two_alloc W _ _).2.1, (two_alloc W _ _).1, (two_alloc W _ _).2.2.drew⟩
        | exact ⟨W.heap.size, W.heap.size + 1, rfl, rfl, (two_alloc W _ _).1, (two_alloc W _ _).2.1, (two_alloc W _ _).2.2⟩
        | exact ⟨W.heap.size + 1, W.heap.size, rfl, rfl, (two_alloc W _ _).2.1, (two_alloc W _ _).1, (two_alloc W _ _).2.2⟩
  case rest =>
    obtain ⟨g1, g2, rfl, rfl, hg1, hg2, hbx⟩ := hcut
    obtain ⟨wx, rfl⟩ : ∃ wx, wx = wc := ⟨_, rfl⟩
    have HB1 := Lib.hid (HB.out.trans (hbx.mono HB.out.size))
    have HR1 := Lib.hid ((hbx.block _ (M.heap_lt HR.out)).trans HR.out)
    have HI1 := Lib.hid ((hbx.block _ (M.heap_lt HI.out)).trans HI.out)
    have HG1 := Lib.hid hg1
    have HG2 := Lib.hid hg2
    clear hg1 hg2 hbx c0 c1 c2 c3 c4 c5 d0 d1 d2 d3 d4 d5 hlc hld HC HDD HR HI HB
    go_upto_region 8 with fail
    obtain ⟨V, hV⟩ : ∃ V, V = (wx.alloc (evO (aC a))).alloc (evO (aD b)) := ⟨_, rfl⟩
    have HV1 := two_alloc wx (evO (aC a)) (evO (aD b))
    rw [← hV] at HV1
    have hww : (wx.alloc (.cells #[.int .i64 2, .int .i64 a, .int .i64 0, .int .i64 0, .int .i64 0, .string ⟨#[]⟩, .string ⟨#[]⟩, .int .i64 0, .int .i64 1, .int .i64 1, .int .i64 0, .string ⟨#[]⟩, .int .i64 1] 45)).alloc (.cells #[.int .i64 2, .int .i64 b, .int .i64 0, .int .i64 0, .int .i64 0, .string ⟨#[]⟩, .string ⟨#[]⟩, .int .i64 0, .int .i64 2, .int .i64 1, .int .i64 0, .string ⟨#[]⟩, .int .i64 2] 45) = V := by rw [hV]; rfl
    rw [hww]
    obtain ⟨g3, hg3⟩ : ∃ g, g = wx.heap.size := ⟨_, rfl⟩
    obtain ⟨g4, hg4⟩ : ∃ g, g = wx.heap.size + 1 := ⟨_, rfl⟩
    rw [← hg4, ← hg3]
    rw [← hg4, ← hg3] at HV1
    have HBX := Lib.hid HV1.2.2
    have hbx : Below wx.heap.size wx V := by have := HV1.2.2; rw [hg3] at this; exact this
    have HB2 := Lib.hid (HB1.out.trans (hbx.mono HB1.out.size))
    have HR2 := Lib.hid ((hbx.block _ (M.heap_lt HR1.out)).trans HR1.out)
    have HI2 := Lib.hid ((hbx.block _ (M.heap_lt HI1.out)).trans HI1.out)
    have e1 := box13 ((hbx.block _ (M.heap_lt HG1.out)).trans HG1.out)
    have e2 := box13 ((hbx.block _ (M.heap_lt HG2.out)).trans HG2.out)
    have e3 := box13 HV1.1
    have e4 := box13 HV1.2.1
    clear HV1 hV hww hg3 hg4 hbx HBX HB1 HR1 HI1 HG1 HG2
    have HE1 := Lib.hid e1
    have HE2 := Lib.hid e2
    have HE3 := Lib.hid e3
    have HE4 := Lib.hid e4
    have hl1 := World.block_lt_of_cell? V _ e1.c0
    have hl2 := World.block_lt_of_cell? V _ e2.c0
    have hl3 := World.block_lt_of_cell? V _ e3.c0
    have hl4 := World.block_lt_of_cell? V _ e4.c0
    obtain ⟨p0, p1, p2, p3, p4, p5, p6, p7, p8, p9, p10, p11, p12⟩ := e1
    obtain ⟨q0, q1, q2, q3, q4, q5, q6, q7, q8, q9, q10, q11, q12⟩ := e2
    obtain ⟨r0, r1, r2, r3, r4, r5, r6, r7, r8, r9, r10, r11, r12⟩ := e3
    obtain ⟨s0, s1, s2, s3, s4, s5, s6, s7, s8, s9, s10, s11, s12⟩ := e4
    cases both with
    | true =>
      have HLN := Lib.hid (fun (wz : World) (g : Nat) (hz : wz.heap[g]? = some (.cells (([cD b, cC a, aD b, aC a].flatMap evC).toArray) 45 (0, 0))) (hb : Below V.heap.size V wz) => show Calls Tryz.prog 9 #[.slice (some ⟨gr, 0, none⟩) 2 2, .slice (some ⟨g, 0, none⟩) 4 4] wz fun e w' => e = .returned (.int .i64 0) ∧ Below wz.heap.size wz w' from
        linear_any [tA, tB gi] RP2 [cD b, cC a, aD b, aC a] (some ⟨gr, 0, none⟩) (some ⟨g, 0, none⟩) 2 4 wz (recs_two ((hb.block _ (M.heap_lt (HR2).out)).trans (HR2).out) ((hb.block _ (M.heap_lt (HI2).out)).trans (HI2).out)) (HT.out.next ((HB2).out.trans (hb.mono (HB2).out.size))) (two_ok gi) (evs_four hz rfl) (time_okM1 a b) (by show 4 ≤ 100000; decide) 0 (time_both a b))
      go_wp2_with fail
      refine (HLN.out _ _ (heap_alloc_new _ _) ((Below.refl _ _).alloc (Nat.le_refl _) _)).mono ?_
      rintro e w3 ⟨rfl, hb3⟩
      have hb3 : Below V.heap.size V w3 := ((Below.refl _ _).alloc (Nat.le_refl _) _).trans (hb3.mono (by simp))
      have HB3 := Lib.hid ((HB2).out.trans (hb3.mono (HB2).out.size))
      have HR3 := Lib.hid ((hb3.block _ (M.heap_lt (HR2).out)).trans (HR2).out)
      have HI3 := Lib.hid ((hb3.block _ (M.heap_lt (HI2).out)).trans (HI2).out)
      have HP1 := Lib.hid (HE1.out.below hl1 hb3)
      have HP2 := Lib.hid (HE2.out.below hl2 hb3)
      have HP3 := Lib.hid (HE3.out.below hl3 hb3)
      have HP4 := Lib.hid (HE4.out.below hl4 hb3)
      clear hb3 HLN p0 p1 p2 p3 p4 p5 p6 p7 p8 p9 p10 p11 p12 q0 q1 q2 q3 q4 q5 q6 q7 q8 q9 q10 q11 q12 r0 r1 r2 r3 r4 r5 r6 r7 r8 r9 r10 r11 r12 s0 s1 s2 s3 s4 s5 s6 s7 s8 s9 s10 s11 s12
      go_wp2_with fail
      refine (cawake_any _ (HT.out.next (HB3).out)).mono ?_
      rintro e wz ⟨rfl, hbz⟩
      have HBZ := Lib.hid ((HB3).out.trans (hbz.mono (HB3).out.size))
      clear hbz
      go_wp2_with fail
      go_ret
      exact ⟨rfl, HBZ.out⟩
    | false =>
      have HLN := Lib.hid (fun (wz : World) (g : Nat) (hz : wz.heap[g]? = some (.cells (([cD b, aD b, cC a, aC a].flatMap evC).toArray) 45 (0, 0))) (hb : Below V.heap.size V wz) => show Calls Tryz.prog 9 #[.slice (some ⟨gr, 0, none⟩) 2 2, .slice (some ⟨g, 0, none⟩) 4 4] wz fun e w' => e = .returned (.int .i64 9) ∧ Below wz.heap.size wz w' from
        linear_any [tA, tB gi] RP2 [cD b, aD b, cC a, aC a] (some ⟨gr, 0, none⟩) (some ⟨g, 0, none⟩) 2 4 wz (recs_two ((hb.block _ (M.heap_lt (HR2).out)).trans (HR2).out) ((hb.block _ (M.heap_lt (HI2).out)).trans (HI2).out)) (HT.out.next ((HB2).out.trans (hb.mono (HB2).out.size))) (two_ok gi) (evs_four hz rfl) (time_okM2 a b) (by show 4 ≤ 100000; decide) 9 (time_round a b))
      go_wp2_with fail
      refine (HLN.out _ _ (heap_alloc_new _ _) ((Below.refl _ _).alloc (Nat.le_refl _) _)).mono ?_
      rintro e w3 ⟨rfl, hb3⟩
      have hb3 : Below V.heap.size V w3 := ((Below.refl _ _).alloc (Nat.le_refl _) _).trans (hb3.mono (by simp))
      have HB3 := Lib.hid ((HB2).out.trans (hb3.mono (HB2).out.size))
      have HR3 := Lib.hid ((hb3.block _ (M.heap_lt (HR2).out)).trans (HR2).out)
      have HI3 := Lib.hid ((hb3.block _ (M.heap_lt (HI2).out)).trans (HI2).out)
      have HP1 := Lib.hid (HE1.out.below hl1 hb3)
      have HP2 := Lib.hid (HE2.out.below hl2 hb3)
      have HP3 := Lib.hid (HE3.out.below hl3 hb3)
      have HP4 := Lib.hid (HE4.out.below hl4 hb3)
      clear hb3 HLN p0 p1 p2 p3 p4 p5 p6 p7 p8 p9 p10 p11 p12 q0 q1 q2 q3 q4 q5 q6 q7 q8 q9 q10 q11 q12 r0 r1 r2 r3 r4 r5 r6 r7 r8 r9 r10 r11 r12 s0 s1 s2 s3 s4 s5 s6 s7 s8 s9 s10 s11 s12
      obtain ⟨p0, p1, p2, p3, p4, p5, p6, p7, p8, p9, p10, p11, p12⟩ := HP1.out
      obtain ⟨q0, q1, q2, q3, q4, q5, q6, q7, q8, q9, q10, q11, q12⟩ := HP2.out
      obtain ⟨r0, r1, r2, r3, r4, r5, r6, r7, r8, r9, r10, r11, r12⟩ := HP3.out
      obtain ⟨s0, s1, s2, s3, s4, s5, s6, s7, s8, s9, s10, s11, s12⟩ := HP4.out
      have hm1 := World.block_lt_of_cell? w3 _ HP1.out.c0
      have hm2 := World.block_lt_of_cell? w3 _ HP2.out.c0
      have hm3 := World.block_lt_of_cell? w3 _ HP3.out.c0
      have hm4 := World.block_lt_of_cell? w3 _ HP4.out.c0
      clear hl1 hl2 hl3 hl4 HE1 HE2 HE3 HE4
      have HLO := Lib.hid (fun (wz : World) (g : Nat) (hz : wz.heap[g]? = some (.cells (([cC a, aC a, cD b, aD b].flatMap evC).toArray) 45 (0, 0))) (hb : Below w3.heap.size w3 wz) => show Calls Tryz.prog 9 #[.slice (some ⟨gr, 0, none⟩) 2 2, .slice (some ⟨g, 0, none⟩) 4 4] wz fun e w' => e = .returned (.int .i64 0) ∧ Below wz.heap.size wz w' from
        linear_any [tA, tB gi] RP2 [cC a, aC a, cD b, aD b] (some ⟨gr, 0, none⟩) (some ⟨g, 0, none⟩) 2 4 wz (recs_two ((hb.block _ (M.heap_lt (HR3).out)).trans (HR3).out) ((hb.block _ (M.heap_lt (HI3).out)).trans (HI3).out)) (HT.out.next ((HB3).out.trans (hb.mono (HB3).out.size))) (two_ok gi) (evs_four hz rfl) (time_okM3 a b) (by show 4 ≤ 100000; decide) 0 (time_order a b))
      go_wp2_with fail
      refine (HLO.out _ _ (heap_alloc_new _ _) ((Below.refl _ _).alloc (Nat.le_refl _) _)).mono ?_
      rintro e w4 ⟨rfl, hb4⟩
      have hb4 : Below w3.heap.size w3 w4 := ((Below.refl _ _).alloc (Nat.le_refl _) _).trans (hb4.mono (by simp))
      have HB4 := Lib.hid ((HB3).out.trans (hb4.mono (HB3).out.size))
      have HR4 := Lib.hid ((hb4.block _ (M.heap_lt (HR3).out)).trans (HR3).out)
      have HI4 := Lib.hid ((hb4.block _ (M.heap_lt (HI3).out)).trans (HI3).out)
      have HQ1 := Lib.hid (HP1.out.below hm1 hb4)
      have HQ2 := Lib.hid (HP2.out.below hm2 hb4)
      have HQ3 := Lib.hid (HP3.out.below hm3 hb4)
      have HQ4 := Lib.hid (HP4.out.below hm4 hb4)
      clear hb4 HLO p0 p1 p2 p3 p4 p5 p6 p7 p8 p9 p10 p11 p12 q0 q1 q2 q3 q4 q5 q6 q7 q8 q9 q10 q11 q12 r0 r1 r2 r3 r4 r5 r6 r7 r8 r9 r10 r11 r12 s0 s1 s2 s3 s4 s5 s6 s7 s8 s9 s10 s11 s12
      go_wp2_with fail
      refine (cawake_any _ (HT.out.next (HB4).out)).mono ?_
      rintro e wz ⟨rfl, hbz⟩
      have HBZ := Lib.hid ((HB4).out.trans (hbz.mono (HB4).out.size))
      clear hbz
      go_wp2_with fail
      go_ret
      exact ⟨rfl, HBZ.out⟩
end Go.Proofs.YtkgjfagejnppbaaGreatDoor.X
