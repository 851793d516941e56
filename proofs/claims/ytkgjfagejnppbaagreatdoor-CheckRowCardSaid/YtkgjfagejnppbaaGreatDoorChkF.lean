/- check.first: the walk. -/
import Derived.Test.YtkgjfagejnppbaaGreatDoorMrg31
namespace Go.Proofs.YtkgjfagejnppbaaGreatDoor.X
open Go.RowKit Go.Proofs.YtkgjfagejnppbaaGreatDoor.M Go.BigFrame Go.Proofs.YtkgjfagejnppbaaGreatDoor.O Go.Proofs.YtkgjfagejnppbaaGreatDoor.P Go.Proofs.YtkgjfagejnppbaaGreatDoor.Mp Go.Proofs.YtkgjfagejnppbaaGreatDoor.Rw
set_option linter.unusedVariables false
set_option linter.unusedSimpArgs false

theorem rep_next (k n : Nat) : List.replicate k (n : Int) ++ [(n : Int)] = List.replicate (k + 1) (n : Int) := by
  rw [List.replicate_succ']
set_option maxRecDepth 100000 in
set_option maxHeartbeats 4000000 in
theorem first_any (R : List Cmd) (H : List Ev) (ro ho : Option Addr) (rc hc : Nat) (w : World) (hR : RowV sRC w ro rc R) (hH : RowV sRE w ho hc H) (hok : ∀ e ∈ H, EvOkM e) (hokR : ∀ c ∈ R, CmdOk c) (hl : R.length ≤ 1000) (hlh : H.length ≤ 100000) :
    Calls Tryz.prog 34 #[.slice ro R.length rc, .slice ho H.length hc] w fun e w' => ∃ co cc ao ac, e = .returned (.tuple #[.slice co R.length cc, .slice ao R.length ac]) ∧
      (OwnG sRN w' w.heap.size co cc (tabF (hitC R) H R.length H.length) ∧ OwnG sRN w' w.heap.size ao ac (tabF (hitA R) H R.length H.length) ∧ Below w.heap.size w w') := by
  obtain ⟨hr1, hr2⟩ := hR.le
  obtain ⟨hh1, hh2⟩ := hH.le
  unfold maxLen at hr2 hh2
  have HR := Lib.hid hR
  have HH := Lib.hid hH
  have HOK := Lib.hid hok
  have HOR := Lib.hid hokR
  clear hR hH hok hokR
  go_enter Tryz.func34, Tryz.ntmps34
  have hmk := run_makeMap (P := Tryz.prog) 81 w
  go_upto_region 2 with fail
  clear hmk
  obtain ⟨W, hW⟩ : ∃ W, W = w.alloc (.map #[] 0) := ⟨_, rfl⟩
  have HP := Lib.hid (show FrSt w W w.heap.size 0 none none 0 0 (atL R 0) (List.replicate 0 (H.length : Int)) (List.replicate 0 (H.length : Int)) by
    rw [hW]
    exact ⟨MapL.made w, OwnG.nil _ _ _, OwnG.nil _ _ _, (fun a e => by cases e), Nat.le_refl _, (Below.refl _ _).alloc (Nat.le_refl _) _⟩)
  rw [← hW]
  clear hW
  obtain ⟨g, hg⟩ : ∃ g, g = w.heap.size := ⟨_, rfl⟩
  rw [← hg] at HP ⊢
  clear hg
  go_wp2_with fail
  go_loopw [4, 5, 18] (fun cv av kv wr => ∃ (k : Nat) (co ao : Option Addr) (cc ac : Nat), kv = .int .i64 k ∧ cv = .slice co k cc ∧ av = .slice ao k ac ∧ k ≤ R.length ∧ FrSt w wr g k co ao cc ac (atL R k) (List.replicate k (H.length : Int)) (List.replicate k (H.length : Int))) (fun _ _ kv _ => R.length - (intOf kv).toNat)
  case atStart => exact ⟨0, none, none, 0, 0, rfl, rfl, rfl, Nat.zero_le _, HP.out⟩
  case round =>
    obtain ⟨k, co, ao, cc, ac, rfl, rfl, rfl, hk, hp⟩ := hrel
    have HM := Lib.hid hp
    clear hp HP
    by_cases hkl : k < R.length
    · have hii : (k : Int) < (R.length : Int) := by omega
      obtain ⟨x, hx⟩ : ∃ x, R[k]? = some x := ⟨_, List.getElem?_eq_getElem hkl⟩
      have HX := Lib.hid hx
      obtain ⟨b, off, e0, hbl, hrec⟩ := cmd_of (HR.out.below HM.out.bel) hx
      subst e0
      obtain ⟨c0, c1, c2, c3, c4, c5⟩ := hrec
      clear hx
      go_upto_region 5 with fail
      obtain ⟨w1, hw1⟩ : ∃ w1, w1 = wr.alloc (.cells (cmdA x) 30) := ⟨_, rfl⟩
      have HM1 := Lib.hid (show FrSt w w1 g k co ao cc ac (atL R k) (List.replicate k (H.length : Int)) (List.replicate k (H.length : Int)) by rw [hw1]; exact HM.out.below ((Below.refl _ _).alloc (Nat.le_refl _) _))
      have hba : w1.heap[wr.heap.size]? = some (.cells (cmdA x) 30 (0, 0)) := by rw [hw1]; exact heap_alloc_new wr _
      rw [← hw1]
      clear hw1 c0 c1 c2 c3 c4 c5
      obtain ⟨⟨c0, c1, c2, c3, c4, c5⟩, _⟩ := box6 hba
      clear hba
      have HXO := Lib.hid (HOR.out x (List.mem_of_getElem? HX.out))
      have HOF := Lib.hid (of_any x w1)
      go_wp2_with fail
      refine HOF.out.mono ?_
      rintro e w2 ⟨rfl, hb2⟩
      have HM2 := Lib.hid (HM1.out.below hb2)
      clear hb2 c0 c1 c2 c3 c4 c5 HOF
      go_upto_region 6 with (at_mapUpdate
                             refine wpList_putL lWI HM2.out.at_ (by unfold maxLen; omega) (x.client, x.seq) ⟨HXO.out.client, HXO.out.seq⟩ (k : Int) (by rfl) _ _ _ (by rfl) (by rfl) (by rfl) (by rfl) ?_
                             intro w3 hm3 hM3
                             have HM3 := Lib.hid (show FrSt w w3 g (k + 1) co ao cc ac (atL R (k + 1)) (List.replicate k (H.length : Int)) (List.replicate k (H.length : Int)) by rw [atL_succ HX.out]; exact HM2.out.put hm3 hM3)
                             clear hm3 hM3)
      go_upto_region 7 with (refine wpList_rowApp lRN (by rfl) _ _ (by rfl) w.heap.size co cc 1 (List.replicate k (H.length : Int)) [(H.length : Int)] w3.heap.size #[.int .i64 (H.length : Int)] (heap_alloc_new w3 _) rfl rfl (by rw [List.length_replicate]; rfl) (HM3.out.below ((Below.refl _ _).alloc (Nat.le_refl _) _)).cal (by rfl) (by simp; omega) (by have := HM3.out.bel.size; simp; omega) ?_
                             intro co' cc' w4 ho hM hb hf
                             have HM4 := Lib.hid (show FrSt w w4 g (k + 1) co' ao cc' ac (atL R (k + 1)) (List.replicate (k + 1) (H.length : Int)) (List.replicate k (H.length : Int)) by
                               rw [← rep_next]
                               exact (HM3.out.below ((Below.refl _ _).alloc (Nat.le_refl _) _)).calN ho hM hb hf)
                             rw [List.length_replicate]
                             clear ho hM hb hf)
      go_wp2_with (refine wpList_rowApp lRN (by rfl) _ _ (by rfl) w.heap.size ao ac 1 (List.replicate k (H.length : Int)) [(H.length : Int)] w4.heap.size #[.int .i64 (H.length : Int)] (heap_alloc_new w4 _) rfl rfl (by rw [List.length_replicate]; rfl) (HM4.out.below ((Below.refl _ _).alloc (Nat.le_refl _) _)).ans (by rfl) (by simp; omega) (by have := HM4.out.bel.size; simp; omega) ?_
                   intro ao' ac' w5 ho hM hb hf
                   have HM5 := Lib.hid (show FrSt w w5 g (k + 1) co' ao' cc' ac' (atL R (k + 1)) (List.replicate (k + 1) (H.length : Int)) (List.replicate (k + 1) (H.length : Int)) by
                     rw [← rep_next] at *
                     exact (HM4.out.below ((Below.refl _ _).alloc (Nat.le_refl _) _)).ansN ho hM hb hf)
                   rw [List.length_replicate]
                   clear ho hM hb hf)
      go_roundw
      case rel => exact ⟨k + 1, co', ao', cc', ac', by go_num, by rfl, by rfl, by omega, HM5.out⟩
      case measure => simp [intOf]; omega
    · obtain rfl : k = R.length := by omega
      have hii : ¬ (R.length : Int) < (R.length : Int) := by omega
      go_wp2_with fail
      clear hii hk
      obtain ⟨wa, rfl⟩ : ∃ wa, wa = wr := ⟨_, rfl⟩
      have HM0 := Lib.hid (show FrSt w wa g R.length co ao cc ac (atL R R.length) (tabF (hitC R) H R.length 0) (tabF (hitA R) H R.length 0) by rw [tabF_zero, tabF_zero]; exact HM.out)
      clear HM
      go_loopw [40] (fun kv wr2 => ∃ (k : Nat), kv = .int .i64 k ∧ k ≤ H.length ∧ FrSt w wr2 g R.length co ao cc ac (atL R R.length) (tabF (hitC R) H R.length k) (tabF (hitA R) H R.length k)) (fun kv _ => H.length - (intOf kv).toNat)
      case atStart => exact ⟨0, rfl, Nat.zero_le _, HM0.out⟩
      case round =>
        obtain ⟨k, rfl, hk, hp⟩ := hrel
        have HM := Lib.hid hp
        clear hp HM0
        by_cases hkl : k < H.length
        · have hii : (k : Int) < (H.length : Int) := by omega
          obtain ⟨x, hx⟩ : ∃ x, H[k]? = some x := ⟨_, List.getElem?_eq_getElem hkl⟩
          have HX := Lib.hid hx
          have HXO := Lib.hid (HOK.out x (List.mem_of_getElem? hx))
          obtain ⟨b, off, e0, hbl, hrec⟩ := ev_of (HH.out.below HM.out.bel) hx
          subst e0
          obtain ⟨c0, c1, c2, c3, c4, c5, c6, c7, c8, c9, c10, c11, c12⟩ := hrec
          clear hx
          go_upto_region 12 with fail
          obtain ⟨w1, hw1⟩ : ∃ w1, w1 = wr.alloc (evO x) := ⟨_, rfl⟩
          have HM1 := Lib.hid (show FrSt w w1 g R.length co ao cc ac (atL R R.length) (tabF (hitC R) H R.length k) (tabF (hitA R) H R.length k) by rw [hw1]; exact HM.out.below ((Below.refl _ _).alloc (Nat.le_refl _) _))
          have hba : w1.heap[wr.heap.size]? = some (evO x) := by rw [hw1]; exact heap_alloc_new wr _
          have HBA := Lib.hid hba
          rw [← hw1]
          clear hw1 c0 c1 c2 c3 c4 c5 c6 c7 c8 c9 c10 c11 c12
          obtain ⟨c0, c1, c2, c3, c4, c5, c6, c7, c8, c9, c10, c11, c12⟩ := box13 hba
          clear hba
          obtain ⟨iv, hiv⟩ : ∃ iv, lookD (atL R R.length) (whoC x.cmd) 0 = iv := ⟨_, rfl⟩
          obtain ⟨bv, hbv⟩ : ∃ bv, hasD (atL R R.length) (whoC x.cmd) = bv := ⟨_, rfl⟩
          have HIV := Lib.hid hiv
          have HBV := Lib.hid hbv
          have HOF := Lib.hid (of_any x.cmd w1)
          go_wp2_with fail
          refine HOF.out.mono ?_
          rintro e w2 ⟨rfl, hb2⟩
          have HM2 := Lib.hid (HM1.out.below hb2)
          have hx2 := (hb2.block _ (M.heap_lt HBA.out)).trans HBA.out
          have HX2 := Lib.hid hx2
          have hlk : (Instr.lookup 81 (.map (some g)) (.agg #[.int .i64 x.cmd.client, .int .i64 x.cmd.seq]) true).run Tryz.prog w2 = .ok (.tuple #[.int .i64 iv, .bool bv]) w2 := HM2.out.at_.look_ok lWI (i := whoC x.cmd) ⟨HXO.out.cmd.client, HXO.out.cmd.seq⟩ hiv hbv
          clear hb2 c0 c1 c2 c3 c4 c5 c6 c7 c8 c9 c10 c11 c12 HOF
          obtain ⟨c0, c1, c2, c3, c4, c5, c6, c7, c8, c9, c10, c11, c12⟩ := box13 hx2
          clear hx2
          go_upto_region 13 with fail
          clear hlk
          clear hiv hbv
          cases hkk : (x.kind == 1) with
          | false =>
            have HNC := Lib.hid (show ∀ i, ¬ hitC R x i from fun i h => by rw [h.1] at hkk; cases hkk)
            have k0 := Kin.cell c0
            have k2 := Kin.cell c2
            have k3 := Kin.cell c3
            have k4 := Kin.cell c4
            have k5 := Kin.cell c5
            have k6 := Kin.cell c6
            have k7 := Kin.cell c7
            clear c0 c1 c2 c3 c4 c5 c6 c7 c8 c9 c10 c11 c12
            refine wp_region_kin (by kernel_rfl) (by kernel_rfl) ?_
            repeat (go_big_quiet_step (fail))
            refine wpQuiet_nil ?_
            intro _ hxx
            obtain ⟨xk, rfl⟩ := hxx
            have HM3 := Lib.hid (HM2.out.below xk.h)
            have hx3 := (xk.h.block _ (M.heap_lt HX2.out)).trans HX2.out
            have HX3 := Lib.hid hx3
            obtain ⟨w3, hw3⟩ : ∃ w3, w3 = xk.w := ⟨_, rfl⟩
            rw [← hw3] at HM3 HX3 hx3 ⊢
            clear hw3 k0 k2 k3 k4 k5 k6 k7
            obtain ⟨c0, c1, c2, c3, c4, c5, c6, c7, c8, c9, c10, c11, c12⟩ := box13 hx3
            clear hx3
            clear hkk
            cases hk2 : (x.kind == 2) with
            | false =>
              have HNA := Lib.hid (show ∀ i, ¬ hitA R x i from fun i h => by rw [h.1] at hk2; cases hk2)
              go_wp2_with fail
              clear c0 c1 c2 c3 c4 c5 c6 c7 c8 c9 c10 c11 c12 hk2
              go_roundw
              case rel => exact ⟨k + 1, by go_num, by omega, by rw [tabF_same HX.out HNC.out, tabF_same HX.out HNA.out]; exact (HM3).out⟩
              case measure => simp [intOf]; omega
            | true =>
              have HKE := Lib.hid (show x.kind = 2 by simpa using hk2)
              cases hc14 : (x.rep.code != 14) with
              | false =>
                have HNA := Lib.hid (show ∀ i, ¬ hitA R x i from fun i h => by have := h.2.1; simp at hc14; exact this hc14)
                go_wp2_with fail
                clear c0 c1 c2 c3 c4 c5 c6 c7 c8 c9 c10 c11 c12 hk2 hc14
                go_roundw
                case rel => exact ⟨k + 1, by go_num, by omega, by rw [tabF_same HX.out HNC.out, tabF_same HX.out HNA.out]; exact (HM3).out⟩
                case measure => simp [intOf]; omega
              | true =>
                have HCE := Lib.hid (show x.rep.code ≠ 14 by simpa using hc14)
                obtain ⟨iv2, hiv2⟩ : ∃ iv, lookD (atL R R.length) x.who 0 = iv := ⟨_, rfl⟩
                obtain ⟨bv2, hbv2⟩ : ∃ bv, hasD (atL R R.length) x.who = bv := ⟨_, rfl⟩
                have hlk : (Instr.lookup 81 (.map (some g)) (.agg #[.int .i64 x.client, .int .i64 x.seq]) true).run Tryz.prog w3 = .ok (.tuple #[.int .i64 iv2, .bool bv2]) w3 := HM3.out.at_.look_ok lWI (i := x.who) ⟨HXO.out.client, HXO.out.seq⟩ hiv2 hbv2
                have HIV2 := Lib.hid hiv2
                have HBV2 := Lib.hid hbv2
                clear hiv2 hbv2
                cases bv2 with
                | false =>
                  have HNA := Lib.hid (show ∀ i, ¬ hitA R x i from fun i h => by have h1 := HBV2.out; rw [findD_has, h.2.2] at h1; cases h1)
                  go_wp2_with fail
                  clear c0 c1 c2 c3 c4 c5 c6 c7 c8 c9 c10 c11 c12 hk2 hc14 hlk
                  go_roundw
                  case rel => exact ⟨k + 1, by go_num, by omega, by rw [tabF_same HX.out HNC.out, tabF_same HX.out HNA.out]; exact (HM3).out⟩
                  case measure => simp [intOf]; omega
                | true =>
                  obtain ⟨j, d, hjl, hjd, hw, rfl, hfj⟩ := at_found HIV2.out HBV2.out
                  have HHA := Lib.hid (show ∀ i, hitA R x i ↔ i = j from fun i => ⟨fun h => by
                    have h1 := h.2.2
                    rw [hfj] at h1
                    have := Option.some.inj h1
                    omega, fun h => ⟨HKE.out, HCE.out, by rw [h]; exact hfj⟩⟩)
                  have hj2 : (j : Int) < (R.length : Int) := by omega
                  obtain ⟨ga, rfl⟩ := own_at0 HM3.out.ans (by rw [tabF_len]; omega)
                  obtain ⟨ab, aoff, ae, hab, a0⟩ := num_of (HM3.out.ans.view lRN) (tabF_get (q := hitA R) (H := H) (k := k) hjl)
                  cases ae
                  have nf := own_noFrozen HM3.out.ans j
                  rw [Nat.zero_add] at a0
                  go_upto_region 19 with fail
                  clear c0 c1 c2 c3 c4 c5 c6 c7 c8 c9 c10 c11 c12 hk2 hc14 hlk a0 nf
                  obtain ⟨w4, hw4⟩ : ∃ w4, w4 = w3.setCell ⟨ga, j, none⟩ (.int .i64 (min (firstF (hitA R) H k j : Int) (k : Int))) := ⟨_, rfl⟩
                  have HM4 := Lib.hid (show FrSt w w4 g R.length co (some ⟨ga, 0, none⟩) cc ac (atL R R.length) (tabF (hitC R) H R.length (k + 1)) (tabF (hitA R) H R.length (k + 1)) by
                    rw [hw4, tabF_same HX.out HNC.out, tabF_set HX.out hjl HHA.out]
                    exact HM3.out.setA (by rw [tabF_len]; exact hjl) _)
                  rw [← hw4]
                  clear hw4
                  go_wp2_with fail
                  go_roundw
                  case rel => exact ⟨k + 1, by go_num, by omega, HM4.out⟩
                  case measure => simp [intOf]; omega
          | true =>
            have HKE := Lib.hid (show x.kind = 1 by simpa using hkk)
            have HNA := Lib.hid (show ∀ i, ¬ hitA R x i from fun i h => by have := h.1; rw [HKE.out] at this; cases this)
            have hk2 : (x.kind == 2) = false := by rw [HKE.out]; rfl
            cases bv with
            | false =>
              have HNC := Lib.hid (show ∀ i, ¬ hitC R x i from fun i h => by have h1 := HBV.out; rw [findD_has, h.2.1] at h1; cases h1)
              have k0 := Kin.cell c0
              have k2 := Kin.cell c2
              have k3 := Kin.cell c3
              have k4 := Kin.cell c4
              have k5 := Kin.cell c5
              have k6 := Kin.cell c6
              have k7 := Kin.cell c7
              clear c0 c1 c2 c3 c4 c5 c6 c7 c8 c9 c10 c11 c12
              refine wp_region_kin (by kernel_rfl) (by kernel_rfl) ?_
              repeat (go_big_quiet_step (fail))
              refine wpQuiet_nil ?_
              intro _ hxx
              obtain ⟨xk, rfl⟩ := hxx
              have HM3 := Lib.hid (HM2.out.below xk.h)
              have hx3 := (xk.h.block _ (M.heap_lt HX2.out)).trans HX2.out
              have HX3 := Lib.hid hx3
              obtain ⟨w3, hw3⟩ : ∃ w3, w3 = xk.w := ⟨_, rfl⟩
              rw [← hw3] at HM3 HX3 hx3 ⊢
              clear hw3 k0 k2 k3 k4 k5 k6 k7
              obtain ⟨c0, c1, c2, c3, c4, c5, c6, c7, c8, c9, c10, c11, c12⟩ := box13 hx3
              clear hx3
              go_wp2_with fail
              clear c0 c1 c2 c3 c4 c5 c6 c7 c8 c9 c10 c11 c12 hkk hk2
              go_roundw
              case rel => exact ⟨k + 1, by go_num, by omega, by rw [tabF_same HX.out HNC.out, tabF_same HX.out HNA.out]; exact (HM3).out⟩
              case measure => simp [intOf]; omega
            | true =>
              obtain ⟨j, d, hjl, hjd, hw, rfl, hfj⟩ := at_found HIV.out HBV.out
              have HHC := Lib.hid (show ∀ i, i ≠ j → ¬ hitC R x i from fun i hi h => by
                    have h1 := h.2.1
                    rw [hfj] at h1
                    have := Option.some.inj h1
                    omega)
              have hj2 : (j : Int) < (R.length : Int) := by omega
              obtain ⟨rb, roff, re, hrb, hrr⟩ := cmd_of (HR.out.below HM2.out.bel) hjd
              subst re
              obtain ⟨r0, r1, r2, r3, r4, r5⟩ := hrr
              have hne := run_cmd_eql x.cmd d
              obtain ⟨nv, hnv⟩ : ∃ nv, decide (x.cmd = d) = nv := ⟨_, rfl⟩
              rw [hnv] at hne
              have k10 := Kin.cell r0
              have k11 := Kin.cell r1
              have k12 := Kin.cell r2
              have k13 := Kin.cell r3
              have k14 := Kin.cell r4
              have k15 := Kin.cell r5
              clear r0 r1 r2 r3 r4 r5
              have k0 := Kin.cell c0
              have k2 := Kin.cell c2
              have k3 := Kin.cell c3
              have k4 := Kin.cell c4
              have k5 := Kin.cell c5
              have k6 := Kin.cell c6
              have k7 := Kin.cell c7
              clear c0 c1 c2 c3 c4 c5 c6 c7 c8 c9 c10 c11 c12
              refine wp_region_kin (by kernel_rfl) (by kernel_rfl) ?_
              repeat (go_big_quiet_step (fail))
              refine wpQuiet_nil ?_
              intro _ hxx
              obtain ⟨xk, rfl⟩ := hxx
              clear k10 k11 k12 k13 k14 k15 hne
              have HM3 := Lib.hid (HM2.out.below xk.h)
              have hx3 := (xk.h.block _ (M.heap_lt HX2.out)).trans HX2.out
              have HX3 := Lib.hid hx3
              obtain ⟨w3, hw3⟩ : ∃ w3, w3 = xk.w := ⟨_, rfl⟩
              rw [← hw3] at HM3 HX3 hx3 ⊢
              clear hw3 k0 k2 k3 k4 k5 k6 k7
              obtain ⟨c0, c1, c2, c3, c4, c5, c6, c7, c8, c9, c10, c11, c12⟩ := box13 hx3
              clear hx3
              cases nv with
              | false =>
                have HNC := Lib.hid (show ∀ i, ¬ hitC R x i from fun i h => by
                  by_cases e : i = j
                  · subst e
                    have h1 := h.2.2
                    rw [hjd] at h1
                    simp at hnv
                    exact hnv (Option.some.inj h1).symm
                  · exact HHC.out i e h)
                go_wp2_with fail
                clear c0 c1 c2 c3 c4 c5 c6 c7 c8 c9 c10 c11 c12 hkk hk2 hnv
                go_roundw
                case rel => exact ⟨k + 1, by go_num, by omega, by rw [tabF_same HX.out HNC.out, tabF_same HX.out HNA.out]; exact (HM3).out⟩
                case measure => simp [intOf]; omega
              | true =>
                have HHX := Lib.hid (show ∀ i, hitC R x i ↔ i = j from fun i => ⟨fun h => Classical.byContradiction fun e => HHC.out i e h, fun h => ⟨HKE.out, by rw [h]; exact hfj, by rw [h, hjd]; simp at hnv; rw [hnv]⟩⟩)
                obtain ⟨ga, rfl⟩ := own_at0 HM3.out.cal (by rw [tabF_len]; omega)
                obtain ⟨ab, aoff, ae, hab, a0⟩ := num_of (HM3.out.cal.view lRN) (tabF_get (q := hitC R) (H := H) (k := k) hjl)
                cases ae
                have nf := own_noFrozen HM3.out.cal j
                rw [Nat.zero_add] at a0
                go_upto_region 19 with fail
                clear c0 c1 c2 c3 c4 c5 c6 c7 c8 c9 c10 c11 c12 hkk hk2 hnv a0 nf
                obtain ⟨w4, hw4⟩ : ∃ w4, w4 = w3.setCell ⟨ga, j, none⟩ (.int .i64 (min (firstF (hitC R) H k j : Int) (k : Int))) := ⟨_, rfl⟩
                have HM4 := Lib.hid (show FrSt w w4 g R.length (some ⟨ga, 0, none⟩) ao cc ac (atL R R.length) (tabF (hitC R) H R.length (k + 1)) (tabF (hitA R) H R.length (k + 1)) by
                  rw [hw4, tabF_same HX.out HNA.out, tabF_set HX.out hjl HHX.out]
                  exact HM3.out.setC (by rw [tabF_len]; exact hjl) _)
                rw [← hw4]
                clear hw4
                go_wp2_with fail
                go_roundw
                case rel => exact ⟨k + 1, by go_num, by omega, HM4.out⟩
                case measure => simp [intOf]; omega
        · obtain rfl : k = H.length := by omega
          have hii : ¬ (H.length : Int) < (H.length : Int) := by omega
          go_wp2_with fail
          (try simp only [Exit.inBlock, Exit.then])
          refine bodyPost_ret (results_tmp2 rfl _ _ _) rfl ?_
          exact ⟨co, cc, ao, ac, rfl, HM.out.cal, HM.out.ans, HM.out.bel⟩
end Go.Proofs.YtkgjfagejnppbaaGreatDoor.X
