/- The walk of EngineAgree. -/
import Derived.Test.YtndfhejfhfhbdaaGreatDoorOrdEq
import Derived.Test.YtndfhejfhfhbdaaGreatDoorMrg30
import Derived.Test.YtndfhejfhfhbdaaGreatDoorOrdEo
import Derived.Test.YtndfhejfhfhbdaaGreatDoorMrg32
import Derived.Test.YtndfhejfhfhbdaaGreatDoorMrg33
namespace Go.Proofs.YtndfhejfhfhbdaaGreatDoor.O
open Go.RowKit Go.Proofs.YtndfhejfhfhbdaaGreatDoor.M Go.BigFrame Go.Proofs.YtndfhejfhfhbdaaGreatDoor.K
set_option linter.unusedVariables false
set_option linter.unusedSimpArgs false

theorem agree_pair {X L : List Rv} {D want : List Id} (hn : (idsX X).Nodup) (hw : Row (byIds (nds X)) want) (h : EI X L D) {i : Nat} {q : Id} (hq : want[i]? = some q) {inn : List Rv} {out : List Id} (hc : ClO (srtR X) q inn out) {y : Rv} (hy : y ∈ inn) (hne : y.id ≠ q) (hD : q ∈ D) : y.id ∈ D ∧ (atI D y.id < atI D q ↔ atI want y.id < (i : Int)) := by
  have hpw : want.Perm (idsX X) := (row_mem (Sd.of hn) (by rw [srtR_nd]; exact hw)).trans ((srtR_perm X).map _)
  have hqX : q ∈ idsX X := hpw.mem_iff.1 (List.mem_of_getElem? hq)
  obtain ⟨x, hx, rfl⟩ := List.mem_map.1 hqX
  obtain ⟨h1, h2⟩ := clo_lds (Sd.of hn) (((srtR_perm X).map Rv.id).mem_iff.2 hqX) hc hy
  have h3 := h.same hn hw hx ((srtR_perm X).mem_iff.1 h1) hD (Ne.symm hne) (h2.mono fun z hz => (srtR_perm X).mem_iff.1 hz)
  have h4 : atI want x.id = (i : Int) := atI_some (hpw.nodup_iff.2 hn) hq
  rw [h4] at h3
  exact h3
theorem trods_at {w : World} {ao : Option Addr} {cap : Nat} {T : List Rv} (h : RecsV w ao cap T) : TAt w ao T := h.row
theorem recsV_lt {w : World} {ao : Option Addr} {cap : Nat} {T : List Rv} (h : RecsV w ao cap T) (hT : T ≠ []) : ∀ a, ao = some a → a.block < w.heap.size := fun a e => by
  cases T with
  | nil => exact absurd rfl hT
  | cons x t =>
    obtain ⟨b, off, e2, hl, _⟩ := h.row 0 x rfl
    rw [e] at e2
    cases e2
    exact hl
set_option maxRecDepth 100000 in
set_option maxHeartbeats 4000000 in
theorem agree_law (X : List Rv) (ao : Option Addr) (cap : Nat) (by_ : Int) (sm : List Bool) (so : Option Addr) (sc : Nat) (rn : List Bool) (ro : Option Addr) (rc : Nat) (w : World) (hV : RecsV w ao cap X) (hi0 : P.InI by_) (hV2 : OneV boolV w so sc sm) (hV3 : OneV boolV w ro rc rn) (hT : Go.Proofs.YtndfhejfhfhbdaaGreatDoor.R.Tabs w) :
    Calls Tryz.prog 9 #[.slice ao X.length cap, .int .i64 by_, .slice so sm.length sc, .slice ro rn.length rc] w fun e w' => e = .returned (.bool true) ∧ Below w.heap.size w w' := by
  obtain ⟨i0, hi, hz0, hz1, hz2⟩ := info_parts info_rec
  have HV := Lib.hid hV
  have HT := Lib.hid hT
  have HS := Lib.hid hV2
  have HR := Lib.hid hV3
  have HIB := Lib.hid hi0
  clear hV hT hV2 hV3 hi0
  obtain ⟨hs1, hs2⟩ := HS.out.le
  obtain ⟨hr1, hr2⟩ := HR.out.le
  obtain ⟨hl1, hl2⟩ := HV.out.le
  unfold maxLen at hs2 hr2 hl2
  go_enter Tryz.func9, Tryz.ntmps9
  obtain ⟨gr, hgr⟩ : ∃ g, greatR X 16 = g := ⟨_, rfl⟩
  have HG := Lib.hid (refgreat_any X 16 ao cap w HV.out (by omega) gr hgr)
  cases gr with
  | true =>
    clear hgr
    go_wp2_with fail
    refine HG.out.mono ?_
    rintro e w1 ⟨rfl, rfl⟩
    go_wp2_with fail
    refine (engawake_any _ (HT.out)).mono ?_
    rintro e wz ⟨rfl, hbz⟩
    have HBZ := Lib.hid ((Below.refl w.heap.size w).trans (hbz.mono (Below.refl w.heap.size w).size))
    clear hbz
    go_wp2_with fail
    go_ret
    exact ⟨rfl, HBZ.out⟩
  | false =>
    obtain ⟨hl16, hsz⟩ := greatR_no hgr
    have HSZ := Lib.hid hsz
    clear hgr hsz
    by_cases hsl : 16 < sm.length
    · have e1 : (16 : Int) < (sm.length : Int) := by omega
      go_wp2_with fail
      refine HG.out.mono ?_
      rintro e w1 ⟨rfl, rfl⟩
      go_wp2_with fail
      refine (engawake_any _ (HT.out)).mono ?_
      rintro e wz ⟨rfl, hbz⟩
      have HBZ := Lib.hid ((Below.refl w.heap.size w).trans (hbz.mono (Below.refl w.heap.size w).size))
      clear hbz
      go_wp2_with fail
      go_ret
      exact ⟨rfl, HBZ.out⟩
    · have e1 : ¬ (16 : Int) < (sm.length : Int) := by omega
      by_cases hrl : 16 < rn.length
      · have e2 : (16 : Int) < (rn.length : Int) := by omega
        go_wp2_with fail
        refine HG.out.mono ?_
        rintro e w1 ⟨rfl, rfl⟩
        go_wp2_with fail
        refine (engawake_any _ (HT.out)).mono ?_
        rintro e wz ⟨rfl, hbz⟩
        have HBZ := Lib.hid ((Below.refl w.heap.size w).trans (hbz.mono (Below.refl w.heap.size w).size))
        clear hbz
        go_wp2_with fail
        go_ret
        exact ⟨rfl, HBZ.out⟩
      · have e2 : ¬ (16 : Int) < (rn.length : Int) := by omega
        obtain ⟨v, hv⟩ : ∃ v, errO (okR X) (nds X) = v := ⟨_, rfl⟩
        have HVV := Lib.hid hv
        have HO := Lib.hid (Order_any X ao cap w HV.out HT.out (by omega) (fun x hx => by have := HSZ.out x hx; omega) (fun x hx => by have := HSZ.out x hx; omega) v hv)
        clear hv
        go_wp2_with fail
        refine HG.out.mono ?_
        rintro e w1 ⟨rfl, rfl⟩
        clear HG
        go_wp2_with fail
        clear e1 e2 hsl hrl
        refine HO.out.mono ?_
        rintro e w2 ⟨oo, oc, a, rfl, hra, hna, howa, hb1⟩
        have HB2 := Lib.hid hb1
        have HOA := Lib.hid howa
        clear hb1 howa HO
        by_cases hv0 : v = 0
        · subst hv0
          obtain ⟨hok, hU, hms⟩ := errO_ok.1 HVV.out
          have hnd : (idsX X).Nodup := unl_nds.1 hU
          have HOK := Lib.hid (show ∀ x ∈ X, goodR x = true from List.all_eq_true.1 hok)
          have HND := Lib.hid hnd
          have HMS := Lib.hid (show ∀ x ∈ X, ∀ d ∈ x.deps, d ∈ idsX X from fun x hx d hd => by
            have := missB_no.1 hms x.nd (List.mem_map.2 ⟨x, hx, rfl⟩) d hd
            rw [nds_ids] at this
            exact this)
          have HRA := Lib.hid (hra rfl)
          have HPA := Lib.hid (show a.Perm (idsX X) from (row_mem (Sd.of hnd) (by rw [srtR_nd]; exact hra rfl)).trans ((srtR_perm X).map _))
          clear hok hU hms hnd hra hna HVV
          have HNEW := Lib.hid (eng_new w2)
          have zs2 := HB2.out.size
          go_wp2_with fail
          refine HNEW.out.mono ?_
          rintro e w3 ⟨px, F, rfl, he3, hf3, hb3⟩
          have HE3 := Lib.hid he3
          have HF3 := Lib.hid hf3
          have HB3 := Lib.hid hb3
          have zs3 := hb3.size
          clear he3 hf3 hb3 HNEW
          have HNEW := Lib.hid (eng_new w3)
          go_wp2_with fail
          refine HNEW.out.mono ?_
          rintro e w4 ⟨py, G, rfl, he4, hf4, hb4⟩
          have HE4 := Lib.hid he4
          have HX4 := Lib.hid (HE3.out.below hb4)
          have HF4 := Lib.hid hf4
          have HB4 := Lib.hid (HB3.out.trans (hb4.mono zs3))
          have HFG := Lib.hid (show ∀ j, F j → ¬ G j from fun j h1 h2 => by have := HE3.out.lt j h1; have := hf4 j h2; omega)
          have zs4 := HB4.out.size
          have HV4 := Lib.hid (HV.out.below (HB2.out.trans (HB4.out.mono zs2)))
          clear he4 hf4 hb4 HNEW
          have HPK := Lib.hid (pick_any by_ X.length w4 HIB.out (by omega))
          go_wp2_with fail
          refine HPK.out.mono ?_
          rintro e w5 ⟨j, rfl, hj, rfl⟩
          clear HPK
          go_upto_region 8 with fail
          go_cut [14] (fun tv wx => ∃ (ta : Option Addr) (tc : Nat) (T : List Rv), tv = .slice ta X.length tc ∧ T.Perm X ∧ RecsV wx ta tc T ∧ Below w4.heap.size w4 wx ∧ ∀ a, ta = some a → w4.heap.size ≤ a.block ∧ a.block < wx.heap.size)
          case first =>
            as_aux_lemma =>
              have HSRC := Lib.hid (SrcAt.of_recs HV4.out)
              have HJT := Lib.hid (show (X.take j).length = j by rw [List.length_take]; omega)
              have HJD := Lib.hid (show (X.drop j).length = X.length - j from List.length_drop)
              have HDR : Hid (Below w4.heap.size w4 (w4.alloc (.cells #[] 38)).drew) := Lib.hid (((Below.refl _ _).alloc (Nat.le_refl _) _).drew)
              have HDA := Lib.hid (show SrcAt (w4.alloc (.cells #[] 38)).drew (Option.map (fun x => x.add (j * 16)) ao) (List.flatMap recC (List.drop j X)) by
                rw [flat_drop recC 16 (fun _ => rfl)]
                exact (HSRC.out.below2 HDR.out).back _)
              have HLZ := Lib.hid (show ([] ++ X.drop j).length = X.length - j by rw [List.nil_append, List.length_drop])
              have HPM := Lib.hid (show ([] ++ X.drop j ++ X.take j).Perm X by
                rw [List.nil_append]
                exact List.perm_append_comm.trans (List.Perm.of_eq (List.take_append_drop j X)))
              by_cases hcj : cap = j
              · have HDB := Lib.hid (show SrcAt (w4.alloc (.cells #[] 38)).drew ao (List.flatMap recC (List.drop j X)) by
                  intro hne
                  exact absurd (by rw [List.drop_eq_nil_of_le (by omega)]; rfl) hne)
                by_cases hc0 : cap = 0
                ·
                  go_region_held3 (fun _ => True) (trivial)
                    ((first
                      | (refine step_apps recC 16 (fun _ => rfl) (by decide) recC_one (by rfl) (.tmp 51) (.tmp 54) 28 (by rfl) w4.heap.size 38 i0 _ 160 Tryz.underlying28 hi hz0 hz1 hz2 (by decide) rfl _ 0 0 [] rfl _ _ (X.length - j) (X.drop j) HJD.out (by rfl) (by exact own_empty _ _ _ (0, 0)) (by rfl) (by exact HDB.out) (by omega) (by simp) ?_; intro oo1 oc1 w5 hown1 hbel1; rw [Nat.zero_add] at hown1; rw [Nat.zero_add])
                      | (refine step_apps recC 16 (fun _ => rfl) (by decide) recC_one (by rfl) (.tmp 55) (.tmp 58) 28 (by rfl) w4.heap.size 38 i0 _ 160 Tryz.underlying28 hi hz0 hz1 hz2 (by decide) rfl oo1 oc1 (X.length - j) ([] ++ X.drop j) HLZ.out _ _ j (X.take j) HJT.out (by rfl) (by exact hown1) (by rfl) (by rw [flat_take recC 16 (fun _ => rfl)]; exact (HSRC.out.below2 (HDR.out.trans hbel1)).front _) (by omega) (HDR.out.trans hbel1).size ?_; intro oo2 oc2 w6 hown2 hbel2)))
                  all_goals
                    have HOW := Lib.hid hown2
                    have HBF := Lib.hid ((HDR.out.trans hbel1).trans hbel2)
                    clear hown1 hown2 hbel1 hbel2
                    have HLT := Lib.hid (show ([] ++ X.drop j ++ X.take j).length = X.length - j + j by rw [List.length_append, HLZ.out, HJT.out])
                    have HLX := Lib.hid (show X.length - j + j = X.length by omega)
                    have HFR := Lib.hid (show ∀ a, oo2 = some a → w4.heap.size ≤ a.block ∧ a.block < w6.heap.size from fun a e => HOW.out.lt a.block (by rw [e]; rfl))
                    have HRV := Lib.hid (show RecsV w6 oo2 oc2 ([] ++ X.drop j ++ X.take j) from RecsV.of_own (B := w4.heap.size) (by rw [HLT.out]; exact HOW.out) (fun x hx => (HV4.out.ok x (HPM.out.mem_iff.1 hx)).below HBF.out))
                    go_wp2_with fail
                    (subst hcj; subst hc0)
                    go_meet
                    exact ⟨oo2, oc2, _, rfl, HPM.out, HRV.out, HBF.out, HFR.out⟩
                ·
                  have hj0 : ¬ j = 0 := by omega
                  go_region_held3 (fun _ => True) (trivial)
                    ((first
                      | (refine step_apps recC 16 (fun _ => rfl) (by decide) recC_one (by rfl) (.tmp 51) (.tmp 54) 28 (by rfl) w4.heap.size 38 i0 _ 160 Tryz.underlying28 hi hz0 hz1 hz2 (by decide) rfl _ 0 0 [] rfl _ _ (X.length - j) (X.drop j) HJD.out (by rfl) (by exact own_empty _ _ _ (0, 0)) (by rfl) (by exact HDB.out) (by omega) (by simp) ?_; intro oo1 oc1 w5 hown1 hbel1; rw [Nat.zero_add] at hown1; rw [Nat.zero_add])
                      | (refine step_apps recC 16 (fun _ => rfl) (by decide) recC_one (by rfl) (.tmp 55) (.tmp 58) 28 (by rfl) w4.heap.size 38 i0 _ 160 Tryz.underlying28 hi hz0 hz1 hz2 (by decide) rfl oo1 oc1 (X.length - j) ([] ++ X.drop j) HLZ.out _ _ j (X.take j) HJT.out (by rfl) (by exact hown1) (by rfl) (by rw [flat_take recC 16 (fun _ => rfl)]; exact (HSRC.out.below2 (HDR.out.trans hbel1)).front _) (by omega) (HDR.out.trans hbel1).size ?_; intro oo2 oc2 w6 hown2 hbel2)))
                  all_goals
                    have HOW := Lib.hid hown2
                    have HBF := Lib.hid ((HDR.out.trans hbel1).trans hbel2)
                    clear hown1 hown2 hbel1 hbel2
                    have HLT := Lib.hid (show ([] ++ X.drop j ++ X.take j).length = X.length - j + j by rw [List.length_append, HLZ.out, HJT.out])
                    have HLX := Lib.hid (show X.length - j + j = X.length by omega)
                    have HFR := Lib.hid (show ∀ a, oo2 = some a → w4.heap.size ≤ a.block ∧ a.block < w6.heap.size from fun a e => HOW.out.lt a.block (by rw [e]; rfl))
                    have HRV := Lib.hid (show RecsV w6 oo2 oc2 ([] ++ X.drop j ++ X.take j) from RecsV.of_own (B := w4.heap.size) (by rw [HLT.out]; exact HOW.out) (fun x hx => (HV4.out.ok x (HPM.out.mem_iff.1 hx)).below HBF.out))
                    go_wp2_with fail
                    subst hcj
                    go_meet
                    exact ⟨oo2, oc2, _, rfl, HPM.out, HRV.out, HBF.out, HFR.out⟩
              · have hc0 : ¬ cap = 0 := by omega
                have hjc : (j : Int) ≤ (cap : Int) := by omega
                have hjc2 : j ≤ cap := by omega
                go_region_held3 (fun _ => True) (trivial)
                  ((first
                    | (refine step_apps recC 16 (fun _ => rfl) (by decide) recC_one (by rfl) (.tmp 51) (.tmp 54) 28 (by rfl) w4.heap.size 38 i0 _ 160 Tryz.underlying28 hi hz0 hz1 hz2 (by decide) rfl _ 0 0 [] rfl _ _ (X.length - j) (X.drop j) HJD.out (by rfl) (by exact own_empty _ _ _ (0, 0)) (by rfl) (by exact HDA.out) (by omega) (by simp) ?_; intro oo1 oc1 w5 hown1 hbel1; rw [Nat.zero_add] at hown1; rw [Nat.zero_add])
                    | (refine step_apps recC 16 (fun _ => rfl) (by decide) recC_one (by rfl) (.tmp 55) (.tmp 58) 28 (by rfl) w4.heap.size 38 i0 _ 160 Tryz.underlying28 hi hz0 hz1 hz2 (by decide) rfl oo1 oc1 (X.length - j) ([] ++ X.drop j) HLZ.out _ _ j (X.take j) HJT.out (by rfl) (by exact hown1) (by rfl) (by rw [flat_take recC 16 (fun _ => rfl)]; exact (HSRC.out.below2 (HDR.out.trans hbel1)).front _) (by omega) (HDR.out.trans hbel1).size ?_; intro oo2 oc2 w6 hown2 hbel2)))
                all_goals
                  have HOW := Lib.hid hown2
                  have HBF := Lib.hid ((HDR.out.trans hbel1).trans hbel2)
                  clear hown1 hown2 hbel1 hbel2
                  have HLT := Lib.hid (show ([] ++ X.drop j ++ X.take j).length = X.length - j + j by rw [List.length_append, HLZ.out, HJT.out])
                  have HLX := Lib.hid (show X.length - j + j = X.length by omega)
                  have HFR := Lib.hid (show ∀ a, oo2 = some a → w4.heap.size ≤ a.block ∧ a.block < w6.heap.size from fun a e => HOW.out.lt a.block (by rw [e]; rfl))
                  have HRV := Lib.hid (show RecsV w6 oo2 oc2 ([] ++ X.drop j ++ X.take j) from RecsV.of_own (B := w4.heap.size) (by rw [HLT.out]; exact HOW.out) (fun x hx => (HV4.out.ok x (HPM.out.mem_iff.1 hx)).below HBF.out))
                  go_wp2_with fail
                  skip
                  go_meet
                  exact ⟨oo2, oc2, _, rfl, HPM.out, HRV.out, HBF.out, HFR.out⟩
          case rest =>
            obtain ⟨ta, tc, T, rfl, hTp, hTv, hTb, hTf⟩ := hcut
            have HTLE := Lib.hid hTv.le
            rw [hTp.length_eq] at HTLE
            have HTL := Lib.hid hTp.length_eq
            have HTP := Lib.hid hTp
            have HNT := Lib.hid (show (idsX T).Nodup from (hTp.map Rv.id).nodup_iff.2 HND.out)
            have HAG := Lib.hid (show AgSt w2 wc px py X T ta ((idsX X).take 0) [] [] [] from
              ⟨⟨F, G, ⟨⟨0, [], HX4.out.below hTb, EI.new X, Nat.zero_le _, List.Perm.refl _⟩⟩, ⟨⟨0, [], HE4.out.below hTb, EI.new X, Nat.le_refl _, List.Perm.refl _⟩⟩, HFG.out,
                fun j hj => HF3.out j hj, fun j hj => Nat.le_trans zs3 (HF4.out j hj),
                fun a0 e => ⟨fun hf => by have := HX4.out.lt _ hf; have := (hTf a0 e).1; omega, fun hf => by have := HE4.out.lt _ hf; have := (hTf a0 e).1; omega, (hTf a0 e).2⟩⟩, trods_at hTv, HB4.out.trans (hTb.mono zs4)⟩)
            have HV2 := Lib.hid (HV.out.below HB2.out)
            have HS2 := Lib.hid (HS.out.below (B := 0) HB2.out)
            have HR2 := Lib.hid (HR.out.below (B := 0) HB2.out)
            have HT2 := Lib.hid (HT.out.next HB2.out)
            have HW2 := Lib.hid (show IdsV w2 oo oc a from idsV_own (m := idsX X) HOA.out (fun z hz => HPA.out.mem_iff.1 hz) (fun z hz => by
              obtain ⟨y, hy, rfl⟩ := List.mem_map.1 hz
              exact (HV.out.ok y hy).id))
            clear hTp hTv hTb hTf HX4 HE4 HE3 HF3 HF4 HFG HB3 HB4 HV4 HOA HV HS HR HT
            obtain ⟨wq, rfl⟩ : ∃ wq, wq = wc := ⟨_, rfl⟩
            go_wp2_with fail
            go_loopw [15] (fun iv wr => ∃ (k : Nat) (B Dx Dy : List Id), iv = .int .i64 k ∧ k ≤ X.length ∧ AgSt w2 wr px py X T ta ((idsX X).take k) B Dx Dy ∧ (∀ i ∈ B, i ∈ (idsX T).take k) ∧ B.length ≤ k) (fun iv _ => X.length - (intOf iv).toNat)
            case atStart => exact ⟨0, [], [], [], rfl, Nat.zero_le _, HAG.out, fun i h => (by cases h), Nat.le_refl _⟩
            case round =>
              obtain ⟨k, B, Dx, Dy, rfl, hk, hag, hB, hBl⟩ := hrel
              have HG0 := Lib.hid hag
              have HBB := Lib.hid hB
              clear hag hB
              by_cases hkl : k < X.length
              · as_aux_lemma =>
                  have hii : (k : Int) < (X.length : Int) := by omega
                  obtain ⟨x, hx⟩ : ∃ x, X[k]? = some x := ⟨_, List.getElem?_eq_getElem hkl⟩
                  obtain ⟨y, hy⟩ : ∃ y, T[k]? = some y := ⟨_, List.getElem?_eq_getElem (by rw [HTL.out]; exact hkl)⟩
                  have hxm := List.mem_of_getElem? hx
                  have hym := HTP.out.mem_iff.1 (List.mem_of_getElem? hy)
                  have HTK := Lib.hid (show (idsX X).take k ++ [x.id] = (idsX X).take (k + 1) by rw [List.take_add_one, List.getElem?_map, hx]; rfl)
                  have HUK := Lib.hid (show (idsX T).take k ++ [y.id] = (idsX T).take (k + 1) by rw [List.take_add_one, List.getElem?_map, hy]; rfl)
                  have hxn : x.id ∉ (idsX X).take k := not_taken HND.out (by rw [List.getElem?_map, hx]; rfl)
                  have hyn : y.id ∉ B := fun h => not_taken HNT.out (by rw [List.getElem?_map, hy]; rfl) (HBB.out _ h)
                  have hal : ((idsX X).take k).length ≤ 1000 := by rw [List.length_take]; omega
                  have HAL := Lib.hid (show ((idsX X).take (k + 1)).length ≤ 20 by rw [List.length_take]; omega)
                  have HC := Lib.hid (ag_commitX HG0.out hxm hxn (HV2.out.ok x hxm) HT2.out (by have := HSZ.out x hxm; omega) hal (HOK.out x hxm))
                  have HCY := Lib.hid (fun (wz : World) (A D : List Id) (h : AgSt w2 wz px py X T ta A B D Dy) => ag_commitY h hym hyn (HV2.out.ok y hym) HT2.out (by have := HSZ.out y hym; omega) (by omega) (HOK.out y hym))
                  have HYT := Lib.hid hy
                  obtain ⟨g, off, e0, hgl, hrec⟩ := HV2.out.row k x hx
                  subst e0
                  obtain ⟨c0, c1, c2, c3, c4, c5, c6, c7, c8, c9, c10, c11, c12, c13, c14, c15⟩ := hrec.below HG0.out.bl hgl
                  clear hx hy hrec hxm hym hxn hyn hal
                  go_wp2_with fail
                  refine HC.out.mono ?_
                  rintro e w6 ⟨rfl, hg6⟩
                  rw [HTK.out] at hg6
                  have HG6 := Lib.hid hg6
                  clear hg6 HC c0 c1 c2 c3 c4 c5 c6 c7 c8 c9 c10 c11 c12 c13 c14 c15
                  go_upto_region 13 with fail
                  go_cut [81] (fun u wx => wx = w6 ∧ ∃ b : Bool, u = .bool b)
                  case first =>
                    by_cases hrk : k < rn.length
                    · have hri : (k : Int) < (rn.length : Int) := by omega
                      obtain ⟨v9, hv9⟩ : ∃ v, rn[k]? = some v := ⟨_, List.getElem?_eq_getElem hrk⟩
                      obtain ⟨gb, ob, e9, hbl, q0⟩ := HR2.out.row k v9 hv9
                      subst e9
                      have c0 := (HG6.out.bl.cell (p := ⟨gb, _, none⟩) hbl).trans q0
                      clear q0 hv9
                      cases v9 with
                      | true =>
                        go_wp2_with fail
                        go_meet
                        exact ⟨rfl, _, rfl⟩
                      | false =>
                        go_wp2_with fail
                        go_meet
                        exact ⟨rfl, _, rfl⟩
                    · have hri : ¬ (k : Int) < (rn.length : Int) := by omega
                      go_wp2_with fail
                      go_meet
                      exact ⟨rfl, _, rfl⟩
                  obtain ⟨e9, bv, rfl⟩ := hcut
                  have e9 := e9.symm
                  subst e9
                  go_upto_if 81 with fail
                  go_cut [] (fun wx => ∃ D, AgSt w2 wx px py X T ta ((idsX X).take (k + 1)) B D Dy)
                  case first =>
                    cases bv with
                    | true =>
                      have HRN := Lib.hid (ag_runX HG6.out HND.out HMS.out (fun x hx => by have := HSZ.out x hx; omega) HAL.out HT2.out)
                      go_wp2_with fail
                      refine HRN.out.mono ?_
                      rintro e w7 ⟨o7, c7, n7, rfl, D7, hg7, _⟩
                      have HG7 := Lib.hid hg7
                      clear hg7 HRN
                      go_wp2_with fail
                      go_meet
                      exact ⟨D7, HG7.out⟩
                    | false =>
                      go_wp2_with fail
                      go_meet
                      exact ⟨Dx, HG6.out⟩
                  case rest =>
                    obtain ⟨D8, hg8⟩ := hcut
                    have HG8 := Lib.hid hg8
                    obtain ⟨w8, rfl⟩ : ∃ w8, w8 = wc := ⟨_, rfl⟩
                    clear hg8 HG6
                    go_upto_region 15 with fail
                    go_cut [93] (fun u wx => wx = w8 ∧ ∃ b : Bool, u = .bool b)
                    case first =>
                      by_cases hrk : k < sm.length
                      · have hri : (k : Int) < (sm.length : Int) := by omega
                        obtain ⟨v9, hv9⟩ : ∃ v, sm[k]? = some v := ⟨_, List.getElem?_eq_getElem hrk⟩
                        obtain ⟨gb, ob, e9, hbl, q0⟩ := HS2.out.row k v9 hv9
                        subst e9
                        have c0 := (HG8.out.bl.cell (p := ⟨gb, _, none⟩) hbl).trans q0
                        clear q0 hv9
                        cases v9 with
                        | true =>
                          go_wp2_with fail
                          go_meet
                          exact ⟨rfl, _, rfl⟩
                        | false =>
                          go_wp2_with fail
                          go_meet
                          exact ⟨rfl, _, rfl⟩
                      · have hri : ¬ (k : Int) < (sm.length : Int) := by omega
                        go_wp2_with fail
                        go_meet
                        exact ⟨rfl, _, rfl⟩
                    obtain ⟨e9, bv, rfl⟩ := hcut
                    have e9 := e9.symm
                    subst e9
                    go_upto_if 93 with fail
                    go_cut [] (fun wx => ∃ B2, AgSt w2 wx px py X T ta ((idsX X).take (k + 1)) B2 D8 Dy ∧ (∀ i ∈ B2, i ∈ (idsX T).take (k + 1)) ∧ B2.length ≤ k + 1)
                    case first =>
                      cases bv with
                      | true =>
                        have HCC := Lib.hid (HCY.out w8 _ D8 HG8.out)
                        obtain ⟨g2, off2, e2, hgl2, hrec2⟩ := HG8.out.tt k y HYT.out
                        subst e2
                        obtain ⟨c0, c1, c2, c3, c4, c5, c6, c7, c8, c9, c10, c11, c12, c13, c14, c15⟩ := hrec2
                        obtain ⟨htl1, htl2⟩ := HTLE.out
                        unfold maxLen at htl2
                        go_wp2_with fail
                        refine HCC.out.mono ?_
                        rintro e w9 ⟨rfl, hg9⟩
                        have HG9 := Lib.hid hg9
                        clear hg9 HCC c0 c1 c2 c3 c4 c5 c6 c7 c8 c9 c10 c11 c12 c13 c14 c15
                        go_wp2_with fail
                        go_meet
                        exact ⟨B ++ [y.id], HG9.out, fun i hi => by
                          rw [← HUK.out]
                          rcases List.mem_append.1 hi with h | h
                          · exact List.mem_append_left _ (HBB.out i h)
                          · exact List.mem_append_right _ h, by simp; omega⟩
                      | false =>
                        go_wp2_with fail
                        go_meet
                        exact ⟨B, HG8.out, fun i hi => by rw [← HUK.out]; exact List.mem_append_left _ (HBB.out i hi), by omega⟩
                    case rest =>
                      obtain ⟨B2, hg10, hb10, hl10⟩ := hcut
                      have HG10 := Lib.hid hg10
                      have HBB2 := Lib.hid hb10
                      obtain ⟨w10, rfl⟩ : ∃ w10, w10 = wc := ⟨_, rfl⟩
                      clear hg10 HG8 hb10 HCY
                      go_upto_region 17 with fail
                      go_cut [110] (fun u wx => wx = w10 ∧ ∃ b : Bool, u = .bool b)
                      case first =>
                        by_cases hrk : k < rn.length
                        · have hri : (k : Int) < (rn.length : Int) := by omega
                          obtain ⟨v9, hv9⟩ : ∃ v, rn[k]? = some v := ⟨_, List.getElem?_eq_getElem hrk⟩
                          obtain ⟨gb, ob, e9, hbl, q0⟩ := HR2.out.row k v9 hv9
                          subst e9
                          have c0 := (HG10.out.bl.cell (p := ⟨gb, _, none⟩) hbl).trans q0
                          clear q0 hv9
                          cases v9 with
                          | true =>
                            go_wp2_with fail
                            go_meet
                            exact ⟨rfl, _, rfl⟩
                          | false =>
                            go_wp2_with fail
                            go_meet
                            exact ⟨rfl, _, rfl⟩
                        · have hri : ¬ (k : Int) < (rn.length : Int) := by omega
                          go_wp2_with fail
                          go_meet
                          exact ⟨rfl, _, rfl⟩
                      obtain ⟨e9, bv, rfl⟩ := hcut
                      have e9 := e9.symm
                      subst e9
                      cases bv with
                      | true =>
                        have HRN := Lib.hid (ag_runY HG10.out HND.out HMS.out (fun x hx => by have := HSZ.out x hx; omega) (by omega) HT2.out)
                        go_wp2_with fail
                        refine HRN.out.mono ?_
                        rintro e w7 ⟨o7, c7, n7, rfl, D7, hg7⟩
                        have HG7 := Lib.hid hg7
                        clear hg7 HRN
                        go_wp2_with fail
                        go_roundw
                        case rel => exact ⟨k + 1, B2, D8, D7, by go_num, by omega, HG7.out, HBB2.out, by omega⟩
                        case measure => simp [intOf]; omega
                      | false =>
                        go_wp2_with fail
                        go_roundw
                        case rel => exact ⟨k + 1, B2, D8, Dy, by go_num, by omega, HG10.out, HBB2.out, by omega⟩
                        case measure => simp [intOf]; omega
              · as_aux_lemma =>
                  obtain rfl : k = X.length := by omega
                  have hii : ¬ (X.length : Int) < (X.length : Int) := by omega
                  have HG1 := Lib.hid (show AgSt w2 wr px py X T ta (idsX X) B Dx Dy by
                    have := HG0.out
                    rwa [List.take_of_length_le (by simp)] at this)
                  clear HG0 HAG
                  have hxl : (idsX X).length ≤ 20 := by rw [List.length_map]; omega
                  have HR1 := Lib.hid (ag_runX HG1.out HND.out HMS.out (fun x hx => by have := HSZ.out x hx; omega) hxl HT2.out)
                  go_wp2_with fail
                  refine HR1.out.mono ?_
                  rintro e w5 ⟨o5, c5, n5, rfl, D1, hg5, hall⟩
                  have HG5 := Lib.hid hg5
                  have HALL := Lib.hid (hall (fun i h => h))
                  clear hg5 hall HR1 HG1
                  have HR3 := Lib.hid (ag_runY HG5.out HND.out HMS.out (fun x hx => by have := HSZ.out x hx; omega) (by omega) HT2.out)
                  go_wp2_with fail
                  refine HR3.out.mono ?_
                  rintro e w6 ⟨o6, c6, n6, rfl, D2, hg6⟩
                  have HG6 := Lib.hid hg6
                  clear hg6 HR3 HG5
                  have HX1 := Lib.hid (ag_exec HG6.out (by omega))
                  go_wp2_with fail
                  refine HX1.out.mono ?_
                  rintro e w7 ⟨ao7, ac7, rfl, ha7, hb7⟩
                  have HA7 := Lib.hid ha7
                  have HG7 := Lib.hid (HG6.out.below hb7)
                  clear ha7 hb7 HX1 HG6
                  have HX2 := Lib.hid (ag_execY HG7.out (by omega))
                  go_wp2_with fail
                  refine HX2.out.mono ?_
                  rintro e w8 ⟨bo8, bc8, rfl, hbv8, hb8⟩
                  have HBV := Lib.hid hbv8
                  have HAV := Lib.hid (HA7.out.below (B := 0) hb8)
                  have HG8 := Lib.hid (HG7.out.below hb8)
                  clear hbv8 hb8 HX2 HG7 HA7
                  have HE1 := Lib.hid (show ∃ L, EI X L D1 from by
                    obtain ⟨F', G', h1, h2, _⟩ := HG8.out.ex
                    exact h1.ei)
                  have HE2 := Lib.hid (show ∃ L, EI X L D2 from by
                    obtain ⟨F', G', h1, h2, _⟩ := HG8.out.ex
                    exact h2.ei)
                  have HDN := Lib.hid (show D1.Perm (idsX X) from by
                    obtain ⟨L, h⟩ := HE1.out
                    exact h.len HND.out HALL.out)
                  have HLN := Lib.hid (show D1.length = a.length from HDN.out.length_eq.trans HPA.out.length_eq.symm)
                  have HB8 := Lib.hid HG8.out.bl
                  have HV8 := Lib.hid (HV2.out.below HB8.out)
                  have HT8 := Lib.hid (HT2.out.next HB8.out)
                  have HWA := Lib.hid (HW2.out.below (B := 0) HB8.out)
                  have HBW := Lib.hid (HB2.out.trans (HB8.out.mono zs2))
                  obtain ⟨hw1, hw2⟩ := HWA.out.le
                  obtain ⟨hw3, hw4⟩ := HAV.out.le
                  obtain ⟨hw5, hw6⟩ := HBV.out.le
                  unfold maxLen at hw2 hw4 hw6
                  have hw7 : a.length ≤ 20 := by rw [HPA.out.length_eq]; omega
                  clear HV2 HS2 HR2 HT2 HW2 HALL HB2 HBB HTLE HTP HNT HTL
                  go_upto_region 22 with fail
                  go_cut [125] (fun u wx => wx = w8 ∧ u = .bool false)
                  case first =>
                    have e1 : (D1.length : Int) = (a.length : Int) := by rw [HLN.out]
                    go_wp2_with fail
                    go_meet
                    exact ⟨rfl, rfl⟩
                  obtain ⟨e8, rfl⟩ := hcut
                  have e8 := e8.symm
                  subst e8
                  go_wp2_with fail
                  go_loopw [18] (fun iv wr => ∃ k : Nat, iv = .int .i64 k ∧ k ≤ a.length ∧ Below w8.heap.size w8 wr) (fun iv _ => a.length - (intOf iv).toNat)
                  case atStart => exact ⟨0, rfl, Nat.zero_le _, Below.refl _ _⟩
                  case round =>
                    obtain ⟨k, rfl, hk, hbr⟩ := hrel
                    have HBR := Lib.hid hbr
                    have hWr := hbr.size
                    clear hbr
                    by_cases hka : k < a.length
                    · as_aux_lemma =>
                        have hii : (k : Int) < (a.length : Int) := by omega
                        obtain ⟨q, hq⟩ : ∃ q, a[k]? = some q := ⟨_, List.getElem?_eq_getElem hka⟩
                        have HQ := Lib.hid hq
                        obtain ⟨gq, oq, eq0, hql, q0, q1⟩ := HWA.out.row k q hq
                        subst eq0
                        have HQC := Lib.hid (And.intro q0 q1)
                        have c0 := (HBR.out.cell (p := ⟨gq, _, none⟩) hql).trans q0
                        have c1 := (HBR.out.cell (p := ⟨gq, _, none⟩) hql).trans q1
                        have HCL := Lib.hid (closedd_any X ao cap q wr (HV8.out.below HBR.out) (HWA.out.ok q (List.mem_of_getElem? hq)) HND.out (by omega) (fun x hx => by have := HSZ.out x hx; omega))
                        clear hq q0 q1
                        go_wp2_with fail
                        refine HCL.out.mono ?_
                        rintro e w9 ⟨no, nc, inn, mo, mc, out, rfl, hcl, hin, _, hb9⟩
                        have HB9 := Lib.hid (HBR.out.trans (hb9.mono hWr))
                        have HLE := Lib.hid (show RecsV w9 no nc inn from recsV_cl hin hcl HV8.out.ok HB9.out)
                        have HPX := Lib.hid (fun (y : Rv) (hy : y ∈ inn) (hne : y.id ≠ q) => (show q ∈ D1 → (y.id ∈ D1 ∧ (atI D1 y.id < atI D1 q ↔ atI a y.id < (k : Int))) from fun hD => by
                          obtain ⟨L, h⟩ := HE1.out
                          exact agree_pair HND.out HRA.out h HQ.out hcl hy hne hD))
                        have HPY := Lib.hid (fun (y : Rv) (hy : y ∈ inn) (hne : y.id ≠ q) => (show q ∈ D2 → (y.id ∈ D2 ∧ (atI D2 y.id < atI D2 q ↔ atI a y.id < (k : Int))) from fun hD => by
                          obtain ⟨L, h⟩ := HE2.out
                          exact agree_pair HND.out HRA.out h HQ.out hcl hy hne hD))
                        clear hcl hin hb9 HCL c0 c1
                        have h9 := HB9.out.size
                        obtain ⟨hn1, hn2⟩ := HLE.out.le
                        unfold maxLen at hn2
                        obtain ⟨wa, rfl⟩ : ∃ wa, wa = wr := ⟨_, rfl⟩
                        go_wp2_with fail
                        go_loopw [21] (fun jv wr => ∃ j : Nat, jv = .int .i64 j ∧ j ≤ inn.length ∧ Below w9.heap.size w9 wr) (fun jv _ => inn.length - (intOf jv).toNat)
                        case atStart => exact ⟨0, rfl, Nat.zero_le _, Below.refl _ _⟩
                        case round =>
                          obtain ⟨j, rfl, hj, hbj⟩ := hrel
                          have HBJ := Lib.hid hbj
                          have HB10 := Lib.hid (HB9.out.trans (hbj.mono h9))
                          clear hbj
                          by_cases hjl : j < inn.length
                          · as_aux_lemma =>
                              have hjj : (j : Int) < (inn.length : Int) := by omega
                              obtain ⟨y, hy⟩ : ∃ y, inn[j]? = some y := ⟨_, List.getElem?_eq_getElem hjl⟩
                              obtain ⟨gy, oy, ey, hyl, hyr⟩ := HLE.out.row j y hy
                              subst ey
                              have c0 := (HBJ.out.cell (p := ⟨gy, _, none⟩) hyl).trans hyr.c0
                              have c1 := (HBJ.out.cell (p := ⟨gy, _, none⟩) hyl).trans hyr.c1
                              have HYM := Lib.hid (List.mem_of_getElem? hy)
                              clear hy hyr
                              go_upto_region 32 with fail
                              obtain ⟨W9, hW9⟩ : ∃ W9, W9 = wr.alloc (idO y.id) := ⟨_, rfl⟩
                              have hb9 : Below wr.heap.size wr W9 := by rw [hW9]; exact (Below.refl _ _).alloc (Nat.le_refl _) _
                              have hx9 : W9.heap[wr.heap.size]? = some (idO y.id) := by rw [hW9]; exact heap_alloc_new wr _
                              rw [← hW9]
                              have HX9 := Lib.hid hx9
                              have HB11 := Lib.hid (HB10.out.trans (hb9.mono HB10.out.size))
                              have HBJ9 := Lib.hid (HBJ.out.trans (hb9.mono HBJ.out.size))
                              clear hW9 hb9 hx9 c0 c1
                              obtain ⟨⟨d0, d1⟩, _⟩ := box2 HX9.out
                              have k0 := Kin.cell d0
                              have k1 := Kin.cell d1
                              have k2 := Kin.cell ((HB11.out.cell (p := ⟨gq, _, none⟩) hql).trans HQC.out.1)
                              have k3 := Kin.cell ((HB11.out.cell (p := ⟨gq, _, none⟩) hql).trans HQC.out.2)
                              clear d0 d1
                              by_cases hyq : y.id = q
                              · subst hyq
                                have qe := eql_yes y.id
                                refine wp_region_kin (by kernel_rfl) (by kernel_rfl) ?_
                                repeat (go_big_quiet_step (fail))
                                refine wpQuiet_nil ?_
                                intro _ hxx
                                obtain ⟨xk, rfl⟩ := hxx
                                have HBK := Lib.hid (HBJ9.out.trans (xk.h.mono HBJ9.out.size))
                                clear k0 k1 k2 k3 qe
                                go_wp2_with fail
                                go_roundw
                                case rel => exact ⟨j + 1, by go_num, by omega, HBK.out⟩
                                case measure => simp [intOf]; omega
                              · have qe := eql_no hyq
                                have HPX1 := Lib.hid (HPX.out y HYM.out hyq)
                                have HPY1 := Lib.hid (HPY.out y HYM.out hyq)
                                have HYI := Lib.hid (show IdI y.id from (HLE.out.ok y HYM.out).id)
                                have HQI := Lib.hid (show IdI q from HWA.out.ok q (List.mem_of_getElem? HQ.out))
                                have HQD := Lib.hid (show q ∈ D1 from HDN.out.mem_iff.2 (HPA.out.mem_iff.1 (List.mem_of_getElem? HQ.out)))
                                clear hyq
                                refine wp_region_kin (by kernel_rfl) (by kernel_rfl) ?_
                                repeat (go_big_quiet_step (fail))
                                refine wpQuiet_nil ?_
                                intro _ hxx
                                obtain ⟨xk, rfl⟩ := hxx
                                obtain ⟨WA, hWA⟩ : ∃ WA, xk.w = WA := ⟨_, rfl⟩
                                have hba := xk.h
                                rw [hWA] at hba
                                rw [hWA]
                                clear k0 k1 k2 k3 qe hWA xk
                                have HBA := Lib.hid (HB11.out.trans (hba.mono HB11.out.size))
                                have HBJA := Lib.hid (HBJ9.out.trans (hba.mono HBJ9.out.size))
                                have HXA := Lib.hid ((hba.block _ (M.heap_lt HX9.out)).trans HX9.out)
                                clear hba
                                obtain ⟨pa, hpa⟩ : ∃ v, atI a y.id = v := ⟨_, rfl⟩
                                have HPL := Lib.hid (place20_any a _ oc y.id WA (HWA.out.below (B := 0) HBA.out) pa hpa)
                                rw [hpa] at HPX1 HPY1
                                obtain ⟨⟨d0, d1⟩, _⟩ := box2 HXA.out
                                clear hpa
                                go_wp2_with fail
                                refine HPL.out.mono ?_
                                rintro e WB ⟨rfl, hbb⟩
                                have HBB := Lib.hid (HBA.out.trans (hbb.mono HBA.out.size))
                                have HBJB := Lib.hid (HBJA.out.trans (hbb.mono HBJA.out.size))
                                have HXB := Lib.hid ((hbb.block _ (M.heap_lt HXA.out)).trans HXA.out)
                                clear d0 d1 hbb HPL
                                go_upto_region 34 with fail
                                obtain ⟨⟨d0, d1⟩, _⟩ := box2 HXB.out
                                have k0 := Kin.cell d0
                                have k1 := Kin.cell d1
                                have k2 := Kin.cell ((HBB.out.cell (p := ⟨gq, _, none⟩) hql).trans HQC.out.1)
                                have k3 := Kin.cell ((HBB.out.cell (p := ⟨gq, _, none⟩) hql).trans HQC.out.2)
                                clear d0 d1
                                obtain ⟨va, hva⟩ : ∃ v, atI D1 y.id = v := ⟨_, rfl⟩
                                obtain ⟨vq, hvq⟩ : ∃ v, atI D1 q = v := ⟨_, rfl⟩
                                have HK1 := Lib.hid (fun v : Kin WB => place20_any D1 ao7 ac7 y.id v.w (HAV.out.below (B := 0) (HBB.out.trans (v.h.mono HBB.out.size))) va hva)
                                have HK2 := Lib.hid (fun v : Kin WB => place20_any D1 ao7 ac7 q v.w (HAV.out.below (B := 0) (HBB.out.trans (v.h.mono HBB.out.size))) vq hvq)
                                have hx1 := (HPX1.out HQD.out).2
                                rw [hva, hvq] at hx1
                                clear hva hvq
                                clear HPX1
                                by_cases hpk : pa < (k : Int)
                                · have hvv : va < vq := hx1.2 hpk
                                  have hpd : decide (pa < (k : Int)) = true := decide_eq_true hpk
                                  have hvd : decide (va < vq) = true := decide_eq_true hvv
                                  clear hx1 hpk
                                  refine wp_region_kin (by kernel_rfl) (by kernel_rfl) ?_
                                  repeat (go_big_quiet_step ((go_at_call 40; first | with_reducible exact Kin.call _ (HK1.out _) | with_reducible exact Kin.call _ (HK2.out _))))
                                  refine wpQuiet_nil ?_
                                  intro _ hxx
                                  obtain ⟨xk, rfl⟩ := hxx
                                  obtain ⟨WC, hWC⟩ : ∃ WC, xk.w = WC := ⟨_, rfl⟩
                                  have hbc := xk.h
                                  rw [hWC] at hbc
                                  rw [hWC]
                                  clear k0 k1 k2 k3 hWC xk HK1 HK2
                                  have HBC := Lib.hid (HBB.out.trans (hbc.mono HBB.out.size))
                                  have HBJC := Lib.hid (HBJB.out.trans (hbc.mono HBJB.out.size))
                                  have HXC := Lib.hid ((hbc.block _ (M.heap_lt HXB.out)).trans HXB.out)
                                  clear hbc hvv hvd
                                  go_upto_region 36 with fail
                                  obtain ⟨⟨d0, d1⟩, _⟩ := box2 HXC.out
                                  have k0 := Kin.cell d0
                                  have k1 := Kin.cell d1
                                  have k2 := Kin.cell ((HBC.out.cell (p := ⟨gq, _, none⟩) hql).trans HQC.out.1)
                                  have k3 := Kin.cell ((HBC.out.cell (p := ⟨gq, _, none⟩) hql).trans HQC.out.2)
                                  clear d0 d1
                                  by_cases hqd : q ∈ D2
                                  · obtain ⟨hyd, hxy⟩ := HPY1.out hqd
                                    obtain ⟨ua, hua⟩ : ∃ v, atI D2 y.id = v := ⟨_, rfl⟩
                                    obtain ⟨uq, huq⟩ : ∃ v, atI D2 q = v := ⟨_, rfl⟩
                                    rw [hua, huq] at hxy
                                    have HK1 := Lib.hid (fun v : Kin WC => place20_any D2 bo8 bc8 y.id v.w (HBV.out.below (B := 0) (HBC.out.trans (v.h.mono HBC.out.size))) ua hua)
                                    have HK2 := Lib.hid (fun v : Kin WC => place20_any D2 bo8 bc8 q v.w (HBV.out.below (B := 0) (HBC.out.trans (v.h.mono HBC.out.size))) uq huq)
                                    have HK3 := Lib.hid (fun v : Kin WC => ag_done (HG8.out.below (HBC.out.trans (v.h.mono HBC.out.size))) HQI.out true (decide_eq_true hqd))
                                    have HK4 := Lib.hid (fun v : Kin WC => ag_done (HG8.out.below (HBC.out.trans (v.h.mono HBC.out.size))) HYI.out true (decide_eq_true hyd))
                                    have hud : decide (ua < uq) = decide (pa < (k : Int)) := by
                                      rw [Bool.eq_iff_iff, decide_eq_true_eq, decide_eq_true_eq]
                                      exact hxy
                                    rw [hpd] at hud
                                    have huu : ua < uq := of_decide_eq_true hud
                                    clear hua huq hqd hyd hxy
                                    refine wp_region_kin (by kernel_rfl) (by kernel_rfl) ?_
                                    repeat (go_big_quiet_step ((first | (go_at_call 40; first | with_reducible exact Kin.call _ (HK1.out _) | with_reducible exact Kin.call _ (HK2.out _)) | (go_at_call 37; first | with_reducible exact Kin.call _ (HK3.out _) | with_reducible exact Kin.call _ (HK4.out _)))))
                                    refine wpQuiet_nil ?_
                                    intro _ hxx
                                    obtain ⟨xk, rfl⟩ := hxx
                                    have HBK := Lib.hid (HBJC.out.trans (xk.h.mono HBJC.out.size))
                                    clear k0 k1 k2 k3
                                    go_wp2_with fail
                                    go_roundw
                                    case rel => exact ⟨j + 1, by go_num, by omega, HBK.out⟩
                                    case measure => simp [intOf]; omega
                                  · have HK1 := Lib.hid (fun v : Kin WC => ag_done (HG8.out.below (HBC.out.trans (v.h.mono HBC.out.size))) HQI.out false (decide_eq_false hqd))
                                    clear hqd
                                    refine wp_region_kin (by kernel_rfl) (by kernel_rfl) ?_
                                    repeat (go_big_quiet_step ((go_at_call 37; with_reducible exact Kin.call _ (HK1.out _))))
                                    refine wpQuiet_nil ?_
                                    intro _ hxx
                                    obtain ⟨xk, rfl⟩ := hxx
                                    have HBK := Lib.hid (HBJC.out.trans (xk.h.mono HBJC.out.size))
                                    clear k0 k1 k2 k3
                                    go_wp2_with fail
                                    go_roundw
                                    case rel => exact ⟨j + 1, by go_num, by omega, HBK.out⟩
                                    case measure => simp [intOf]; omega
                                · have hvv : ¬ va < vq := fun h => hpk (hx1.1 h)
                                  have hpd : decide (pa < (k : Int)) = false := decide_eq_false hpk
                                  have hvd : decide (va < vq) = false := decide_eq_false hvv
                                  clear hx1 hpk
                                  refine wp_region_kin (by kernel_rfl) (by kernel_rfl) ?_
                                  repeat (go_big_quiet_step ((go_at_call 40; first | with_reducible exact Kin.call _ (HK1.out _) | with_reducible exact Kin.call _ (HK2.out _))))
                                  refine wpQuiet_nil ?_
                                  intro _ hxx
                                  obtain ⟨xk, rfl⟩ := hxx
                                  obtain ⟨WC, hWC⟩ : ∃ WC, xk.w = WC := ⟨_, rfl⟩
                                  have hbc := xk.h
                                  rw [hWC] at hbc
                                  rw [hWC]
                                  clear k0 k1 k2 k3 hWC xk HK1 HK2
                                  have HBC := Lib.hid (HBB.out.trans (hbc.mono HBB.out.size))
                                  have HBJC := Lib.hid (HBJB.out.trans (hbc.mono HBJB.out.size))
                                  have HXC := Lib.hid ((hbc.block _ (M.heap_lt HXB.out)).trans HXB.out)
                                  clear hbc hvv hvd
                                  go_upto_region 36 with fail
                                  obtain ⟨⟨d0, d1⟩, _⟩ := box2 HXC.out
                                  have k0 := Kin.cell d0
                                  have k1 := Kin.cell d1
                                  have k2 := Kin.cell ((HBC.out.cell (p := ⟨gq, _, none⟩) hql).trans HQC.out.1)
                                  have k3 := Kin.cell ((HBC.out.cell (p := ⟨gq, _, none⟩) hql).trans HQC.out.2)
                                  clear d0 d1
                                  by_cases hqd : q ∈ D2
                                  · obtain ⟨hyd, hxy⟩ := HPY1.out hqd
                                    obtain ⟨ua, hua⟩ : ∃ v, atI D2 y.id = v := ⟨_, rfl⟩
                                    obtain ⟨uq, huq⟩ : ∃ v, atI D2 q = v := ⟨_, rfl⟩
                                    rw [hua, huq] at hxy
                                    have HK1 := Lib.hid (fun v : Kin WC => place20_any D2 bo8 bc8 y.id v.w (HBV.out.below (B := 0) (HBC.out.trans (v.h.mono HBC.out.size))) ua hua)
                                    have HK2 := Lib.hid (fun v : Kin WC => place20_any D2 bo8 bc8 q v.w (HBV.out.below (B := 0) (HBC.out.trans (v.h.mono HBC.out.size))) uq huq)
                                    have HK3 := Lib.hid (fun v : Kin WC => ag_done (HG8.out.below (HBC.out.trans (v.h.mono HBC.out.size))) HQI.out true (decide_eq_true hqd))
                                    have HK4 := Lib.hid (fun v : Kin WC => ag_done (HG8.out.below (HBC.out.trans (v.h.mono HBC.out.size))) HYI.out true (decide_eq_true hyd))
                                    have hud : decide (ua < uq) = decide (pa < (k : Int)) := by
                                      rw [Bool.eq_iff_iff, decide_eq_true_eq, decide_eq_true_eq]
                                      exact hxy
                                    rw [hpd] at hud
                                    have huu : ¬ ua < uq := of_decide_eq_false hud
                                    clear hua huq hqd hyd hxy
                                    refine wp_region_kin (by kernel_rfl) (by kernel_rfl) ?_
                                    repeat (go_big_quiet_step ((first | (go_at_call 40; first | with_reducible exact Kin.call _ (HK1.out _) | with_reducible exact Kin.call _ (HK2.out _)) | (go_at_call 37; first | with_reducible exact Kin.call _ (HK3.out _) | with_reducible exact Kin.call _ (HK4.out _)))))
                                    refine wpQuiet_nil ?_
                                    intro _ hxx
                                    obtain ⟨xk, rfl⟩ := hxx
                                    have HBK := Lib.hid (HBJC.out.trans (xk.h.mono HBJC.out.size))
                                    clear k0 k1 k2 k3
                                    go_wp2_with fail
                                    go_roundw
                                    case rel => exact ⟨j + 1, by go_num, by omega, HBK.out⟩
                                    case measure => simp [intOf]; omega
                                  · have HK1 := Lib.hid (fun v : Kin WC => ag_done (HG8.out.below (HBC.out.trans (v.h.mono HBC.out.size))) HQI.out false (decide_eq_false hqd))
                                    clear hqd
                                    refine wp_region_kin (by kernel_rfl) (by kernel_rfl) ?_
                                    repeat (go_big_quiet_step ((go_at_call 37; with_reducible exact Kin.call _ (HK1.out _))))
                                    refine wpQuiet_nil ?_
                                    intro _ hxx
                                    obtain ⟨xk, rfl⟩ := hxx
                                    have HBK := Lib.hid (HBJC.out.trans (xk.h.mono HBJC.out.size))
                                    clear k0 k1 k2 k3
                                    go_wp2_with fail
                                    go_roundw
                                    case rel => exact ⟨j + 1, by go_num, by omega, HBK.out⟩
                                    case measure => simp [intOf]; omega
                          · obtain rfl : j = inn.length := by omega
                            have hjj : ¬ (inn.length : Int) < (inn.length : Int) := by omega
                            go_wp2_with fail
                            go_roundw
                            case rel => exact ⟨k + 1, by go_num, by omega, HB10.out⟩
                            case measure => simp [intOf]; omega
                    · obtain rfl : k = a.length := by omega
                      have hii : ¬ (a.length : Int) < (a.length : Int) := by omega
                      go_wp2_with fail
                      refine (engawake_any _ (HT8.out.next HBR.out)).mono ?_
                      rintro e wz ⟨rfl, hbz⟩
                      have HBZ := Lib.hid ((HBW.out.trans (HBR.out.mono HBW.out.size)).trans (hbz.mono (HBW.out.trans (HBR.out.mono HBW.out.size)).size))
                      clear hbz
                      go_wp2_with fail
                      go_ret
                      exact ⟨rfl, HBZ.out⟩
        · have hne : (v != 0) = true := by simpa using hv0
          clear hv0 hra hna
          go_wp2_with fail
          refine (engawake_any _ (HT.out.next HB2.out)).mono ?_
          rintro e wz ⟨rfl, hbz⟩
          have HBZ := Lib.hid ((HB2.out).trans (hbz.mono (HB2.out).size))
          clear hbz
          go_wp2_with fail
          go_ret
          exact ⟨rfl, HBZ.out⟩
end Go.Proofs.YtndfhejfhfhbdaaGreatDoor.O
