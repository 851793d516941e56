/- The walk of the law RunesBegin. -/
import Derived.Test.YtojchifegifecaaDoorRunesJ
import Derived.Test.YtojchifegifecaaDoorRunesL
import Derived.Laws.StructEq
import Derived.WalkSmall
namespace Go.Proofs.YtojchifegifecaaDoor.R
open Go.RowKit Go.PlainAid Go.Lib

theorem refRunes_row (s : ByteArray) (w : World) (hs : s.size ≤ 1000000) (h : Tabs w) (l : List (Int × Int)) (hl : rl s = l) :
    Calls Tryd.prog 10 #[.string s] w fun e w' => ∃ ao cap, e = .returned (.slice ao l.length cap) ∧ (∀ j, j < l.length → ∃ g, ao = some ⟨g, 0, none⟩ ∧ g < w'.heap.size ∧ ∀ j, j < l.length * 2 → w'.cell? ⟨g, j, none⟩ = (cellsR l)[j]?) ∧ Below w.heap.size w w' ∧ Tabs w' := by
  subst hl
  refine (runes_any s w hs).mono fun e w' hh => ?_
  obtain ⟨v, rfl, hown, hb⟩ := hh
  obtain ⟨ao, cap, rfl, _, hv⟩ := own_view hown
  refine ⟨ao, cap, rfl, fun j hj => ?_, hb, h.next hb⟩
  obtain ⟨g, rfl, _, hg, hc⟩ := hv (by omega)
  exact ⟨g, rfl, hg, hc⟩

set_option maxRecDepth 100000 in
set_option maxHeartbeats 2000000 in
theorem begin_main (s t : ByteArray) (w0 : World) (h : Tabs w0) (hs : s.size ≤ 200) (ht : t.size ≤ 200) (hk : beginV s = true) (hb : beginV t = true) :
    Calls Tryd.prog 4 #[.string s, .string t] w0 fun e w' => e = .returned (.bool true) ∧ Below w0.heap.size w0 w' := by
  have H0 := Lib.hid h
  have B0 := Lib.hid (Below.refl w0.heap.size w0)
  have hs1 : (s.size : Int) ≤ 200 := by omega
  have ht1 : (t.size : Int) ≤ 200 := by omega
  have HS := Lib.hid (show s.size ≤ 1000000 by omega)
  have HT := Lib.hid (show t.size ≤ 1000000 by omega)
  have HKn := Lib.hid (show errV (beginV s) = 0 by rw [hk]; rfl)
  have HBn := Lib.hid (show errV (beginV t) = 0 by rw [hb]; rfl)
  have hok : (rl t).all okR = true := by unfold beginV cleanV at hb; rw [Bool.and_eq_true] at hb; exact hb.2
  have hlaw := begins_runes s t hok
  have hls := rl_length s
  have hlt := rl_length t
  obtain ⟨v, hv⟩ : ∃ v, Lib.hasPrefix s.data.toList t.data.toList = v := ⟨_, rfl⟩
  obtain ⟨a, ha⟩ : ∃ a, rl s = a := ⟨_, rfl⟩
  obtain ⟨b, hb'⟩ : ∃ b, rl t = b := ⟨_, rfl⟩
  have HV := Lib.hid hv
  have HA := Lib.hid ha
  have HB := Lib.hid hb'
  rw [hv, ha, hb'] at hlaw
  rw [ha] at hls
  rw [hb'] at hlt
  have HLW := Lib.hid hlaw
  clear h hk hb hv ha hb' hlaw hok
  go_enter Tryd.func4, Tryd.ntmps4
  go_wp2_with fail
  refine (begin_t s w0 HS.out H0.out 0 HKn.out).mono ?_
  rintro e w1 ⟨rfl, b1, T1⟩
  have B1 := Lib.hid (B0.out.trans (b1.mono B0.out.size))
  have H1 := Lib.hid T1
  clear b1 T1
  go_wp2_with fail
  refine (begin_t t w1 HT.out H1.out 0 HBn.out).mono ?_
  rintro e w2 ⟨rfl, b2, T2⟩
  have B2 := Lib.hid (B1.out.trans (b2.mono B1.out.size))
  have H2 := Lib.hid T2
  clear b2 T2
  go_wp2_with fail
  refine (refRunes_row s w2 HS.out H2.out a HA.out).mono ?_
  rintro e w3 ⟨aa, ca, rfl, ra, b3, T3⟩
  have B3 := Lib.hid (B2.out.trans (b3.mono B2.out.size))
  have H3 := Lib.hid T3
  have RA := Lib.hid ra
  clear b3 T3 ra
  go_wp2_with fail
  refine (refRunes_row t w3 HT.out H3.out b HB.out).mono ?_
  rintro e w4 ⟨ab, cb, rfl, rb, b4, T4⟩
  have B4 := Lib.hid (B3.out.trans (b4.mono B3.out.size))
  have H4 := Lib.hid T4
  have RB := Lib.hid rb
  have RA4 := Lib.hid (show ∀ j, j < a.length → ∃ g, aa = some ⟨g, 0, none⟩ ∧ g < w4.heap.size ∧ ∀ j, j < a.length * 2 → w4.cell? ⟨g, j, none⟩ = (cellsR a)[j]? from fun j hj => by
    obtain ⟨g, e1, e2, e3⟩ := RA.out j hj
    exact ⟨g, e1, Nat.lt_of_lt_of_le e2 b4.size, fun j hj => (b4.cell (p := ⟨g, j, none⟩) e2).trans (e3 j hj)⟩)
  clear b4 T4 rb RA
  go_wp2_with fail
  have RB4 := RB
  clear RB
  obtain ⟨z0, hz0⟩ : ∃ z0, decide (b.length ≤ a.length) = z0 := ⟨_, rfl⟩
  rw [hz0]
  go_loopw [7, 8] (fun is i wr => ∃ (k : Nat) (z : Bool), Below w4.heap.size w4 wr ∧ is = .bool z ∧ i = .int .i64 k ∧ k ≤ b.length ∧ (z = true → b.length ≤ a.length ∧ b.take k = a.take k) ∧ (z = false → ¬ b <+: a)) (fun is i _ => b.length - (RowKit.intOf i).toNat)
  case atStart =>
    refine ⟨0, z0, Below.refl _ _, rfl, rfl, Nat.zero_le _, fun hz => ⟨?_, rfl⟩, fun hz hp => ?_⟩
    · rw [hz] at hz0; exact of_decide_eq_true hz0
    · rw [hz] at hz0; exact of_decide_eq_false hz0 hp.length_le
  case round =>
    obtain ⟨k, z, hbel, rfl, rfl, hk, hyes, hno⟩ := hrel
    have H4 := Lib.hid (H4.out.next hbel)
    have B4 := Lib.hid (B4.out.trans (hbel.mono B4.out.size))
    have HBL := Lib.hid hbel
    clear hbel
    have HY := Lib.hid hyes
    have HN := Lib.hid hno
    clear hyes hno hz0
    cases z with
    | false =>
      have HV0 := Lib.hid (show v = false by
        cases hv : v with
        | false => rfl
        | true => exact absurd (HLW.out.1 hv) (HN.out rfl))
      by_cases hlt2 : k < b.length
      · go_wp2_with fail
        refine (begins_t s t wr false (HV.out.trans HV0.out)).mono ?_
        rintro e wx ⟨rfl, rfl⟩
        go_wp2_with fail
        refine (awake_any wr H4.out).mono ?_
        rintro e w5 ⟨rfl, b5⟩
        have B5 := Lib.hid (B4.out.trans (b5.mono B4.out.size))
        clear b5
        go_wp2_with fail
        go_ret
        exact ⟨rfl, B5.out⟩
      · go_wp2_with fail
        refine (begins_t s t wr false (HV.out.trans HV0.out)).mono ?_
        rintro e wx ⟨rfl, rfl⟩
        go_wp2_with fail
        refine (awake_any wr H4.out).mono ?_
        rintro e w5 ⟨rfl, b5⟩
        have B5 := Lib.hid (B4.out.trans (b5.mono B4.out.size))
        clear b5
        go_wp2_with fail
        go_ret
        exact ⟨rfl, B5.out⟩
    | true =>
      by_cases hlt2 : k < b.length
      · have hle := (HY.out rfl).1
        have HY2 := Lib.hid (HY.out rfl).2
        clear HN HY
        obtain ⟨ga, rfl, hga, hca⟩ := RA4.out k (by omega)
        obtain ⟨gb, rfl, hgb, hcb⟩ := RB4.out k (by omega)
        have hg1 := cellsR_get a k (by omega)
        have hg2 := cellsR_get b k (by omega)
        have c1 := ((HBL.out.cell (p := ⟨ga, k * 2, none⟩) hga).trans (hca (k * 2) (by omega))).trans hg1.1
        have c2 := ((HBL.out.cell (p := ⟨ga, k * 2 + 1, none⟩) hga).trans (hca (k * 2 + 1) (by omega))).trans hg1.2
        have d1 := ((HBL.out.cell (p := ⟨gb, k * 2, none⟩) hgb).trans (hcb (k * 2) (by omega))).trans hg2.1
        have d2 := ((HBL.out.cell (p := ⟨gb, k * 2 + 1, none⟩) hgb).trans (hcb (k * 2 + 1) (by omega))).trans hg2.2
        have HT1 := Lib.hid (show b.take (k + 1) = b.take k ++ [b[k]] by rw [List.take_succ_eq_append_getElem hlt2])
        have HT2 := Lib.hid (show a.take (k + 1) = a.take k ++ [a[k]] by rw [List.take_succ_eq_append_getElem (by omega)])
        have HP := Lib.hid (show b <+: a → b[k] = a[k] from fun hp => by
          have := List.prefix_iff_getElem?.1 hp k hlt2
          rw [List.getElem?_eq_getElem (by omega)] at this
          exact (Option.some.inj this).symm)
        obtain ⟨p, hp⟩ : ∃ p, a[k] = p := ⟨_, rfl⟩
        obtain ⟨q, hq⟩ : ∃ q, b[k] = q := ⟨_, rfl⟩
        rw [hp] at c1 c2 HT2 HP
        rw [hq] at d1 d2 HT1 HP
        clear hp hq hca hcb hg1 hg2
        by_cases e1 : p.1 = q.1
        · by_cases e2 : p.2 = q.2
          · have E1 : (p.1 == q.1) = true := beq_true' e1
            have E2 : (p.2 == q.2) = true := beq_true' e2
            have HE := Lib.hid (show p = q from Prod.ext e1 e2)
            clear e1 e2
            go_wp2_with fail
            go_quiet (fail)
            go_wp2_with fail
            go_round
            case rel => exact ⟨k + 1, true, HBL.out.trans ⟨rfl, rfl, rfl, Nat.le_refl _, fun _ _ => rfl⟩, rfl, by go_num, by omega, fun _ => ⟨hle, by rw [HT1.out, HT2.out, HY2.out, HE.out]⟩, fun h => absurd h (by decide)⟩
            case measure => simp [RowKit.intOf]; omega
          · have E1 : (p.1 == q.1) = true := beq_true' e1
            have E2 : (p.2 == q.2) = false := beq_false' e2
            have HE := Lib.hid (show ¬ b <+: a from fun hp => e2 (by rw [HP.out hp]))
            clear e1 e2
            go_wp2_with fail
            go_quiet (fail)
            go_wp2_with fail
            go_round
            case rel => exact ⟨k + 1, false, HBL.out.trans ⟨rfl, rfl, rfl, Nat.le_refl _, fun _ _ => rfl⟩, rfl, by go_num, by omega, fun h => absurd h (by decide), fun _ => HE.out⟩
            case measure => simp [RowKit.intOf]; omega
        · have E1 : (p.1 == q.1) = false := beq_false' e1
          have HE := Lib.hid (show ¬ b <+: a from fun hp => e1 (by rw [HP.out hp]))
          clear e1
          go_wp2_with fail
          go_quiet (fail)
          go_wp2_with fail
          go_round
          case rel => exact ⟨k + 1, false, HBL.out.trans ⟨rfl, rfl, rfl, Nat.le_refl _, fun _ _ => rfl⟩, rfl, by go_num, by omega, fun h => absurd h (by decide), fun _ => HE.out⟩
          case measure => simp [RowKit.intOf]; omega
      · have HV1 := Lib.hid (show v = true by
          refine HLW.out.2 ?_
          obtain ⟨h1, h2⟩ := HY.out rfl
          rw [show k = b.length by omega, List.take_length] at h2
          rw [h2]; exact List.take_prefix _ _)
        go_wp2_with fail
        refine (begins_t s t wr true (HV.out.trans HV1.out)).mono ?_
        rintro e wx ⟨rfl, rfl⟩
        go_wp2_with fail
        refine (awake_any wr H4.out).mono ?_
        rintro e w5 ⟨rfl, b5⟩
        have B5 := Lib.hid (B4.out.trans (b5.mono B4.out.size))
        clear b5
        go_wp2_with fail
        go_ret
        exact ⟨rfl, B5.out⟩

set_option maxRecDepth 100000 in
set_option maxHeartbeats 400000 in
theorem begin_law (s t : ByteArray) (w : World) (h : Tabs w) :
    Calls Tryd.prog 4 #[.string s, .string t] w fun e w' => e = .returned (.bool true) ∧ Below w.heap.size w w' := by
  by_cases hs : s.size ≤ 200
  · by_cases ht : t.size ≤ 200
    · have hs1 : (s.size : Int) ≤ 200 := by omega
      have ht1 : (t.size : Int) ≤ 200 := by omega
      have HS := Lib.hid (show s.size ≤ 1000000 by omega)
      have HT := Lib.hid (show t.size ≤ 1000000 by omega)
      have B0 := Lib.hid (Below.refl w.heap.size w)
      cases hk : beginV s with
      | true => cases hb : beginV t with
        | true => exact begin_main s t w h hs ht hk hb
        | false =>
          have H0 := Lib.hid h
          have HKn := Lib.hid (show errV (beginV s) = 0 by rw [hk]; rfl)
          have HBn := Lib.hid (show errV (beginV t) = 11 by rw [hb]; rfl)
          clear h hk hb
          go_enter Tryd.func4, Tryd.ntmps4
          go_wp2_with fail
          refine (begin_t s w HS.out H0.out 0 HKn.out).mono ?_
          rintro e w1 ⟨rfl, b1, T1⟩
          have B1 := Lib.hid (B0.out.trans (b1.mono B0.out.size))
          have H1 := Lib.hid T1
          clear b1 T1
          go_wp2_with fail
          refine (begin_t t w1 HT.out H1.out 11 HBn.out).mono ?_
          rintro e w2 ⟨rfl, b2, T2⟩
          have B2 := Lib.hid (B1.out.trans (b2.mono B1.out.size))
          have H2 := Lib.hid T2
          clear b2 T2
          go_wp2_with fail
          refine (awake_any w2 H2.out).mono ?_
          rintro e w5 ⟨rfl, b5⟩
          have B5 := Lib.hid (B2.out.trans (b5.mono B2.out.size))
          clear b5
          go_wp2_with fail
          go_ret
          exact ⟨rfl, B5.out⟩
      | false =>
        have H0 := Lib.hid h
        have HKn := Lib.hid (show errV (beginV s) = 11 by rw [hk]; rfl)
        clear h hk
        go_enter Tryd.func4, Tryd.ntmps4
        go_wp2_with fail
        refine (begin_t s w HS.out H0.out 11 HKn.out).mono ?_
        rintro e w1 ⟨rfl, b1, T1⟩
        have B1 := Lib.hid (B0.out.trans (b1.mono B0.out.size))
        have H1 := Lib.hid T1
        clear b1 T1
        go_wp2_with fail
        refine (awake_any w1 H1.out).mono ?_
        rintro e w5 ⟨rfl, b5⟩
        have B5 := Lib.hid (B1.out.trans (b5.mono B1.out.size))
        clear b5
        go_wp2_with fail
        go_ret
        exact ⟨rfl, B5.out⟩
    · have hs1 : ¬ (200 : Int) < (s.size : Int) := by omega
      have ht1 : (200 : Int) < (t.size : Int) := by omega
      have HA := Lib.hid (awake_any w h)
      clear h hs ht
      go_enter Tryd.func4, Tryd.ntmps4
      go_wp2_with fail
      refine HA.out.mono ?_
      rintro e w1 ⟨rfl, b1⟩
      go_wp2_with fail
      go_ret
      exact ⟨rfl, b1⟩
  · have hs1 : (200 : Int) < (s.size : Int) := by omega
    have HA := Lib.hid (awake_any w h)
    clear h hs
    go_enter Tryd.func4, Tryd.ntmps4
    go_wp2_with fail
    refine HA.out.mono ?_
    rintro e w1 ⟨rfl, b1⟩
    go_wp2_with fail
    go_ret
    exact ⟨rfl, b1⟩
end Go.Proofs.YtojchifegifecaaDoor.R
