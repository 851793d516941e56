/- The walk of the law RunesJoin. -/
import Derived.Test.YtojchifegifecaaDoorRunesJ
import Derived.Test.YtojchifegifecaaDoorRunesN
import Derived.Deep.RegionHeld3
import Derived.IntWalk
namespace Go.Proofs.YtojchifegifecaaDoor.R
open Go.RowKit Go.PlainAid Go.Lib

theorem beginV_all {s : ByteArray} (h : beginV s = true) : (rl s).all okR = true := by unfold beginV cleanV at h; rw [Bool.and_eq_true] at h; exact h.2
theorem beginV_cat {s t : ByteArray} (hs : beginV s = true) (ht : beginV t = true) : beginV (s ++ t) = decide ((rl s).length + (rl t).length ≤ 32) := by
  unfold beginV cleanV
  rw [rl_cat s t (beginV_all hs), List.all_append, beginV_all hs, beginV_all ht, List.length_append]
  simp
theorem arr_size (l : List UInt8) : (⟨l.toArray⟩ : ByteArray).size = l.length := by show l.toArray.size = _; simp
theorem join_ends (s t : ByteArray) (n : Nat) (hn : (quoteL s).length = n) : (⟨(quoteL s).toArray⟩ : ByteArray).extract 0 (n - 1) ++ (⟨(quoteL t).toArray⟩ : ByteArray).extract 1 (quoteL t).length = ⟨(([34] ++ qf s 0) ++ (qf t 0 ++ [34])).toArray⟩ := by
  have e1 : (⟨(quoteL s).toArray⟩ : ByteArray).extract 0 (n - 1) = ⟨([34] ++ qf s 0).toArray⟩ := by
    subst hn
    apply ByteArray.ext
    have := Lib.extract_data ⟨(quoteL s).toArray⟩ 0 ((quoteL s).length - 1)
    apply Array.toList_inj.1
    rw [this, quoteL_qf]
    simp
  have e2 : (⟨(quoteL t).toArray⟩ : ByteArray).extract 1 (quoteL t).length = ⟨(qf t 0 ++ [34]).toArray⟩ := by
    apply ByteArray.ext
    have := Lib.extract_data ⟨(quoteL t).toArray⟩ 1 (quoteL t).length
    apply Array.toList_inj.1
    rw [this, quoteL_qf]
    simp
    rw [List.take_of_length_le (by simp)]
  rw [e1, e2]
  apply ByteArray.ext
  simp

theorem quote_b (s : ByteArray) (w : World) (hs : s.size ≤ 1000000) (h : Tabs w) (Q : ByteArray) (hq : ⟨(quoteL s).toArray⟩ = Q) :
    Calls Tryd.prog 17 #[.string s] w fun e w' => e = .returned (.string Q) ∧ Below w.heap.size w w' ∧ Tabs w' := by
  subst hq; exact quote_t s w hs h _ rfl
theorem join_b (s t : ByteArray) (hs : (rl s).all okR = true) : (⟨(quoteL s).toArray⟩ : ByteArray).extract 0 ((⟨(quoteL s).toArray⟩ : ByteArray).size - 1) ++ (⟨(quoteL t).toArray⟩ : ByteArray).extract 1 (⟨(quoteL t).toArray⟩ : ByteArray).size = ⟨(quoteL (s ++ t)).toArray⟩ := by
  rw [arr_size, arr_size, join_ends s t _ rfl, quoteL_cat s t hs]
set_option maxRecDepth 100000 in
set_option maxHeartbeats 2000000 in
theorem join_main (s t : ByteArray) (w0 : World) (h : Tabs w0) (hs : s.size ≤ 200) (ht : t.size ≤ 200) (hk : beginV s = true) (hb : beginV t = true) :
    Calls Tryd.prog 5 #[.string s, .string t] w0 fun e w' => e = .returned (.bool true) ∧ Below w0.heap.size w0 w' := by
  have H0 := Lib.hid h
  have B0 := Lib.hid (Below.refl w0.heap.size w0)
  have hs1 : (s.size : Int) ≤ 200 := by omega
  have ht1 : (t.size : Int) ≤ 200 := by omega
  have HS := Lib.hid (show s.size ≤ 1000000 by omega)
  have HT := Lib.hid (show t.size ≤ 1000000 by omega)
  have HKn := Lib.hid (show errV (beginV s) = 0 by rw [hk]; rfl)
  have HBn := Lib.hid (show errV (beginV t) = 0 by rw [hb]; rfl)
  have HU := Lib.hid (show (s ++ t).size ≤ 1000000 by rw [cat_size]; omega)
  have hls := rl_length s
  have hlt := rl_length t
  have hql := quoteL_len2 s 200 hs
  have hqk := quoteL_len2 t 200 ht
  have hq2 := quoteL_len s
  have hq3 := quoteL_len t
  rw [← arr_size] at hql hqk hq2 hq3
  have hjoin := join_b s t (beginV_all hk)
  have hbc := beginV_cat hk hb
  have hrc := congrArg List.length (rl_cat s t (beginV_all hk))
  rw [List.length_append] at hrc
  obtain ⟨m, hm⟩ : ∃ m, (rl s).length = m := ⟨_, rfl⟩
  obtain ⟨n, hn⟩ : ∃ n, (rl t).length = n := ⟨_, rfl⟩
  rw [hm, hn] at hrc hbc
  rw [hm] at hls
  rw [hn] at hlt
  obtain ⟨q, hq⟩ : ∃ q : ByteArray, ⟨(quoteL s).toArray⟩ = q := ⟨_, rfl⟩
  obtain ⟨p, hp⟩ : ∃ p : ByteArray, ⟨(quoteL t).toArray⟩ = p := ⟨_, rfl⟩
  obtain ⟨u, hu⟩ : ∃ u : ByteArray, ⟨(quoteL (s ++ t)).toArray⟩ = u := ⟨_, rfl⟩
  rw [hq] at hjoin hql hq2
  rw [hp] at hjoin hqk hq3
  rw [hu] at hjoin
  have HM := Lib.hid hm
  have HN := Lib.hid hn
  have HQ := Lib.hid hq
  have HP := Lib.hid hp
  have HBC := Lib.hid hbc
  have HRC := Lib.hid hrc
  have HU2 := Lib.hid hu
  have HJ := Lib.hid hjoin
  have HBG := Lib.hid (begins_cat s t)
  have hq2' : 2 ≤ q.size := by omega
  have hq3' : 2 ≤ p.size := by omega
  have hq4' : q.size ≤ 2202 := by omega
  have hq5' : p.size ≤ 2202 := by omega
  clear h hk hb hm hn hq hp hu hjoin hbc hrc hq2 hq3 hql hqk
  have HW := Lib.hid (show IntKind.i64.wrap ((q.size : Int) - 1) = (q.size : Int) - 1 from IntWalk.i64_in _ ⟨by omega, by omega⟩)
  have HQ3 := Lib.hid (show ∀ W, (Tabs W ∧ Below w0.heap.size w0 W) → Calls Tryd.prog 17 #[.string (s ++ t)] W fun e w' => e = .returned (.string u) ∧ (Tabs w' ∧ Below w0.heap.size w0 w') from
    fun W hW => (quote_b (s ++ t) W HU.out hW.1 u HU2.out).mono fun e w' hh => ⟨hh.1, hh.2.2, hW.2.trans (hh.2.1.mono hW.2.size)⟩)
  have HA3 := Lib.hid (show ∀ W, (Tabs W ∧ Below w0.heap.size w0 W) → Calls Tryd.prog 8 #[] W fun e w' => e = .returned (.bool true) ∧ (Tabs w' ∧ Below w0.heap.size w0 w') from
    fun W hW => (awake_any W hW.1).mono fun e w' hh => ⟨hh.1, hW.1.next hh.2, hW.2.trans (hh.2.mono hW.2.size)⟩)
  obtain ⟨Q1, hQ1⟩ : ∃ Q1, q.extract 0 (q.size - 1) = Q1 := ⟨_, rfl⟩
  obtain ⟨P1, hP1⟩ : ∃ P1, p.extract 1 p.size = P1 := ⟨_, rfl⟩
  have hS1 : ∀ W, (Instr.slice 9 (.string q) none (some (.int .i64 ((q.size : Int) - 1))) none).run Tryd.prog W = .ok (.string Q1) W := fun W => by
    rw [run_slice_string_h W 9 q Tryd.underlying9 .i64 _ (by omega) (by omega), show ((q.size : Int) - 1).toNat = q.size - 1 by omega, hQ1]
  have hS2 : ∀ W, (Instr.slice 9 (.string p) (some (.int .i64 1)) none none).run Tryd.prog W = .ok (.string P1) W := fun W => by
    rw [run_slice_string_l W 9 p Tryd.underlying9 .i64 _ (by omega) (by omega), show ((1 : Int)).toNat = 1 from rfl, hP1]
  have hA1 : ∀ W, (Op.stringOp .add s t).run Tryd.prog W = .ok (.string (s ++ t)) W := fun W => run_string_add_sum W s t (by omega)
  have hA2 : ∀ W, (Op.stringOp .add Q1 P1).run Tryd.prog W = .ok (.string u) W := fun W => by
    have hz1 : Q1.size ≤ q.size := by rw [← hQ1]; simp
    have hz2 : P1.size ≤ p.size := by rw [← hP1]; simp
    rw [run_string_add_sum W Q1 P1 (by omega), ← hQ1, ← hP1, HJ.out]
  have HS1 := Lib.hid hS1
  have HS2 := Lib.hid hS2
  have HA1 := Lib.hid hA1
  have HA2 := Lib.hid hA2
  clear hQ1 hP1 hS1 hS2 hA1 hA2
  go_enter Tryd.func5, Tryd.ntmps5
  go_wp2_with fail
  refine (begin_t s w0 HS.out H0.out 0 HKn.out).mono ?_
  rintro e w1 ⟨rfl, b1, T1⟩
  have B1 := Lib.hid (B0.out.trans (b1.mono B0.out.size))
  have H1 := Lib.hid T1
  clear b1 T1
  go_wp2_with fail
  refine (begin_t t w1 HT.out H1.out 0 HBn.out).mono ?_
  rintro e w2 ⟨rfl, b2, T2⟩
  have B2 := Lib.hid (B1.out.trans (b2.mono B1.out.size))
  have H2 := Lib.hid T2
  clear b2 T2
  go_wp2_with fail
  refine (count_t s w2 HS.out H2.out m HM.out).mono ?_
  rintro e w3 ⟨rfl, b3, T3⟩
  have B3 := Lib.hid (B2.out.trans (b3.mono B2.out.size))
  have H3 := Lib.hid T3
  clear b3 T3
  go_wp2_with fail
  refine (count_t t w3 HT.out H3.out n HN.out).mono ?_
  rintro e w4 ⟨rfl, b4, T4⟩
  have B4 := Lib.hid (B3.out.trans (b4.mono B3.out.size))
  have H4 := Lib.hid T4
  clear b4 T4
  go_wp2_with fail
  refine (count_t (s ++ t) w4 HU.out H4.out (m + n) HRC.out).mono ?_
  rintro e w5 ⟨rfl, b5, T5⟩
  have B5 := Lib.hid (B4.out.trans (b5.mono B4.out.size))
  have H5 := Lib.hid T5
  clear b5 T5
  go_wp2_with fail
  refine (begins_t (s ++ t) s w5 true HBG.out).mono ?_
  rintro e wx ⟨rfl, rfl⟩
  by_cases h32 : m + n ≤ 32
  · have HVV := Lib.hid (show errV (beginV (s ++ t)) = 0 by rw [HBC.out, decide_eq_true h32]; rfl)
    have h32' : (m : Int) + (n : Int) ≤ 32 := by omega
    go_wp2_with fail
    refine (begin_t (s ++ t) w5 HU.out H5.out 0 HVV.out).mono ?_
    rintro e w6 ⟨rfl, b6, T6⟩
    have B6 := Lib.hid (B5.out.trans (b6.mono B5.out.size))
    have H6 := Lib.hid T6
    clear b6 T6
    go_wp2_with fail
    refine (quote_b s w6 HS.out H6.out q HQ.out).mono ?_
    rintro e w7 ⟨rfl, b7, T7⟩
    have B7 := Lib.hid (B6.out.trans (b7.mono B6.out.size))
    have H7 := Lib.hid T7
    clear b7 T7
    go_wp2_with fail
    refine (quote_b t w7 HT.out H7.out p HP.out).mono ?_
    rintro e w8 ⟨rfl, b8, T8⟩
    have B8 := Lib.hid (B7.out.trans (b8.mono B7.out.size))
    have H8 := Lib.hid T8
    clear b8 T8
    go_wp2_with fail
    have k1 := HS1.out
    have k2 := HS2.out
    have k3 := HA1.out
    have k5 := HA2.out
    have k4 := HW.out
    go_region_held3 (fun w' => Tabs w' ∧ Below w0.heap.size w0 w')
      (first | exact ⟨H8.out.next (Below.refl _ _).drew, B8.out.drew⟩ | exact h9)
      ((first
        | (go_at_call 17; refine (HQ3.out _ (by assumption)).mono ?_; rintro e w9 ⟨rfl, h9⟩)
        | (go_at_call 8; refine (HA3.out _ (by assumption)).mono ?_; rintro e w9 ⟨rfl, h9⟩)))
    all_goals
      go_wp2_with fail
      go_ret
      exact ⟨rfl, h9.2⟩
  · have HVV := Lib.hid (show errV (beginV (s ++ t)) = 11 by rw [HBC.out, decide_eq_false h32]; rfl)
    have h32' : ¬ (m : Int) + (n : Int) ≤ 32 := by omega
    go_wp2_with fail
    refine (begin_t (s ++ t) w5 HU.out H5.out 11 HVV.out).mono ?_
    rintro e w6 ⟨rfl, b6, T6⟩
    have B6 := Lib.hid (B5.out.trans (b6.mono B5.out.size))
    have H6 := Lib.hid T6
    clear b6 T6
    go_wp2_with fail
    refine (quote_b s w6 HS.out H6.out q HQ.out).mono ?_
    rintro e w7 ⟨rfl, b7, T7⟩
    have B7 := Lib.hid (B6.out.trans (b7.mono B6.out.size))
    have H7 := Lib.hid T7
    clear b7 T7
    go_wp2_with fail
    refine (quote_b t w7 HT.out H7.out p HP.out).mono ?_
    rintro e w8 ⟨rfl, b8, T8⟩
    have B8 := Lib.hid (B7.out.trans (b8.mono B7.out.size))
    have H8 := Lib.hid T8
    clear b8 T8
    go_wp2_with fail
    have k1 := HS1.out
    have k2 := HS2.out
    have k3 := HA1.out
    have k5 := HA2.out
    have k4 := HW.out
    go_region_held3 (fun w' => Tabs w' ∧ Below w0.heap.size w0 w')
      (first | exact ⟨H8.out.next (Below.refl _ _).drew, B8.out.drew⟩ | exact h9)
      ((first
        | (go_at_call 17; refine (HQ3.out _ (by assumption)).mono ?_; rintro e w9 ⟨rfl, h9⟩)
        | (go_at_call 8; refine (HA3.out _ (by assumption)).mono ?_; rintro e w9 ⟨rfl, h9⟩)))
    all_goals
      go_wp2_with fail
      go_ret
      exact ⟨rfl, h9.2⟩

set_option maxRecDepth 100000 in
set_option maxHeartbeats 400000 in
theorem join_law (s t : ByteArray) (w : World) (h : Tabs w) :
    Calls Tryd.prog 5 #[.string s, .string t] w fun e w' => e = .returned (.bool true) ∧ Below w.heap.size w w' := by
  by_cases hs : s.size ≤ 200
  · by_cases ht : t.size ≤ 200
    · have hs1 : (s.size : Int) ≤ 200 := by omega
      have ht1 : (t.size : Int) ≤ 200 := by omega
      have HS := Lib.hid (show s.size ≤ 1000000 by omega)
      have HT := Lib.hid (show t.size ≤ 1000000 by omega)
      have B0 := Lib.hid (Below.refl w.heap.size w)
      cases hk : beginV s with
      | true => cases hb : beginV t with
        | true => exact join_main s t w h hs ht hk hb
        | false =>
          have H0 := Lib.hid h
          have HKn := Lib.hid (show errV (beginV s) = 0 by rw [hk]; rfl)
          have HBn := Lib.hid (show errV (beginV t) = 11 by rw [hb]; rfl)
          clear h hk hb
          go_enter Tryd.func5, Tryd.ntmps5
          go_wp2_with fail
          refine (begin_t s w HS.out H0.out 0 HKn.out).mono ?_
          rintro e w1 ⟨rfl, b1, T1⟩
          have B1 := Lib.hid (B0.out.trans (b1.mono B0.out.size))
          have H1 := Lib.hid T1
          clear b1 T1
          go_wp2_with fail
          refine (begin_t t w1 HT.out H1.out 11 HBn.out).mono ?_
          rintro e w2 ⟨rfl, b2, T2⟩
          have B2 := Lib.hid (B1.out.trans (b2.mono B1.out.size))
          have H2 := Lib.hid T2
          clear b2 T2
          go_wp2_with fail
          refine (awake_any w2 H2.out).mono ?_
          rintro e w5 ⟨rfl, b5⟩
          have B5 := Lib.hid (B2.out.trans (b5.mono B2.out.size))
          clear b5
          go_wp2_with fail
          go_ret
          exact ⟨rfl, B5.out⟩
      | false =>
        have H0 := Lib.hid h
        have HKn := Lib.hid (show errV (beginV s) = 11 by rw [hk]; rfl)
        clear h hk
        go_enter Tryd.func5, Tryd.ntmps5
        go_wp2_with fail
        refine (begin_t s w HS.out H0.out 11 HKn.out).mono ?_
        rintro e w1 ⟨rfl, b1, T1⟩
        have B1 := Lib.hid (B0.out.trans (b1.mono B0.out.size))
        have H1 := Lib.hid T1
        clear b1 T1
        go_wp2_with fail
        refine (awake_any w1 H1.out).mono ?_
        rintro e w5 ⟨rfl, b5⟩
        have B5 := Lib.hid (B1.out.trans (b5.mono B1.out.size))
        clear b5
        go_wp2_with fail
        go_ret
        exact ⟨rfl, B5.out⟩
    · have hs1 : ¬ (200 : Int) < (s.size : Int) := by omega
      have ht1 : (200 : Int) < (t.size : Int) := by omega
      have HA := Lib.hid (awake_any w h)
      clear h hs ht
      go_enter Tryd.func5, Tryd.ntmps5
      go_wp2_with fail
      refine HA.out.mono ?_
      rintro e w1 ⟨rfl, b1⟩
      go_wp2_with fail
      go_ret
      exact ⟨rfl, b1⟩
  · have hs1 : (200 : Int) < (s.size : Int) := by omega
    have HA := Lib.hid (awake_any w h)
    clear h hs
    go_enter Tryd.func5, Tryd.ntmps5
    go_wp2_with fail
    refine HA.out.mono ?_
    rintro e w1 ⟨rfl, b1⟩
    go_wp2_with fail
    go_ret
    exact ⟨rfl, b1⟩
end Go.Proofs.YtojchifegifecaaDoor.R
