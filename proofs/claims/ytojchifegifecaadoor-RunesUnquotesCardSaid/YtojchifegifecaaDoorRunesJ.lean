/- The walk of the law RunesKeys. Written by genJ.py. -/
import Derived.Test.YtojchifegifecaaDoorRunesI
namespace Go.Proofs.YtojchifegifecaaDoor.R
open Go.RowKit Go.PlainAid Go.Lib

theorem refRunes_t (s : ByteArray) (w : World) (hs : s.size ≤ 1000000) (h : Tabs w) :
    Calls Tryd.prog 10 #[.string s] w fun e w' => ∃ ao cap, e = .returned (.slice ao (rl s).length cap) ∧ Below w.heap.size w w' ∧ Tabs w' := by
  refine (runes_any s w hs).mono fun e w' hh => ?_
  obtain ⟨v, rfl, hown, hb⟩ := hh
  obtain ⟨ao, cap, rfl, _, _⟩ := own_view hown
  exact ⟨ao, cap, rfl, hb, h.next hb⟩
theorem refKey_t (s : ByteArray) (w : World) (hs : s.size ≤ 1000000) (h : Tabs w) (v : Bool) (hv : keyV s = v) :
    Calls Tryd.prog 12 #[.string s] w fun e w' => e = .returned (.bool v) ∧ Below w.heap.size w w' ∧ Tabs w' := by
  subst hv
  exact (refKey_any s w hs).mono fun e w' hh => ⟨hh.1, hh.2, h.next hh.2⟩
theorem refBegin_t (s : ByteArray) (w : World) (hs : s.size ≤ 1000000) (h : Tabs w) (v : Bool) (hv : beginV s = v) :
    Calls Tryd.prog 14 #[.string s] w fun e w' => e = .returned (.bool v) ∧ Below w.heap.size w w' ∧ Tabs w' := by
  subst hv
  exact (refBeginning_any s w hs).mono fun e w' hh => ⟨hh.1, hh.2, h.next hh.2⟩
theorem begins_t (s t : ByteArray) (w : World) (v : Bool) (hv : Lib.hasPrefix s.data.toList t.data.toList = v) :
    Calls Tryd.prog 15 #[.string s, .string t] w fun e w' => e = .returned (.bool v) ∧ w = w' := by subst hv; exact begins_any s t w
theorem refBegins_t (s t : ByteArray) (w : World) (v : Bool) (hv : Lib.hasPrefix s.data.toList t.data.toList = v) :
    Calls Tryd.prog 16 #[.string s, .string t] w fun e w' => e = .returned (.bool v) ∧ w = w' := by subst hv; exact refBegins_any s t w

set_option maxRecDepth 100000 in
set_option maxHeartbeats 2000000 in
theorem keys_true_true (s t : ByteArray) (w0 : World) (h : Tabs w0) (hs : s.size ≤ 1000) (ht : t.size ≤ 1000) (hk : keyV s = true) (hb : beginV s = true) :
    Calls Tryd.prog 3 #[.string s, .string t] w0 fun e w' => e = .returned (.bool true) ∧ Below w0.heap.size w0 w' := by
  have H0 := Lib.hid h
  have B0 := Lib.hid (Below.refl w0.heap.size w0)
  have HK := Lib.hid hk
  have HB := Lib.hid hb
  have hs1 : (s.size : Int) ≤ 1000 := by omega
  have ht1 : (t.size : Int) ≤ 1000 := by omega
  have HS := Lib.hid (show s.size ≤ 1000000 by omega)
  have HKn := Lib.hid (show errV (keyV s) = 0 by rw [hk]; rfl)
  have HBn := Lib.hid (show errV (beginV s) = 0 by rw [hb]; rfl)
  have hl := rl_length s
  obtain ⟨n, hn⟩ : ∃ n, (rl s).length = n := ⟨_, rfl⟩
  obtain ⟨v, hv⟩ : ∃ v, Lib.hasPrefix s.data.toList t.data.toList = v := ⟨_, rfl⟩
  have HN := Lib.hid hn
  have HV := Lib.hid hv
  have hR := refRunes_t s
  rw [hn] at hR hl
  have HR := Lib.hid hR
  clear h hk hb hn hv hR
  go_enter Tryd.func3, Tryd.ntmps3
  go_wp2_with fail
  refine (count_t s w0 HS.out H0.out n HN.out).mono ?_
  rintro e w1 ⟨rfl, b1, T1⟩
  have B1 := Lib.hid (B0.out.trans (b1.mono B0.out.size))
  have H1 := Lib.hid T1
  clear b1 T1
  go_wp2_with fail
  refine (HR.out w1 HS.out H1.out).mono ?_
  rintro e w2 ⟨ao, cap, rfl, b2, T2⟩
  have B2 := Lib.hid (B1.out.trans (b2.mono B1.out.size))
  have H2 := Lib.hid T2
  clear b2 T2
  go_wp2_with fail
  refine (key_t s w2 HS.out H2.out 0 HKn.out).mono ?_
  rintro e w3 ⟨rfl, b3, T3⟩
  have B3 := Lib.hid (B2.out.trans (b3.mono B2.out.size))
  have H3 := Lib.hid T3
  clear b3 T3
  go_wp2_with fail
  refine (refKey_t s w3 HS.out H3.out _ HK.out).mono ?_
  rintro e w4 ⟨rfl, b4, T4⟩
  have B4 := Lib.hid (B3.out.trans (b4.mono B3.out.size))
  have H4 := Lib.hid T4
  clear b4 T4
  go_wp2_with fail
  refine (begin_t s w4 HS.out H4.out 0 HBn.out).mono ?_
  rintro e w5 ⟨rfl, b5, T5⟩
  have B5 := Lib.hid (B4.out.trans (b5.mono B4.out.size))
  have H5 := Lib.hid T5
  clear b5 T5
  go_wp2_with fail
  refine (refBegin_t s w5 HS.out H5.out _ HB.out).mono ?_
  rintro e w6 ⟨rfl, b6, T6⟩
  have B6 := Lib.hid (B5.out.trans (b6.mono B5.out.size))
  have H6 := Lib.hid T6
  clear b6 T6
  go_wp2_with fail
  refine (key_t s w6 HS.out H6.out 0 HKn.out).mono ?_
  rintro e w7 ⟨rfl, b7, T7⟩
  have B7 := Lib.hid (B6.out.trans (b7.mono B6.out.size))
  have H7 := Lib.hid T7
  clear b7 T7
  go_wp2_with fail
  refine (begins_t s t w7 v HV.out).mono ?_
  rintro e wx ⟨rfl, rfl⟩
  go_wp2_with fail
  refine (refBegins_t s t w7 v HV.out).mono ?_
  rintro e wx ⟨rfl, rfl⟩
  go_wp2_with fail
  refine (awake_any w7 H7.out).mono ?_
  rintro e w8 ⟨rfl, b8⟩
  have B8 := Lib.hid (B7.out.trans (b8.mono B7.out.size))
  clear b8
  go_wp2_with fail
  go_ret
  exact ⟨rfl, B8.out⟩

set_option maxRecDepth 100000 in
set_option maxHeartbeats 2000000 in
theorem keys_true_false (s t : ByteArray) (w0 : World) (h : Tabs w0) (hs : s.size ≤ 1000) (ht : t.size ≤ 1000) (hk : keyV s = true) (hb : beginV s = false) :
    Calls Tryd.prog 3 #[.string s, .string t] w0 fun e w' => e = .returned (.bool true) ∧ Below w0.heap.size w0 w' := by
  have H0 := Lib.hid h
  have B0 := Lib.hid (Below.refl w0.heap.size w0)
  have HK := Lib.hid hk
  have HB := Lib.hid hb
  have hs1 : (s.size : Int) ≤ 1000 := by omega
  have ht1 : (t.size : Int) ≤ 1000 := by omega
  have HS := Lib.hid (show s.size ≤ 1000000 by omega)
  have HKn := Lib.hid (show errV (keyV s) = 0 by rw [hk]; rfl)
  have HBn := Lib.hid (show errV (beginV s) = 11 by rw [hb]; rfl)
  have hl := rl_length s
  obtain ⟨n, hn⟩ : ∃ n, (rl s).length = n := ⟨_, rfl⟩
  obtain ⟨v, hv⟩ : ∃ v, Lib.hasPrefix s.data.toList t.data.toList = v := ⟨_, rfl⟩
  have HN := Lib.hid hn
  have HV := Lib.hid hv
  have hR := refRunes_t s
  rw [hn] at hR hl
  have HR := Lib.hid hR
  clear h hk hb hn hv hR
  go_enter Tryd.func3, Tryd.ntmps3
  go_wp2_with fail
  refine (count_t s w0 HS.out H0.out n HN.out).mono ?_
  rintro e w1 ⟨rfl, b1, T1⟩
  have B1 := Lib.hid (B0.out.trans (b1.mono B0.out.size))
  have H1 := Lib.hid T1
  clear b1 T1
  go_wp2_with fail
  refine (HR.out w1 HS.out H1.out).mono ?_
  rintro e w2 ⟨ao, cap, rfl, b2, T2⟩
  have B2 := Lib.hid (B1.out.trans (b2.mono B1.out.size))
  have H2 := Lib.hid T2
  clear b2 T2
  go_wp2_with fail
  refine (key_t s w2 HS.out H2.out 0 HKn.out).mono ?_
  rintro e w3 ⟨rfl, b3, T3⟩
  have B3 := Lib.hid (B2.out.trans (b3.mono B2.out.size))
  have H3 := Lib.hid T3
  clear b3 T3
  go_wp2_with fail
  refine (refKey_t s w3 HS.out H3.out _ HK.out).mono ?_
  rintro e w4 ⟨rfl, b4, T4⟩
  have B4 := Lib.hid (B3.out.trans (b4.mono B3.out.size))
  have H4 := Lib.hid T4
  clear b4 T4
  go_wp2_with fail
  refine (begin_t s w4 HS.out H4.out 11 HBn.out).mono ?_
  rintro e w5 ⟨rfl, b5, T5⟩
  have B5 := Lib.hid (B4.out.trans (b5.mono B4.out.size))
  have H5 := Lib.hid T5
  clear b5 T5
  go_wp2_with fail
  refine (refBegin_t s w5 HS.out H5.out _ HB.out).mono ?_
  rintro e w6 ⟨rfl, b6, T6⟩
  have B6 := Lib.hid (B5.out.trans (b6.mono B5.out.size))
  have H6 := Lib.hid T6
  clear b6 T6
  go_wp2_with fail
  refine (key_t s w6 HS.out H6.out 0 HKn.out).mono ?_
  rintro e w7 ⟨rfl, b7, T7⟩
  have B7 := Lib.hid (B6.out.trans (b7.mono B6.out.size))
  have H7 := Lib.hid T7
  clear b7 T7
  go_wp2_with fail
  refine (begins_t s t w7 v HV.out).mono ?_
  rintro e wx ⟨rfl, rfl⟩
  go_wp2_with fail
  refine (refBegins_t s t w7 v HV.out).mono ?_
  rintro e wx ⟨rfl, rfl⟩
  go_wp2_with fail
  refine (awake_any w7 H7.out).mono ?_
  rintro e w8 ⟨rfl, b8⟩
  have B8 := Lib.hid (B7.out.trans (b8.mono B7.out.size))
  clear b8
  go_wp2_with fail
  go_ret
  exact ⟨rfl, B8.out⟩

set_option maxRecDepth 100000 in
set_option maxHeartbeats 2000000 in
theorem keys_false_true (s t : ByteArray) (w0 : World) (h : Tabs w0) (hs : s.size ≤ 1000) (ht : t.size ≤ 1000) (hk : keyV s = false) (hb : beginV s = true) :
    Calls Tryd.prog 3 #[.string s, .string t] w0 fun e w' => e = .returned (.bool true) ∧ Below w0.heap.size w0 w' := by
  have H0 := Lib.hid h
  have B0 := Lib.hid (Below.refl w0.heap.size w0)
  have HK := Lib.hid hk
  have HB := Lib.hid hb
  have hs1 : (s.size : Int) ≤ 1000 := by omega
  have ht1 : (t.size : Int) ≤ 1000 := by omega
  have HS := Lib.hid (show s.size ≤ 1000000 by omega)
  have HKn := Lib.hid (show errV (keyV s) = 11 by rw [hk]; rfl)
  have HBn := Lib.hid (show errV (beginV s) = 0 by rw [hb]; rfl)
  have hl := rl_length s
  obtain ⟨n, hn⟩ : ∃ n, (rl s).length = n := ⟨_, rfl⟩
  obtain ⟨v, hv⟩ : ∃ v, Lib.hasPrefix s.data.toList t.data.toList = v := ⟨_, rfl⟩
  have HN := Lib.hid hn
  have HV := Lib.hid hv
  have hR := refRunes_t s
  rw [hn] at hR hl
  have HR := Lib.hid hR
  clear h hk hb hn hv hR
  go_enter Tryd.func3, Tryd.ntmps3
  go_wp2_with fail
  refine (count_t s w0 HS.out H0.out n HN.out).mono ?_
  rintro e w1 ⟨rfl, b1, T1⟩
  have B1 := Lib.hid (B0.out.trans (b1.mono B0.out.size))
  have H1 := Lib.hid T1
  clear b1 T1
  go_wp2_with fail
  refine (HR.out w1 HS.out H1.out).mono ?_
  rintro e w2 ⟨ao, cap, rfl, b2, T2⟩
  have B2 := Lib.hid (B1.out.trans (b2.mono B1.out.size))
  have H2 := Lib.hid T2
  clear b2 T2
  go_wp2_with fail
  refine (key_t s w2 HS.out H2.out 11 HKn.out).mono ?_
  rintro e w3 ⟨rfl, b3, T3⟩
  have B3 := Lib.hid (B2.out.trans (b3.mono B2.out.size))
  have H3 := Lib.hid T3
  clear b3 T3
  go_wp2_with fail
  refine (refKey_t s w3 HS.out H3.out _ HK.out).mono ?_
  rintro e w4 ⟨rfl, b4, T4⟩
  have B4 := Lib.hid (B3.out.trans (b4.mono B3.out.size))
  have H4 := Lib.hid T4
  clear b4 T4
  go_wp2_with fail
  refine (begin_t s w4 HS.out H4.out 0 HBn.out).mono ?_
  rintro e w5 ⟨rfl, b5, T5⟩
  have B5 := Lib.hid (B4.out.trans (b5.mono B4.out.size))
  have H5 := Lib.hid T5
  clear b5 T5
  go_wp2_with fail
  refine (refBegin_t s w5 HS.out H5.out _ HB.out).mono ?_
  rintro e w6 ⟨rfl, b6, T6⟩
  have B6 := Lib.hid (B5.out.trans (b6.mono B5.out.size))
  have H6 := Lib.hid T6
  clear b6 T6
  go_wp2_with fail
  refine (key_t s w6 HS.out H6.out 11 HKn.out).mono ?_
  rintro e w7 ⟨rfl, b7, T7⟩
  have B7 := Lib.hid (B6.out.trans (b7.mono B6.out.size))
  have H7 := Lib.hid T7
  clear b7 T7
  go_wp2_with fail
  refine (key_t s w7 HS.out H7.out 11 HKn.out).mono ?_
  rintro e w8 ⟨rfl, b8, T8⟩
  have B8 := Lib.hid (B7.out.trans (b8.mono B7.out.size))
  have H8 := Lib.hid T8
  clear b8 T8
  go_wp2_with fail
  refine (begins_t s t w8 v HV.out).mono ?_
  rintro e wx ⟨rfl, rfl⟩
  go_wp2_with fail
  refine (refBegins_t s t w8 v HV.out).mono ?_
  rintro e wx ⟨rfl, rfl⟩
  go_wp2_with fail
  refine (awake_any w8 H8.out).mono ?_
  rintro e w9 ⟨rfl, b9⟩
  have B9 := Lib.hid (B8.out.trans (b9.mono B8.out.size))
  clear b9
  go_wp2_with fail
  go_ret
  exact ⟨rfl, B9.out⟩

set_option maxRecDepth 100000 in
set_option maxHeartbeats 2000000 in
theorem keys_false_false (s t : ByteArray) (w0 : World) (h : Tabs w0) (hs : s.size ≤ 1000) (ht : t.size ≤ 1000) (hk : keyV s = false) (hb : beginV s = false) :
    Calls Tryd.prog 3 #[.string s, .string t] w0 fun e w' => e = .returned (.bool true) ∧ Below w0.heap.size w0 w' := by
  have H0 := Lib.hid h
  have B0 := Lib.hid (Below.refl w0.heap.size w0)
  have HK := Lib.hid hk
  have HB := Lib.hid hb
  have hs1 : (s.size : Int) ≤ 1000 := by omega
  have ht1 : (t.size : Int) ≤ 1000 := by omega
  have HS := Lib.hid (show s.size ≤ 1000000 by omega)
  have HKn := Lib.hid (show errV (keyV s) = 11 by rw [hk]; rfl)
  have HBn := Lib.hid (show errV (beginV s) = 11 by rw [hb]; rfl)
  have hl := rl_length s
  obtain ⟨n, hn⟩ : ∃ n, (rl s).length = n := ⟨_, rfl⟩
  obtain ⟨v, hv⟩ : ∃ v, Lib.hasPrefix s.data.toList t.data.toList = v := ⟨_, rfl⟩
  have HN := Lib.hid hn
  have HV := Lib.hid hv
  have hR := refRunes_t s
  rw [hn] at hR hl
  have HR := Lib.hid hR
  clear h hk hb hn hv hR
  go_enter Tryd.func3, Tryd.ntmps3
  go_wp2_with fail
  refine (count_t s w0 HS.out H0.out n HN.out).mono ?_
  rintro e w1 ⟨rfl, b1, T1⟩
  have B1 := Lib.hid (B0.out.trans (b1.mono B0.out.size))
  have H1 := Lib.hid T1
  clear b1 T1
  go_wp2_with fail
  refine (HR.out w1 HS.out H1.out).mono ?_
  rintro e w2 ⟨ao, cap, rfl, b2, T2⟩
  have B2 := Lib.hid (B1.out.trans (b2.mono B1.out.size))
  have H2 := Lib.hid T2
  clear b2 T2
  go_wp2_with fail
  refine (key_t s w2 HS.out H2.out 11 HKn.out).mono ?_
  rintro e w3 ⟨rfl, b3, T3⟩
  have B3 := Lib.hid (B2.out.trans (b3.mono B2.out.size))
  have H3 := Lib.hid T3
  clear b3 T3
  go_wp2_with fail
  refine (refKey_t s w3 HS.out H3.out _ HK.out).mono ?_
  rintro e w4 ⟨rfl, b4, T4⟩
  have B4 := Lib.hid (B3.out.trans (b4.mono B3.out.size))
  have H4 := Lib.hid T4
  clear b4 T4
  go_wp2_with fail
  refine (begin_t s w4 HS.out H4.out 11 HBn.out).mono ?_
  rintro e w5 ⟨rfl, b5, T5⟩
  have B5 := Lib.hid (B4.out.trans (b5.mono B4.out.size))
  have H5 := Lib.hid T5
  clear b5 T5
  go_wp2_with fail
  refine (refBegin_t s w5 HS.out H5.out _ HB.out).mono ?_
  rintro e w6 ⟨rfl, b6, T6⟩
  have B6 := Lib.hid (B5.out.trans (b6.mono B5.out.size))
  have H6 := Lib.hid T6
  clear b6 T6
  go_wp2_with fail
  refine (key_t s w6 HS.out H6.out 11 HKn.out).mono ?_
  rintro e w7 ⟨rfl, b7, T7⟩
  have B7 := Lib.hid (B6.out.trans (b7.mono B6.out.size))
  have H7 := Lib.hid T7
  clear b7 T7
  go_wp2_with fail
  refine (key_t s w7 HS.out H7.out 11 HKn.out).mono ?_
  rintro e w8 ⟨rfl, b8, T8⟩
  have B8 := Lib.hid (B7.out.trans (b8.mono B7.out.size))
  have H8 := Lib.hid T8
  clear b8 T8
  go_wp2_with fail
  refine (begins_t s t w8 v HV.out).mono ?_
  rintro e wx ⟨rfl, rfl⟩
  go_wp2_with fail
  refine (refBegins_t s t w8 v HV.out).mono ?_
  rintro e wx ⟨rfl, rfl⟩
  go_wp2_with fail
  refine (awake_any w8 H8.out).mono ?_
  rintro e w9 ⟨rfl, b9⟩
  have B9 := Lib.hid (B8.out.trans (b9.mono B8.out.size))
  clear b9
  go_wp2_with fail
  go_ret
  exact ⟨rfl, B9.out⟩


set_option maxRecDepth 100000 in
set_option maxHeartbeats 400000 in
theorem keys_any (s t : ByteArray) (w : World) (h : Tabs w) :
    Calls Tryd.prog 3 #[.string s, .string t] w fun e w' => e = .returned (.bool true) ∧ Below w.heap.size w w' := by
  by_cases hs : s.size ≤ 1000
  · by_cases ht : t.size ≤ 1000
    · cases hk : keyV s with
      | true => cases hb : beginV s with
        | true => exact keys_true_true s t w h hs ht hk hb
        | false => exact keys_true_false s t w h hs ht hk hb
      | false => cases hb : beginV s with
        | true => exact keys_false_true s t w h hs ht hk hb
        | false => exact keys_false_false s t w h hs ht hk hb
    · have hs1 : ¬ (1000 : Int) < (s.size : Int) := by omega
      have ht1 : (1000 : Int) < (t.size : Int) := by omega
      have HA := Lib.hid (awake_any w h)
      clear h hs ht
      go_enter Tryd.func3, Tryd.ntmps3
      go_wp2_with fail
      refine HA.out.mono ?_
      rintro e w1 ⟨rfl, b1⟩
      go_wp2_with fail
      go_ret
      exact ⟨rfl, b1⟩
  · have hs1 : (1000 : Int) < (s.size : Int) := by omega
    have HA := Lib.hid (awake_any w h)
    clear h hs
    go_enter Tryd.func3, Tryd.ntmps3
    go_wp2_with fail
    refine HA.out.mono ?_
    rintro e w1 ⟨rfl, b1⟩
    go_wp2_with fail
    go_ret
    exact ⟨rfl, b1⟩
end Go.Proofs.YtojchifegifecaaDoor.R
