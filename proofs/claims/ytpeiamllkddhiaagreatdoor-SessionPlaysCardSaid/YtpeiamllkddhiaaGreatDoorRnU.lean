/- The reference's Quote. -/
import Derived.Test.YtpeiamllkddhiaaGreatDoorMrg6
import Derived.Test.YtpeiamllkddhiaaGreatDoorRnT
namespace Go.Proofs.YtpeiamllkddhiaaGreatDoor.R
open Go.RowKit Go.PlainAid Go.Lib

theorem runes_row (s : ByteArray) (w : World) (hs : s.size ≤ 1000000) (l : List (Int × Int)) (hl : rl s = l) :
    Calls Tryz.prog 42 #[.string s] w fun e w' => ∃ ao cap, e = .returned (.slice ao l.length cap) ∧ (∀ j, j < l.length → ∃ g, ao = some ⟨g, 0, none⟩ ∧ g < w'.heap.size ∧ ∀ j, j < l.length * 2 → w'.cell? ⟨g, j, none⟩ = (cellsR l)[j]?) ∧ Below w.heap.size w w' := by
  subst hl
  refine (runes_any s w hs).mono fun e w' hh => ?_
  obtain ⟨v, rfl, hown, hb⟩ := hh
  obtain ⟨ao, cap, rfl, _, hv⟩ := own_view hown
  refine ⟨ao, cap, rfl, fun j hj => ?_, hb⟩
  obtain ⟨g, rfl, _, hg, hc⟩ := hv (by omega)
  exact ⟨g, rfl, hg, hc⟩
theorem ofDec_of {s : ByteArray} {k : Nat} (h : lone s k = false) : ofDec (Utf8.decode s k) = (((Utf8.decode s k).1 : Int), ((Utf8.decode s k).2 : Int)) := by
  unfold ofDec
  rw [if_neg]
  rintro ⟨h1, h2⟩
  unfold lone at h
  exact of_decide_eq_false h (Prod.ext h1 h2)
theorem ofDec_lone {s : ByteArray} {k : Nat} (h : lone s k = true) : ofDec (Utf8.decode s k) = (-1, 1) ∧ (Utf8.decode s k).2 = 1 := by
  unfold lone at h
  have h := of_decide_eq_true h
  rw [h]; exact ⟨ofDec_bad, rfl⟩

set_option maxRecDepth 100000 in
set_option maxHeartbeats 2000000 in
theorem refQuote_any (s : ByteArray) (w : World) (hs : s.size ≤ 1000000) :
    Calls Tryz.prog 25 #[.string s] w fun e w' => e = .returned (.string ⟨(quoteL s).toArray⟩) ∧ Below w.heap.size w w' := by
  obtain ⟨l, hl⟩ : ∃ l, rl s = l := ⟨_, rfl⟩
  have HR := Lib.hid (runes_row s w hs l hl)
  have hll : l.length ≤ 1000000 := by have := rl_length s; rw [hl] at this; omega
  have HL := Lib.hid hl
  have HS := Lib.hid hs
  obtain ⟨QL, hQL⟩ : ∃ QL, quoteL s = QL := ⟨_, rfl⟩
  have HQ := Lib.hid (show [34] ++ qf s 0 ++ [34] = QL from hQL)
  rw [hQL]
  clear hl hQL
  go_enter Tryz.func25, Tryz.ntmps25
  go_wp2_with fail
  refine HR.out.mono ?_
  rintro e w1 ⟨ao, cap, rfl, hrow, b1⟩
  have HO := Lib.hid hrow
  have B1 := Lib.hid b1
  clear hrow b1
  go_wp2_with fail
  go_loop [3, 5, 6] (fun o a i => ∃ (k pos : Nat) (acc : List UInt8) (O : ByteArray), o = .string O ∧ a = .int .i64 pos ∧ i = .int .i64 k ∧ k ≤ l.length ∧ l.drop k = rf s pos ∧ O = ⟨([34] ++ acc).toArray⟩ ∧ [34] ++ acc ++ qf s pos ++ [34] = QL ∧ pos ≤ s.size ∧ acc.length ≤ 11 * pos) (fun _ _ i => l.length - (RowKit.intOf i).toNat)
  case atStart => exact ⟨0, 0, [], _, rfl, rfl, rfl, Nat.zero_le _, HL.out.symm, rfl, HQ.out, Nat.zero_le _, Nat.zero_le _⟩
  case round =>
    obtain ⟨k, pos, acc, O, rfl, rfl, rfl, hk, hdrop, hO, hacc, hpos, hlen⟩ := hrel
    have hOz : O.size = acc.length + 1 := by rw [hO, arr_size']; simp
    have hOz2 : O.size ≤ 11000001 := by omega
    have HO2 := Lib.hid hO
    have HA := Lib.hid hacc
    clear hO hacc
    by_cases hlt : k < l.length
    · have hdc : l.drop k = l[k] :: l.drop (k + 1) := List.drop_eq_getElem_cons hlt
      have hps : pos < s.size := by
        by_cases h : pos < s.size
        · exact h
        · rw [rf_end s pos h, hdc] at hdrop; cases hdrop
      have hd := dec_width s pos hps
      rw [rf_step s pos hps, hdc] at hdrop
      obtain ⟨hp, hdr⟩ := List.cons.inj hdrop
      obtain ⟨g, rfl, hg, hcell⟩ := HO.out k hlt
      have hg1 := cellsR_get l k hlt
      have c1 := (hcell (k * 2) (by omega)).trans hg1.1
      have c2 := (hcell (k * 2 + 1) (by omega)).trans hg1.2
      rw [hp] at c1 c2
      have HC := Lib.hid hcell
      have hpl := qPiece_len s pos
      have hstep := qf_step s pos hps
      have hdec : Utf8.decode s pos = ((Utf8.decode s pos).1, (Utf8.decode s pos).2) := rfl
      obtain ⟨PC, hPC⟩ : ∃ PC, qPiece s pos = PC := ⟨_, rfl⟩
      rw [hPC] at hpl hstep
      have hix := ix_s s pos (s.get! pos).toNat hps (fun h => by rw [get_bt s pos h, bt_get s hps])
      have hsl := fun W => run_slice_string (P := Tryz.prog) W 9 s .i64 .i64 (pos : Int) ((pos : Int) + ((Utf8.decode s pos).2 : Int)) Tryz.underlying9 (by omega) (by omega) (by omega)
      have htn : ((pos : Int)).toNat = pos := by omega
      have htn2 : ((pos : Int) + ((Utf8.decode s pos).2 : Int)).toNat = pos + (Utf8.decode s pos).2 := by omega
      simp only [htn, htn2] at hsl
      have hqp : qPiece s pos = PC := hPC
      unfold qPiece at hqp
      cases hlo : lone s pos with
      | true =>
        obtain ⟨hod, hw1⟩ := ofDec_lone hlo
        have hhi := lone_high hlo
        rw [hod] at c1 c2
        rw [hlo, if_pos rfl, bt_get s hps] at hqp
        rw [hw1] at hsl hdr hstep
        obtain ⟨b, hb⟩ : ∃ b, (s.get! pos).toNat = b := ⟨_, rfl⟩
        have hb256 : b < 256 := by rw [← hb]; exact (s.get! pos).toNat_lt
        rw [hb] at hhi hqp hix
        obtain ⟨Hx, hHx⟩ : ∃ Hx : ByteArray, ⟨(hexL b).toArray⟩ = Hx := ⟨_, rfl⟩
        have hHz : Hx.size = 2 := by rw [← hHx, arr_size', hexL_two b (by omega) hb256]; rfl
        have HHX := Lib.hid hHx
        have HNEW := Lib.hid (show O ++ ⟨#[92, 120]⟩ ++ Hx = ⟨([34] ++ (acc ++ PC)).toArray⟩ by
          rw [HO2.out, ← hHx, hexL_two b (by omega) hb256, ← hqp]; apply ByteArray.ext; simp [Int.toNat])
        have HNQ := Lib.hid (show [34] ++ (acc ++ PC) ++ qf s (pos + 1) ++ [34] = QL by rw [← HA.out, hstep]; simp)
        have HDR := Lib.hid hdr
        have HLEN := Lib.hid (show (acc ++ PC).length ≤ 11 * (pos + 1) by rw [List.length_append]; omega)
        clear hdrop hdc hp hcell hpl hstep hdec hPC hqp hlo hod hw1 hb hHx hdr hg1 hd
        go_wp2_with fail
        refine (hex_b b w1 (by omega) Hx HHX.out).mono ?_
        rintro e wx ⟨rfl, rfl⟩
        go_wp2_with fail
        go_round
        case rel => exact ⟨k + 1, pos + 1, acc ++ PC, _, rfl, by go_num, by go_num, by omega, HDR.out, HNEW.out, HNQ.out, by omega, HLEN.out⟩
        case measure => simp [RowKit.intOf]; omega
      | false =>
        have hod := ofDec_of hlo
        rw [hod] at c1 c2
        rw [hlo, if_neg (by decide)] at hqp
        have hw4 := dec_width4 s pos
        obtain ⟨v, hv⟩ : ∃ v, (Utf8.decode s pos).1 = v := ⟨_, rfl⟩
        obtain ⟨n, hn⟩ : ∃ n, (Utf8.decode s pos).2 = n := ⟨_, rfl⟩
        rw [hv, hn] at hdec
        rw [hv] at c1 hqp
        rw [hn] at c2 hsl hdr hstep hw4
        rw [hv, hn] at hd
        have HQP := Lib.hid hqp
        have HDEC := Lib.hid hdec
        have HNQ := Lib.hid (show [34] ++ (acc ++ PC) ++ qf s (pos + n) ++ [34] = QL by rw [← HA.out, hstep]; simp)
        have HDR := Lib.hid hdr
        have HLEN := Lib.hid (show (acc ++ PC).length ≤ 11 * (pos + n) by rw [List.length_append]; omega)
        obtain ⟨PT, hPT⟩ : ∃ PT, s.extract pos (pos + n) = PT := ⟨_, rfl⟩
        have hPz : PT.size ≤ 4 := by rw [← hPT]; simp; omega
        rw [hPT] at hsl
        have HPT := Lib.hid hPT
        have hpn : pos + n ≤ s.size := hd.2.1
        have hn1 : 1 ≤ n := hd.1
        have hvm : v ≤ 1114111 := hd.2.2
        clear hdrop hdc hp hcell hpl hstep hdec hPC hqp hlo hod hdr hg1 hd hv hn hPT hix
        by_cases h34 : v = 34
        · have e34 : ((v : Int) == 34) = true := beq_true' (by omega)
          have hv0 : ¬ (v : Int) < 0 := by omega
          have hpa := part_ascii hps HDEC.out (by omega : v < 128)
          rw [HPT.out] at hpa
          have HNEW := Lib.hid (show O ++ ⟨#[92]⟩ ++ PT = ⟨([34] ++ (acc ++ PC)).toArray⟩ by
            rw [HO2.out, hpa, ← HQP.out, if_pos (by omega)]; apply ByteArray.ext; simp)
          clear hpa h34
          go_wp2_with fail
          go_round
          case rel => exact ⟨k + 1, pos + n, acc ++ PC, _, rfl, by go_num, by go_num, by omega, HDR.out, HNEW.out, HNQ.out, by omega, HLEN.out⟩
          case measure => simp [RowKit.intOf]; omega
        ·
          by_cases h92 : v = 92
          · have e34 : ((v : Int) == 34) = false := beq_false' (by omega)
            have e92 : ((v : Int) == 92) = true := beq_true' (by omega)
            have hv0 : ¬ (v : Int) < 0 := by omega
            have hpa := part_ascii hps HDEC.out (by omega : v < 128)
            rw [HPT.out] at hpa
            have HNEW := Lib.hid (show O ++ ⟨#[92]⟩ ++ PT = ⟨([34] ++ (acc ++ PC)).toArray⟩ by
              rw [HO2.out, hpa, ← HQP.out, if_pos (by omega)]; apply ByteArray.ext; simp)
            clear hpa h92 h34
            go_wp2_with fail
            go_round
            case rel => exact ⟨k + 1, pos + n, acc ++ PC, _, rfl, by go_num, by go_num, by omega, HDR.out, HNEW.out, HNQ.out, by omega, HLEN.out⟩
            case measure => simp [RowKit.intOf]; omega
          ·
            have e34 : ((v : Int) == 34) = false := beq_false' (by omega)
            have e92 : ((v : Int) == 92) = false := beq_false' (by omega)
            have hv0 : ¬ (v : Int) < 0 := by omega
            have hne : ¬ (v = 34 ∨ v = 92) := by omega
            by_cases h32 : 32 ≤ v
            · by_cases h126 : v ≤ 126
              · have hpa := part_ascii hps HDEC.out (by omega : v < 128)
                rw [HPT.out] at hpa
                have i32 : (32 : Int) ≤ (v : Int) := by omega
                have i126 : (v : Int) ≤ 126 := by omega
                have HNEW := Lib.hid (show O ++ PT = ⟨([34] ++ (acc ++ PC)).toArray⟩ by
                  rw [HO2.out, hpa, ← HQP.out, if_neg hne, if_pos ⟨h32, h126⟩]; apply ByteArray.ext; simp)
                clear hpa hne h34 h92 h32 h126
                go_wp2_with fail
                go_round
                case rel => exact ⟨k + 1, pos + n, acc ++ PC, _, rfl, by go_num, by go_num, by omega, HDR.out, HNEW.out, HNQ.out, by omega, HLEN.out⟩
                case measure => simp [RowKit.intOf]; omega
              · obtain ⟨Hx, hHx⟩ : ∃ Hx : ByteArray, ⟨(hexL v).toArray⟩ = Hx := ⟨_, rfl⟩
                have hHz : Hx.size ≤ 8 := by rw [← hHx, arr_size']; exact hexD_len 7 v
                have HHX := Lib.hid hHx
                have i32 : (32 : Int) ≤ (v : Int) := by omega
                have i126 : ¬ (v : Int) ≤ 126 := by omega
                have HNEW := Lib.hid (show O ++ ⟨#[92, 117]⟩ ++ Hx ++ ⟨#[46]⟩ = ⟨([34] ++ (acc ++ PC)).toArray⟩ by
                  rw [HO2.out, ← hHx, ← HQP.out, if_neg hne, if_neg (by omega)]; apply ByteArray.ext; simp)
                clear hHx hne h34 h92 h32 h126
                go_wp2_with fail
                refine (hex_b v w1 (by omega) Hx HHX.out).mono ?_
                rintro e wx ⟨rfl, rfl⟩
                go_wp2_with fail
                go_round
                case rel => exact ⟨k + 1, pos + n, acc ++ PC, _, rfl, by go_num, by go_num, by omega, HDR.out, HNEW.out, HNQ.out, by omega, HLEN.out⟩
                case measure => simp [RowKit.intOf]; omega
            · obtain ⟨Hx, hHx⟩ : ∃ Hx : ByteArray, ⟨(hexL v).toArray⟩ = Hx := ⟨_, rfl⟩
              have hHz : Hx.size ≤ 8 := by rw [← hHx, arr_size']; exact hexD_len 7 v
              have HHX := Lib.hid hHx
              have i32 : ¬ (32 : Int) ≤ (v : Int) := by omega
              have HNEW := Lib.hid (show O ++ ⟨#[92, 117]⟩ ++ Hx ++ ⟨#[46]⟩ = ⟨([34] ++ (acc ++ PC)).toArray⟩ by
                rw [HO2.out, ← hHx, ← HQP.out, if_neg hne, if_neg (by omega)]; apply ByteArray.ext; simp)
              clear hHx hne h34 h92 h32
              go_wp2_with fail
              refine (hex_b v w1 (by omega) Hx HHX.out).mono ?_
              rintro e wx ⟨rfl, rfl⟩
              go_wp2_with fail
              go_round
              case rel => exact ⟨k + 1, pos + n, acc ++ PC, _, rfl, by go_num, by go_num, by omega, HDR.out, HNEW.out, HNQ.out, by omega, HLEN.out⟩
              case measure => simp [RowKit.intOf]; omega
    · obtain rfl : k = l.length := by omega
      have hrf : rf s pos = [] := by rw [← hdrop]; simp
      have hps : ¬ pos < s.size := by
        intro h; rw [rf_step s pos h] at hrf; cases hrf
      have hend := HA.out
      rw [qf_end s pos hps] at hend
      have HE := Lib.hid (show O ++ ⟨#[34]⟩ = ⟨QL.toArray⟩ by rw [HO2.out, ← hend]; apply ByteArray.ext; simp)
      clear hend hdrop hrf hps
      go_wp2_with fail
      go_ret
      exact ⟨by rw [← HE.out]; rfl, B1.out⟩
end Go.Proofs.YtpeiamllkddhiaaGreatDoor.R
