/- The reference's hex and Quote. -/
import Derived.Test.YtpeiamllkddhiaaDoorRunesN
import Derived.Deep.DeepCutAuto
namespace Go.Proofs.YtpeiamllkddhiaaDoor.R
open Go.RowKit Go.PlainAid Go.Lib

theorem sl_h (x : Nat) (hx : x < 16) (W : World) : (Instr.slice 9 (.string ⟨#[48, 49, 50, 51, 52, 53, 54, 55, 56, 57, 97, 98, 99, 100, 101, 102]⟩) (some (.int .i64 (x : Int))) (some (.int .i64 ((x : Int) + 1))) none).run Tryd.prog W = .ok (.string ⟨#[dig x]⟩) W := by
  have h := run_slice_string (P := Tryd.prog) W 9 hexS .i64 .i64 (x : Int) ((x : Int) + 1) Tryd.underlying9 (by omega) (by omega) (by rw [show ((hexS.size : Nat) : Int) = 16 by decide]; omega)
  have he : ∀ y : Fin 16, hexS.extract y.val (y.val + 1) = ⟨#[dig y.val]⟩ := by decide
  rw [show ((x : Int)).toNat = x by omega, show ((x : Int) + 1).toNat = x + 1 by omega, he ⟨x, hx⟩] at h
  exact h

theorem arr_size' (l : List UInt8) : (⟨l.toArray⟩ : ByteArray).size = l.length := by show l.toArray.size = _; simp
set_option maxRecDepth 100000 in
set_option maxHeartbeats 1000000 in
theorem hex_any (n : Nat) (w : World) (hn : n < 4294967296) :
    Calls Tryd.prog 63 #[.int .i64 n] w fun e w' => e = .returned (.string ⟨(hexL n).toArray⟩) ∧ w = w' := by
  obtain ⟨x, hx⟩ : ∃ x, n % 16 = x := ⟨_, rfl⟩
  have hx16 : x < 16 := by omega
  have hm1 : ((n : Int)).tmod 16 = (x : Int) := by rw [Int.tmod_eq_emod_of_nonneg (by omega)]; omega
  have hsl := sl_h x hx16
  have HX := Lib.hid hx
  clear hx
  go_enter Tryd.func63, Tryd.ntmps63
  go_wp2_with fail
  go_loop [0, 4] (fun i s => ∃ (m f : Nat) (S : ByteArray) (acc : List UInt8), i = .int .i64 m ∧ s = .string S ∧ S = ⟨(dig (m % 16) :: acc).toArray⟩ ∧ hexD f m ++ acc = hexL n ∧ acc.length + f = 7 ∧ m < 16 ^ (f + 1)) (fun i _ => (RowKit.intOf i).toNat)
  case atStart => exact ⟨n, 7, _, [], rfl, rfl, by rw [HX.out], List.append_nil _, rfl, by omega⟩
  case round =>
    obtain ⟨m, f, S, acc, rfl, rfl, hS, hacc, hlen, hm⟩ := hrel
    by_cases h16 : 16 ≤ m
    · obtain ⟨g, rfl⟩ : ∃ g, f = g + 1 := by
        cases f with
        | zero => simp at hm; omega
        | succ g => exact ⟨g, rfl⟩
      obtain ⟨y, hy⟩ : ∃ y, m / 16 = y := ⟨_, rfl⟩
      obtain ⟨z, hz⟩ : ∃ z, y % 16 = z := ⟨_, rfl⟩
      have hz16 : z < 16 := by omega
      have hylt : y < m := by omega
      have hd : ((m : Int)).tdiv 16 = (y : Int) := by rw [Int.tdiv_eq_ediv_of_nonneg (by omega)]; omega
      have hm1 : ((y : Int)).tmod 16 = (z : Int) := by rw [Int.tmod_eq_emod_of_nonneg (by omega)]; omega
      have hsl := sl_h z hz16
      have hSz : S.size ≤ 8 := by rw [hS, arr_size']; simp; omega
      have hm31 : m < 4294967296 := by
        have : 16 ^ (g + 1 + 1) ≤ 16 ^ 8 := Nat.pow_le_pow_right (by omega) (by omega)
        omega
      have hadd : ∀ W, (Op.stringOp .add ⟨#[dig z]⟩ S).run Tryd.prog W = .ok (.string (⟨#[dig z]⟩ ++ S)) W := fun W => run_string_add_sum W _ S (by show 1 + S.size ≤ _; omega)
      have HN := Lib.hid (show (⟨#[dig z]⟩ : ByteArray) ++ S = ⟨(dig (y % 16) :: (dig (m % 16) :: acc)).toArray⟩ by
        rw [hS, hz]; apply ByteArray.ext; simp)
      have HL := Lib.hid (show hexD g y ++ (dig (m % 16) :: acc) = hexL n by rw [← hacc, hexD_great h16, hy]; simp)
      have HM := Lib.hid (show y < 16 ^ (g + 1) by rw [← hy]; rw [Nat.pow_succ] at hm; omega)
      have hi16 : (15 : Int) < (m : Int) := by omega
      clear hS hacc hm hy hz
      go_wp2_with fail
      go_round
      case rel => exact ⟨y, g, _, _, rfl, rfl, HN.out, HL.out, by simp; omega, HM.out⟩
      case measure => simp [RowKit.intOf]; omega
    · have HE := Lib.hid (show S = ⟨(hexL n).toArray⟩ by rw [hS, ← hacc, hexD_small (by omega), show m % 16 = m by omega]; rfl)
      have hi16 : ¬ (15 : Int) < (m : Int) := by omega
      clear hS hacc hm
      go_wp2_with fail
      go_ret
      exact ⟨by rw [HE.out]; rfl, rfl⟩

theorem hex_b (n : Nat) (w : World) (hn : n < 4294967296) (H : ByteArray) (h : ⟨(hexL n).toArray⟩ = H) :
    Calls Tryd.prog 63 #[.int .i64 n] w fun e w' => e = .returned (.string H) ∧ w = w' := by subst h; exact hex_any n w hn
theorem decN_ascii {n b0 b1 b2 b3 v w : Nat} (h : decodeN n b0 b1 b2 b3 = (v, w)) (hv : v < 128) : w = 1 ∧ b0 = v := by
  unfold decodeN at h
  split at h
  · obtain ⟨rfl, rfl⟩ := Prod.mk.inj h; exact ⟨rfl, rfl⟩
  split at h
  · split at h <;> (obtain ⟨rfl, rfl⟩ := Prod.mk.inj h; omega)
  split at h
  · split at h <;> (obtain ⟨rfl, rfl⟩ := Prod.mk.inj h; omega)
  split at h
  · split at h <;> (obtain ⟨rfl, rfl⟩ := Prod.mk.inj h; omega)
  · obtain ⟨rfl, rfl⟩ := Prod.mk.inj h; omega
theorem dec_ascii {s : ByteArray} {k v w : Nat} (h : Utf8.decode s k = (v, w)) (hv : v < 128) : w = 1 ∧ (s.get! k).toNat = v := by
  rw [decode_at] at h; exact decN_ascii h hv
theorem decN_low {n b0 b1 b2 b3 : Nat} (h : b0 < 128) : decodeN n b0 b1 b2 b3 = (b0, 1) := by unfold decodeN; rw [if_pos h]
theorem lone_high {s : ByteArray} {k : Nat} (h : lone s k = true) : 128 ≤ (s.get! k).toNat := by
  unfold lone at h
  have h := of_decide_eq_true h
  rw [decode_at] at h
  by_cases hb : (s.get! k).toNat < 128
  · rw [decN_low hb] at h; have := (Prod.mk.inj h).1; omega
  · omega
theorem extract_one (s : ByteArray) (k : Nat) (h : k < s.size) : s.extract k (k + 1) = ⟨#[s.get! k]⟩ := by
  have h' : k < s.data.size := h
  apply ByteArray.ext
  apply Array.toList_inj.1
  rw [Lib.extract_data, show k + 1 - k = 1 by omega, get_data, getElem!_pos s.data k h', List.drop_eq_getElem_cons (by simpa using h')]
  simp
theorem enc_ascii (v : Nat) (h : v < 128) : Lib.encodeRune (v : Int) = [UInt8.ofNat v] := by
  have : ∀ y : Fin 128, Lib.encodeRune ((y.val : Nat) : Int) = [UInt8.ofNat y.val] := by decide
  exact this ⟨v, h⟩
theorem part_ascii {s : ByteArray} {k v w : Nat} (hk : k < s.size) (h : Utf8.decode s k = (v, w)) (hv : v < 128) : s.extract k (k + w) = ⟨(Lib.encodeRune (v : Int)).toArray⟩ := by
  obtain ⟨rfl, hb⟩ := dec_ascii h hv
  rw [extract_one s k hk, enc_ascii v hv, ← hb]
  simp
theorem hexL_two (b : Nat) (h : 16 ≤ b) (h2 : b < 256) : hexL b = [dig (b / 16), dig (b % 16)] := by
  unfold hexL
  rw [hexD_great h, hexD_small (by omega)]
  rfl
end Go.Proofs.YtpeiamllkddhiaaDoor.R
