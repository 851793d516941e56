/- Several texts in one. -/
import Derived.Test.YtpeiamllkddhiaaGreatDoorAppP
import Derived.Lib.ItoaLen
import Derived.Test.YtpeiamllkddhiaaGreatDoorRunesN
import Derived.Deep.DeepCutAuto

/- Plain: settings' lines joined, their sizes. -/
namespace Go.Proofs.YtpeiamllkddhiaaGreatDoor.P
open Go.Proofs.YtpeiamllkddhiaaGreatDoor.R Go.PlainAid Go.Lib
set_option linter.unusedVariables false

theorem decN_width4 (n b0 b1 b2 b3 : Nat) : (decodeN n b0 b1 b2 b3).2 ≤ 4 := by
  unfold decodeN
  repeat' split
  all_goals (simp only []; omega)
theorem rfrom_size (s : ByteArray) : ∀ f k, s.size - k ≤ f → s.size - k ≤ 4 * (rfrom s f k).length
  | 0, k, h => by omega
  | f + 1, k, h => by
    simp only [rfrom]
    by_cases hk : k < s.size
    · rw [if_pos hk]
      have hd := dec_width s k hk
      have h4 : (Utf8.decode s k).2 ≤ 4 := by rw [decode_at]; exact decN_width4 _ _ _ _ _
      have := rfrom_size s f (k + (Utf8.decode s k).2) (by omega)
      simp only [List.length_cons]
      omega
    · omega
theorem begin_size {s : ByteArray} (h : beginV s = true) : s.size ≤ 128 := by
  unfold beginV at h
  rw [Bool.and_eq_true, decide_eq_true_eq] at h
  have := rfrom_size s s.size 0 (by omega)
  have e : rfrom s s.size 0 = rl s := rfl
  rw [e] at this
  omega
theorem key_size {s : ByteArray} (h : keyV s = true) : s.size ≤ 128 := by
  unfold keyV at h
  rw [Bool.and_eq_true] at h
  exact begin_size h.2
theorem mk_size (l : List UInt8) : (⟨l.toArray⟩ : ByteArray).size = l.length := by
  show l.toArray.size = _
  simp
theorem digs_size (n : Int) (h0 : 0 ≤ n) (h1 : n ≤ 1000000) : (digs n).size ≤ 21 := by
  unfold digs
  rw [mk_size]
  have := Lib.itoa_length_le n (by omega) (by omega)
  omega
def sp : ByteArray := ⟨#[32]⟩
theorem sp_size : sp.size = 1 := rfl
theorem joinB_snoc (L : List ByteArray) (y : ByteArray) : joinB (L ++ [y]) = if L = [] then y else joinB L ++ sp ++ y := by
  induction L with
  | nil => rfl
  | cons a t ih =>
    rw [if_neg (by simp)]
    cases t with
    | nil => rfl
    | cons b t =>
      show a ++ ⟨#[32]⟩ ++ joinB ((b :: t) ++ [y]) = a ++ ⟨#[32]⟩ ++ joinB (b :: t) ++ sp ++ y
      rw [ih, if_neg (by simp)]
      simp only [ByteArray.append_assoc]
theorem joinB_size (L : List ByteArray) (m : Nat) (h : ∀ x ∈ L, x.size ≤ m) : (joinB L).size ≤ L.length * (m + 1) := by
  induction L with
  | nil => exact Nat.zero_le _
  | cons a t ih =>
    have h1 := h a List.mem_cons_self
    cases t with
    | nil => show a.size ≤ _; simp; omega
    | cons b t =>
      have h2 := ih (fun x hx => h x (List.mem_cons_of_mem _ hx))
      show (a ++ ⟨#[32]⟩ ++ joinB (b :: t)).size ≤ _
      rw [ByteArray.size_append, ByteArray.size_append]
      have e : (⟨#[32]⟩ : ByteArray).size = 1 := rfl
      rw [e, List.length_cons (a := a), Nat.add_mul]
      omega
theorem quote_size {s : ByteArray} {m : Nat} (h : s.size ≤ m) : (⟨(quoteL s).toArray⟩ : ByteArray).size ≤ 11 * m + 2 := by
  rw [mk_size]
  exact quoteL_len2 s m h
theorem line_size {e : Ent} (hk : keyV e.key = true) (hv : e.val.size ≤ 1024) (h0 : 0 ≤ e.rev) (h1 : e.rev ≤ 1000000) : (lineB e).size ≤ 13000 := by
  unfold lineB
  simp only [ByteArray.size_append]
  have q1 := quote_size (key_size hk)
  have q2 := quote_size hv
  have q3 := digs_size e.rev h0 h1
  have e1 : (⟨#[61]⟩ : ByteArray).size = 1 := rfl
  have e2 : (⟨#[58]⟩ : ByteArray).size = 1 := rfl
  omega
/-- lines of the settings that begin so -/
def linesB (A : List Ent) (p : ByteArray) : List ByteArray := (hits A p).map lineB
theorem lines_snoc (A : List Ent) (e : Ent) (p : ByteArray) : linesB (A ++ [e]) p = if begs e.key p then linesB A p ++ [lineB e] else linesB A p := by
  unfold linesB hits
  rw [List.filter_append, List.map_append]
  cases h : begs e.key p <;> simp [h]
theorem lines_len (A : List Ent) (p : ByteArray) : (linesB A p).length ≤ A.length := by
  unfold linesB hits
  rw [List.length_map]
  exact List.length_filter_le _ _
theorem findR_lines (A : List Ent) (p : ByteArray) : findR A p = ⟨0, joinB (linesB A p), ((linesB A p).length : Nat)⟩ := by
  unfold findR linesB
  rw [List.length_map]
theorem lines_size {A : List Ent} {N : Nat} (h : Good N A) (hN : N ≤ 1000000) (p : ByteArray) : ∀ x ∈ linesB A p, x.size ≤ 13000 := by
  intro x hx
  obtain ⟨e, he, rfl⟩ := List.mem_map.1 hx
  have := h.ent e (List.mem_filter.1 he).1
  exact line_size this.2.2.1 this.2.2.2 (by omega) (by omega)
theorem lines_take {A : List Ent} {N i : Nat} (h : Good N A) (hN : N ≤ 100000) (p : ByteArray) : (joinB (linesB (A.take i) p)).size ≤ 2000000000 := by
  have h1 := joinB_size (linesB (A.take i) p) 13000 (fun x hx => by
    obtain ⟨e, he, rfl⟩ := List.mem_map.1 hx
    have := h.ent e (List.mem_of_mem_take (List.mem_filter.1 he).1)
    exact line_size this.2.2.1 this.2.2.2 (by omega) (by omega))
  have h2 := lines_len (A.take i) p
  have h3 := List.length_take_le i A
  have h4 : (A.take i).length ≤ A.length := by rw [List.length_take]; omega
  have h5 := h.len
  have h6 : (linesB (A.take i) p).length * (13000 + 1) ≤ 100000 * 13001 := Nat.mul_le_mul (by omega) (by omega)
  omega
end Go.Proofs.YtpeiamllkddhiaaGreatDoor.P

/- The reference's hex and Quote. -/
namespace Go.Proofs.YtpeiamllkddhiaaGreatDoor.R
open Go.RowKit Go.PlainAid Go.Lib

theorem sl_h (x : Nat) (hx : x < 16) (W : World) : (Instr.slice 9 (.string ⟨#[48, 49, 50, 51, 52, 53, 54, 55, 56, 57, 97, 98, 99, 100, 101, 102]⟩) (some (.int .i64 (x : Int))) (some (.int .i64 ((x : Int) + 1))) none).run Tryz.prog W = .ok (.string ⟨#[dig x]⟩) W := by
  have h := run_slice_string (P := Tryz.prog) W 9 hexS .i64 .i64 (x : Int) ((x : Int) + 1) Tryz.underlying9 (by omega) (by omega) (by rw [show ((hexS.size : Nat) : Int) = 16 by decide]; omega)
  have he : ∀ y : Fin 16, hexS.extract y.val (y.val + 1) = ⟨#[dig y.val]⟩ := by decide
  rw [show ((x : Int)).toNat = x by omega, show ((x : Int) + 1).toNat = x + 1 by omega, he ⟨x, hx⟩] at h
  exact h

theorem arr_size' (l : List UInt8) : (⟨l.toArray⟩ : ByteArray).size = l.length := by show l.toArray.size = _; simp
set_option maxRecDepth 100000 in
set_option maxHeartbeats 1000000 in
theorem hex_any (n : Nat) (w : World) (hn : n < 4294967296) :
    Calls Tryz.prog 43 #[.int .i64 n] w fun e w' => e = .returned (.string ⟨(hexL n).toArray⟩) ∧ w = w' := by
  obtain ⟨x, hx⟩ : ∃ x, n % 16 = x := ⟨_, rfl⟩
  have hx16 : x < 16 := by omega
  have hm1 : ((n : Int)).tmod 16 = (x : Int) := by rw [Int.tmod_eq_emod_of_nonneg (by omega)]; omega
  have hsl := sl_h x hx16
  have HX := Lib.hid hx
  clear hx
  go_enter Tryz.func43, Tryz.ntmps43
  go_wp2_with fail
  go_loop [0, 4] (fun i s => ∃ (m f : Nat) (S : ByteArray) (acc : List UInt8), i = .int .i64 m ∧ s = .string S ∧ S = ⟨(dig (m % 16) :: acc).toArray⟩ ∧ hexD f m ++ acc = hexL n ∧ acc.length + f = 7 ∧ m < 16 ^ (f + 1)) (fun i _ => (RowKit.intOf i).toNat)
  case atStart => exact ⟨n, 7, _, [], rfl, rfl, by rw [HX.out], List.append_nil _, rfl, by omega⟩
  case round =>
    obtain ⟨m, f, S, acc, rfl, rfl, hS, hacc, hlen, hm⟩ := hrel
    by_cases h16 : 16 ≤ m
    · obtain ⟨g, rfl⟩ : ∃ g, f = g + 1 := by
        cases f with
        | zero => simp at hm; omega
        | succ g => exact ⟨g, rfl⟩
      obtain ⟨y, hy⟩ : ∃ y, m / 16 = y := ⟨_, rfl⟩
      obtain ⟨z, hz⟩ : ∃ z, y % 16 = z := ⟨_, rfl⟩
      have hz16 : z < 16 := by omega
      have hylt : y < m := by omega
      have hd : ((m : Int)).tdiv 16 = (y : Int) := by rw [Int.tdiv_eq_ediv_of_nonneg (by omega)]; omega
      have hm1 : ((y : Int)).tmod 16 = (z : Int) := by rw [Int.tmod_eq_emod_of_nonneg (by omega)]; omega
      have hsl := sl_h z hz16
      have hSz : S.size ≤ 8 := by rw [hS, arr_size']; simp; omega
      have hm31 : m < 4294967296 := by
        have : 16 ^ (g + 1 + 1) ≤ 16 ^ 8 := Nat.pow_le_pow_right (by omega) (by omega)
        omega
      have hadd : ∀ W, (Op.stringOp .add ⟨#[dig z]⟩ S).run Tryz.prog W = .ok (.string (⟨#[dig z]⟩ ++ S)) W := fun W => run_string_add_sum W _ S (by show 1 + S.size ≤ _; omega)
      have HN := Lib.hid (show (⟨#[dig z]⟩ : ByteArray) ++ S = ⟨(dig (y % 16) :: (dig (m % 16) :: acc)).toArray⟩ by
        rw [hS, hz]; apply ByteArray.ext; simp)
      have HL := Lib.hid (show hexD g y ++ (dig (m % 16) :: acc) = hexL n by rw [← hacc, hexD_great h16, hy]; simp)
      have HM := Lib.hid (show y < 16 ^ (g + 1) by rw [← hy]; rw [Nat.pow_succ] at hm; omega)
      have hi16 : (15 : Int) < (m : Int) := by omega
      clear hS hacc hm hy hz
      go_wp2_with fail
      go_round
      case rel => exact ⟨y, g, _, _, rfl, rfl, HN.out, HL.out, by simp; omega, HM.out⟩
      case measure => simp [RowKit.intOf]; omega
    · have HE := Lib.hid (show S = ⟨(hexL n).toArray⟩ by rw [hS, ← hacc, hexD_small (by omega), show m % 16 = m by omega]; rfl)
      have hi16 : ¬ (15 : Int) < (m : Int) := by omega
      clear hS hacc hm
      go_wp2_with fail
      go_ret
      exact ⟨by rw [HE.out]; rfl, rfl⟩

theorem hex_b (n : Nat) (w : World) (hn : n < 4294967296) (H : ByteArray) (h : ⟨(hexL n).toArray⟩ = H) :
    Calls Tryz.prog 43 #[.int .i64 n] w fun e w' => e = .returned (.string H) ∧ w = w' := by subst h; exact hex_any n w hn
theorem decN_ascii {n b0 b1 b2 b3 v w : Nat} (h : decodeN n b0 b1 b2 b3 = (v, w)) (hv : v < 128) : w = 1 ∧ b0 = v := by
  unfold decodeN at h
  split at h
  · obtain ⟨rfl, rfl⟩ := Prod.mk.inj h; exact ⟨rfl, rfl⟩
  split at h
  · split at h <;> (obtain ⟨rfl, rfl⟩ := Prod.mk.inj h; omega)
  split at h
  · split at h <;> (obtain ⟨rfl, rfl⟩ := Prod.mk.inj h; omega)
  split at h
  · split at h <;> (obtain ⟨rfl, rfl⟩ := Prod.mk.inj h; omega)
  · obtain ⟨rfl, rfl⟩ := Prod.mk.inj h; omega
theorem dec_ascii {s : ByteArray} {k v w : Nat} (h : Utf8.decode s k = (v, w)) (hv : v < 128) : w = 1 ∧ (s.get! k).toNat = v := by
  rw [decode_at] at h; exact decN_ascii h hv
theorem decN_low {n b0 b1 b2 b3 : Nat} (h : b0 < 128) : decodeN n b0 b1 b2 b3 = (b0, 1) := by unfold decodeN; rw [if_pos h]
theorem lone_high {s : ByteArray} {k : Nat} (h : lone s k = true) : 128 ≤ (s.get! k).toNat := by
  unfold lone at h
  have h := of_decide_eq_true h
  rw [decode_at] at h
  by_cases hb : (s.get! k).toNat < 128
  · rw [decN_low hb] at h; have := (Prod.mk.inj h).1; omega
  · omega
theorem extract_one (s : ByteArray) (k : Nat) (h : k < s.size) : s.extract k (k + 1) = ⟨#[s.get! k]⟩ := by
  have h' : k < s.data.size := h
  apply ByteArray.ext
  apply Array.toList_inj.1
  rw [Lib.extract_data, show k + 1 - k = 1 by omega, get_data, getElem!_pos s.data k h', List.drop_eq_getElem_cons (by simpa using h')]
  simp
theorem enc_ascii (v : Nat) (h : v < 128) : Lib.encodeRune (v : Int) = [UInt8.ofNat v] := by
  have : ∀ y : Fin 128, Lib.encodeRune ((y.val : Nat) : Int) = [UInt8.ofNat y.val] := by decide
  exact this ⟨v, h⟩
theorem part_ascii {s : ByteArray} {k v w : Nat} (hk : k < s.size) (h : Utf8.decode s k = (v, w)) (hv : v < 128) : s.extract k (k + w) = ⟨(Lib.encodeRune (v : Int)).toArray⟩ := by
  obtain ⟨rfl, hb⟩ := dec_ascii h hv
  rw [extract_one s k hk, enc_ascii v hv, ← hb]
  simp
theorem hexL_two (b : Nat) (h : 16 ≤ b) (h2 : b < 256) : hexL b = [dig (b / 16), dig (b % 16)] := by
  unfold hexL
  rw [hexD_great h, hexD_small (by omega)]
  rfl
end Go.Proofs.YtpeiamllkddhiaaGreatDoor.R
