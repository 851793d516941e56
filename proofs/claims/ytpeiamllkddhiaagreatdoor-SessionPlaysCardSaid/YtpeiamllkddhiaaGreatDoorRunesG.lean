/- strconv.FormatInt at base 16, of what is no greater than a rune. -/
import Derived.Test.YtpeiamllkddhiaaGreatDoorRunesF
import Derived.Laws.IdiomStrings
namespace Go.Proofs.YtpeiamllkddhiaaGreatDoor.R
open Go.RowKit Go.PlainAid Go.Lib

theorem key16 : IntKind.u64.wrap (bits BinOp.and IntKind.u64 16 (IntKind.u64.wrap (-16)) * 285870213051353865) / 288230376151711744 = 15 := by decide +kernel

set_option maxRecDepth 100000 in
set_option maxHeartbeats 400000 in
theorem tz64_16 (w : World) (hT : w.cell? ⟨5, 15, none⟩ = some (.int .u8 4)) :
    Calls Tryz.prog 106 #[.int .u64 16] w fun e w' => e = .returned (.int .i64 4) ∧ w = w' := by
  go_enter Tryz.func106, Tryz.ntmps106
  go_wp2_with (simp only [key16])
  go_ret
  exact ⟨rfl, rfl⟩

set_option maxRecDepth 100000 in
set_option maxHeartbeats 400000 in
theorem tz_16 (w : World) (hT : w.cell? ⟨5, 15, none⟩ = some (.int .u8 4)) :
    Calls Tryz.prog 98 #[.int .u64 16] w fun e w' => e = .returned (.int .i64 4) ∧ w = w' := by
  go_enter Tryz.func98, Tryz.ntmps98
  go_wp2_with fail
  refine (tz64_16 w hT).mono ?_
  rintro e w1 ⟨rfl, rfl⟩
  go_wp2_with fail
  go_ret
  exact ⟨rfl, rfl⟩

set_option maxRecDepth 100000 in
set_option maxHeartbeats 400000 in
theorem pow2_16 (w : World) :
    Calls Tryz.prog 97 #[.int .i64 16] w fun e w' => e = .returned (.bool true) ∧ w = w' := by
  go_enter Tryz.func97, Tryz.ntmps97
  go_wp2_with fail
  go_ret
  exact ⟨rfl, rfl⟩

/-- a hexadecimal digit -/
def dig (n : Nat) : UInt8 := if n < 10 then UInt8.ofNat (48 + n) else UInt8.ofNat (87 + n)
/-- a number's hexadecimal digits -/
def hexD : Nat → Nat → List UInt8
  | 0, n => [dig n]
  | f + 1, n => if n < 16 then [dig n] else hexD f (n / 16) ++ [dig (n % 16)]
def hexL (n : Nat) : List UInt8 := hexD 7 n

theorem and15 (u : Nat) (h : u < 18446744073709551616) : bits .and .u64 (u : Int) 15 = ((u % 16 : Nat) : Int) := by
  have := bits_and_u64_nat u 15 h (by omega)
  rw [show ((15 : Int)) = ((15 : Nat) : Int) from rfl, this]
  have e : u &&& 15 = u % 16 := Nat.and_two_pow_sub_one_eq_mod u 4
  rw [e]

theorem hexD_small {f n : Nat} (h : n < 16) : hexD f n = [dig n] := by cases f <;> simp [hexD, h]
theorem hexD_great {f n : Nat} (h : 16 ≤ n) : hexD (f + 1) n = hexD f (n / 16) ++ [dig (n % 16)] := by rw [hexD, if_neg (by omega)]

def digS : ByteArray := ⟨#[48, 49, 50, 51, 52, 53, 54, 55, 56, 57, 97, 98, 99, 100, 101, 102, 103, 104, 105, 106, 107, 108, 109, 110, 111, 112, 113, 114, 115, 116, 117, 118, 119, 120, 121, 122]⟩
theorem digS_fin : ∀ y : Fin 16, digS[y.val]'(Nat.lt_of_lt_of_le y.isLt (by decide)) = dig y.val := by decide
theorem digS_get (x : Nat) (hx : x < 16) (h : x < digS.size) : digS[x]'h = dig x := digS_fin ⟨x, hx⟩

/-- the buffer: its last cells hold the digits so far -/
structure Digs (wr : World) (A i : Nat) (acc : List UInt8) : Prop where
  len : i + acc.length = 65
  some' : ∀ j, j < 65 → ∃ v, wr.cell? ⟨A, j, none⟩ = some v
  fz : ∀ j, j < 65 → wr.frozen? ⟨A, j, none⟩ = false
  at' : ∀ j (h : j < acc.length), wr.cell? ⟨A, i + j, none⟩ = some (.int .u8 (acc[j].toNat : Int))
theorem Digs.put {wr : World} {A i : Nat} {acc : List UInt8} (h : Digs wr A (i + 1) acc) (c : UInt8) : Digs (wr.setCell ⟨A, i, none⟩ (.int .u8 (c.toNat : Int))) A i (c :: acc) := by
  obtain ⟨v, hv⟩ := h.some' i (by have := h.len; omega)
  refine ⟨by have := h.len; simp; omega, fun j hj => ?_, fun j hj => ?_, fun j hj => ?_⟩
  · by_cases e : j = i
    · subst e; exact ⟨_, World.cell?_setCell_same _ _ _ hv⟩
    · rw [World.cell?_setCell_other _ _ _ _ (by simp <;> omega)]; exact h.some' j hj
  · rw [World.frozen?_setCell]; exact h.fz j hj
  · cases j with
    | zero => rw [Nat.add_zero]; exact World.cell?_setCell_same _ _ _ hv
    | succ j =>
      rw [World.cell?_setCell_other _ _ _ _ (by simp)]
      have := h.at' j (by simpa using hj)
      rw [show i + (j + 1) = i + 1 + j by omega, this]
      simp

theorem zc : Tryz.zeroCells148 = Array.replicate 65 (.int .u8 0) := by kernel_rfl

theorem sl65 (A i : Nat) (hi : i ≤ 64) (W : World) : (Instr.sliceAt 148 (.pointer (some ⟨A, 0, none⟩)) (some (.int .i64 (i : Int))) none none).run Tryz.prog W = .ok (.slice (some ⟨A, i, none⟩) (65 - i) (65 - i)) W := by
  have e1 : Tryz.prog.arrayLen 148 = 65 := by kernel_rfl
  have e2 : (sizeOf (Tryz.prog.elem 148)).run Tryz.prog W = .ok 1 W := by kernel_rfl
  have h := run_sliceAt_array_l (P := Tryz.prog) W 148 ⟨A, 0, none⟩ (by kernel_rfl) .i64 (i : Int) (by omega) (by rw [e1]; omega)
  rw [h, e1, e2]
  simp only [Result.andThen, slicedAt, Int.toNat_natCast, Nat.mul_one]
  rw [if_neg (by omega)]
  simp [Addr.add]
  omega
theorem conv65 (W : World) (A i : Nat) (l : List UInt8) (h : Digs W A i l) : (convert 88 9 (.slice (some ⟨A, i, none⟩) (65 - i) (65 - i))).run Tryz.prog W = .ok (.string ⟨l.toArray⟩) W := by
  have hl := h.len
  have := run_convert_bytes_back (P := Tryz.prog) W 88 9 5 ⟨A, i, none⟩ (65 - i) l Tryz.underlying88 Tryz.underlying5 Tryz.underlying9 (fun j hj => by rw [Go.WideShapes.add_plain]; exact h.at' j hj)
  rw [show l.length = 65 - i by omega] at this
  exact this

set_option maxRecDepth 100000 in
set_option maxHeartbeats 1000000 in
theorem formatBits_any (u : Nat) (hu : u < 4294967296) (w : World) (hT : w.cell? ⟨5, 15, none⟩ = some (.int .u8 4)) (hg : 5 < w.heap.size) :
    Calls Tryz.prog 82 #[.slice none 0 0, .int .u64 u, .int .i64 16, .bool false, .bool false] w fun e w' => e = .returned (.tuple #[.slice none 0 0, .string ⟨(hexL u).toArray⟩]) ∧ Below w.heap.size w w' := by
  have HT := Lib.hid hT
  clear hT
  go_enter Tryz.func82, Tryz.ntmps82
  go_wp2_with fail
  refine (pow2_16 _).mono ?_
  rintro e w1 ⟨rfl, rfl⟩
  go_wp2_with fail
  refine (tz_16 _ ?_).mono ?_
  · exact ((Below.refl w.heap.size w).alloc (Nat.le_refl _) _).cell (p := ⟨5, 15, none⟩) hg |>.trans HT.out
  rintro e w1 ⟨rfl, rfl⟩
  go_wp2_with fail
  have hD : Digs (w.alloc (.cells Tryz.zeroCells148 148)) w.heap.size 65 [] :=
    ⟨rfl, fun j hj => ⟨.int .u8 0, by rw [zc]; simp [hj]⟩, fun j _ => by simp, fun j h => absurd h (by simp)⟩
  have hB : Below w.heap.size w (w.alloc (.cells Tryz.zeroCells148 148)) := (Below.refl _ _).alloc (Nat.le_refl _) _
  go_loopw [1, 13] (fun uu ii wr => ∃ (n i : Nat) (acc : List UInt8), uu = .int .u64 n ∧ ii = .int .i64 i ∧ n < 16 ^ (8 - acc.length) ∧ acc.length ≤ 7 ∧ hexL u = hexD (7 - acc.length) n ++ acc ∧ Digs wr w.heap.size i acc ∧ Below w.heap.size w wr) (fun uu _ _ => (RowKit.intOf uu).toNat)
  case atStart => exact ⟨u, 65, [], rfl, rfl, by simpa using hu, by simp, by simp [hexL], hD, hB⟩
  case round =>
    clear hD hB
    obtain ⟨n, i, acc, rfl, rfl, hn, hl, hacc, hD, hB⟩ := hrel
    have HA := Lib.hid hacc
    have HD := Lib.hid hD
    have hi := hD.len
    clear hacc hD
    have hn2 : n < 4294967296 := Nat.lt_of_lt_of_le hn (Nat.le_trans (Nat.pow_le_pow_right (by omega) (Nat.sub_le 8 acc.length)) (by decide))
    have HN := Lib.hid hn
    clear hn
    by_cases h16 : 16 ≤ n
    · have hand := and15 n (by omega)
      have hdig : n % 16 < 16 := by omega
      obtain ⟨c, hc⟩ := HD.out.some' (i - 1) (by omega)
      have hf := HD.out.fz (i - 1) (by omega)
      obtain ⟨i', rfl⟩ : ∃ i', i = i' + 1 := ⟨i - 1, by omega⟩
      rw [Nat.add_sub_cancel] at hc hf
      go_wp2_with fail
      go_roundw
      case rel =>
        have hq : n % 16 < digS.size := Nat.lt_of_lt_of_le hdig (by decide)
        have hl6 : acc.length ≤ 6 := by
          rcases Nat.lt_or_ge 6 acc.length with h | h
          · have e : 8 - acc.length = 1 := by omega
            have := HN.out; rw [e] at this; omega
          · exact h
        refine ⟨n / 16, i', digS[n % 16] :: acc, by go_num, rfl, ?_, by simp; omega, ?_, HD.out.put _, hB.setCell (Nat.le_refl _) _⟩
        · have h1 := HN.out
          have e : 8 - acc.length = (8 - (acc.length + 1)) + 1 := by omega
          rw [e, Nat.pow_succ] at h1
          simp only [List.length_cons]
          omega
        · rw [HA.out, digS_get _ hdig]
          have e : 7 - acc.length = (7 - (acc.length + 1)) + 1 := by omega
          rw [e, hexD_great h16]
          simp
      case measure => simp [RowKit.intOf]; omega
    · obtain ⟨c, hc⟩ := HD.out.some' (i - 1) (by omega)
      have hf := HD.out.fz (i - 1) (by omega)
      obtain ⟨i', rfl⟩ : ∃ i', i = i' + 1 := ⟨i - 1, by omega⟩
      rw [Nat.add_sub_cancel] at hc hf
      have hsl := sl65 w.heap.size i' (by omega)
      have hq : n < digS.size := Nat.lt_of_lt_of_le (show n < 16 by omega) (by decide)
      have hq2 : n < (⟨#[48, 49, 50, 51, 52, 53, 54, 55, 56, 57, 97, 98, 99, 100, 101, 102, 103, 104, 105, 106, 107, 108, 109, 110, 111, 112, 113, 114, 115, 116, 117, 118, 119, 120, 121, 122]⟩ : ByteArray).size := hq
      have hcv : (convert 88 9 (.slice (some ⟨w.heap.size, i', none⟩) (65 - i') (65 - i'))).run Tryz.prog (wr.setCell ⟨w.heap.size, i', none⟩ (.int .u8 (((⟨#[48, 49, 50, 51, 52, 53, 54, 55, 56, 57, 97, 98, 99, 100, 101, 102, 103, 104, 105, 106, 107, 108, 109, 110, 111, 112, 113, 114, 115, 116, 117, 118, 119, 120, 121, 122]⟩ : ByteArray)[n]'hq2).toNat : Int))) = .ok (.string ⟨(digS[n]'hq :: acc).toArray⟩) (wr.setCell ⟨w.heap.size, i', none⟩ (.int .u8 (((⟨#[48, 49, 50, 51, 52, 53, 54, 55, 56, 57, 97, 98, 99, 100, 101, 102, 103, 104, 105, 106, 107, 108, 109, 110, 111, 112, 113, 114, 115, 116, 117, 118, 119, 120, 121, 122]⟩ : ByteArray)[n]'hq2).toNat : Int))) := conv65 _ _ _ _ (HD.out.put (digS[n]'hq))
      have hR : digS[n]'hq :: acc = hexL u := by rw [HA.out, digS_get _ (by omega), hexD_small (by omega)]; rfl
      rw [hR] at hcv
      clear hR
      have hi64 : (i' : Int) ≤ 64 := by omega
      obtain ⟨L, hL⟩ : ∃ L, hexL u = L := ⟨_, rfl⟩
      rw [hL] at hcv
      have HL := Lib.hid hL
      clear hL
      have HB := Lib.hid hB
      clear hB
      go_wp2_with fail
      go_ret2
      exact ⟨congrArg (fun L : List UInt8 => Ending.returned (.tuple #[.slice none 0 0, .string ⟨L.toArray⟩])) HL.out.symm, HB.out.setCell (Nat.le_refl _) _⟩

set_option maxRecDepth 100000 in
set_option maxHeartbeats 400000 in
theorem formatInt_any (u : Nat) (hu : u < 4294967296) (w : World) (hT : w.cell? ⟨5, 15, none⟩ = some (.int .u8 4)) (hg : 5 < w.heap.size) :
    Calls Tryz.prog 59 #[.int .i64 u, .int .i64 16] w fun e w' => e = .returned (.string ⟨(hexL u).toArray⟩) ∧ Below w.heap.size w w' := by
  have HF := Lib.hid (formatBits_any u hu w hT hg)
  generalize hexL u = L at HF ⊢
  clear hT
  go_enter Tryz.func59, Tryz.ntmps59
  go_wp2_with fail
  go_in
  go_wp2_with fail
  refine HF.out.mono ?_
  rintro e w1 ⟨rfl, b1⟩
  go_wp2_with fail
  go_ret
  exact ⟨rfl, b1⟩
end Go.Proofs.YtpeiamllkddhiaaGreatDoor.R
