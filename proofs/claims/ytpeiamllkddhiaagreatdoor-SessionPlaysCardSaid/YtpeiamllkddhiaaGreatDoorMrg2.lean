/- Several texts in one. -/
import Derived.Test.YtpeiamllkddhiaaGreatDoorMrg1
import Derived.Lib.DecodeN

/- Leaves of the reference's decoding. Written by gen.py. -/
namespace Go.Proofs.YtpeiamllkddhiaaGreatDoor.R
open Go.RowKit Go.PlainAid
set_option maxHeartbeats 1000000 in
theorem at_c30 (s : ByteArray) (k : Nat) (w : World) (_hs : s.size ≤ 140737488355328) (hk : k < s.size) (h1 : 240 ≤ bt s k) (h2 : bt s k ≤ 244) (t1 : tl s (k + 1) < 0) :
    Calls Tryz.prog 51 #[.string s, .int .i64 k] w fun e w' => e = .returned (.agg #[.int .i64 (-1), .int .i64 1]) ∧ Below w.heap.size w w' := by
  have hb := get_bt s
  have h0 := bt_nonneg s k
  have h9 := bt_le s k
  have l1 := tl_le s (k + 1)
  go_enter Tryz.func51, Tryz.ntmps51
  go_wp2_with fail
  refine wp_loop_rounds 2 ?_
  rw [rounds_succ]
  go_wp2_with fail
  rw [show ((k : Int) + 1) = ((k + 1 : Nat) : Int) from by omega]
  refine (tail_any s (k + 1) _ _hs).mono ?_
  rintro e w1 ⟨rfl, rfl⟩
  go_wp2_with fail
  go_returns
  exact ⟨rfl, (Below.refl _ _).alloc (Nat.le_refl _) _⟩

set_option maxHeartbeats 1000000 in
theorem at_c31 (s : ByteArray) (k : Nat) (w : World) (_hs : s.size ≤ 140737488355328) (hk : k < s.size) (h1 : 240 ≤ bt s k) (h2 : bt s k ≤ 244) (t1 : 0 ≤ tl s (k + 1)) (t2 : tl s (k + 2) < 0) :
    Calls Tryz.prog 51 #[.string s, .int .i64 k] w fun e w' => e = .returned (.agg #[.int .i64 (-1), .int .i64 1]) ∧ Below w.heap.size w w' := by
  have hb := get_bt s
  have h0 := bt_nonneg s k
  have h9 := bt_le s k
  have l1 := tl_le s (k + 1)
  have l2 := tl_le s (k + 2)
  go_enter Tryz.func51, Tryz.ntmps51
  go_wp2_with fail
  refine wp_loop_rounds 3 ?_
  rw [rounds_succ]
  go_wp2_with fail
  rw [show ((k : Int) + 1) = ((k + 1 : Nat) : Int) from by omega]
  refine (tail_any s (k + 1) _ _hs).mono ?_
  rintro e w1 ⟨rfl, rfl⟩
  go_wp2_with fail
  rw [rounds_succ]
  go_wp2_with fail
  rw [show ((k : Int) + 2) = ((k + 2 : Nat) : Int) from by omega]
  refine (tail_any s (k + 2) _ _hs).mono ?_
  rintro e w2 ⟨rfl, rfl⟩
  go_wp2_with fail
  go_returns
  exact ⟨rfl, (Below.refl _ _).alloc (Nat.le_refl _) _⟩

set_option maxHeartbeats 1000000 in
theorem at_c32 (s : ByteArray) (k : Nat) (w : World) (_hs : s.size ≤ 140737488355328) (hk : k < s.size) (h1 : 240 ≤ bt s k) (h2 : bt s k ≤ 244) (t1 : 0 ≤ tl s (k + 1)) (t2 : 0 ≤ tl s (k + 2)) (t3 : tl s (k + 3) < 0) :
    Calls Tryz.prog 51 #[.string s, .int .i64 k] w fun e w' => e = .returned (.agg #[.int .i64 (-1), .int .i64 1]) ∧ Below w.heap.size w w' := by
  have hb := get_bt s
  have h0 := bt_nonneg s k
  have h9 := bt_le s k
  have l1 := tl_le s (k + 1)
  have l2 := tl_le s (k + 2)
  have l3 := tl_le s (k + 3)
  go_enter Tryz.func51, Tryz.ntmps51
  go_wp2_with fail
  refine wp_loop_rounds 4 ?_
  rw [rounds_succ]
  go_wp2_with fail
  rw [show ((k : Int) + 1) = ((k + 1 : Nat) : Int) from by omega]
  refine (tail_any s (k + 1) _ _hs).mono ?_
  rintro e w1 ⟨rfl, rfl⟩
  go_wp2_with fail
  rw [rounds_succ]
  go_wp2_with fail
  rw [show ((k : Int) + 2) = ((k + 2 : Nat) : Int) from by omega]
  refine (tail_any s (k + 2) _ _hs).mono ?_
  rintro e w2 ⟨rfl, rfl⟩
  go_wp2_with fail
  rw [rounds_succ]
  go_wp2_with fail
  rw [show ((k : Int) + 3) = ((k + 3 : Nat) : Int) from by omega]
  refine (tail_any s (k + 3) _ _hs).mono ?_
  rintro e w3 ⟨rfl, rfl⟩
  go_wp2_with fail
  go_returns
  exact ⟨rfl, (Below.refl _ _).alloc (Nat.le_refl _) _⟩

set_option maxHeartbeats 1000000 in
theorem at_c3x (s : ByteArray) (k : Nat) (w : World) (_hs : s.size ≤ 140737488355328) (hk : k < s.size) (h1 : 240 ≤ bt s k) (h2 : bt s k ≤ 244) (h3 : (64 * (64 * (64 * (bt s k - 240) + tl s (k + 1)) + tl s (k + 2)) + tl s (k + 3)) < 65536) (t1 : 0 ≤ tl s (k + 1)) (t2 : 0 ≤ tl s (k + 2)) (t3 : 0 ≤ tl s (k + 3)) :
    Calls Tryz.prog 51 #[.string s, .int .i64 k] w fun e w' => e = .returned (.agg #[.int .i64 (-1), .int .i64 1]) ∧ Below w.heap.size w w' := by
  have hb := get_bt s
  have h0 := bt_nonneg s k
  have h9 := bt_le s k
  have l1 := tl_le s (k + 1)
  have l2 := tl_le s (k + 2)
  have l3 := tl_le s (k + 3)
  go_enter Tryz.func51, Tryz.ntmps51
  go_wp2_with fail
  refine wp_loop_rounds 4 ?_
  rw [rounds_succ]
  go_wp2_with fail
  rw [show ((k : Int) + 1) = ((k + 1 : Nat) : Int) from by omega]
  refine (tail_any s (k + 1) _ _hs).mono ?_
  rintro e w1 ⟨rfl, rfl⟩
  go_wp2_with fail
  rw [rounds_succ]
  go_wp2_with fail
  rw [show ((k : Int) + 2) = ((k + 2 : Nat) : Int) from by omega]
  refine (tail_any s (k + 2) _ _hs).mono ?_
  rintro e w2 ⟨rfl, rfl⟩
  go_wp2_with fail
  rw [rounds_succ]
  go_wp2_with fail
  rw [show ((k : Int) + 3) = ((k + 3 : Nat) : Int) from by omega]
  refine (tail_any s (k + 3) _ _hs).mono ?_
  rintro e w3 ⟨rfl, rfl⟩
  go_wp2_with fail
  rw [rounds_succ]
  go_wp2_with fail
  go_returns
  exact ⟨rfl, (Below.refl _ _).alloc (Nat.le_refl _) _⟩

set_option maxHeartbeats 1000000 in
theorem at_c3y (s : ByteArray) (k : Nat) (w : World) (_hs : s.size ≤ 140737488355328) (hk : k < s.size) (h1 : 240 ≤ bt s k) (h2 : bt s k ≤ 244) (h3 : 1114111 < (64 * (64 * (64 * (bt s k - 240) + tl s (k + 1)) + tl s (k + 2)) + tl s (k + 3))) (t1 : 0 ≤ tl s (k + 1)) (t2 : 0 ≤ tl s (k + 2)) (t3 : 0 ≤ tl s (k + 3)) :
    Calls Tryz.prog 51 #[.string s, .int .i64 k] w fun e w' => e = .returned (.agg #[.int .i64 (-1), .int .i64 1]) ∧ Below w.heap.size w w' := by
  have hb := get_bt s
  have h0 := bt_nonneg s k
  have h9 := bt_le s k
  have l1 := tl_le s (k + 1)
  have l2 := tl_le s (k + 2)
  have l3 := tl_le s (k + 3)
  go_enter Tryz.func51, Tryz.ntmps51
  go_wp2_with fail
  refine wp_loop_rounds 4 ?_
  rw [rounds_succ]
  go_wp2_with fail
  rw [show ((k : Int) + 1) = ((k + 1 : Nat) : Int) from by omega]
  refine (tail_any s (k + 1) _ _hs).mono ?_
  rintro e w1 ⟨rfl, rfl⟩
  go_wp2_with fail
  rw [rounds_succ]
  go_wp2_with fail
  rw [show ((k : Int) + 2) = ((k + 2 : Nat) : Int) from by omega]
  refine (tail_any s (k + 2) _ _hs).mono ?_
  rintro e w2 ⟨rfl, rfl⟩
  go_wp2_with fail
  rw [rounds_succ]
  go_wp2_with fail
  rw [show ((k : Int) + 3) = ((k + 3 : Nat) : Int) from by omega]
  refine (tail_any s (k + 3) _ _hs).mono ?_
  rintro e w3 ⟨rfl, rfl⟩
  go_wp2_with fail
  rw [rounds_succ]
  go_wp2_with fail
  go_returns
  exact ⟨rfl, (Below.refl _ _).alloc (Nat.le_refl _) _⟩

set_option maxHeartbeats 1000000 in
theorem at_c3k (s : ByteArray) (k : Nat) (w : World) (_hs : s.size ≤ 140737488355328) (hk : k < s.size) (h1 : 240 ≤ bt s k) (h2 : bt s k ≤ 244) (h3 : 65536 ≤ (64 * (64 * (64 * (bt s k - 240) + tl s (k + 1)) + tl s (k + 2)) + tl s (k + 3))) (h4 : (64 * (64 * (64 * (bt s k - 240) + tl s (k + 1)) + tl s (k + 2)) + tl s (k + 3)) ≤ 1114111) (t1 : 0 ≤ tl s (k + 1)) (t2 : 0 ≤ tl s (k + 2)) (t3 : 0 ≤ tl s (k + 3)) :
    Calls Tryz.prog 51 #[.string s, .int .i64 k] w fun e w' => e = .returned (.agg #[.int .i64 ((64 * (64 * (64 * (bt s k - 240) + tl s (k + 1)) + tl s (k + 2)) + tl s (k + 3))), .int .i64 4]) ∧ Below w.heap.size w w' := by
  have hb := get_bt s
  have h0 := bt_nonneg s k
  have h9 := bt_le s k
  have l1 := tl_le s (k + 1)
  have l2 := tl_le s (k + 2)
  have l3 := tl_le s (k + 3)
  go_enter Tryz.func51, Tryz.ntmps51
  go_wp2_with fail
  refine wp_loop_rounds 4 ?_
  rw [rounds_succ]
  go_wp2_with fail
  rw [show ((k : Int) + 1) = ((k + 1 : Nat) : Int) from by omega]
  refine (tail_any s (k + 1) _ _hs).mono ?_
  rintro e w1 ⟨rfl, rfl⟩
  go_wp2_with fail
  rw [rounds_succ]
  go_wp2_with fail
  rw [show ((k : Int) + 2) = ((k + 2 : Nat) : Int) from by omega]
  refine (tail_any s (k + 2) _ _hs).mono ?_
  rintro e w2 ⟨rfl, rfl⟩
  go_wp2_with fail
  rw [rounds_succ]
  go_wp2_with fail
  rw [show ((k : Int) + 3) = ((k + 3 : Nat) : Int) from by omega]
  refine (tail_any s (k + 3) _ _hs).mono ?_
  rintro e w3 ⟨rfl, rfl⟩
  go_wp2_with fail
  rw [rounds_succ]
  go_wp2_with fail
  go_returns
  exact ⟨rfl, (Below.refl _ _).alloc (Nat.le_refl _) _⟩

end Go.Proofs.YtpeiamllkddhiaaGreatDoor.R

/- Plain arithmetic: the reference's reading of a rune is the model's own decode. -/
namespace Go.Proofs.YtpeiamllkddhiaaGreatDoor.R
open Go.RowKit Go.PlainAid Go.Lib

def tlN (n i b : Nat) : Int := if i < n ∧ 128 ≤ b ∧ b ≤ 191 then (b : Int) - 128 else -1
theorem tlN_neg {n i b : Nat} (h : ¬ (i < n ∧ b / 64 = 2)) (_hb : b < 256) : tlN n i b = -1 := by unfold tlN; rw [if_neg (by omega)]
theorem tlN_pos {n i b : Nat} (h : i < n ∧ b / 64 = 2) (_hb : b < 256) : tlN n i b = (b % 64 : Nat) := by unfold tlN; rw [if_pos (by omega)]; omega

/-- what the reference says of the model's rune and width -/
def ofDec (d : Nat × Nat) : Int × Int := if d.1 = 65533 ∧ d.2 = 1 then (-1, 1) else (d.1, d.2)
theorem ofDec_bad : ofDec (65533, 1) = (-1, 1) := by simp [ofDec]
theorem ofDec_ok {v n : Nat} (h : ¬ (v = 65533 ∧ n = 1)) : ofDec (v, n) = ((v : Int), (n : Int)) := by unfold ofDec; rw [if_neg (by simpa using h)]

theorem refV_dec (n b0 b1 b2 b3 : Nat) (h0 : b0 < 256) (h1 : b1 < 256) (h2 : b2 < 256) (h3 : b3 < 256) :
    refV b0 (tlN n 1 b1) (tlN n 2 b2) (tlN n 3 b3) = ofDec (decodeN n b0 b1 b2 b3) := by
  by_cases c1 : b0 < 128
  · unfold refV decodeN
    rw [if_pos (by omega), if_pos c1, ofDec_ok (by omega)]; rfl
  by_cases c2 : b0 < 194 ∨ 244 < b0
  · have e : decodeN n b0 b1 b2 b3 = (65533, 1) := by
      unfold decodeN
      rw [if_neg c1]
      split
      · rw [if_neg (by omega)]
      · split
        · omega
        · split
          · rw [if_neg (by omega)]
          · rfl
    rw [e, ofDec_bad]
    unfold refV
    rw [if_neg (by omega), if_neg (by omega), if_neg (by omega), if_neg (by omega)]
  by_cases c3 : b0 ≤ 223
  · unfold refV
    rw [if_neg (by omega), if_pos (by omega)]
    by_cases t1 : 1 < n ∧ b1 / 64 = 2
    · have e : decodeN n b0 b1 b2 b3 = (b0 % 32 * 64 + b1 % 64, 2) := by
        unfold decodeN
        rw [if_neg c1, if_pos ⟨by omega, t1⟩, if_pos (by omega)]
      rw [e, tlN_pos t1 h1, if_neg (by omega), ofDec_ok (by omega)]
      refine Prod.ext ?_ rfl
      show (64 : Int) * (b0 - 192) + (b1 % 64 : Nat) = ((b0 % 32 * 64 + b1 % 64 : Nat) : Int)
      omega
    · have e : decodeN n b0 b1 b2 b3 = (65533, 1) := by
        unfold decodeN
        rw [if_neg c1, if_neg (fun h => t1 h.2), if_neg (by omega), if_neg (by omega)]
      rw [e, tlN_neg t1 h1, if_pos (by omega), ofDec_bad]
  by_cases c4 : b0 ≤ 239
  · unfold refV
    rw [if_neg (by omega), if_neg (by omega), if_pos (by omega)]
    have a1 : ¬ (b0 / 32 = 6 ∧ (1 < n ∧ b1 / 64 = 2)) := by omega
    have a3 : ¬ (b0 / 8 = 30 ∧ (1 < n ∧ b1 / 64 = 2) ∧ (2 < n ∧ b2 / 64 = 2) ∧ (3 < n ∧ b3 / 64 = 2)) := by omega
    by_cases t1 : 1 < n ∧ b1 / 64 = 2
    · by_cases t2 : 2 < n ∧ b2 / 64 = 2
      · have e : decodeN n b0 b1 b2 b3 = if b0 % 16 * 4096 + b1 % 64 * 64 + b2 % 64 ≥ 2048 ∧ (b0 % 16 * 4096 + b1 % 64 * 64 + b2 % 64 < 55296 ∨ (57344 ≤ b0 % 16 * 4096 + b1 % 64 * 64 + b2 % 64 ∧ b0 % 16 * 4096 + b1 % 64 * 64 + b2 % 64 ≤ 1114111)) then (b0 % 16 * 4096 + b1 % 64 * 64 + b2 % 64, 3) else (65533, 1) := by
          unfold decodeN
          rw [if_neg c1, if_neg a1, if_pos ⟨by omega, t1, t2⟩]
        rw [e, tlN_pos t1 h1, tlN_pos t2 h2, if_neg (by omega), if_neg (by omega)]
        by_cases g : b0 % 16 * 4096 + b1 % 64 * 64 + b2 % 64 ≥ 2048 ∧ (b0 % 16 * 4096 + b1 % 64 * 64 + b2 % 64 < 55296 ∨ (57344 ≤ b0 % 16 * 4096 + b1 % 64 * 64 + b2 % 64 ∧ b0 % 16 * 4096 + b1 % 64 * 64 + b2 % 64 ≤ 1114111))
        · rw [if_pos g, if_neg (by omega), ofDec_ok (by omega)]
          refine Prod.ext ?_ rfl
          show (64 : Int) * (64 * (b0 - 224) + (b1 % 64 : Nat)) + (b2 % 64 : Nat) = ((b0 % 16 * 4096 + b1 % 64 * 64 + b2 % 64 : Nat) : Int)
          omega
        · rw [if_neg g, if_pos (by omega), ofDec_bad]
      · have e : decodeN n b0 b1 b2 b3 = (65533, 1) := by
          unfold decodeN
          rw [if_neg c1, if_neg a1, if_neg (fun h => t2 h.2.2), if_neg a3]
        rw [e, tlN_pos t1 h1, tlN_neg t2 h2, if_neg (by omega), if_pos (by omega), ofDec_bad]
    · have e : decodeN n b0 b1 b2 b3 = (65533, 1) := by
        unfold decodeN
        rw [if_neg c1, if_neg a1, if_neg (fun h => t1 h.2.1), if_neg a3]
      rw [e, tlN_neg t1 h1, if_pos (by omega), ofDec_bad]
  · unfold refV
    rw [if_neg (by omega), if_neg (by omega), if_neg (by omega), if_pos (by omega)]
    have a1 : ¬ (b0 / 32 = 6 ∧ (1 < n ∧ b1 / 64 = 2)) := by omega
    have a2 : ¬ (b0 / 16 = 14 ∧ (1 < n ∧ b1 / 64 = 2) ∧ (2 < n ∧ b2 / 64 = 2)) := by omega
    by_cases t1 : 1 < n ∧ b1 / 64 = 2
    · by_cases t2 : 2 < n ∧ b2 / 64 = 2
      · by_cases t3 : 3 < n ∧ b3 / 64 = 2
        · have e : decodeN n b0 b1 b2 b3 = if b0 % 8 * 262144 + b1 % 64 * 4096 + b2 % 64 * 64 + b3 % 64 ≥ 65536 ∧ (b0 % 8 * 262144 + b1 % 64 * 4096 + b2 % 64 * 64 + b3 % 64 < 55296 ∨ (57344 ≤ b0 % 8 * 262144 + b1 % 64 * 4096 + b2 % 64 * 64 + b3 % 64 ∧ b0 % 8 * 262144 + b1 % 64 * 4096 + b2 % 64 * 64 + b3 % 64 ≤ 1114111)) then (b0 % 8 * 262144 + b1 % 64 * 4096 + b2 % 64 * 64 + b3 % 64, 4) else (65533, 1) := by
            unfold decodeN
            rw [if_neg c1, if_neg a1, if_neg a2, if_pos ⟨by omega, t1, t2, t3⟩]
          rw [e, tlN_pos t1 h1, tlN_pos t2 h2, tlN_pos t3 h3, if_neg (by omega), if_neg (by omega), if_neg (by omega)]
          by_cases g : b0 % 8 * 262144 + b1 % 64 * 4096 + b2 % 64 * 64 + b3 % 64 ≥ 65536 ∧ (b0 % 8 * 262144 + b1 % 64 * 4096 + b2 % 64 * 64 + b3 % 64 < 55296 ∨ (57344 ≤ b0 % 8 * 262144 + b1 % 64 * 4096 + b2 % 64 * 64 + b3 % 64 ∧ b0 % 8 * 262144 + b1 % 64 * 4096 + b2 % 64 * 64 + b3 % 64 ≤ 1114111))
          · rw [if_pos g, if_neg (by omega), ofDec_ok (by omega)]
            refine Prod.ext ?_ rfl
            show (64 : Int) * (64 * (64 * (b0 - 240) + (b1 % 64 : Nat)) + (b2 % 64 : Nat)) + (b3 % 64 : Nat) = ((b0 % 8 * 262144 + b1 % 64 * 4096 + b2 % 64 * 64 + b3 % 64 : Nat) : Int)
            omega
          · rw [if_neg g, if_pos (by omega), ofDec_bad]
        · have e : decodeN n b0 b1 b2 b3 = (65533, 1) := by
            unfold decodeN
            rw [if_neg c1, if_neg a1, if_neg a2, if_neg (fun h => t3 h.2.2.2)]
          rw [e, tlN_pos t1 h1, tlN_pos t2 h2, tlN_neg t3 h3, if_neg (by omega), if_neg (by omega), if_pos (by omega), ofDec_bad]
      · have e : decodeN n b0 b1 b2 b3 = (65533, 1) := by
          unfold decodeN
          rw [if_neg c1, if_neg a1, if_neg a2, if_neg (fun h => t2 h.2.2.1)]
        rw [e, tlN_pos t1 h1, tlN_neg t2 h2, if_neg (by omega), if_pos (by omega), ofDec_bad]
    · have e : decodeN n b0 b1 b2 b3 = (65533, 1) := by
        unfold decodeN
        rw [if_neg c1, if_neg a1, if_neg a2, if_neg (fun h => t1 h.2.1)]
      rw [e, tlN_neg t1 h1, if_pos (by omega), ofDec_bad]

theorem bt_get (s : ByteArray) {k : Nat} (h : k < s.size) : bt s k = ((s.get! k).toNat : Int) := by
  unfold bt
  rw [dif_pos h]
  have e : s.get! k = s[k]'h := by
    cases s with
    | mk d => exact getElem!_pos d k h
  rw [e]
theorem tl_tlN (s : ByteArray) (k i : Nat) : tl s (k + i) = tlN (s.size - k) i (s.get! (k + i)).toNat := by
  unfold tl tlN
  by_cases h : k + i < s.size
  · rw [bt_get s h]
    by_cases g : 128 ≤ (s.get! (k + i)).toNat ∧ (s.get! (k + i)).toNat ≤ 191
    · rw [if_pos (by omega), if_pos (by omega)]
    · rw [if_neg (by omega), if_neg (by omega)]
  · rw [if_neg (by omega), if_neg (by omega)]
theorem u8_lt (b : UInt8) : b.toNat < 256 := b.toNat_lt
/-- THE REFERENCE's RUNE IS THE MODEL's. -/
theorem refAt_dec (s : ByteArray) {k : Nat} (h : k < s.size) : refAt s k = ofDec (Utf8.decode s k) := by
  rw [decode_at, ← refV_dec _ _ _ _ _ (u8_lt _) (u8_lt _) (u8_lt _) (u8_lt _)]
  unfold refAt
  rw [bt_get s h, tl_tlN, tl_tlN, tl_tlN]
end Go.Proofs.YtpeiamllkddhiaaGreatDoor.R
