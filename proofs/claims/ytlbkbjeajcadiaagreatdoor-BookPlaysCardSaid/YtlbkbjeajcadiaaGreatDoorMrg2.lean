/- Several texts in one. -/
import Derived.Test.YtlbkbjeajcadiaaGreatDoorMrg1

/- Leaves of the reference's decoding. Written by gen.py. -/
namespace Go.Proofs.YtlbkbjeajcadiaaGreatDoor.R
open Go.RowKit Go.PlainAid
set_option maxHeartbeats 1000000 in
theorem at_c20 (s : ByteArray) (k : Nat) (w : World) (_hs : s.size ≤ 140737488355328) (hk : k < s.size) (h1 : 224 ≤ bt s k) (h2 : bt s k ≤ 239) (t1 : tl s (k + 1) < 0) :
    Calls Tryz.prog 165 #[.string s, .int .i64 k] w fun e w' => e = .returned (.agg #[.int .i64 (-1), .int .i64 1]) ∧ Below w.heap.size w w' := by
  have hb := get_bt s
  have h0 := bt_nonneg s k
  have h9 := bt_le s k
  have l1 := tl_le s (k + 1)
  go_enter Tryz.func165, Tryz.ntmps165
  go_wp2_with fail
  refine wp_loop_rounds 2 ?_
  rw [rounds_succ]
  go_wp2_with fail
  rw [show ((k : Int) + 1) = ((k + 1 : Nat) : Int) from by omega]
  refine (tail_any s (k + 1) _ _hs).mono ?_
  rintro e w1 ⟨rfl, rfl⟩
  go_wp2_with fail
  go_returns
  exact ⟨rfl, (Below.refl _ _).alloc (Nat.le_refl _) _⟩

set_option maxHeartbeats 1000000 in
theorem at_c21 (s : ByteArray) (k : Nat) (w : World) (_hs : s.size ≤ 140737488355328) (hk : k < s.size) (h1 : 224 ≤ bt s k) (h2 : bt s k ≤ 239) (t1 : 0 ≤ tl s (k + 1)) (t2 : tl s (k + 2) < 0) :
    Calls Tryz.prog 165 #[.string s, .int .i64 k] w fun e w' => e = .returned (.agg #[.int .i64 (-1), .int .i64 1]) ∧ Below w.heap.size w w' := by
  have hb := get_bt s
  have h0 := bt_nonneg s k
  have h9 := bt_le s k
  have l1 := tl_le s (k + 1)
  have l2 := tl_le s (k + 2)
  go_enter Tryz.func165, Tryz.ntmps165
  go_wp2_with fail
  refine wp_loop_rounds 3 ?_
  rw [rounds_succ]
  go_wp2_with fail
  rw [show ((k : Int) + 1) = ((k + 1 : Nat) : Int) from by omega]
  refine (tail_any s (k + 1) _ _hs).mono ?_
  rintro e w1 ⟨rfl, rfl⟩
  go_wp2_with fail
  rw [rounds_succ]
  go_wp2_with fail
  rw [show ((k : Int) + 2) = ((k + 2 : Nat) : Int) from by omega]
  refine (tail_any s (k + 2) _ _hs).mono ?_
  rintro e w2 ⟨rfl, rfl⟩
  go_wp2_with fail
  go_returns
  exact ⟨rfl, (Below.refl _ _).alloc (Nat.le_refl _) _⟩

set_option maxHeartbeats 1000000 in
theorem at_c2x (s : ByteArray) (k : Nat) (w : World) (_hs : s.size ≤ 140737488355328) (hk : k < s.size) (h1 : 224 ≤ bt s k) (h2 : bt s k ≤ 239) (h3 : (64 * (64 * (bt s k - 224) + tl s (k + 1)) + tl s (k + 2)) < 2048) (t1 : 0 ≤ tl s (k + 1)) (t2 : 0 ≤ tl s (k + 2)) :
    Calls Tryz.prog 165 #[.string s, .int .i64 k] w fun e w' => e = .returned (.agg #[.int .i64 (-1), .int .i64 1]) ∧ Below w.heap.size w w' := by
  have hb := get_bt s
  have h0 := bt_nonneg s k
  have h9 := bt_le s k
  have l1 := tl_le s (k + 1)
  have l2 := tl_le s (k + 2)
  go_enter Tryz.func165, Tryz.ntmps165
  go_wp2_with fail
  refine wp_loop_rounds 3 ?_
  rw [rounds_succ]
  go_wp2_with fail
  rw [show ((k : Int) + 1) = ((k + 1 : Nat) : Int) from by omega]
  refine (tail_any s (k + 1) _ _hs).mono ?_
  rintro e w1 ⟨rfl, rfl⟩
  go_wp2_with fail
  rw [rounds_succ]
  go_wp2_with fail
  rw [show ((k : Int) + 2) = ((k + 2 : Nat) : Int) from by omega]
  refine (tail_any s (k + 2) _ _hs).mono ?_
  rintro e w2 ⟨rfl, rfl⟩
  go_wp2_with fail
  rw [rounds_succ]
  go_wp2_with fail
  go_returns
  exact ⟨rfl, (Below.refl _ _).alloc (Nat.le_refl _) _⟩

set_option maxHeartbeats 1000000 in
theorem at_c2y (s : ByteArray) (k : Nat) (w : World) (_hs : s.size ≤ 140737488355328) (hk : k < s.size) (h1 : 224 ≤ bt s k) (h2 : bt s k ≤ 239) (h3 : 55296 ≤ (64 * (64 * (bt s k - 224) + tl s (k + 1)) + tl s (k + 2))) (h4 : (64 * (64 * (bt s k - 224) + tl s (k + 1)) + tl s (k + 2)) ≤ 57343) (t1 : 0 ≤ tl s (k + 1)) (t2 : 0 ≤ tl s (k + 2)) :
    Calls Tryz.prog 165 #[.string s, .int .i64 k] w fun e w' => e = .returned (.agg #[.int .i64 (-1), .int .i64 1]) ∧ Below w.heap.size w w' := by
  have hb := get_bt s
  have h0 := bt_nonneg s k
  have h9 := bt_le s k
  have l1 := tl_le s (k + 1)
  have l2 := tl_le s (k + 2)
  go_enter Tryz.func165, Tryz.ntmps165
  go_wp2_with fail
  refine wp_loop_rounds 3 ?_
  rw [rounds_succ]
  go_wp2_with fail
  rw [show ((k : Int) + 1) = ((k + 1 : Nat) : Int) from by omega]
  refine (tail_any s (k + 1) _ _hs).mono ?_
  rintro e w1 ⟨rfl, rfl⟩
  go_wp2_with fail
  rw [rounds_succ]
  go_wp2_with fail
  rw [show ((k : Int) + 2) = ((k + 2 : Nat) : Int) from by omega]
  refine (tail_any s (k + 2) _ _hs).mono ?_
  rintro e w2 ⟨rfl, rfl⟩
  go_wp2_with fail
  rw [rounds_succ]
  go_wp2_with fail
  go_returns
  exact ⟨rfl, (Below.refl _ _).alloc (Nat.le_refl _) _⟩

set_option maxHeartbeats 1000000 in
theorem at_c2k (s : ByteArray) (k : Nat) (w : World) (_hs : s.size ≤ 140737488355328) (hk : k < s.size) (h1 : 224 ≤ bt s k) (h2 : bt s k ≤ 239) (h3 : 2048 ≤ (64 * (64 * (bt s k - 224) + tl s (k + 1)) + tl s (k + 2))) (h4 : (64 * (64 * (bt s k - 224) + tl s (k + 1)) + tl s (k + 2)) < 55296) (t1 : 0 ≤ tl s (k + 1)) (t2 : 0 ≤ tl s (k + 2)) :
    Calls Tryz.prog 165 #[.string s, .int .i64 k] w fun e w' => e = .returned (.agg #[.int .i64 ((64 * (64 * (bt s k - 224) + tl s (k + 1)) + tl s (k + 2))), .int .i64 3]) ∧ Below w.heap.size w w' := by
  have hb := get_bt s
  have h0 := bt_nonneg s k
  have h9 := bt_le s k
  have l1 := tl_le s (k + 1)
  have l2 := tl_le s (k + 2)
  go_enter Tryz.func165, Tryz.ntmps165
  go_wp2_with fail
  refine wp_loop_rounds 3 ?_
  rw [rounds_succ]
  go_wp2_with fail
  rw [show ((k : Int) + 1) = ((k + 1 : Nat) : Int) from by omega]
  refine (tail_any s (k + 1) _ _hs).mono ?_
  rintro e w1 ⟨rfl, rfl⟩
  go_wp2_with fail
  rw [rounds_succ]
  go_wp2_with fail
  rw [show ((k : Int) + 2) = ((k + 2 : Nat) : Int) from by omega]
  refine (tail_any s (k + 2) _ _hs).mono ?_
  rintro e w2 ⟨rfl, rfl⟩
  go_wp2_with fail
  rw [rounds_succ]
  go_wp2_with fail
  go_returns
  exact ⟨rfl, (Below.refl _ _).alloc (Nat.le_refl _) _⟩

set_option maxHeartbeats 1000000 in
theorem at_c2l (s : ByteArray) (k : Nat) (w : World) (_hs : s.size ≤ 140737488355328) (hk : k < s.size) (h1 : 224 ≤ bt s k) (h2 : bt s k ≤ 239) (h3 : 57343 < (64 * (64 * (bt s k - 224) + tl s (k + 1)) + tl s (k + 2))) (t1 : 0 ≤ tl s (k + 1)) (t2 : 0 ≤ tl s (k + 2)) :
    Calls Tryz.prog 165 #[.string s, .int .i64 k] w fun e w' => e = .returned (.agg #[.int .i64 ((64 * (64 * (bt s k - 224) + tl s (k + 1)) + tl s (k + 2))), .int .i64 3]) ∧ Below w.heap.size w w' := by
  have hb := get_bt s
  have h0 := bt_nonneg s k
  have h9 := bt_le s k
  have l1 := tl_le s (k + 1)
  have l2 := tl_le s (k + 2)
  go_enter Tryz.func165, Tryz.ntmps165
  go_wp2_with fail
  refine wp_loop_rounds 3 ?_
  rw [rounds_succ]
  go_wp2_with fail
  rw [show ((k : Int) + 1) = ((k + 1 : Nat) : Int) from by omega]
  refine (tail_any s (k + 1) _ _hs).mono ?_
  rintro e w1 ⟨rfl, rfl⟩
  go_wp2_with fail
  rw [rounds_succ]
  go_wp2_with fail
  rw [show ((k : Int) + 2) = ((k + 2 : Nat) : Int) from by omega]
  refine (tail_any s (k + 2) _ _hs).mono ?_
  rintro e w2 ⟨rfl, rfl⟩
  go_wp2_with fail
  rw [rounds_succ]
  go_wp2_with fail
  go_returns
  exact ⟨rfl, (Below.refl _ _).alloc (Nat.le_refl _) _⟩

end Go.Proofs.YtlbkbjeajcadiaaGreatDoor.R

/- Leaves of the reference's decoding. Written by gen.py. -/
namespace Go.Proofs.YtlbkbjeajcadiaaGreatDoor.R
open Go.RowKit Go.PlainAid
set_option maxHeartbeats 1000000 in
theorem at_c30 (s : ByteArray) (k : Nat) (w : World) (_hs : s.size ≤ 140737488355328) (hk : k < s.size) (h1 : 240 ≤ bt s k) (h2 : bt s k ≤ 244) (t1 : tl s (k + 1) < 0) :
    Calls Tryz.prog 165 #[.string s, .int .i64 k] w fun e w' => e = .returned (.agg #[.int .i64 (-1), .int .i64 1]) ∧ Below w.heap.size w w' := by
  have hb := get_bt s
  have h0 := bt_nonneg s k
  have h9 := bt_le s k
  have l1 := tl_le s (k + 1)
  go_enter Tryz.func165, Tryz.ntmps165
  go_wp2_with fail
  refine wp_loop_rounds 2 ?_
  rw [rounds_succ]
  go_wp2_with fail
  rw [show ((k : Int) + 1) = ((k + 1 : Nat) : Int) from by omega]
  refine (tail_any s (k + 1) _ _hs).mono ?_
  rintro e w1 ⟨rfl, rfl⟩
  go_wp2_with fail
  go_returns
  exact ⟨rfl, (Below.refl _ _).alloc (Nat.le_refl _) _⟩

set_option maxHeartbeats 1000000 in
theorem at_c31 (s : ByteArray) (k : Nat) (w : World) (_hs : s.size ≤ 140737488355328) (hk : k < s.size) (h1 : 240 ≤ bt s k) (h2 : bt s k ≤ 244) (t1 : 0 ≤ tl s (k + 1)) (t2 : tl s (k + 2) < 0) :
    Calls Tryz.prog 165 #[.string s, .int .i64 k] w fun e w' => e = .returned (.agg #[.int .i64 (-1), .int .i64 1]) ∧ Below w.heap.size w w' := by
  have hb := get_bt s
  have h0 := bt_nonneg s k
  have h9 := bt_le s k
  have l1 := tl_le s (k + 1)
  have l2 := tl_le s (k + 2)
  go_enter Tryz.func165, Tryz.ntmps165
  go_wp2_with fail
  refine wp_loop_rounds 3 ?_
  rw [rounds_succ]
  go_wp2_with fail
  rw [show ((k : Int) + 1) = ((k + 1 : Nat) : Int) from by omega]
  refine (tail_any s (k + 1) _ _hs).mono ?_
  rintro e w1 ⟨rfl, rfl⟩
  go_wp2_with fail
  rw [rounds_succ]
  go_wp2_with fail
  rw [show ((k : Int) + 2) = ((k + 2 : Nat) : Int) from by omega]
  refine (tail_any s (k + 2) _ _hs).mono ?_
  rintro e w2 ⟨rfl, rfl⟩
  go_wp2_with fail
  go_returns
  exact ⟨rfl, (Below.refl _ _).alloc (Nat.le_refl _) _⟩

set_option maxHeartbeats 1000000 in
theorem at_c32 (s : ByteArray) (k : Nat) (w : World) (_hs : s.size ≤ 140737488355328) (hk : k < s.size) (h1 : 240 ≤ bt s k) (h2 : bt s k ≤ 244) (t1 : 0 ≤ tl s (k + 1)) (t2 : 0 ≤ tl s (k + 2)) (t3 : tl s (k + 3) < 0) :
    Calls Tryz.prog 165 #[.string s, .int .i64 k] w fun e w' => e = .returned (.agg #[.int .i64 (-1), .int .i64 1]) ∧ Below w.heap.size w w' := by
  have hb := get_bt s
  have h0 := bt_nonneg s k
  have h9 := bt_le s k
  have l1 := tl_le s (k + 1)
  have l2 := tl_le s (k + 2)
  have l3 := tl_le s (k + 3)
  go_enter Tryz.func165, Tryz.ntmps165
  go_wp2_with fail
  refine wp_loop_rounds 4 ?_
  rw [rounds_succ]
  go_wp2_with fail
  rw [show ((k : Int) + 1) = ((k + 1 : Nat) : Int) from by omega]
  refine (tail_any s (k + 1) _ _hs).mono ?_
  rintro e w1 ⟨rfl, rfl⟩
  go_wp2_with fail
  rw [rounds_succ]
  go_wp2_with fail
  rw [show ((k : Int) + 2) = ((k + 2 : Nat) : Int) from by omega]
  refine (tail_any s (k + 2) _ _hs).mono ?_
  rintro e w2 ⟨rfl, rfl⟩
  go_wp2_with fail
  rw [rounds_succ]
  go_wp2_with fail
  rw [show ((k : Int) + 3) = ((k + 3 : Nat) : Int) from by omega]
  refine (tail_any s (k + 3) _ _hs).mono ?_
  rintro e w3 ⟨rfl, rfl⟩
  go_wp2_with fail
  go_returns
  exact ⟨rfl, (Below.refl _ _).alloc (Nat.le_refl _) _⟩

set_option maxHeartbeats 1000000 in
theorem at_c3x (s : ByteArray) (k : Nat) (w : World) (_hs : s.size ≤ 140737488355328) (hk : k < s.size) (h1 : 240 ≤ bt s k) (h2 : bt s k ≤ 244) (h3 : (64 * (64 * (64 * (bt s k - 240) + tl s (k + 1)) + tl s (k + 2)) + tl s (k + 3)) < 65536) (t1 : 0 ≤ tl s (k + 1)) (t2 : 0 ≤ tl s (k + 2)) (t3 : 0 ≤ tl s (k + 3)) :
    Calls Tryz.prog 165 #[.string s, .int .i64 k] w fun e w' => e = .returned (.agg #[.int .i64 (-1), .int .i64 1]) ∧ Below w.heap.size w w' := by
  have hb := get_bt s
  have h0 := bt_nonneg s k
  have h9 := bt_le s k
  have l1 := tl_le s (k + 1)
  have l2 := tl_le s (k + 2)
  have l3 := tl_le s (k + 3)
  go_enter Tryz.func165, Tryz.ntmps165
  go_wp2_with fail
  refine wp_loop_rounds 4 ?_
  rw [rounds_succ]
  go_wp2_with fail
  rw [show ((k : Int) + 1) = ((k + 1 : Nat) : Int) from by omega]
  refine (tail_any s (k + 1) _ _hs).mono ?_
  rintro e w1 ⟨rfl, rfl⟩
  go_wp2_with fail
  rw [rounds_succ]
  go_wp2_with fail
  rw [show ((k : Int) + 2) = ((k + 2 : Nat) : Int) from by omega]
  refine (tail_any s (k + 2) _ _hs).mono ?_
  rintro e w2 ⟨rfl, rfl⟩
  go_wp2_with fail
  rw [rounds_succ]
  go_wp2_with fail
  rw [show ((k : Int) + 3) = ((k + 3 : Nat) : Int) from by omega]
  refine (tail_any s (k + 3) _ _hs).mono ?_
  rintro e w3 ⟨rfl, rfl⟩
  go_wp2_with fail
  rw [rounds_succ]
  go_wp2_with fail
  go_returns
  exact ⟨rfl, (Below.refl _ _).alloc (Nat.le_refl _) _⟩

set_option maxHeartbeats 1000000 in
theorem at_c3y (s : ByteArray) (k : Nat) (w : World) (_hs : s.size ≤ 140737488355328) (hk : k < s.size) (h1 : 240 ≤ bt s k) (h2 : bt s k ≤ 244) (h3 : 1114111 < (64 * (64 * (64 * (bt s k - 240) + tl s (k + 1)) + tl s (k + 2)) + tl s (k + 3))) (t1 : 0 ≤ tl s (k + 1)) (t2 : 0 ≤ tl s (k + 2)) (t3 : 0 ≤ tl s (k + 3)) :
    Calls Tryz.prog 165 #[.string s, .int .i64 k] w fun e w' => e = .returned (.agg #[.int .i64 (-1), .int .i64 1]) ∧ Below w.heap.size w w' := by
  have hb := get_bt s
  have h0 := bt_nonneg s k
  have h9 := bt_le s k
  have l1 := tl_le s (k + 1)
  have l2 := tl_le s (k + 2)
  have l3 := tl_le s (k + 3)
  go_enter Tryz.func165, Tryz.ntmps165
  go_wp2_with fail
  refine wp_loop_rounds 4 ?_
  rw [rounds_succ]
  go_wp2_with fail
  rw [show ((k : Int) + 1) = ((k + 1 : Nat) : Int) from by omega]
  refine (tail_any s (k + 1) _ _hs).mono ?_
  rintro e w1 ⟨rfl, rfl⟩
  go_wp2_with fail
  rw [rounds_succ]
  go_wp2_with fail
  rw [show ((k : Int) + 2) = ((k + 2 : Nat) : Int) from by omega]
  refine (tail_any s (k + 2) _ _hs).mono ?_
  rintro e w2 ⟨rfl, rfl⟩
  go_wp2_with fail
  rw [rounds_succ]
  go_wp2_with fail
  rw [show ((k : Int) + 3) = ((k + 3 : Nat) : Int) from by omega]
  refine (tail_any s (k + 3) _ _hs).mono ?_
  rintro e w3 ⟨rfl, rfl⟩
  go_wp2_with fail
  rw [rounds_succ]
  go_wp2_with fail
  go_returns
  exact ⟨rfl, (Below.refl _ _).alloc (Nat.le_refl _) _⟩

set_option maxHeartbeats 1000000 in
theorem at_c3k (s : ByteArray) (k : Nat) (w : World) (_hs : s.size ≤ 140737488355328) (hk : k < s.size) (h1 : 240 ≤ bt s k) (h2 : bt s k ≤ 244) (h3 : 65536 ≤ (64 * (64 * (64 * (bt s k - 240) + tl s (k + 1)) + tl s (k + 2)) + tl s (k + 3))) (h4 : (64 * (64 * (64 * (bt s k - 240) + tl s (k + 1)) + tl s (k + 2)) + tl s (k + 3)) ≤ 1114111) (t1 : 0 ≤ tl s (k + 1)) (t2 : 0 ≤ tl s (k + 2)) (t3 : 0 ≤ tl s (k + 3)) :
    Calls Tryz.prog 165 #[.string s, .int .i64 k] w fun e w' => e = .returned (.agg #[.int .i64 ((64 * (64 * (64 * (bt s k - 240) + tl s (k + 1)) + tl s (k + 2)) + tl s (k + 3))), .int .i64 4]) ∧ Below w.heap.size w w' := by
  have hb := get_bt s
  have h0 := bt_nonneg s k
  have h9 := bt_le s k
  have l1 := tl_le s (k + 1)
  have l2 := tl_le s (k + 2)
  have l3 := tl_le s (k + 3)
  go_enter Tryz.func165, Tryz.ntmps165
  go_wp2_with fail
  refine wp_loop_rounds 4 ?_
  rw [rounds_succ]
  go_wp2_with fail
  rw [show ((k : Int) + 1) = ((k + 1 : Nat) : Int) from by omega]
  refine (tail_any s (k + 1) _ _hs).mono ?_
  rintro e w1 ⟨rfl, rfl⟩
  go_wp2_with fail
  rw [rounds_succ]
  go_wp2_with fail
  rw [show ((k : Int) + 2) = ((k + 2 : Nat) : Int) from by omega]
  refine (tail_any s (k + 2) _ _hs).mono ?_
  rintro e w2 ⟨rfl, rfl⟩
  go_wp2_with fail
  rw [rounds_succ]
  go_wp2_with fail
  rw [show ((k : Int) + 3) = ((k + 3 : Nat) : Int) from by omega]
  refine (tail_any s (k + 3) _ _hs).mono ?_
  rintro e w3 ⟨rfl, rfl⟩
  go_wp2_with fail
  rw [rounds_succ]
  go_wp2_with fail
  go_returns
  exact ⟨rfl, (Below.refl _ _).alloc (Nat.le_refl _) _⟩

end Go.Proofs.YtlbkbjeajcadiaaGreatDoor.R
