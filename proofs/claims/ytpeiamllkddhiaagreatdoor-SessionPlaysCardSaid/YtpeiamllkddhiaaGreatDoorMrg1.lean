/- Several texts in one. -/
import Derived.Test.YtpeiamllkddhiaaGreatDoorRows
import Derived.WalkKit
import Derived.WalkSpells
import Derived.WalkLawsBesides
import Derived.BigQuiet
import Derived.Deep.QuietTactic
import Derived.Lib.Hide
import Derived.LoopTactic
import Derived.Handy
import Derived.PlainAid

/- The reference's decoding of a text: contracts of stonecropref04's tail and At at every text and place. Written by gen.py. -/
namespace Go.Proofs.YtpeiamllkddhiaaGreatDoor.R
open Go.RowKit Go.PlainAid

theorem bne_true {a b : Int} (h : a ≠ b) : (a != b) = true := by rw [bne_iff_ne]; exact h
theorem beq_true' {a b : Int} (h : a = b) : (a == b) = true := by rw [beq_iff_eq]; exact h
theorem beq_false' {a b : Int} (h : a ≠ b) : (a == b) = false := by rw [beq_eq_false_iff_ne]; exact h
theorem ret_int {k : IntKind} {a b : Int} (h : a = b) : Ending.returned (.int k a) = .returned (.int k b) := by rw [h]
theorem ret_bool {a b : Bool} (h : a = b) : Ending.returned (.bool a) = .returned (.bool b) := by rw [h]

/-- the number that a byte behind the first tells; -1: none -/
def tl (s : ByteArray) (k : Nat) : Int := if k < s.size ∧ 128 ≤ bt s k ∧ bt s k ≤ 191 then bt s k - 128 else -1
theorem tl_in {s : ByteArray} {k : Nat} (h : k < s.size) (h1 : 128 ≤ bt s k) (h2 : bt s k ≤ 191) : tl s k = bt s k - 128 := by unfold tl; rw [if_pos ⟨h, h1, h2⟩]
theorem tl_out {s : ByteArray} {k : Nat} (h : ¬ (k < s.size ∧ 128 ≤ bt s k ∧ bt s k ≤ 191)) : tl s k = -1 := by unfold tl; rw [if_neg h]
theorem tl_le (s : ByteArray) (k : Nat) : -1 ≤ tl s k ∧ tl s k ≤ 63 := by unfold tl; split <;> omega

set_option maxHeartbeats 400000 in
theorem tail_any (s : ByteArray) (k : Nat) (w : World) (_hs : s.size ≤ 140737488355328) :
    Calls Tryz.prog 63 #[.string s, .int .i64 k] w fun e w' => e = .returned (.int .i64 (tl s k)) ∧ w = w' := by
  have hb := get_bt s
  by_cases h : k < s.size
  · have h0 := bt_nonneg s k
    have h9 := bt_le s k
    by_cases h1 : 128 ≤ bt s k
    · by_cases h2 : bt s k ≤ 191
      · have HV := Lib.hid (tl_in h h1 h2)
        go_enter Tryz.func63, Tryz.ntmps63
        go_wp2
        go_ret
        exact ⟨ret_int HV.out.symm, rfl⟩
      · have HV := Lib.hid (tl_out (s := s) (k := k) (by omega))
        go_enter Tryz.func63, Tryz.ntmps63
        go_wp2
        go_ret
        exact ⟨ret_int HV.out.symm, rfl⟩
    · have HV := Lib.hid (tl_out (s := s) (k := k) (by omega))
      go_enter Tryz.func63, Tryz.ntmps63
      go_wp2
      go_ret
      exact ⟨ret_int HV.out.symm, rfl⟩
  · have HV := Lib.hid (tl_out (s := s) (k := k) (by omega))
    go_enter Tryz.func63, Tryz.ntmps63
    go_wp2
    go_ret
    exact ⟨ret_int HV.out.symm, rfl⟩

def refV (b t1 t2 t3 : Int) : Int × Int :=
  if b < 128 then (b, 1)
  else if 194 ≤ b ∧ b ≤ 223 then (if t1 < 0 then (-1, 1) else (64 * (b - 192) + t1, 2))
  else if 224 ≤ b ∧ b ≤ 239 then
    (if t1 < 0 then (-1, 1) else if t2 < 0 then (-1, 1) else if 64 * (64 * (b - 224) + t1) + t2 < 2048 ∨ (55296 ≤ 64 * (64 * (b - 224) + t1) + t2 ∧ 64 * (64 * (b - 224) + t1) + t2 ≤ 57343) then (-1, 1) else (64 * (64 * (b - 224) + t1) + t2, 3))
  else if 240 ≤ b ∧ b ≤ 244 then
    (if t1 < 0 then (-1, 1) else if t2 < 0 then (-1, 1) else if t3 < 0 then (-1, 1) else if 64 * (64 * (64 * (b - 240) + t1) + t2) + t3 < 65536 ∨ 1114111 < 64 * (64 * (64 * (b - 240) + t1) + t2) + t3 then (-1, 1) else (64 * (64 * (64 * (b - 240) + t1) + t2) + t3, 4))
  else (-1, 1)
def refAt (s : ByteArray) (k : Nat) : Int × Int := refV (bt s k) (tl s (k + 1)) (tl s (k + 2)) (tl s (k + 3))

set_option maxHeartbeats 1000000 in
theorem at_a (s : ByteArray) (k : Nat) (w : World) (_hs : s.size ≤ 140737488355328) (hk : k < s.size) (h1 : bt s k < 128) :
    Calls Tryz.prog 51 #[.string s, .int .i64 k] w fun e w' => e = .returned (.agg #[.int .i64 (bt s k), .int .i64 1]) ∧ Below w.heap.size w w' := by
  have hb := get_bt s
  have h0 := bt_nonneg s k
  have h9 := bt_le s k
  go_enter Tryz.func51, Tryz.ntmps51
  go_wp2_with fail
  go_returns
  exact ⟨rfl, (Below.refl _ _).alloc (Nat.le_refl _) _⟩

set_option maxHeartbeats 1000000 in
theorem at_b1 (s : ByteArray) (k : Nat) (w : World) (_hs : s.size ≤ 140737488355328) (hk : k < s.size) (h1 : 128 ≤ bt s k) (h2 : bt s k < 194) :
    Calls Tryz.prog 51 #[.string s, .int .i64 k] w fun e w' => e = .returned (.agg #[.int .i64 (-1), .int .i64 1]) ∧ Below w.heap.size w w' := by
  have hb := get_bt s
  have h0 := bt_nonneg s k
  have h9 := bt_le s k
  go_enter Tryz.func51, Tryz.ntmps51
  go_wp2_with fail
  go_returns
  exact ⟨rfl, (Below.refl _ _).alloc (Nat.le_refl _) _⟩

set_option maxHeartbeats 1000000 in
theorem at_b2 (s : ByteArray) (k : Nat) (w : World) (_hs : s.size ≤ 140737488355328) (hk : k < s.size) (h1 : 244 < bt s k) :
    Calls Tryz.prog 51 #[.string s, .int .i64 k] w fun e w' => e = .returned (.agg #[.int .i64 (-1), .int .i64 1]) ∧ Below w.heap.size w w' := by
  have hb := get_bt s
  have h0 := bt_nonneg s k
  have h9 := bt_le s k
  go_enter Tryz.func51, Tryz.ntmps51
  go_wp2_with fail
  go_returns
  exact ⟨rfl, (Below.refl _ _).alloc (Nat.le_refl _) _⟩

set_option maxHeartbeats 1000000 in
theorem at_c10 (s : ByteArray) (k : Nat) (w : World) (_hs : s.size ≤ 140737488355328) (hk : k < s.size) (h1 : 194 ≤ bt s k) (h2 : bt s k ≤ 223) (t1 : tl s (k + 1) < 0) :
    Calls Tryz.prog 51 #[.string s, .int .i64 k] w fun e w' => e = .returned (.agg #[.int .i64 (-1), .int .i64 1]) ∧ Below w.heap.size w w' := by
  have hb := get_bt s
  have h0 := bt_nonneg s k
  have h9 := bt_le s k
  have l1 := tl_le s (k + 1)
  go_enter Tryz.func51, Tryz.ntmps51
  go_wp2_with fail
  refine wp_loop_rounds 2 ?_
  rw [rounds_succ]
  go_wp2_with fail
  rw [show ((k : Int) + 1) = ((k + 1 : Nat) : Int) from by omega]
  refine (tail_any s (k + 1) _ _hs).mono ?_
  rintro e w1 ⟨rfl, rfl⟩
  go_wp2_with fail
  go_returns
  exact ⟨rfl, (Below.refl _ _).alloc (Nat.le_refl _) _⟩

set_option maxHeartbeats 1000000 in
theorem at_c1k (s : ByteArray) (k : Nat) (w : World) (_hs : s.size ≤ 140737488355328) (hk : k < s.size) (h1 : 194 ≤ bt s k) (h2 : bt s k ≤ 223) (t1 : 0 ≤ tl s (k + 1)) :
    Calls Tryz.prog 51 #[.string s, .int .i64 k] w fun e w' => e = .returned (.agg #[.int .i64 ((64 * (bt s k - 192) + tl s (k + 1))), .int .i64 2]) ∧ Below w.heap.size w w' := by
  have hb := get_bt s
  have h0 := bt_nonneg s k
  have h9 := bt_le s k
  have l1 := tl_le s (k + 1)
  go_enter Tryz.func51, Tryz.ntmps51
  go_wp2_with fail
  refine wp_loop_rounds 2 ?_
  rw [rounds_succ]
  go_wp2_with fail
  rw [show ((k : Int) + 1) = ((k + 1 : Nat) : Int) from by omega]
  refine (tail_any s (k + 1) _ _hs).mono ?_
  rintro e w1 ⟨rfl, rfl⟩
  go_wp2_with fail
  rw [rounds_succ]
  go_wp2_with fail
  go_returns
  exact ⟨rfl, (Below.refl _ _).alloc (Nat.le_refl _) _⟩

end Go.Proofs.YtpeiamllkddhiaaGreatDoor.R

/- Leaves of the reference's decoding. Written by gen.py. -/
namespace Go.Proofs.YtpeiamllkddhiaaGreatDoor.R
open Go.RowKit Go.PlainAid
set_option maxHeartbeats 1000000 in
theorem at_c20 (s : ByteArray) (k : Nat) (w : World) (_hs : s.size ≤ 140737488355328) (hk : k < s.size) (h1 : 224 ≤ bt s k) (h2 : bt s k ≤ 239) (t1 : tl s (k + 1) < 0) :
    Calls Tryz.prog 51 #[.string s, .int .i64 k] w fun e w' => e = .returned (.agg #[.int .i64 (-1), .int .i64 1]) ∧ Below w.heap.size w w' := by
  have hb := get_bt s
  have h0 := bt_nonneg s k
  have h9 := bt_le s k
  have l1 := tl_le s (k + 1)
  go_enter Tryz.func51, Tryz.ntmps51
  go_wp2_with fail
  refine wp_loop_rounds 2 ?_
  rw [rounds_succ]
  go_wp2_with fail
  rw [show ((k : Int) + 1) = ((k + 1 : Nat) : Int) from by omega]
  refine (tail_any s (k + 1) _ _hs).mono ?_
  rintro e w1 ⟨rfl, rfl⟩
  go_wp2_with fail
  go_returns
  exact ⟨rfl, (Below.refl _ _).alloc (Nat.le_refl _) _⟩

set_option maxHeartbeats 1000000 in
theorem at_c21 (s : ByteArray) (k : Nat) (w : World) (_hs : s.size ≤ 140737488355328) (hk : k < s.size) (h1 : 224 ≤ bt s k) (h2 : bt s k ≤ 239) (t1 : 0 ≤ tl s (k + 1)) (t2 : tl s (k + 2) < 0) :
    Calls Tryz.prog 51 #[.string s, .int .i64 k] w fun e w' => e = .returned (.agg #[.int .i64 (-1), .int .i64 1]) ∧ Below w.heap.size w w' := by
  have hb := get_bt s
  have h0 := bt_nonneg s k
  have h9 := bt_le s k
  have l1 := tl_le s (k + 1)
  have l2 := tl_le s (k + 2)
  go_enter Tryz.func51, Tryz.ntmps51
  go_wp2_with fail
  refine wp_loop_rounds 3 ?_
  rw [rounds_succ]
  go_wp2_with fail
  rw [show ((k : Int) + 1) = ((k + 1 : Nat) : Int) from by omega]
  refine (tail_any s (k + 1) _ _hs).mono ?_
  rintro e w1 ⟨rfl, rfl⟩
  go_wp2_with fail
  rw [rounds_succ]
  go_wp2_with fail
  rw [show ((k : Int) + 2) = ((k + 2 : Nat) : Int) from by omega]
  refine (tail_any s (k + 2) _ _hs).mono ?_
  rintro e w2 ⟨rfl, rfl⟩
  go_wp2_with fail
  go_returns
  exact ⟨rfl, (Below.refl _ _).alloc (Nat.le_refl _) _⟩

set_option maxHeartbeats 1000000 in
theorem at_c2x (s : ByteArray) (k : Nat) (w : World) (_hs : s.size ≤ 140737488355328) (hk : k < s.size) (h1 : 224 ≤ bt s k) (h2 : bt s k ≤ 239) (h3 : (64 * (64 * (bt s k - 224) + tl s (k + 1)) + tl s (k + 2)) < 2048) (t1 : 0 ≤ tl s (k + 1)) (t2 : 0 ≤ tl s (k + 2)) :
    Calls Tryz.prog 51 #[.string s, .int .i64 k] w fun e w' => e = .returned (.agg #[.int .i64 (-1), .int .i64 1]) ∧ Below w.heap.size w w' := by
  have hb := get_bt s
  have h0 := bt_nonneg s k
  have h9 := bt_le s k
  have l1 := tl_le s (k + 1)
  have l2 := tl_le s (k + 2)
  go_enter Tryz.func51, Tryz.ntmps51
  go_wp2_with fail
  refine wp_loop_rounds 3 ?_
  rw [rounds_succ]
  go_wp2_with fail
  rw [show ((k : Int) + 1) = ((k + 1 : Nat) : Int) from by omega]
  refine (tail_any s (k + 1) _ _hs).mono ?_
  rintro e w1 ⟨rfl, rfl⟩
  go_wp2_with fail
  rw [rounds_succ]
  go_wp2_with fail
  rw [show ((k : Int) + 2) = ((k + 2 : Nat) : Int) from by omega]
  refine (tail_any s (k + 2) _ _hs).mono ?_
  rintro e w2 ⟨rfl, rfl⟩
  go_wp2_with fail
  rw [rounds_succ]
  go_wp2_with fail
  go_returns
  exact ⟨rfl, (Below.refl _ _).alloc (Nat.le_refl _) _⟩

set_option maxHeartbeats 1000000 in
theorem at_c2y (s : ByteArray) (k : Nat) (w : World) (_hs : s.size ≤ 140737488355328) (hk : k < s.size) (h1 : 224 ≤ bt s k) (h2 : bt s k ≤ 239) (h3 : 55296 ≤ (64 * (64 * (bt s k - 224) + tl s (k + 1)) + tl s (k + 2))) (h4 : (64 * (64 * (bt s k - 224) + tl s (k + 1)) + tl s (k + 2)) ≤ 57343) (t1 : 0 ≤ tl s (k + 1)) (t2 : 0 ≤ tl s (k + 2)) :
    Calls Tryz.prog 51 #[.string s, .int .i64 k] w fun e w' => e = .returned (.agg #[.int .i64 (-1), .int .i64 1]) ∧ Below w.heap.size w w' := by
  have hb := get_bt s
  have h0 := bt_nonneg s k
  have h9 := bt_le s k
  have l1 := tl_le s (k + 1)
  have l2 := tl_le s (k + 2)
  go_enter Tryz.func51, Tryz.ntmps51
  go_wp2_with fail
  refine wp_loop_rounds 3 ?_
  rw [rounds_succ]
  go_wp2_with fail
  rw [show ((k : Int) + 1) = ((k + 1 : Nat) : Int) from by omega]
  refine (tail_any s (k + 1) _ _hs).mono ?_
  rintro e w1 ⟨rfl, rfl⟩
  go_wp2_with fail
  rw [rounds_succ]
  go_wp2_with fail
  rw [show ((k : Int) + 2) = ((k + 2 : Nat) : Int) from by omega]
  refine (tail_any s (k + 2) _ _hs).mono ?_
  rintro e w2 ⟨rfl, rfl⟩
  go_wp2_with fail
  rw [rounds_succ]
  go_wp2_with fail
  go_returns
  exact ⟨rfl, (Below.refl _ _).alloc (Nat.le_refl _) _⟩

set_option maxHeartbeats 1000000 in
theorem at_c2k (s : ByteArray) (k : Nat) (w : World) (_hs : s.size ≤ 140737488355328) (hk : k < s.size) (h1 : 224 ≤ bt s k) (h2 : bt s k ≤ 239) (h3 : 2048 ≤ (64 * (64 * (bt s k - 224) + tl s (k + 1)) + tl s (k + 2))) (h4 : (64 * (64 * (bt s k - 224) + tl s (k + 1)) + tl s (k + 2)) < 55296) (t1 : 0 ≤ tl s (k + 1)) (t2 : 0 ≤ tl s (k + 2)) :
    Calls Tryz.prog 51 #[.string s, .int .i64 k] w fun e w' => e = .returned (.agg #[.int .i64 ((64 * (64 * (bt s k - 224) + tl s (k + 1)) + tl s (k + 2))), .int .i64 3]) ∧ Below w.heap.size w w' := by
  have hb := get_bt s
  have h0 := bt_nonneg s k
  have h9 := bt_le s k
  have l1 := tl_le s (k + 1)
  have l2 := tl_le s (k + 2)
  go_enter Tryz.func51, Tryz.ntmps51
  go_wp2_with fail
  refine wp_loop_rounds 3 ?_
  rw [rounds_succ]
  go_wp2_with fail
  rw [show ((k : Int) + 1) = ((k + 1 : Nat) : Int) from by omega]
  refine (tail_any s (k + 1) _ _hs).mono ?_
  rintro e w1 ⟨rfl, rfl⟩
  go_wp2_with fail
  rw [rounds_succ]
  go_wp2_with fail
  rw [show ((k : Int) + 2) = ((k + 2 : Nat) : Int) from by omega]
  refine (tail_any s (k + 2) _ _hs).mono ?_
  rintro e w2 ⟨rfl, rfl⟩
  go_wp2_with fail
  rw [rounds_succ]
  go_wp2_with fail
  go_returns
  exact ⟨rfl, (Below.refl _ _).alloc (Nat.le_refl _) _⟩

set_option maxHeartbeats 1000000 in
theorem at_c2l (s : ByteArray) (k : Nat) (w : World) (_hs : s.size ≤ 140737488355328) (hk : k < s.size) (h1 : 224 ≤ bt s k) (h2 : bt s k ≤ 239) (h3 : 57343 < (64 * (64 * (bt s k - 224) + tl s (k + 1)) + tl s (k + 2))) (t1 : 0 ≤ tl s (k + 1)) (t2 : 0 ≤ tl s (k + 2)) :
    Calls Tryz.prog 51 #[.string s, .int .i64 k] w fun e w' => e = .returned (.agg #[.int .i64 ((64 * (64 * (bt s k - 224) + tl s (k + 1)) + tl s (k + 2))), .int .i64 3]) ∧ Below w.heap.size w w' := by
  have hb := get_bt s
  have h0 := bt_nonneg s k
  have h9 := bt_le s k
  have l1 := tl_le s (k + 1)
  have l2 := tl_le s (k + 2)
  go_enter Tryz.func51, Tryz.ntmps51
  go_wp2_with fail
  refine wp_loop_rounds 3 ?_
  rw [rounds_succ]
  go_wp2_with fail
  rw [show ((k : Int) + 1) = ((k + 1 : Nat) : Int) from by omega]
  refine (tail_any s (k + 1) _ _hs).mono ?_
  rintro e w1 ⟨rfl, rfl⟩
  go_wp2_with fail
  rw [rounds_succ]
  go_wp2_with fail
  rw [show ((k : Int) + 2) = ((k + 2 : Nat) : Int) from by omega]
  refine (tail_any s (k + 2) _ _hs).mono ?_
  rintro e w2 ⟨rfl, rfl⟩
  go_wp2_with fail
  rw [rounds_succ]
  go_wp2_with fail
  go_returns
  exact ⟨rfl, (Below.refl _ _).alloc (Nat.le_refl _) _⟩

end Go.Proofs.YtpeiamllkddhiaaGreatDoor.R
