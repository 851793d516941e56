/- escaped, at every text. -/
import Derived.Test.YtojchifegifecaaDoorRunesX
import Derived.Laws.IdiomStrings
namespace Go.Proofs.YtojchifegifecaaDoor.R
open Go.RowKit Go.PlainAid Go.Lib

theorem ret_two {a : ByteArray} {n m : Int} {b : ByteArray} (h : a = b) (h2 : n = m) : Ending.returned (.tuple #[.string a, .int .i64 n]) = .returned (.tuple #[.string b, .int .i64 m]) := by rw [h, h2]
theorem ix_at (s : ByteArray) (k m : Nat) (hk : k < s.size) (hm : (s.get! k).toNat = m) (W : World) : (Instr.index 9 (.string s) (.int .i64 (k : Int))).run Tryd.prog W = .ok (.int .u8 (m : Int)) W :=
  ix_s s k m hk (fun h => by rw [get_bt s k h, bt_get s hk, hm]) W

set_option maxRecDepth 100000 in
set_option maxHeartbeats 1000000 in
theorem esc_none (s : ByteArray) (w : World) (hs : s.size = 0) :
    Calls Tryd.prog 29 #[.string s] w fun e w' => e = .returned (.tuple #[.string ⟨#[]⟩, .int .i64 0]) ∧ Below w.heap.size w w' := by
  have hemp : s.toList.isEmpty = true := by rw [empty_iff, hs]; rfl
  clear hs
  go_enter Tryd.func29, Tryd.ntmps29
  go_wp2_with fail
  go_ret2
  exact ⟨rfl, Below.refl _ _⟩

set_option maxRecDepth 100000 in
set_option maxHeartbeats 1000000 in
theorem esc_self (s : ByteArray) (w : World) (hs : 1 ≤ s.size) (c : Nat) (hc : (s.get! 0).toNat = c) (h : c = 34 ∨ c = 92) :
    Calls Tryd.prog 29 #[.string s] w fun e w' => e = .returned (.tuple #[.string (s.extract 0 1), .int .i64 1]) ∧ Below w.heap.size w w' := by
  have hemp : s.toList.isEmpty = false := by rw [empty_iff]; exact beq_false_of_ne (by omega)
  have hix : ∀ W, (Instr.index 9 (.string s) (.int .i64 0)).run Tryd.prog W = .ok (.int .u8 (c : Int)) W := fun W => ix_at s 0 c hs hc W
  have hsl : ∀ W, (Instr.slice 9 (.string s) none (some (.int .i64 1)) none).run Tryd.prog W = .ok (.string (s.extract 0 1)) W := fun W => by
    rw [run_slice_string_h W 9 s Tryd.underlying9 .i64 1 (by omega) (by omega)]; rfl
  clear hc
  rcases h with rfl | rfl
  · go_enter Tryd.func29, Tryd.ntmps29
    go_wp2_with fail
    go_ret2
    exact ⟨rfl, Below.refl _ _⟩
  · go_enter Tryd.func29, Tryd.ntmps29
    go_wp2_with fail
    go_ret2
    exact ⟨rfl, Below.refl _ _⟩

set_option maxRecDepth 100000 in
theorem or_hex : ∀ x y : Fin 16, bits .or .i64 (((x.val : Nat) : Int) * 16) ((y.val : Nat) : Int) = ((16 * x.val + y.val : Nat) : Int) := by decide
theorem conv_one (w : World) (n m : Nat) (hm : m < 256) : (convert 35 9 (.slice (some ⟨w.heap.size, 0, none⟩) 1 1)).run Tryd.prog ((w.drewN n).alloc (.cells #[.int .u8 (m : Int)] 5)) = .ok (.string ⟨#[UInt8.ofNat m]⟩) ((w.drewN n).alloc (.cells #[.int .u8 (m : Int)] 5)) := by
  have h := run_convert_bytes_back (P := Tryd.prog) ((w.drewN n).alloc (.cells #[.int .u8 (m : Int)] 5)) 35 9 5 ⟨w.heap.size, 0, none⟩ 1 [UInt8.ofNat m] Tryd.underlying35 Tryd.underlying5 Tryd.underlying9 (fun j hj => by
    match j, hj with
    | 0, _ =>
      have : (w.drewN n).heap.size = w.heap.size := rfl
      simp [Addr.add, ← this]
      omega)
  exact h
set_option maxRecDepth 100000 in
set_option maxHeartbeats 1000000 in
theorem esc_x (s : ByteArray) (w : World) (hs : 3 ≤ s.size) (hs2 : s.size ≤ 1000000) (hc : (s.get! 0).toNat = 120) (b1 b2 : Nat) (h1 : (s.get! 1).toNat = b1) (h2 : (s.get! 2).toNat = b2)
    (x y : Nat) (hx : Lib.indexByte hexS.data.toList (s.get! 1) = x) (hy : Lib.indexByte hexS.data.toList (s.get! 2) = y) (hx16 : x < 16) (hy16 : y < 16) :
    Calls Tryd.prog 29 #[.string s] w fun e w' => e = .returned (.tuple #[.string ⟨#[UInt8.ofNat (16 * x + y)]⟩, .int .i64 3]) ∧ Below w.heap.size w w' := by
  have hemp : s.toList.isEmpty = false := by rw [empty_iff]; exact beq_false_of_ne (by omega)
  have hix : ∀ W, (Instr.index 9 (.string s) (.int .i64 0)).run Tryd.prog W = .ok (.int .u8 120) W := fun W => ix_at s 0 120 (by omega) hc W
  have hix1 : ∀ W, (Instr.index 9 (.string s) (.int .i64 1)).run Tryd.prog W = .ok (.int .u8 (b1 : Int)) W := fun W => ix_at s 1 b1 (by omega) h1 W
  have hix2 : ∀ W, (Instr.index 9 (.string s) (.int .i64 2)).run Tryd.prog W = .ok (.int .u8 (b2 : Int)) W := fun W => ix_at s 2 b2 (by omega) h2 W
  have hI1 := Lib.hid (fun w => (Tryd.strings_IndexByte hexS (b1 : Int) w).mono fun e w' (hh : e = _ ∧ w' = w) => (show e = .returned (.int .i64 x) ∧ w' = w from ⟨by rw [hh.1, ← hx, ← h1]; simp, hh.2⟩))
  have hI2 := Lib.hid (fun w => (Tryd.strings_IndexByte hexS (b2 : Int) w).mono fun e w' (hh : e = _ ∧ w' = w) => (show e = .returned (.int .i64 y) ∧ w' = w from ⟨by rw [hh.1, ← hy, ← h2]; simp, hh.2⟩))
  obtain ⟨m, hm⟩ : ∃ m, 16 * x + y = m := ⟨_, rfl⟩
  have hm256 : m < 256 := by omega
  have hor : bits .or .i64 ((x : Int) * 16) (y : Int) = (m : Int) := by rw [← hm]; exact or_hex ⟨x, hx16⟩ ⟨y, hy16⟩
  have hmod : (m : Int) % 256 = (m : Int) := by omega
  have hcv := fun n => conv_one w n m hm256
  have hmin : (0 : Int) ≤ min (x : Int) (y : Int) := by omega
  rw [hm]
  have h3 : (3 : Int) ≤ (s.size : Int) := by omega
  clear hc h1 h2 hx hy hm
  go_enter Tryd.func29, Tryd.ntmps29
  go_wp2_with fail
  go_quiet ((first | (go_at_call 37; exact Calls.quiet_of_same (hI1.out _)) | (go_at_call 37; exact Calls.quiet_of_same (hI2.out _))))
  go_wp2_with fail
  go_ret2
  exact ⟨rfl, (Below.refl w.heap.size w).trans (((Go.below_drewN (Below.refl w.heap.size w) _)).alloc (Nat.le_refl _) _)⟩
end Go.Proofs.YtojchifegifecaaDoor.R
