/- escaped at every text, in one contract. -/
import Derived.Test.YtojchifegifecaaDoorRunesZ
namespace Go.Proofs.YtojchifegifecaaDoor.R
open Go.RowKit Go.PlainAid Go.Lib

/-- a hexadecimal digit's number by the place in the row of digits; -1: none -/
def hexI (c : UInt8) : Int := Lib.indexByte hexS.data.toList c
theorem hexI_fin : ∀ x : Fin 256, -1 ≤ hexI (UInt8.ofNat x.val) ∧ hexI (UInt8.ofNat x.val) ≤ 15 := by decide +kernel
theorem hexI_le (c : UInt8) : -1 ≤ hexI c ∧ hexI c ≤ 15 := by
  have := hexI_fin ⟨c.toNat, c.toNat_lt⟩
  simpa using this
/-- what stands in front of the first point; is there one? -/
def cutD (s : ByteArray) : ByteArray := ⟨(Lib.cut (s.extract 1 s.size).data.toList [46]).1.toArray⟩
def cutOk (s : ByteArray) : Bool := (Lib.cut (s.extract 1 s.size).data.toList [46]).2.2
/-- what escaped tells -/
def escV (s : ByteArray) : ByteArray × Int :=
  if s.size = 0 then (⟨#[]⟩, 0)
  else if (s.get! 0).toNat = 34 ∨ (s.get! 0).toNat = 92 then (s.extract 0 1, 1)
  else if (s.get! 0).toNat = 120 then
    if 3 ≤ s.size ∧ 0 ≤ hexI (s.get! 1) ∧ 0 ≤ hexI (s.get! 2) then (⟨#[UInt8.ofNat (16 * (hexI (s.get! 1)).toNat + (hexI (s.get! 2)).toNat)]⟩, 3) else (⟨#[]⟩, 0)
  else if (s.get! 0).toNat = 117 then
    if cutOk s = true ∧ (puV (cutD s)).2 = 0 ∧ (puV (cutD s)).1 ≤ 1114111 then (Utf8.encode ((puV (cutD s)).1 : Int), ((cutD s).size : Int) + 2) else (⟨#[]⟩, 0)
  else (⟨#[]⟩, 0)

theorem cut_len (l sep : List UInt8) : (Lib.cut l sep).1.length ≤ l.length := by
  unfold Lib.cut; split
  · simp; omega
  · simp
theorem dl_len (s : ByteArray) : s.data.toList.length = s.size := Array.length_toList
theorem cutD_size (s : ByteArray) : (cutD s).size ≤ s.size := by
  unfold cutD
  have h1 : ∀ l : List UInt8, (⟨l.toArray⟩ : ByteArray).size = l.length := fun l => by show l.toArray.size = _; simp
  rw [h1]
  refine Nat.le_trans (cut_len _ _) ?_
  rw [dl_len]; simp

set_option maxRecDepth 100000 in
set_option maxHeartbeats 1000000 in
theorem esc_other (s : ByteArray) (w : World) (hs : 1 ≤ s.size) (c : Nat) (hc : (s.get! 0).toNat = c) (h1 : c ≠ 34) (h2 : c ≠ 92) (h3 : c ≠ 120) (h4 : c ≠ 117) :
    Calls Tryd.prog 29 #[.string s] w fun e w' => e = .returned (.tuple #[.string ⟨#[]⟩, .int .i64 0]) ∧ Below w.heap.size w w' := by
  have hemp : s.toList.isEmpty = false := by rw [empty_iff]; exact beq_false_of_ne (by omega)
  have hix : ∀ W, (Instr.index 9 (.string s) (.int .i64 0)).run Tryd.prog W = .ok (.int .u8 (c : Int)) W := fun W => ix_at s 0 c hs hc W
  have e1 : ((c : Int) == 34) = false := beq_false' (by omega)
  have e2 : ((c : Int) == 92) = false := beq_false' (by omega)
  have e3 : ((c : Int) == 120) = false := beq_false' (by omega)
  have e4 : ((c : Int) == 117) = false := beq_false' (by omega)
  clear hc h1 h2 h3 h4
  go_enter Tryd.func29, Tryd.ntmps29
  go_wp2_with fail
  go_ret2
  exact ⟨rfl, Below.refl _ _⟩

set_option maxRecDepth 100000 in
set_option maxHeartbeats 1000000 in
theorem esc_x_short (s : ByteArray) (w : World) (hs : 1 ≤ s.size) (hs2 : s.size < 3) (hc : (s.get! 0).toNat = 120) :
    Calls Tryd.prog 29 #[.string s] w fun e w' => e = .returned (.tuple #[.string ⟨#[]⟩, .int .i64 0]) ∧ Below w.heap.size w w' := by
  have hemp : s.toList.isEmpty = false := by rw [empty_iff]; exact beq_false_of_ne (by omega)
  have hix : ∀ W, (Instr.index 9 (.string s) (.int .i64 0)).run Tryd.prog W = .ok (.int .u8 120) W := fun W => ix_at s 0 120 hs hc W
  have h3 : ¬ (3 : Int) ≤ (s.size : Int) := by omega
  have h3' : (s.size : Int) < 3 := by omega
  clear hc hs2
  go_enter Tryd.func29, Tryd.ntmps29
  go_wp2_with fail
  go_ret2
  exact ⟨rfl, Below.refl _ _⟩

set_option maxRecDepth 100000 in
set_option maxHeartbeats 1000000 in
theorem esc_x_bad (s : ByteArray) (w : World) (hs : 3 ≤ s.size) (hs2 : s.size ≤ 1000000) (hc : (s.get! 0).toNat = 120) (b1 b2 : Nat) (h1 : (s.get! 1).toNat = b1) (h2 : (s.get! 2).toNat = b2)
    (x y : Int) (hx : Lib.indexByte hexS.data.toList (s.get! 1) = x) (hy : Lib.indexByte hexS.data.toList (s.get! 2) = y) (hxy : min x y < 0) :
    Calls Tryd.prog 29 #[.string s] w fun e w' => e = .returned (.tuple #[.string ⟨#[]⟩, .int .i64 0]) ∧ Below w.heap.size w w' := by
  have hemp : s.toList.isEmpty = false := by rw [empty_iff]; exact beq_false_of_ne (by omega)
  have hix : ∀ W, (Instr.index 9 (.string s) (.int .i64 0)).run Tryd.prog W = .ok (.int .u8 120) W := fun W => ix_at s 0 120 (by omega) hc W
  have hix1 : ∀ W, (Instr.index 9 (.string s) (.int .i64 1)).run Tryd.prog W = .ok (.int .u8 (b1 : Int)) W := fun W => ix_at s 1 b1 (by omega) h1 W
  have hix2 : ∀ W, (Instr.index 9 (.string s) (.int .i64 2)).run Tryd.prog W = .ok (.int .u8 (b2 : Int)) W := fun W => ix_at s 2 b2 (by omega) h2 W
  have hI1 := Lib.hid (fun w => (Tryd.strings_IndexByte hexS (b1 : Int) w).mono fun e w' (hh : e = _ ∧ w' = w) => (show e = .returned (.int .i64 x) ∧ w' = w from ⟨by rw [hh.1, ← hx, ← h1]; simp, hh.2⟩))
  have hI2 := Lib.hid (fun w => (Tryd.strings_IndexByte hexS (b2 : Int) w).mono fun e w' (hh : e = _ ∧ w' = w) => (show e = .returned (.int .i64 y) ∧ w' = w from ⟨by rw [hh.1, ← hy, ← h2]; simp, hh.2⟩))
  have hmin : ¬ (0 : Int) ≤ min x y := by omega
  have h3 : (3 : Int) ≤ (s.size : Int) := by omega
  clear hc h1 h2 hx hy hxy
  go_enter Tryd.func29, Tryd.ntmps29
  go_wp2_with fail
  go_quiet ((first | (go_at_call 37; exact Calls.quiet_of_same (hI1.out _)) | (go_at_call 37; exact Calls.quiet_of_same (hI2.out _))))
  go_wp2_with fail
  go_ret2
  exact ⟨rfl, (Below.refl w.heap.size w).trans (Go.below_drewN (Below.refl w.heap.size w) _)⟩

theorem esc_any (s : ByteArray) (w : World) (hs : s.size ≤ 1000000) (h : Tabs2 w) (R : ByteArray × Int) (hR : escV s = R) :
    Calls Tryd.prog 29 #[.string s] w fun e w' => e = .returned (.tuple #[.string R.1, .int .i64 R.2]) ∧ Below w.heap.size w w' := by
  unfold escV at hR
  split at hR
  · rename_i h0; subst hR; exact esc_none s w h0
  rename_i h0
  split at hR
  · rename_i h1; subst hR; exact esc_self s w (by omega) _ rfl h1
  rename_i h1
  split at hR
  · rename_i h2
    have b1 := hexI_le (s.get! 1)
    have b2 := hexI_le (s.get! 2)
    split at hR
    · rename_i h3; subst hR
      exact esc_x s w h3.1 hs h2 _ _ rfl rfl _ _ (by have := Int.toNat_of_nonneg h3.2.1; exact this.symm) (by have := Int.toNat_of_nonneg h3.2.2; exact this.symm) (by omega) (by omega)
    · rename_i h3; subst hR
      by_cases h4 : 3 ≤ s.size
      · exact esc_x_bad s w h4 hs h2 _ _ rfl rfl _ _ rfl rfl (by show min (hexI _) (hexI _) < 0; omega)
      · exact esc_x_short s w (by omega) (by omega) h2
  rename_i h2
  split at hR
  · rename_i h3
    exact esc_u s w (by omega) hs h3 h (cutD s) _ (cutOk s) rfl rfl rfl (by have := cutD_size s; omega) _ rfl R hR
  · rename_i h3; subst hR
    exact esc_other s w (by omega) _ rfl (by omega) (by omega) h2 h3

theorem enc_size (v : Int) : (Utf8.encode v).size ≤ 4 := by
  unfold Utf8.encode
  generalize (if Utf8.valid v then v.toNat else Utf8.runeError) = c
  by_cases h1 : c < 0x80
  · simp only [if_pos h1]; exact (by decide : 1 ≤ 4)
  by_cases h2 : c < 0x800
  · simp only [if_neg h1, if_pos h2]; exact (by decide : 2 ≤ 4)
  by_cases h3 : c < 0x10000
  · simp only [if_neg h1, if_neg h2, if_pos h3]; exact (by decide : 3 ≤ 4)
  · simp only [if_neg h1, if_neg h2, if_neg h3]; exact (by decide : 4 ≤ 4)
theorem index_le : ∀ (l sep : List UInt8), Lib.index l sep ≤ l.length ∧ (0 ≤ Lib.index l sep → (Lib.index l sep).toNat + sep.length ≤ l.length)
  | [], sep => by
    unfold Lib.index; split
    · rename_i h; rw [List.isEmpty_iff.1 h]; simp
    · simp
  | b :: l, sep => by
    have ih := index_le l sep
    unfold Lib.index; split
    · rename_i h
      have := List.IsPrefix.length_le (List.isPrefixOf_iff_prefix.1 h)
      exact ⟨by simp; omega, fun _ => by simpa using this⟩
    · split
      · simp; omega
      · rename_i h
        simp only [List.length_cons]
        have hne : Lib.index l sep ≠ -1 := by simpa using h
        refine ⟨by omega, fun h0 => ?_⟩
        have h1 := ih.2 (by omega)
        omega
/-- how much is read, and written -/
theorem escV_le (s : ByteArray) : 0 ≤ (escV s).2 ∧ (escV s).2 ≤ s.size ∧ (escV s).1.size ≤ 4 := by
  unfold escV
  split
  · exact ⟨by decide, by simp, by decide⟩
  split
  · exact ⟨(by decide : (0:Int) ≤ 1), by simp; omega, by simp; omega⟩
  split
  · split
    · rename_i h; exact ⟨(by decide : (0:Int) ≤ 3), by simp; omega, (by decide : 1 ≤ 4)⟩
    · exact ⟨by decide, by simp, by decide⟩
  split
  · split
    · rename_i h
      refine ⟨Int.add_nonneg (Int.natCast_nonneg _) (by decide), ?_, ?_⟩
      case refine_2 =>
        have hh := enc_size ((puV (cutD s)).1 : Int)
        generalize Utf8.encode ((puV (cutD s)).1 : Int) = z at hh
        exact hh
      show ((cutD s).size : Int) + 2 ≤ (s.size : Int)
      have h1 : ∀ l : List UInt8, (⟨l.toArray⟩ : ByteArray).size = l.length := fun l => by show l.toArray.size = _; simp
      have h2 := h.1
      unfold cutOk Lib.cut at h2
      unfold cutD Lib.cut
      rw [h1]
      have h3 : (s.extract 1 s.size).data.toList.length = s.size - 1 := by rw [dl_len]; simp
      split at h2
      · rename_i h4
        have h5 := (index_le (s.extract 1 s.size).data.toList [46]).2 h4
        rw [if_pos h4]
        simp only [List.length_take]
        rw [h3] at h5 ⊢
        simp only [List.length_singleton] at h5
        omega
      · exact absurd h2 (by simp)
    · exact ⟨by decide, by simp, by decide⟩
  · exact ⟨by decide, by simp, by decide⟩
end Go.Proofs.YtojchifegifecaaDoor.R
