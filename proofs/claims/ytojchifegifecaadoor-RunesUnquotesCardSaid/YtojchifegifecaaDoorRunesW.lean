/- strconv.ParseUint at base 16 and 32 bits, where nothing is wrong; escaped at what Quote makes. -/
import Derived.Test.YtojchifegifecaaDoorRunesV
import Derived.Test.YtojchifegifecaaDoorRunesN
namespace Go.Proofs.YtojchifegifecaaDoor.R
open Go.RowKit Go.PlainAid Go.Lib

set_option maxRecDepth 100000 in
set_option maxHeartbeats 1000000 in
theorem upu_ok (t : ByteArray) (w : World) (hs : t.size ≤ 1000000) (v : Nat) (hv : puV t = (v, 0)) :
    Calls Tryd.prog 39 #[.string t, .int .i64 16, .int .i64 32] w fun e w' => e = .returned (.tuple #[.int .u64 v, .nilIface]) ∧ Below w.heap.size w w' := by
  have HI := Lib.hid (show Calls Tryd.prog 49 #[.string t, .int .i64 16, .int .i64 32] w fun e w' => e = .returned (.tuple #[.int .u64 v, .nilIface]) ∧ Below w.heap.size w w' by
    have := ipu_any t w hs; rw [hv] at this; exact this)
  clear hv
  go_enter Tryd.func39, Tryd.ntmps39
  go_wp2_with fail
  refine HI.out.mono ?_
  rintro e w1 ⟨rfl, b1⟩
  go_wp2_with fail
  go_ret2
  exact ⟨rfl, b1⟩

/-! ### digits back -/
theorem pu_append (a : List UInt8) : ∀ acc (b : List UInt8) v, pu acc a = (v, 0) → pu acc (a ++ b) = pu v b := by
  induction a with
  | nil => intro acc b v h; simp only [pu] at h; rw [List.nil_append, (Prod.mk.inj h).1]
  | cons c r ih =>
    intro acc b v h
    rw [List.cons_append]
    simp only [pu] at h ⊢
    split at h
    · rename_i heq; cases (Prod.mk.inj h).2
    · rename_i d heq
      split at h
      · cases (Prod.mk.inj h).2
      · rename_i hle
        rw [if_neg hle]
        exact ih _ b v h
theorem pu_hexD : ∀ f n, n < 16 ^ (f + 1) → n ≤ 4294967295 → pu 0 (hexD f n) = (n, 0) := by
  have one : ∀ acc n, n < 16 → acc * 16 + n ≤ 4294967295 → pu acc [dig n] = (acc * 16 + n, 0) := by
    intro acc n hn hle
    have := hexv_dig ⟨n, hn⟩
    simp only [pu]
    rw [this]
    simp only
    rw [if_neg (by omega)]
  intro f
  induction f with
  | zero => intro n h1 h2; have := one 0 n (by simpa using h1) (by omega); simpa [hexD] using this
  | succ f ih =>
    intro n h1 h2
    by_cases h : n < 16
    · rw [hexD_small h]; have := one 0 n h (by omega); simpa using this
    · rw [hexD_great (by omega)]
      have h3 := ih (n / 16) (by rw [Nat.pow_succ] at h1; omega) (by omega)
      rw [pu_append _ _ _ _ h3, one _ _ (by omega) (by omega)]
      congr 1; omega
theorem hexD_pos (f n : Nat) : 0 < (hexD f n).length := by
  cases f with
  | zero => simp [hexD]
  | succ f => simp only [hexD]; split <;> simp
theorem puV_hexL (n : Nat) (h : n ≤ 4294967295) : puV ⟨(hexL n).toArray⟩ = (n, 0) := by
  unfold puV
  have hz : (⟨(hexL n).toArray⟩ : ByteArray).size = (hexL n).length := by show (hexL n).toArray.size = _; simp
  have := hexD_pos 7 n
  rw [if_neg (by rw [hz]; unfold hexL; omega)]
  exact pu_hexD 7 n (by omega) h
end Go.Proofs.YtojchifegifecaaDoor.R
