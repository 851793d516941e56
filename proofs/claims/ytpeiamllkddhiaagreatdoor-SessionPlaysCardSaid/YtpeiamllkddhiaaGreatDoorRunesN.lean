/- Plain law: what stands in quotes for two clean texts, one behind the other. -/
import Derived.Test.YtpeiamllkddhiaaGreatDoorRunesL
import Derived.Test.YtpeiamllkddhiaaGreatDoorRunesH
namespace Go.Proofs.YtpeiamllkddhiaaGreatDoor.R
open Go.RowKit Go.PlainAid Go.Lib

theorem qFrom_fuel (s : ByteArray) : ∀ f g k, s.size ≤ k + f → s.size ≤ k + g → qFrom s f k = qFrom s g k
  | 0, g, k, hf, _ => by rw [qFrom_end s g k (by omega)]; rfl
  | f + 1, 0, k, _, hg => by rw [qFrom_end s (f + 1) k (by omega)]; rfl
  | f + 1, g + 1, k, hf, hg => by
    by_cases h : k < s.size
    · have hd := dec_width s k h
      rw [qFrom_step s h, qFrom_step s h, qFrom_fuel s f g _ (by omega) (by omega)]
    · rw [qFrom_end _ _ _ h, qFrom_end _ _ _ h]
def qf (s : ByteArray) (k : Nat) : List UInt8 := qFrom s s.size k
theorem quoteL_qf (s : ByteArray) : quoteL s = [34] ++ qf s 0 ++ [34] := rfl
theorem qf_end (s : ByteArray) (k : Nat) (h : ¬ k < s.size) : qf s k = [] := qFrom_end _ _ _ h
theorem qf_step (s : ByteArray) (k : Nat) (h : k < s.size) : qf s k = qPiece s k ++ qf s (k + (Utf8.decode s k).2) := by
  unfold qf
  obtain ⟨f, hf⟩ : ∃ f, s.size = f + 1 := ⟨s.size - 1, by omega⟩
  have hd := dec_width s k h
  rw [qFrom_fuel s s.size (f + 1) k (by omega) (by omega), qFrom_step s h, qFrom_fuel s f s.size _ (by omega) (by omega)]
theorem qPiece_of {s t : ByteArray} {j k : Nat} (h : Utf8.decode s j = Utf8.decode t k) (hv : ¬ ((Utf8.decode t k).1 = 65533 ∧ (Utf8.decode t k).2 = 1)) : qPiece s j = qPiece t k := by
  have h1 : lone t k = false := by unfold lone; exact decide_eq_false fun e => hv ⟨by rw [e], by rw [e]⟩
  have h2 : lone s j = false := by unfold lone; rw [h]; exact h1
  unfold qPiece
  rw [h1, h2, h]
  rfl
theorem bt_shift {u t : ByteArray} {m : Nat} (hs : u.size = m + t.size) (he : ∀ j, u.get! (m + j) = t.get! j) (k : Nat) : bt u (m + k) = bt t k := by
  by_cases h : k < t.size
  · rw [bt_get u (by omega), bt_get t h, he]
  · unfold bt; rw [dif_neg h, dif_neg (by omega)]
theorem qPiece_shift {u t : ByteArray} {m : Nat} (hs : u.size = m + t.size) (he : ∀ j, u.get! (m + j) = t.get! j) (k : Nat) : qPiece u (m + k) = qPiece t k := by
  unfold qPiece lone
  rw [dec_shift hs he, bt_shift hs he]
theorem qf_front (s t : ByteArray) (hs : t.size ≤ s.size) (he : ∀ j, j < t.size → s.get! j = t.get! j) : ∀ n k, t.size - k ≤ n → k ≤ t.size → (rf t k).all okR = true → qf s k = qf t k ++ qf s t.size := by
  intro n
  induction n with
  | zero => intro k h1 h2 _; obtain rfl : k = t.size := by omega
            rw [qf_end t _ (by omega)]; rfl
  | succ n ih =>
    intro k h1 h2 hall
    by_cases hlt : k < t.size
    · have hd := dec_width t k hlt
      rw [rf_step t k hlt, List.all_cons, Bool.and_eq_true] at hall
      obtain ⟨hv, hof⟩ := okR_valid hall.1
      have hdec : Utf8.decode s k = Utf8.decode t k := by
        refine dec_local (t := t) (k := k) (v := (Utf8.decode t k).1) (w := (Utf8.decode t k).2) rfl hv (by omega) (by omega) ?_
        intro i hi; exact he (k + i) (by omega)
      rw [qf_step t k hlt, qf_step s k (by omega), hdec, ih _ (by omega) (by omega) hall.2, qPiece_of hdec hv, List.append_assoc]
    · obtain rfl : k = t.size := by omega
      rw [qf_end t _ (by omega)]; rfl
theorem qf_shift {u t : ByteArray} {m : Nat} (hs : u.size = m + t.size) (he : ∀ j, u.get! (m + j) = t.get! j) : ∀ n k, t.size - k ≤ n → qf u (m + k) = qf t k := by
  intro n
  induction n with
  | zero => intro k h; rw [qf_end t _ (by omega), qf_end u _ (by omega)]
  | succ n ih =>
    intro k h
    by_cases hlt : k < t.size
    · have hd := dec_width t k hlt
      rw [qf_step t k hlt, qf_step u (m + k) (by omega), dec_shift hs he, Nat.add_assoc, ih _ (by omega), qPiece_shift hs he]
    · rw [qf_end t _ hlt, qf_end u _ (by omega)]
theorem quoteL_cat (s t : ByteArray) (hs : (rl s).all okR = true) : quoteL (s ++ t) = ([34] ++ qf s 0) ++ (qf t 0 ++ [34]) := by
  rw [quoteL_qf, qf_front (s ++ t) s (by rw [cat_size]; omega) (cat_front s t) _ 0 (Nat.le_refl _) (Nat.zero_le _) hs]
  have := qf_shift (m := s.size) (cat_size s t) (cat_back s t) _ 0 (Nat.le_refl _)
  rw [Nat.add_zero] at this
  rw [this]
  simp
theorem qf_len (s : ByteArray) : ∀ n k, s.size - k ≤ n → (qf s k).length ≤ 11 * (s.size - k) := by
  intro n
  induction n with
  | zero => intro k h; rw [qf_end s k (by omega)]; simp
  | succ n ih =>
    intro k h
    by_cases hlt : k < s.size
    · have hd := dec_width s k hlt
      have hp := qPiece_len s k
      have := ih (k + (Utf8.decode s k).2) (by omega)
      rw [qf_step s k hlt, List.length_append]
      omega
    · rw [qf_end s k hlt]; simp
theorem quoteL_len (s : ByteArray) : (quoteL s).length = (qf s 0).length + 2 := by rw [quoteL_qf]; simp
theorem quoteL_len2 (s : ByteArray) (m : Nat) (h : s.size ≤ m) : (quoteL s).length ≤ 11 * m + 2 := by
  rw [quoteL_len]; have := qf_len s _ 0 (Nat.le_refl _); omega
end Go.Proofs.YtpeiamllkddhiaaGreatDoor.R
