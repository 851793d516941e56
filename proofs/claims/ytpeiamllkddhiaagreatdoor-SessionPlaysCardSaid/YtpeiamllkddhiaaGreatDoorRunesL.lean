/- Plain law: of clean texts the runes tell the bytes, and the bytes the runes; a text behind a clean one. -/
import Derived.Test.YtpeiamllkddhiaaGreatDoorRunesF
namespace Go.Proofs.YtpeiamllkddhiaaGreatDoor.R
open Go.RowKit Go.PlainAid Go.Lib

theorem decN_local {n m b0 b1 b2 b3 c0 c1 c2 c3 v w : Nat} (h : decodeN n b0 b1 b2 b3 = (v, w)) (hv : ¬ (v = 65533 ∧ w = 1)) (hm : w ≤ m)
    (e0 : c0 = b0) (e1 : 1 < w → c1 = b1) (e2 : 2 < w → c2 = b2) (e3 : 3 < w → c3 = b3) : decodeN m c0 c1 c2 c3 = (v, w) := by
  subst e0
  rw [← h]
  unfold decodeN at h ⊢
  split at h
  · rename_i g; rw [if_pos g, if_pos g]
  rename_i g0
  rw [if_neg g0, if_neg g0]
  split at h
  · rename_i g
    split at h
    · obtain ⟨rfl, rfl⟩ := Prod.mk.inj h
      rw [e1 (by omega), if_pos g, if_pos ⟨g.1, by omega, g.2.2⟩]
    · obtain ⟨rfl, rfl⟩ := Prod.mk.inj h; exact absurd ⟨rfl, rfl⟩ hv
  rename_i g1
  split at h
  · rename_i g
    have a1 : ∀ k b, ¬ (c0 / 32 = 6 ∧ (1 < k ∧ b / 64 = 2)) := fun _ _ hh => by omega
    split at h
    · obtain ⟨rfl, rfl⟩ := Prod.mk.inj h
      rw [e1 (by omega), e2 (by omega), if_neg (a1 _ _), if_neg (a1 _ _), if_pos g, if_pos ⟨g.1, ⟨by omega, g.2.1.2⟩, by omega, g.2.2.2⟩]
    · obtain ⟨rfl, rfl⟩ := Prod.mk.inj h; exact absurd ⟨rfl, rfl⟩ hv
  rename_i g2
  split at h
  · rename_i g
    have a1 : ∀ k b, ¬ (c0 / 32 = 6 ∧ (1 < k ∧ b / 64 = 2)) := fun _ _ hh => by omega
    have a2 : ∀ k b d, ¬ (c0 / 16 = 14 ∧ (1 < k ∧ b / 64 = 2) ∧ (2 < k ∧ d / 64 = 2)) := fun _ _ _ hh => by omega
    split at h
    · obtain ⟨rfl, rfl⟩ := Prod.mk.inj h
      rw [e1 (by omega), e2 (by omega), e3 (by omega), if_neg (a1 _ _), if_neg (a1 _ _), if_neg (a2 _ _ _), if_neg (a2 _ _ _), if_pos g, if_pos ⟨g.1, ⟨by omega, g.2.1.2⟩, ⟨by omega, g.2.2.1.2⟩, by omega, g.2.2.2.2⟩]
    · obtain ⟨rfl, rfl⟩ := Prod.mk.inj h; exact absurd ⟨rfl, rfl⟩ hv
  · obtain ⟨rfl, rfl⟩ := Prod.mk.inj h; exact absurd ⟨rfl, rfl⟩ hv

/-- what a valid rune says of its bytes -/
theorem decN_tells {n b0 b1 b2 b3 v w : Nat} (h : decodeN n b0 b1 b2 b3 = (v, w)) (hv : ¬ (v = 65533 ∧ w = 1)) :
    (w = 1 ∧ b0 = v) ∨ (w = 2 ∧ b0 / 32 = 6 ∧ b1 / 64 = 2 ∧ v = b0 % 32 * 64 + b1 % 64) ∨ (w = 3 ∧ b0 / 16 = 14 ∧ b1 / 64 = 2 ∧ b2 / 64 = 2 ∧ v = b0 % 16 * 4096 + b1 % 64 * 64 + b2 % 64)
    ∨ (w = 4 ∧ b0 / 8 = 30 ∧ b1 / 64 = 2 ∧ b2 / 64 = 2 ∧ b3 / 64 = 2 ∧ v = b0 % 8 * 262144 + b1 % 64 * 4096 + b2 % 64 * 64 + b3 % 64) := by
  unfold decodeN at h
  split at h
  · obtain ⟨rfl, rfl⟩ := Prod.mk.inj h; exact .inl ⟨rfl, rfl⟩
  split at h
  · rename_i g
    split at h
    · obtain ⟨rfl, rfl⟩ := Prod.mk.inj h; exact .inr (.inl ⟨rfl, g.1, g.2.2, rfl⟩)
    · obtain ⟨rfl, rfl⟩ := Prod.mk.inj h; exact absurd ⟨rfl, rfl⟩ hv
  split at h
  · rename_i g
    split at h
    · obtain ⟨rfl, rfl⟩ := Prod.mk.inj h; exact .inr (.inr (.inl ⟨rfl, g.1, g.2.1.2, g.2.2.2, rfl⟩))
    · obtain ⟨rfl, rfl⟩ := Prod.mk.inj h; exact absurd ⟨rfl, rfl⟩ hv
  split at h
  · rename_i g
    split at h
    · obtain ⟨rfl, rfl⟩ := Prod.mk.inj h; exact .inr (.inr (.inr ⟨rfl, g.1, g.2.1.2, g.2.2.1.2, g.2.2.2.2, rfl⟩))
    · obtain ⟨rfl, rfl⟩ := Prod.mk.inj h; exact absurd ⟨rfl, rfl⟩ hv
  · obtain ⟨rfl, rfl⟩ := Prod.mk.inj h; exact absurd ⟨rfl, rfl⟩ hv
theorem decN_inj {n m b0 b1 b2 b3 c0 c1 c2 c3 v w : Nat} (h : decodeN n b0 b1 b2 b3 = (v, w)) (h' : decodeN m c0 c1 c2 c3 = (v, w)) (hv : ¬ (v = 65533 ∧ w = 1)) :
    c0 = b0 ∧ (1 < w → c1 = b1) ∧ (2 < w → c2 = b2) ∧ (3 < w → c3 = b3) := by
  rcases decN_tells h hv with ⟨rfl, g⟩ | ⟨rfl, g⟩ | ⟨rfl, g⟩ | ⟨rfl, g⟩ <;> rcases decN_tells h' hv with ⟨q, g'⟩ | ⟨q, g'⟩ | ⟨q, g'⟩ | ⟨q, g'⟩ <;> first | omega | (refine ⟨?_, fun _ => ?_, fun _ => ?_, fun _ => ?_⟩ <;> omega)

/-! ### on texts -/
theorem dec_local {s t : ByteArray} {k j v w : Nat} (h : Utf8.decode t k = (v, w)) (hv : ¬ (v = 65533 ∧ w = 1)) (hm : j + w ≤ s.size) (hw : 1 ≤ w)
    (he : ∀ i, i < w → s.get! (j + i) = t.get! (k + i)) : Utf8.decode s j = (v, w) := by
  rw [decode_at] at h ⊢
  refine decN_local h hv (by omega) ?_ ?_ ?_ ?_
  · exact congrArg _ (he 0 (by omega))
  · intro g; exact congrArg _ (he 1 g)
  · intro g; exact congrArg _ (he 2 g)
  · intro g; exact congrArg _ (he 3 g)
theorem dec_inj {s t : ByteArray} {k j v w : Nat} (h : Utf8.decode t k = (v, w)) (h' : Utf8.decode s j = (v, w)) (hv : ¬ (v = 65533 ∧ w = 1)) (hw : w ≤ 4) :
    ∀ i, i < w → s.get! (j + i) = t.get! (k + i) := by
  rw [decode_at] at h h'
  obtain ⟨a0, a1, a2, a3⟩ := decN_inj h h' hv
  intro i hi
  match i, hi with
  | 0, _ => exact UInt8.toNat_inj.1 a0
  | 1, h => exact UInt8.toNat_inj.1 (a1 h)
  | 2, h => exact UInt8.toNat_inj.1 (a2 h)
  | 3, h => exact UInt8.toNat_inj.1 (a3 h)
  | i + 4, h => exact absurd h (by omega)
theorem decN_width4 (n b0 b1 b2 b3 : Nat) : (decodeN n b0 b1 b2 b3).2 ≤ 4 := by
  unfold decodeN
  repeat' split
  all_goals (simp only []; omega)
theorem dec_width4 (s : ByteArray) (k : Nat) : (Utf8.decode s k).2 ≤ 4 := by rw [decode_at]; exact decN_width4 _ _ _ _ _
theorem dec_shift {u t : ByteArray} {m : Nat} (hs : u.size = m + t.size) (he : ∀ j, u.get! (m + j) = t.get! j) (k : Nat) : Utf8.decode u (m + k) = Utf8.decode t k := by
  rw [decode_at, decode_at, hs, show m + t.size - (m + k) = t.size - k by omega, Nat.add_assoc, Nat.add_assoc, Nat.add_assoc, he, he, he, he]

theorem rfrom_fuel (s : ByteArray) : ∀ f g k, s.size ≤ k + f → s.size ≤ k + g → rfrom s f k = rfrom s g k
  | 0, g, k, hf, _ => by rw [rfrom_end s g k (by omega)]; rfl
  | f + 1, 0, k, _, hg => by rw [rfrom_end s (f + 1) k (by omega)]; rfl
  | f + 1, g + 1, k, hf, hg => by
    by_cases h : k < s.size
    · have hd := dec_width s k h
      rw [rfrom, rfrom, if_pos h, if_pos h, rfrom_fuel s f g _ (by omega) (by omega)]
    · rw [rfrom_end _ _ _ h, rfrom_end _ _ _ h]
/-- the runes from a place on -/
def rf (s : ByteArray) (k : Nat) : List (Int × Int) := rfrom s s.size k
theorem rf_rl (s : ByteArray) : rl s = rf s 0 := rfl
theorem rf_end (s : ByteArray) (k : Nat) (h : ¬ k < s.size) : rf s k = [] := rfrom_end _ _ _ h
theorem rf_step (s : ByteArray) (k : Nat) (h : k < s.size) : rf s k = ofDec (Utf8.decode s k) :: rf s (k + (Utf8.decode s k).2) := by
  unfold rf
  obtain ⟨f, hf⟩ : ∃ f, s.size = f + 1 := ⟨s.size - 1, by omega⟩
  have hd := dec_width s k h
  rw [rfrom_fuel s s.size (f + 1) k (by omega) (by omega), rfrom, if_pos h, rfrom_fuel s f s.size _ (by omega) (by omega)]
theorem okR_valid {d : Nat × Nat} (h : okR (ofDec d) = true) : ¬ (d.1 = 65533 ∧ d.2 = 1) ∧ ofDec d = ((d.1 : Int), (d.2 : Int)) := by
  by_cases g : d.1 = 65533 ∧ d.2 = 1
  · unfold ofDec at h; rw [if_pos g] at h; exact absurd h (by decide)
  · exact ⟨g, by unfold ofDec; rw [if_neg g]⟩
theorem ofDec_inj {d e : Nat × Nat} (h : ofDec d = ofDec e) (hd : ¬ (d.1 = 65533 ∧ d.2 = 1)) : e = d := by
  unfold ofDec at h
  rw [if_neg hd] at h
  split at h
  · have := (Prod.mk.inj h).1; omega
  · have h1 := (Prod.mk.inj h).1; have h2 := (Prod.mk.inj h).2; exact Prod.ext (by omega) (by omega)

theorem rf_front (s t : ByteArray) (hs : t.size ≤ s.size) (he : ∀ j, j < t.size → s.get! j = t.get! j) : ∀ n k, t.size - k ≤ n → k ≤ t.size → (rf t k).all okR = true → rf s k = rf t k ++ rf s t.size := by
  intro n
  induction n with
  | zero => intro k h1 h2 _; obtain rfl : k = t.size := by omega
            rw [rf_end t _ (by omega)]; rfl
  | succ n ih =>
    intro k h1 h2 hall
    by_cases hlt : k < t.size
    · have hd := dec_width t k hlt
      rw [rf_step t k hlt, List.all_cons, Bool.and_eq_true] at hall
      obtain ⟨hv, hof⟩ := okR_valid hall.1
      have hdec : Utf8.decode s k = Utf8.decode t k := by
        refine dec_local (t := t) (k := k) (v := (Utf8.decode t k).1) (w := (Utf8.decode t k).2) rfl hv (by omega) (by omega) ?_
        intro i hi; exact he (k + i) (by omega)
      rw [rf_step t k hlt, rf_step s k (by omega), hdec, ih _ (by omega) (by omega) hall.2]
      rfl
    · obtain rfl : k = t.size := by omega
      rw [rf_end t _ (by omega)]; rfl
theorem rf_shift {u t : ByteArray} {m : Nat} (hs : u.size = m + t.size) (he : ∀ j, u.get! (m + j) = t.get! j) : ∀ n k, t.size - k ≤ n → rf u (m + k) = rf t k := by
  intro n
  induction n with
  | zero => intro k h; rw [rf_end t _ (by omega), rf_end u _ (by omega)]
  | succ n ih =>
    intro k h
    by_cases hlt : k < t.size
    · have hd := dec_width t k hlt
      rw [rf_step t k hlt, rf_step u (m + k) (by omega), dec_shift hs he, Nat.add_assoc, ih _ (by omega)]
    · rw [rf_end t _ hlt, rf_end u _ (by omega)]
theorem rf_back (s t : ByteArray) : ∀ n k, t.size - k ≤ n → k ≤ t.size → k ≤ s.size → (rf t k).all okR = true → rf t k <+: rf s k → t.size ≤ s.size ∧ ∀ j, k ≤ j → j < t.size → s.get! j = t.get! j := by
  intro n
  induction n with
  | zero => intro k h1 h2 h3 _ _; exact ⟨by omega, fun j ha hb => (by omega : False).elim⟩
  | succ n ih =>
    intro k h1 h2 h3 hall hp
    by_cases hlt : k < t.size
    · have hd := dec_width t k hlt
      rw [rf_step t k hlt] at hall hp
      rw [List.all_cons, Bool.and_eq_true] at hall
      have hlts : k < s.size := by
        by_cases h : k < s.size
        · exact h
        · rw [rf_end s k h] at hp; have := hp.length_le; simp at this
      have hds := dec_width s k hlts
      rw [rf_step s k hlts, List.cons_prefix_cons] at hp
      obtain ⟨hv, hof⟩ := okR_valid hall.1
      have hdec := ofDec_inj hp.1 hv
      rw [hdec] at hp hds
      have hb := dec_inj (s := s) (t := t) (k := k) (j := k) (v := (Utf8.decode t k).1) (w := (Utf8.decode t k).2) rfl hdec hv (dec_width4 t k)
      have h2 := ih _ (by omega) (by omega) (by omega) hall.2 hp.2
      refine ⟨h2.1, fun j hj hj2 => ?_⟩
      by_cases hjw : j < k + (Utf8.decode t k).2
      · have := hb (j - k) (by omega)
        rw [show k + (j - k) = j by omega] at this
        exact this
      · exact h2.2 j (by omega) hj2
    · exact ⟨by omega, fun j ha hb => (by omega : False).elim⟩

/-! ### bytes -/
theorem get_data (s : ByteArray) (j : Nat) : s.get! j = s.data[j]! := by cases s; rfl
theorem prefix_bytes (s t : ByteArray) : Lib.hasPrefix s.data.toList t.data.toList = true ↔ t.size ≤ s.size ∧ ∀ j, j < t.size → s.get! j = t.get! j := by
  have hs : s.size = s.data.toList.length := rfl
  have ht : t.size = t.data.toList.length := rfl
  have hg : ∀ (u : ByteArray) j, j < u.size → some (u.get! j) = u.data.toList[j]? := by
    intro u j hj
    have hj' : j < u.data.size := hj
    rw [get_data, getElem!_pos u.data j hj', Array.getElem?_toList, Array.getElem?_eq_getElem hj']
  unfold Lib.hasPrefix
  rw [List.isPrefixOf_iff_prefix, List.prefix_iff_getElem?]
  constructor
  · intro h
    have hle : t.size ≤ s.size := by
      by_cases h0 : t.size = 0
      · omega
      · have := h (t.size - 1) (by rw [← ht]; omega)
        have := (List.getElem?_eq_some_iff.1 this).1
        rw [← hs] at this; omega
    refine ⟨hle, fun j hj => ?_⟩
    have := h j (by rw [← ht]; exact hj)
    have h2 := hg t j hj
    rw [List.getElem?_eq_getElem (by rw [← ht]; exact hj)] at h2
    rw [← h2, ← hg s j (by omega)] at this
    exact Option.some.inj this
  · rintro ⟨hle, he⟩ j hj
    rw [← ht] at hj
    have h2 := hg t j hj
    rw [List.getElem?_eq_getElem (by rw [← ht]; exact hj)] at h2
    rw [← h2, ← hg s j (by omega), he j hj]

theorem begins_runes (s t : ByteArray) (ht : (rl t).all okR = true) : Lib.hasPrefix s.data.toList t.data.toList = true ↔ rl t <+: rl s := by
  rw [prefix_bytes]
  constructor
  · rintro ⟨hle, he⟩
    rw [rf_rl, rf_rl, rf_front s t hle he _ 0 (Nat.le_refl _) (Nat.zero_le _) ht]
    exact List.prefix_append _ _
  · intro hp
    have := rf_back s t _ 0 (Nat.le_refl _) (Nat.zero_le _) (Nat.zero_le _) ht hp
    exact ⟨this.1, fun j hj => this.2 j (Nat.zero_le _) hj⟩

/-! ### one behind the other -/
theorem cat_size (s t : ByteArray) : (s ++ t).size = s.size + t.size := by simp
theorem cat_data (s t : ByteArray) : (s ++ t).data = s.data ++ t.data := by simp
theorem cat_front (s t : ByteArray) (j : Nat) (h : j < s.size) : (s ++ t).get! j = s.get! j := by
  have h' : j < s.data.size := h
  rw [get_data, get_data, cat_data, getElem!_pos s.data j h', getElem!_pos (s.data ++ t.data) j (by simp; omega)]
  simp [Array.getElem_append_left h']
theorem cat_back (s t : ByteArray) (j : Nat) : (s ++ t).get! (s.size + j) = t.get! j := by
  rw [get_data, get_data, cat_data, show s.size = s.data.size from rfl]
  generalize s.data = a
  generalize t.data = b
  by_cases h : j < b.size
  · rw [getElem!_pos b j h, getElem!_pos (a ++ b) (a.size + j) (by simp; omega)]
    simp
  · have e1 : (a ++ b)[a.size + j]? = none := Array.getElem?_eq_none (by simp; omega)
    have e2 : b[j]? = none := Array.getElem?_eq_none (by omega)
    rw [Array.getElem!_eq_getD, Array.getElem!_eq_getD, Array.getD_eq_getD_getElem?, Array.getD_eq_getD_getElem?, e1, e2]
theorem rl_cat (s t : ByteArray) (hs : (rl s).all okR = true) : rl (s ++ t) = rl s ++ rl t := by
  rw [rf_rl, rf_rl, rf_rl, rf_front (s ++ t) s (by rw [cat_size]; omega) (cat_front s t) _ 0 (Nat.le_refl _) (Nat.zero_le _) hs]
  have := rf_shift (m := s.size) (cat_size s t) (cat_back s t) _ 0 (Nat.le_refl _)
  rw [Nat.add_zero] at this
  rw [this]
theorem begins_cat (s t : ByteArray) : Lib.hasPrefix (s ++ t).data.toList s.data.toList = true := by
  rw [prefix_bytes]
  exact ⟨by rw [cat_size]; omega, cat_front s t⟩
end Go.Proofs.YtpeiamllkddhiaaGreatDoor.R
