/- Several texts in one. -/
import Derived.Test.YtlbkbjeajcadiaaGreatDoorRunesF
import Derived.Laws.IdiomStrings
import Derived.Shelf.Strings.BuilderRune
import Derived.StillTailTactics

/- Plain law: of clean texts the runes tell the bytes, and the bytes the runes; a text behind a clean one. -/
namespace Go.Proofs.YtlbkbjeajcadiaaGreatDoor.R
open Go.RowKit Go.PlainAid Go.Lib

theorem decN_local {n m b0 b1 b2 b3 c0 c1 c2 c3 v w : Nat} (h : decodeN n b0 b1 b2 b3 = (v, w)) (hv : ¬ (v = 65533 ∧ w = 1)) (hm : w ≤ m)
    (e0 : c0 = b0) (e1 : 1 < w → c1 = b1) (e2 : 2 < w → c2 = b2) (e3 : 3 < w → c3 = b3) : decodeN m c0 c1 c2 c3 = (v, w) := by
  subst e0
  rw [← h]
  unfold decodeN at h ⊢
  split at h
  · rename_i g; rw [if_pos g, if_pos g]
  rename_i g0
  rw [if_neg g0, if_neg g0]
  split at h
  · rename_i g
    split at h
    · obtain ⟨rfl, rfl⟩ := Prod.mk.inj h
      rw [e1 (by omega), if_pos g, if_pos ⟨g.1, by omega, g.2.2⟩]
    · obtain ⟨rfl, rfl⟩ := Prod.mk.inj h; exact absurd ⟨rfl, rfl⟩ hv
  rename_i g1
  split at h
  · rename_i g
    have a1 : ∀ k b, ¬ (c0 / 32 = 6 ∧ (1 < k ∧ b / 64 = 2)) := fun _ _ hh => by omega
    split at h
    · obtain ⟨rfl, rfl⟩ := Prod.mk.inj h
      rw [e1 (by omega), e2 (by omega), if_neg (a1 _ _), if_neg (a1 _ _), if_pos g, if_pos ⟨g.1, ⟨by omega, g.2.1.2⟩, by omega, g.2.2.2⟩]
    · obtain ⟨rfl, rfl⟩ := Prod.mk.inj h; exact absurd ⟨rfl, rfl⟩ hv
  rename_i g2
  split at h
  · rename_i g
    have a1 : ∀ k b, ¬ (c0 / 32 = 6 ∧ (1 < k ∧ b / 64 = 2)) := fun _ _ hh => by omega
    have a2 : ∀ k b d, ¬ (c0 / 16 = 14 ∧ (1 < k ∧ b / 64 = 2) ∧ (2 < k ∧ d / 64 = 2)) := fun _ _ _ hh => by omega
    split at h
    · obtain ⟨rfl, rfl⟩ := Prod.mk.inj h
      rw [e1 (by omega), e2 (by omega), e3 (by omega), if_neg (a1 _ _), if_neg (a1 _ _), if_neg (a2 _ _ _), if_neg (a2 _ _ _), if_pos g, if_pos ⟨g.1, ⟨by omega, g.2.1.2⟩, ⟨by omega, g.2.2.1.2⟩, by omega, g.2.2.2.2⟩]
    · obtain ⟨rfl, rfl⟩ := Prod.mk.inj h; exact absurd ⟨rfl, rfl⟩ hv
  · obtain ⟨rfl, rfl⟩ := Prod.mk.inj h; exact absurd ⟨rfl, rfl⟩ hv

/-- what a valid rune says of its bytes -/
theorem decN_tells {n b0 b1 b2 b3 v w : Nat} (h : decodeN n b0 b1 b2 b3 = (v, w)) (hv : ¬ (v = 65533 ∧ w = 1)) :
    (w = 1 ∧ b0 = v) ∨ (w = 2 ∧ b0 / 32 = 6 ∧ b1 / 64 = 2 ∧ v = b0 % 32 * 64 + b1 % 64) ∨ (w = 3 ∧ b0 / 16 = 14 ∧ b1 / 64 = 2 ∧ b2 / 64 = 2 ∧ v = b0 % 16 * 4096 + b1 % 64 * 64 + b2 % 64)
    ∨ (w = 4 ∧ b0 / 8 = 30 ∧ b1 / 64 = 2 ∧ b2 / 64 = 2 ∧ b3 / 64 = 2 ∧ v = b0 % 8 * 262144 + b1 % 64 * 4096 + b2 % 64 * 64 + b3 % 64) := by
  unfold decodeN at h
  split at h
  · obtain ⟨rfl, rfl⟩ := Prod.mk.inj h; exact .inl ⟨rfl, rfl⟩
  split at h
  · rename_i g
    split at h
    · obtain ⟨rfl, rfl⟩ := Prod.mk.inj h; exact .inr (.inl ⟨rfl, g.1, g.2.2, rfl⟩)
    · obtain ⟨rfl, rfl⟩ := Prod.mk.inj h; exact absurd ⟨rfl, rfl⟩ hv
  split at h
  · rename_i g
    split at h
    · obtain ⟨rfl, rfl⟩ := Prod.mk.inj h; exact .inr (.inr (.inl ⟨rfl, g.1, g.2.1.2, g.2.2.2, rfl⟩))
    · obtain ⟨rfl, rfl⟩ := Prod.mk.inj h; exact absurd ⟨rfl, rfl⟩ hv
  split at h
  · rename_i g
    split at h
    · obtain ⟨rfl, rfl⟩ := Prod.mk.inj h; exact .inr (.inr (.inr ⟨rfl, g.1, g.2.1.2, g.2.2.1.2, g.2.2.2.2, rfl⟩))
    · obtain ⟨rfl, rfl⟩ := Prod.mk.inj h; exact absurd ⟨rfl, rfl⟩ hv
  · obtain ⟨rfl, rfl⟩ := Prod.mk.inj h; exact absurd ⟨rfl, rfl⟩ hv
theorem decN_inj {n m b0 b1 b2 b3 c0 c1 c2 c3 v w : Nat} (h : decodeN n b0 b1 b2 b3 = (v, w)) (h' : decodeN m c0 c1 c2 c3 = (v, w)) (hv : ¬ (v = 65533 ∧ w = 1)) :
    c0 = b0 ∧ (1 < w → c1 = b1) ∧ (2 < w → c2 = b2) ∧ (3 < w → c3 = b3) := by
  rcases decN_tells h hv with ⟨rfl, g⟩ | ⟨rfl, g⟩ | ⟨rfl, g⟩ | ⟨rfl, g⟩ <;> rcases decN_tells h' hv with ⟨q, g'⟩ | ⟨q, g'⟩ | ⟨q, g'⟩ | ⟨q, g'⟩ <;> first | omega | (refine ⟨?_, fun _ => ?_, fun _ => ?_, fun _ => ?_⟩ <;> omega)

/-! ### on texts -/
theorem dec_local {s t : ByteArray} {k j v w : Nat} (h : Utf8.decode t k = (v, w)) (hv : ¬ (v = 65533 ∧ w = 1)) (hm : j + w ≤ s.size) (hw : 1 ≤ w)
    (he : ∀ i, i < w → s.get! (j + i) = t.get! (k + i)) : Utf8.decode s j = (v, w) := by
  rw [decode_at] at h ⊢
  refine decN_local h hv (by omega) ?_ ?_ ?_ ?_
  · exact congrArg _ (he 0 (by omega))
  · intro g; exact congrArg _ (he 1 g)
  · intro g; exact congrArg _ (he 2 g)
  · intro g; exact congrArg _ (he 3 g)
theorem dec_inj {s t : ByteArray} {k j v w : Nat} (h : Utf8.decode t k = (v, w)) (h' : Utf8.decode s j = (v, w)) (hv : ¬ (v = 65533 ∧ w = 1)) (hw : w ≤ 4) :
    ∀ i, i < w → s.get! (j + i) = t.get! (k + i) := by
  rw [decode_at] at h h'
  obtain ⟨a0, a1, a2, a3⟩ := decN_inj h h' hv
  intro i hi
  match i, hi with
  | 0, _ => exact UInt8.toNat_inj.1 a0
  | 1, h => exact UInt8.toNat_inj.1 (a1 h)
  | 2, h => exact UInt8.toNat_inj.1 (a2 h)
  | 3, h => exact UInt8.toNat_inj.1 (a3 h)
  | i + 4, h => exact absurd h (by omega)
theorem decN_width4 (n b0 b1 b2 b3 : Nat) : (decodeN n b0 b1 b2 b3).2 ≤ 4 := by
  unfold decodeN
  repeat' split
  all_goals (simp only []; omega)
theorem dec_width4 (s : ByteArray) (k : Nat) : (Utf8.decode s k).2 ≤ 4 := by rw [decode_at]; exact decN_width4 _ _ _ _ _
theorem dec_shift {u t : ByteArray} {m : Nat} (hs : u.size = m + t.size) (he : ∀ j, u.get! (m + j) = t.get! j) (k : Nat) : Utf8.decode u (m + k) = Utf8.decode t k := by
  rw [decode_at, decode_at, hs, show m + t.size - (m + k) = t.size - k by omega, Nat.add_assoc, Nat.add_assoc, Nat.add_assoc, he, he, he, he]

theorem rfrom_fuel (s : ByteArray) : ∀ f g k, s.size ≤ k + f → s.size ≤ k + g → rfrom s f k = rfrom s g k
  | 0, g, k, hf, _ => by rw [rfrom_end s g k (by omega)]; rfl
  | f + 1, 0, k, _, hg => by rw [rfrom_end s (f + 1) k (by omega)]; rfl
  | f + 1, g + 1, k, hf, hg => by
    by_cases h : k < s.size
    · have hd := dec_width s k h
      rw [rfrom, rfrom, if_pos h, if_pos h, rfrom_fuel s f g _ (by omega) (by omega)]
    · rw [rfrom_end _ _ _ h, rfrom_end _ _ _ h]
/-- the runes from a place on -/
def rf (s : ByteArray) (k : Nat) : List (Int × Int) := rfrom s s.size k
theorem rf_rl (s : ByteArray) : rl s = rf s 0 := rfl
theorem rf_end (s : ByteArray) (k : Nat) (h : ¬ k < s.size) : rf s k = [] := rfrom_end _ _ _ h
theorem rf_step (s : ByteArray) (k : Nat) (h : k < s.size) : rf s k = ofDec (Utf8.decode s k) :: rf s (k + (Utf8.decode s k).2) := by
  unfold rf
  obtain ⟨f, hf⟩ : ∃ f, s.size = f + 1 := ⟨s.size - 1, by omega⟩
  have hd := dec_width s k h
  rw [rfrom_fuel s s.size (f + 1) k (by omega) (by omega), rfrom, if_pos h, rfrom_fuel s f s.size _ (by omega) (by omega)]
theorem okR_valid {d : Nat × Nat} (h : okR (ofDec d) = true) : ¬ (d.1 = 65533 ∧ d.2 = 1) ∧ ofDec d = ((d.1 : Int), (d.2 : Int)) := by
  by_cases g : d.1 = 65533 ∧ d.2 = 1
  · unfold ofDec at h; rw [if_pos g] at h; exact absurd h (by decide)
  · exact ⟨g, by unfold ofDec; rw [if_neg g]⟩
theorem ofDec_inj {d e : Nat × Nat} (h : ofDec d = ofDec e) (hd : ¬ (d.1 = 65533 ∧ d.2 = 1)) : e = d := by
  unfold ofDec at h
  rw [if_neg hd] at h
  split at h
  · have := (Prod.mk.inj h).1; omega
  · have h1 := (Prod.mk.inj h).1; have h2 := (Prod.mk.inj h).2; exact Prod.ext (by omega) (by omega)

theorem rf_front (s t : ByteArray) (hs : t.size ≤ s.size) (he : ∀ j, j < t.size → s.get! j = t.get! j) : ∀ n k, t.size - k ≤ n → k ≤ t.size → (rf t k).all okR = true → rf s k = rf t k ++ rf s t.size := by
  intro n
  induction n with
  | zero => intro k h1 h2 _; obtain rfl : k = t.size := by omega
            rw [rf_end t _ (by omega)]; rfl
  | succ n ih =>
    intro k h1 h2 hall
    by_cases hlt : k < t.size
    · have hd := dec_width t k hlt
      rw [rf_step t k hlt, List.all_cons, Bool.and_eq_true] at hall
      obtain ⟨hv, hof⟩ := okR_valid hall.1
      have hdec : Utf8.decode s k = Utf8.decode t k := by
        refine dec_local (t := t) (k := k) (v := (Utf8.decode t k).1) (w := (Utf8.decode t k).2) rfl hv (by omega) (by omega) ?_
        intro i hi; exact he (k + i) (by omega)
      rw [rf_step t k hlt, rf_step s k (by omega), hdec, ih _ (by omega) (by omega) hall.2]
      rfl
    · obtain rfl : k = t.size := by omega
      rw [rf_end t _ (by omega)]; rfl
theorem rf_shift {u t : ByteArray} {m : Nat} (hs : u.size = m + t.size) (he : ∀ j, u.get! (m + j) = t.get! j) : ∀ n k, t.size - k ≤ n → rf u (m + k) = rf t k := by
  intro n
  induction n with
  | zero => intro k h; rw [rf_end t _ (by omega), rf_end u _ (by omega)]
  | succ n ih =>
    intro k h
    by_cases hlt : k < t.size
    · have hd := dec_width t k hlt
      rw [rf_step t k hlt, rf_step u (m + k) (by omega), dec_shift hs he, Nat.add_assoc, ih _ (by omega)]
    · rw [rf_end t _ hlt, rf_end u _ (by omega)]
theorem rf_back (s t : ByteArray) : ∀ n k, t.size - k ≤ n → k ≤ t.size → k ≤ s.size → (rf t k).all okR = true → rf t k <+: rf s k → t.size ≤ s.size ∧ ∀ j, k ≤ j → j < t.size → s.get! j = t.get! j := by
  intro n
  induction n with
  | zero => intro k h1 h2 h3 _ _; exact ⟨by omega, fun j ha hb => (by omega : False).elim⟩
  | succ n ih =>
    intro k h1 h2 h3 hall hp
    by_cases hlt : k < t.size
    · have hd := dec_width t k hlt
      rw [rf_step t k hlt] at hall hp
      rw [List.all_cons, Bool.and_eq_true] at hall
      have hlts : k < s.size := by
        by_cases h : k < s.size
        · exact h
        · rw [rf_end s k h] at hp; have := hp.length_le; simp at this
      have hds := dec_width s k hlts
      rw [rf_step s k hlts, List.cons_prefix_cons] at hp
      obtain ⟨hv, hof⟩ := okR_valid hall.1
      have hdec := ofDec_inj hp.1 hv
      rw [hdec] at hp hds
      have hb := dec_inj (s := s) (t := t) (k := k) (j := k) (v := (Utf8.decode t k).1) (w := (Utf8.decode t k).2) rfl hdec hv (dec_width4 t k)
      have h2 := ih _ (by omega) (by omega) (by omega) hall.2 hp.2
      refine ⟨h2.1, fun j hj hj2 => ?_⟩
      by_cases hjw : j < k + (Utf8.decode t k).2
      · have := hb (j - k) (by omega)
        rw [show k + (j - k) = j by omega] at this
        exact this
      · exact h2.2 j (by omega) hj2
    · exact ⟨by omega, fun j ha hb => (by omega : False).elim⟩

/-! ### bytes -/
theorem get_data (s : ByteArray) (j : Nat) : s.get! j = s.data[j]! := by cases s; rfl
theorem prefix_bytes (s t : ByteArray) : Lib.hasPrefix s.data.toList t.data.toList = true ↔ t.size ≤ s.size ∧ ∀ j, j < t.size → s.get! j = t.get! j := by
  have hs : s.size = s.data.toList.length := rfl
  have ht : t.size = t.data.toList.length := rfl
  have hg : ∀ (u : ByteArray) j, j < u.size → some (u.get! j) = u.data.toList[j]? := by
    intro u j hj
    have hj' : j < u.data.size := hj
    rw [get_data, getElem!_pos u.data j hj', Array.getElem?_toList, Array.getElem?_eq_getElem hj']
  unfold Lib.hasPrefix
  rw [List.isPrefixOf_iff_prefix, List.prefix_iff_getElem?]
  constructor
  · intro h
    have hle : t.size ≤ s.size := by
      by_cases h0 : t.size = 0
      · omega
      · have := h (t.size - 1) (by rw [← ht]; omega)
        have := (List.getElem?_eq_some_iff.1 this).1
        rw [← hs] at this; omega
    refine ⟨hle, fun j hj => ?_⟩
    have := h j (by rw [← ht]; exact hj)
    have h2 := hg t j hj
    rw [List.getElem?_eq_getElem (by rw [← ht]; exact hj)] at h2
    rw [← h2, ← hg s j (by omega)] at this
    exact Option.some.inj this
  · rintro ⟨hle, he⟩ j hj
    rw [← ht] at hj
    have h2 := hg t j hj
    rw [List.getElem?_eq_getElem (by rw [← ht]; exact hj)] at h2
    rw [← h2, ← hg s j (by omega), he j hj]

theorem begins_runes (s t : ByteArray) (ht : (rl t).all okR = true) : Lib.hasPrefix s.data.toList t.data.toList = true ↔ rl t <+: rl s := by
  rw [prefix_bytes]
  constructor
  · rintro ⟨hle, he⟩
    rw [rf_rl, rf_rl, rf_front s t hle he _ 0 (Nat.le_refl _) (Nat.zero_le _) ht]
    exact List.prefix_append _ _
  · intro hp
    have := rf_back s t _ 0 (Nat.le_refl _) (Nat.zero_le _) (Nat.zero_le _) ht hp
    exact ⟨this.1, fun j hj => this.2 j (Nat.zero_le _) hj⟩

/-! ### one behind the other -/
theorem cat_size (s t : ByteArray) : (s ++ t).size = s.size + t.size := by simp
theorem cat_data (s t : ByteArray) : (s ++ t).data = s.data ++ t.data := by simp
theorem cat_front (s t : ByteArray) (j : Nat) (h : j < s.size) : (s ++ t).get! j = s.get! j := by
  have h' : j < s.data.size := h
  rw [get_data, get_data, cat_data, getElem!_pos s.data j h', getElem!_pos (s.data ++ t.data) j (by simp; omega)]
  simp [Array.getElem_append_left h']
theorem cat_back (s t : ByteArray) (j : Nat) : (s ++ t).get! (s.size + j) = t.get! j := by
  rw [get_data, get_data, cat_data, show s.size = s.data.size from rfl]
  generalize s.data = a
  generalize t.data = b
  by_cases h : j < b.size
  · rw [getElem!_pos b j h, getElem!_pos (a ++ b) (a.size + j) (by simp; omega)]
    simp
  · have e1 : (a ++ b)[a.size + j]? = none := Array.getElem?_eq_none (by simp; omega)
    have e2 : b[j]? = none := Array.getElem?_eq_none (by omega)
    rw [Array.getElem!_eq_getD, Array.getElem!_eq_getD, Array.getD_eq_getD_getElem?, Array.getD_eq_getD_getElem?, e1, e2]
theorem rl_cat (s t : ByteArray) (hs : (rl s).all okR = true) : rl (s ++ t) = rl s ++ rl t := by
  rw [rf_rl, rf_rl, rf_rl, rf_front (s ++ t) s (by rw [cat_size]; omega) (cat_front s t) _ 0 (Nat.le_refl _) (Nat.zero_le _) hs]
  have := rf_shift (m := s.size) (cat_size s t) (cat_back s t) _ 0 (Nat.le_refl _)
  rw [Nat.add_zero] at this
  rw [this]
theorem begins_cat (s t : ByteArray) : Lib.hasPrefix (s ++ t).data.toList s.data.toList = true := by
  rw [prefix_bytes]
  exact ⟨by rw [cat_size]; omega, cat_front s t⟩
end Go.Proofs.YtlbkbjeajcadiaaGreatDoor.R

/- strconv.FormatInt at base 16, of what is no greater than a rune. -/
namespace Go.Proofs.YtlbkbjeajcadiaaGreatDoor.R
open Go.RowKit Go.PlainAid Go.Lib

theorem key16 : IntKind.u64.wrap (bits BinOp.and IntKind.u64 16 (IntKind.u64.wrap (-16)) * 285870213051353865) / 288230376151711744 = 15 := by decide +kernel

/-- a hexadecimal digit -/
def dig (n : Nat) : UInt8 := if n < 10 then UInt8.ofNat (48 + n) else UInt8.ofNat (87 + n)
/-- a number's hexadecimal digits -/
def hexD : Nat → Nat → List UInt8
  | 0, n => [dig n]
  | f + 1, n => if n < 16 then [dig n] else hexD f (n / 16) ++ [dig (n % 16)]
def hexL (n : Nat) : List UInt8 := hexD 7 n

theorem and15 (u : Nat) (h : u < 18446744073709551616) : bits .and .u64 (u : Int) 15 = ((u % 16 : Nat) : Int) := by
  have := bits_and_u64_nat u 15 h (by omega)
  rw [show ((15 : Int)) = ((15 : Nat) : Int) from rfl, this]
  have e : u &&& 15 = u % 16 := Nat.and_two_pow_sub_one_eq_mod u 4
  rw [e]

theorem hexD_small {f n : Nat} (h : n < 16) : hexD f n = [dig n] := by cases f <;> simp [hexD, h]
theorem hexD_great {f n : Nat} (h : 16 ≤ n) : hexD (f + 1) n = hexD f (n / 16) ++ [dig (n % 16)] := by rw [hexD, if_neg (by omega)]

def digS : ByteArray := ⟨#[48, 49, 50, 51, 52, 53, 54, 55, 56, 57, 97, 98, 99, 100, 101, 102, 103, 104, 105, 106, 107, 108, 109, 110, 111, 112, 113, 114, 115, 116, 117, 118, 119, 120, 121, 122]⟩
theorem digS_fin : ∀ y : Fin 16, digS[y.val]'(Nat.lt_of_lt_of_le y.isLt (by decide)) = dig y.val := by decide
theorem digS_get (x : Nat) (hx : x < 16) (h : x < digS.size) : digS[x]'h = dig x := digS_fin ⟨x, hx⟩

/-- the buffer: its last cells hold the digits so far -/
structure Digs (wr : World) (A i : Nat) (acc : List UInt8) : Prop where
  len : i + acc.length = 65
  some' : ∀ j, j < 65 → ∃ v, wr.cell? ⟨A, j, none⟩ = some v
  fz : ∀ j, j < 65 → wr.frozen? ⟨A, j, none⟩ = false
  at' : ∀ j (h : j < acc.length), wr.cell? ⟨A, i + j, none⟩ = some (.int .u8 (acc[j].toNat : Int))
theorem Digs.put {wr : World} {A i : Nat} {acc : List UInt8} (h : Digs wr A (i + 1) acc) (c : UInt8) : Digs (wr.setCell ⟨A, i, none⟩ (.int .u8 (c.toNat : Int))) A i (c :: acc) := by
  obtain ⟨v, hv⟩ := h.some' i (by have := h.len; omega)
  refine ⟨by have := h.len; simp; omega, fun j hj => ?_, fun j hj => ?_, fun j hj => ?_⟩
  · by_cases e : j = i
    · subst e; exact ⟨_, World.cell?_setCell_same _ _ _ hv⟩
    · rw [World.cell?_setCell_other _ _ _ _ (by simp <;> omega)]; exact h.some' j hj
  · rw [World.frozen?_setCell]; exact h.fz j hj
  · cases j with
    | zero => rw [Nat.add_zero]; exact World.cell?_setCell_same _ _ _ hv
    | succ j =>
      rw [World.cell?_setCell_other _ _ _ _ (by simp)]
      have := h.at' j (by simpa using hj)
      rw [show i + (j + 1) = i + 1 + j by omega, this]
      simp

theorem conv65 (W : World) (A i : Nat) (l : List UInt8) (h : Digs W A i l) : (convert 95 9 (.slice (some ⟨A, i, none⟩) (65 - i) (65 - i))).run Tryz.prog W = .ok (.string ⟨l.toArray⟩) W := by
  have hl := h.len
  have := run_convert_bytes_back (P := Tryz.prog) W 95 9 5 ⟨A, i, none⟩ (65 - i) l Tryz.underlying95 Tryz.underlying5 Tryz.underlying9 (fun j hj => by rw [Go.WideShapes.add_plain]; exact h.at' j hj)
  rw [show l.length = 65 - i by omega] at this
  exact this

end Go.Proofs.YtlbkbjeajcadiaaGreatDoor.R

/- The program's Quote, at every text. -/
namespace Go.Proofs.YtlbkbjeajcadiaaGreatDoor.R
open Go.RowKit Go.PlainAid Go.Lib

theorem builderAt_below {T e : TypeId} {B b : Nat} {p : Value} {bs : List Value} {w w' : World} (h : BuilderAtF T e B b p bs w) (hb : Below w.heap.size w w') : BuilderAtF T e B b p bs w' := by
  obtain ⟨hB, v, h1, hown, hne⟩ := h
  exact ⟨hB, v, heap_of_below h1 hb (heap_lt h1), hown.kept (row := none) ⟨hb.os, hb.tape, hb.output, hb.size, fun k hk _ => hb.block k hk⟩ (Classical.em _), hne⟩
theorem builder_below {T e : TypeId} {B b : Nat} {bs : List Value} {w w' : World} (h : IsBuilderF T e B b bs w) (hb : Below w.heap.size w w') : IsBuilderF T e B b bs w' :=
  h.elim (fun x => .inl (builderAt_below x hb)) (fun x => .inr (builderAt_below x hb))

/-- what stands for a rune in quotes -/
def qPiece (s : ByteArray) (k : Nat) : List UInt8 :=
  if lone s k then [92, 120, dig ((bt s k).toNat / 16), dig ((bt s k).toNat % 16)]
  else if (Utf8.decode s k).1 = 34 ∨ (Utf8.decode s k).1 = 92 then 92 :: Lib.encodeRune (Utf8.decode s k).1
  else if 32 ≤ (Utf8.decode s k).1 ∧ (Utf8.decode s k).1 ≤ 126 then Lib.encodeRune (Utf8.decode s k).1
  else [92, 117] ++ hexL (Utf8.decode s k).1 ++ [46]
def qFrom (s : ByteArray) : Nat → Nat → List UInt8
  | 0, _ => []
  | f + 1, k => if k < s.size then qPiece s k ++ qFrom s f (k + (Utf8.decode s k).2) else []
def quoteL (s : ByteArray) : List UInt8 := [34] ++ qFrom s s.size 0 ++ [34]
theorem qFrom_end (s : ByteArray) (f k : Nat) (h : ¬ k < s.size) : qFrom s f k = [] := by cases f <;> simp [qFrom, h]
theorem qFrom_step (s : ByteArray) {f k : Nat} (h : k < s.size) : qFrom s (f + 1) k = qPiece s k ++ qFrom s f (k + (Utf8.decode s k).2) := by rw [qFrom, if_pos h]

theorem hexD_len : ∀ f n, (hexD f n).length ≤ f + 1
  | 0, _ => by simp [hexD]
  | f + 1, n => by
    simp only [hexD]; split
    · simp
    · rw [List.length_append]; have := hexD_len f (n / 16); simp; omega
theorem enc_len (c : Nat) : (Lib.encodeRune (c : Int)).length ≤ 4 := by
  have := Lib.runeCells_le (c : Int); rw [Lib.runeCells_length] at this; exact this.2
theorem qPiece_len (s : ByteArray) (k : Nat) : (qPiece s k).length ≤ 11 := by
  unfold qPiece
  have h1 := enc_len (Utf8.decode s k).1
  have h2 := hexD_len 7 (Utf8.decode s k).1
  split
  · simp
  · split
    · simp; omega
    · split
      · omega
      · simp [hexL]; omega

set_option maxRecDepth 100000 in
theorem and15_u8 : ∀ m : Fin 256, bits .and .u8 ((m.val : Nat) : Int) 15 = ((m.val % 16 : Nat) : Int) := by decide
theorem dig_enc (x : Nat) (hx : x < 16) : Utf8.encode ((dig x).toNat : Int) = ⟨#[dig x]⟩ := by
  have h : ∀ y : Fin 16, Utf8.encode ((dig y.val).toNat : Int) = ⟨#[dig y.val]⟩ := by decide
  exact h ⟨x, hx⟩
def hexS : ByteArray := ⟨#[48, 49, 50, 51, 52, 53, 54, 55, 56, 57, 97, 98, 99, 100, 101, 102]⟩
theorem hexS_fin : ∀ y : Fin 16, hexS[y.val]'(Nat.lt_of_lt_of_le y.isLt (by decide)) = dig y.val := by decide
theorem hexS_get (x : Nat) (hx : x < 16) (h : x < hexS.size) : hexS[x]'h = dig x := hexS_fin ⟨x, hx⟩

theorem ix_s (s : ByteArray) (k m : Nat) (hk : k < s.size) (hb : ∀ h : k < s.size, ((s[k]'h).toNat : Int) = (m : Int)) (W : World) : (Instr.index 9 (.string s) (.int .i64 (k : Int))).run Tryz.prog W = .ok (.int .u8 (m : Int)) W := by
  rw [run_index_string W 9 s .i64 (k : Int) Tryz.underlying9, dif_pos (by omega)]
  simp only [Int.toNat_natCast]
  rw [hb hk]
theorem ix_h (j : Int) (x : Nat) (hj : j = (x : Int)) (hx : x < 16) (W : World) : (Instr.index 9 (.string ⟨#[48, 49, 50, 51, 52, 53, 54, 55, 56, 57, 97, 98, 99, 100, 101, 102]⟩) (.int .u8 j)).run Tryz.prog W = .ok (.int .u8 ((dig x).toNat : Int)) W := by
  subst hj
  have hz : ((hexS.size : Nat) : Int) = 16 := by decide
  have h := run_index_string (P := Tryz.prog) W 9 hexS .u8 (x : Int) Tryz.underlying9
  rw [dif_pos (by rw [hz]; omega)] at h
  simp only [Int.toNat_natCast] at h
  rw [hexS_get x hx] at h
  exact h
theorem cv_d (x : Nat) (hx : x < 16) (W : World) : (convert 5 9 (.int .u8 ((dig x).toNat : Int))).run Tryz.prog W = .ok (.string ⟨#[dig x]⟩) W := by
  rw [run_convert_int_string W 5 9 .u8 _ (by kernel_rfl) Tryz.underlying9, dig_enc x hx]

theorem cv_c (c : Nat) (hc : c = 34 ∨ c = 92) (W : World) : (convert 21 9 (.int .i32 (c : Int))).run Tryz.prog W = .ok (.string ⟨#[c.toUInt8]⟩) W := by
  rw [run_convert_int_string W 21 9 .i32 _ (by kernel_rfl) Tryz.underlying9]
  rcases hc with rfl | rfl
  · have : Utf8.encode ((34 : Nat) : Int) = ⟨#[(34 : Nat).toUInt8]⟩ := by decide
    rw [this]
  · have : Utf8.encode ((92 : Nat) : Int) = ⟨#[(92 : Nat).toUInt8]⟩ := by decide
    rw [this]
theorem enc_c (c : Nat) (hc : c = 34 ∨ c = 92) : Lib.encodeRune (c : Int) = [c.toUInt8] := by
  rcases hc with rfl | rfl <;> decide
theorem sz4 (a b : UInt8) : ((⟨#[92, 120]⟩ : ByteArray) ++ ⟨#[a]⟩ ++ ⟨#[b]⟩).size = 4 := by simp only [ByteArray.size_append]; rfl
theorem sz2 (a : UInt8) : ((⟨#[92]⟩ : ByteArray) ++ ⟨#[a]⟩).size = 2 := by simp only [ByteArray.size_append]; rfl
theorem szU (l : List UInt8) : ((⟨#[92, 117]⟩ : ByteArray) ++ ⟨l.toArray⟩ ++ ⟨#[46]⟩).size = l.length + 3 := by simp only [ByteArray.size_append]; show 2 + l.toArray.size + 1 = _; simp; omega
theorem cells4 (acc : List UInt8) (a b : UInt8) : Lib.byteCells acc ++ Lib.strCells (⟨#[92, 120]⟩ ++ ⟨#[a]⟩ ++ ⟨#[b]⟩) = Lib.byteCells (acc ++ [92, 120, a, b]) := by
  rw [Lib.strCells_eq, Lib.byteCells_append]; rfl
theorem cells2 (acc : List UInt8) (a : UInt8) : Lib.byteCells acc ++ Lib.strCells (⟨#[92]⟩ ++ ⟨#[a]⟩) = Lib.byteCells (acc ++ [92, a]) := by
  rw [Lib.strCells_eq, Lib.byteCells_append]; rfl
theorem cellsU (acc l : List UInt8) : Lib.byteCells acc ++ Lib.strCells (⟨#[92, 117]⟩ ++ ⟨l.toArray⟩ ++ ⟨#[46]⟩) = Lib.byteCells (acc ++ ([92, 117] ++ l ++ [46])) := by
  rw [Lib.strCells_eq, Lib.byteCells_append]
  congr 2

end Go.Proofs.YtlbkbjeajcadiaaGreatDoor.R

/- Plain law: what stands in quotes for two clean texts, one behind the other. -/
namespace Go.Proofs.YtlbkbjeajcadiaaGreatDoor.R
open Go.RowKit Go.PlainAid Go.Lib

theorem qFrom_fuel (s : ByteArray) : ∀ f g k, s.size ≤ k + f → s.size ≤ k + g → qFrom s f k = qFrom s g k
  | 0, g, k, hf, _ => by rw [qFrom_end s g k (by omega)]; rfl
  | f + 1, 0, k, _, hg => by rw [qFrom_end s (f + 1) k (by omega)]; rfl
  | f + 1, g + 1, k, hf, hg => by
    by_cases h : k < s.size
    · have hd := dec_width s k h
      rw [qFrom_step s h, qFrom_step s h, qFrom_fuel s f g _ (by omega) (by omega)]
    · rw [qFrom_end _ _ _ h, qFrom_end _ _ _ h]
def qf (s : ByteArray) (k : Nat) : List UInt8 := qFrom s s.size k
theorem quoteL_qf (s : ByteArray) : quoteL s = [34] ++ qf s 0 ++ [34] := rfl
theorem qf_end (s : ByteArray) (k : Nat) (h : ¬ k < s.size) : qf s k = [] := qFrom_end _ _ _ h
theorem qf_step (s : ByteArray) (k : Nat) (h : k < s.size) : qf s k = qPiece s k ++ qf s (k + (Utf8.decode s k).2) := by
  unfold qf
  obtain ⟨f, hf⟩ : ∃ f, s.size = f + 1 := ⟨s.size - 1, by omega⟩
  have hd := dec_width s k h
  rw [qFrom_fuel s s.size (f + 1) k (by omega) (by omega), qFrom_step s h, qFrom_fuel s f s.size _ (by omega) (by omega)]
theorem qPiece_of {s t : ByteArray} {j k : Nat} (h : Utf8.decode s j = Utf8.decode t k) (hv : ¬ ((Utf8.decode t k).1 = 65533 ∧ (Utf8.decode t k).2 = 1)) : qPiece s j = qPiece t k := by
  have h1 : lone t k = false := by unfold lone; exact decide_eq_false fun e => hv ⟨by rw [e], by rw [e]⟩
  have h2 : lone s j = false := by unfold lone; rw [h]; exact h1
  unfold qPiece
  rw [h1, h2, h]
  rfl
theorem bt_shift {u t : ByteArray} {m : Nat} (hs : u.size = m + t.size) (he : ∀ j, u.get! (m + j) = t.get! j) (k : Nat) : bt u (m + k) = bt t k := by
  by_cases h : k < t.size
  · rw [bt_get u (by omega), bt_get t h, he]
  · unfold bt; rw [dif_neg h, dif_neg (by omega)]
theorem qPiece_shift {u t : ByteArray} {m : Nat} (hs : u.size = m + t.size) (he : ∀ j, u.get! (m + j) = t.get! j) (k : Nat) : qPiece u (m + k) = qPiece t k := by
  unfold qPiece lone
  rw [dec_shift hs he, bt_shift hs he]
theorem qf_front (s t : ByteArray) (hs : t.size ≤ s.size) (he : ∀ j, j < t.size → s.get! j = t.get! j) : ∀ n k, t.size - k ≤ n → k ≤ t.size → (rf t k).all okR = true → qf s k = qf t k ++ qf s t.size := by
  intro n
  induction n with
  | zero => intro k h1 h2 _; obtain rfl : k = t.size := by omega
            rw [qf_end t _ (by omega)]; rfl
  | succ n ih =>
    intro k h1 h2 hall
    by_cases hlt : k < t.size
    · have hd := dec_width t k hlt
      rw [rf_step t k hlt, List.all_cons, Bool.and_eq_true] at hall
      obtain ⟨hv, hof⟩ := okR_valid hall.1
      have hdec : Utf8.decode s k = Utf8.decode t k := by
        refine dec_local (t := t) (k := k) (v := (Utf8.decode t k).1) (w := (Utf8.decode t k).2) rfl hv (by omega) (by omega) ?_
        intro i hi; exact he (k + i) (by omega)
      rw [qf_step t k hlt, qf_step s k (by omega), hdec, ih _ (by omega) (by omega) hall.2, qPiece_of hdec hv, List.append_assoc]
    · obtain rfl : k = t.size := by omega
      rw [qf_end t _ (by omega)]; rfl
theorem qf_shift {u t : ByteArray} {m : Nat} (hs : u.size = m + t.size) (he : ∀ j, u.get! (m + j) = t.get! j) : ∀ n k, t.size - k ≤ n → qf u (m + k) = qf t k := by
  intro n
  induction n with
  | zero => intro k h; rw [qf_end t _ (by omega), qf_end u _ (by omega)]
  | succ n ih =>
    intro k h
    by_cases hlt : k < t.size
    · have hd := dec_width t k hlt
      rw [qf_step t k hlt, qf_step u (m + k) (by omega), dec_shift hs he, Nat.add_assoc, ih _ (by omega), qPiece_shift hs he]
    · rw [qf_end t _ hlt, qf_end u _ (by omega)]
theorem quoteL_cat (s t : ByteArray) (hs : (rl s).all okR = true) : quoteL (s ++ t) = ([34] ++ qf s 0) ++ (qf t 0 ++ [34]) := by
  rw [quoteL_qf, qf_front (s ++ t) s (by rw [cat_size]; omega) (cat_front s t) _ 0 (Nat.le_refl _) (Nat.zero_le _) hs]
  have := qf_shift (m := s.size) (cat_size s t) (cat_back s t) _ 0 (Nat.le_refl _)
  rw [Nat.add_zero] at this
  rw [this]
  simp
theorem qf_len (s : ByteArray) : ∀ n k, s.size - k ≤ n → (qf s k).length ≤ 11 * (s.size - k) := by
  intro n
  induction n with
  | zero => intro k h; rw [qf_end s k (by omega)]; simp
  | succ n ih =>
    intro k h
    by_cases hlt : k < s.size
    · have hd := dec_width s k hlt
      have hp := qPiece_len s k
      have := ih (k + (Utf8.decode s k).2) (by omega)
      rw [qf_step s k hlt, List.length_append]
      omega
    · rw [qf_end s k hlt]; simp
theorem quoteL_len (s : ByteArray) : (quoteL s).length = (qf s 0).length + 2 := by rw [quoteL_qf]; simp
theorem quoteL_len2 (s : ByteArray) (m : Nat) (h : s.size ≤ m) : (quoteL s).length ≤ 11 * m + 2 := by
  rw [quoteL_len]; have := qf_len s _ 0 (Nat.le_refl _); omega
end Go.Proofs.YtlbkbjeajcadiaaGreatDoor.R
