/- Plain law: what stands between the quotes, read back. -/
import Derived.Test.YtojchifegifecaaDoorRunesAA
import Derived.Test.YtojchifegifecaaDoorRunesW
import Derived.Test.YtojchifegifecaaDoorRunesU
namespace Go.Proofs.YtojchifegifecaaDoor.R
open Go.RowKit Go.PlainAid Go.Lib

/-- a text by its bytes -/
def bl (l : List UInt8) : ByteArray := ⟨l.toArray⟩
theorem bl_list (l : List UInt8) : (bl l).data.toList = l := rfl
theorem bl_of (s : ByteArray) : bl s.data.toList = s := by cases s; rfl
theorem bl_size (l : List UInt8) : (bl l).size = l.length := by show l.toArray.size = _; simp
theorem bl_ext (l : List UInt8) (a : Nat) : (bl l).extract a (bl l).size = bl (l.drop a) := by
  apply ByteArray.ext; apply Array.toList_inj.1
  rw [Lib.extract_data, bl_list, bl_list, bl_size, List.take_of_length_le (by simp)]
theorem bl_ext2 (l : List UInt8) (a b : Nat) : (bl l).extract a b = bl ((l.drop a).take (b - a)) := by
  apply ByteArray.ext; apply Array.toList_inj.1
  rw [Lib.extract_data, bl_list, bl_list]
theorem bl_get (l : List UInt8) (k : Nat) (h : k < l.length) : (bl l).get! k = l[k] := by
  rw [get_data]; show l.toArray[k]! = _
  rw [getElem!_pos l.toArray k (by simpa using h)]; simp

theorem escV_self (c : UInt8) (r : List UInt8) (h : c.toNat = 34 ∨ c.toNat = 92) : escV (bl (c :: r)) = (bl [c], 1) := by
  unfold escV
  rw [if_neg (by rw [bl_size]; simp), bl_get _ 0 (by simp)]
  simp only [List.getElem_cons_zero]
  rw [if_pos h, bl_ext2]
  rfl
theorem hexI_dig : ∀ y : Fin 16, hexI (dig y.val) = (y.val : Int) := by decide +kernel
theorem escV_x (a b : Nat) (ha : a < 16) (hb : b < 16) (r : List UInt8) : escV (bl (120 :: dig a :: dig b :: r)) = (bl [UInt8.ofNat (16 * a + b)], 3) := by
  unfold escV
  rw [if_neg (by rw [bl_size]; simp), bl_get _ 0 (by simp), bl_get _ 1 (by simp), bl_get _ 2 (by simp)]
  simp only [List.getElem_cons_zero, List.getElem_cons_succ]
  rw [hexI_dig ⟨a, ha⟩, hexI_dig ⟨b, hb⟩, if_neg (by decide), if_pos (by decide), if_pos ⟨by rw [bl_size]; simp, by simp, by simp⟩]
  simp only [Int.toNat_natCast]
  rfl
theorem index_point (h r : List UInt8) (hn : (46 : UInt8) ∉ h) : Lib.index (h ++ 46 :: r) [46] = (h.length : Int) := by
  induction h with
  | nil => unfold Lib.index; rw [List.nil_append]; simp
  | cons b h ih =>
    rw [List.cons_append]; unfold Lib.index
    have hb : b ≠ 46 := fun e => hn (by simp [e])
    rw [ih (fun hx => hn (by simp [hx])), if_neg (by simp [List.isPrefixOf]; exact fun e => hb e.symm), if_neg (by simp)]
    simp
theorem cut_point (h r : List UInt8) (hn : (46 : UInt8) ∉ h) : Lib.cut (h ++ 46 :: r) [46] = (h, r, true) := by
  unfold Lib.cut
  rw [index_point h r hn, if_pos (by omega)]
  simp
theorem escV_u (h r : List UInt8) (hn : (46 : UInt8) ∉ h) (v : Nat) (hv : puV (bl h) = (v, 0)) (hle : v ≤ 1114111) : escV (bl (117 :: (h ++ 46 :: r))) = (Utf8.encode (v : Int), (h.length : Int) + 2) := by
  have hd : cutD (bl (117 :: (h ++ 46 :: r))) = bl h := by
    unfold cutD; rw [bl_ext, bl_list, List.drop_one, List.tail_cons, cut_point h r hn]; rfl
  have ho : cutOk (bl (117 :: (h ++ 46 :: r))) = true := by
    unfold cutOk; rw [bl_ext, bl_list, List.drop_one, List.tail_cons, cut_point h r hn]
  unfold escV
  rw [if_neg (by rw [bl_size]; simp), bl_get _ 0 (by simp), hd, ho, hv]
  simp only [List.getElem_cons_zero]
  rw [if_neg (by decide), if_neg (by decide), if_pos (by decide), if_pos ⟨trivial, trivial, hle⟩, bl_size]

/-- one piece: its bytes, and how many of the text -/
def pieceV (s : ByteArray) : ByteArray × Int :=
  if (s.get! 0).toNat = 92 then (if (escV (s.extract 1 s.size)).2 = 0 then (⟨#[]⟩, 0) else ((escV (s.extract 1 s.size)).1, (escV (s.extract 1 s.size)).2 + 1)) else (s.extract 0 1, 1)
theorem pieceV_le (s : ByteArray) (h : 1 ≤ s.size) : 0 ≤ (pieceV s).2 ∧ (pieceV s).2 ≤ s.size ∧ (pieceV s).1.size ≤ 4 ∧ (pieceV s).1.size ≤ 4 * (pieceV s).2 := by
  have hh := escV_le (s.extract 1 s.size)
  have hz : (s.extract 1 s.size).size = s.size - 1 := by simp
  rw [hz] at hh
  unfold pieceV
  split
  · split
    · exact ⟨by decide, by simp, by decide, by decide⟩
    · rename_i h0
      refine ⟨?_, ?_, hh.2.2, ?_⟩
      · show (0 : Int) ≤ (escV (s.extract 1 s.size)).2 + 1; omega
      · show (escV (s.extract 1 s.size)).2 + 1 ≤ (s.size : Int); omega
      · show ((escV (s.extract 1 s.size)).1.size : Int) ≤ 4 * ((escV (s.extract 1 s.size)).2 + 1); omega
  · exact ⟨(by decide : (0 : Int) ≤ 1), by simp; omega, by simp; omega, by simp; omega⟩
/-- what Unquote makes of what stands between the quotes -/
def unqF : Nat → ByteArray → Option (List UInt8)
  | 0, _ => some []
  | f + 1, s => if s.size = 0 then some [] else if (pieceV s).2 = 0 then none else (unqF f (s.extract (pieceV s).2.toNat s.size)).map ((pieceV s).1.data.toList ++ ·)
def endV (s : ByteArray) : Option (List UInt8) → ByteArray × Bool
  | none => (⟨#[]⟩, false)
  | some t => if bl (quoteL (bl t)) = s then (bl t, true) else (⟨#[]⟩, false)
def unquoteV (s : ByteArray) : ByteArray × Bool :=
  if s.size < 2 ∨ (s.get! 0).toNat ≠ 34 ∨ (s.get! (s.size - 1)).toNat ≠ 34 then (⟨#[]⟩, false)
  else endV s (unqF s.size (s.extract 1 (s.size - 1)))

/-! ### a rune's bytes -/
theorem extract_list (s : ByteArray) (k n : Nat) (h : k + n ≤ s.size) : (s.extract k (k + n)).data.toList = (List.range n).map fun i => s.get! (k + i) := by
  rw [Lib.extract_data]
  apply List.ext_getElem
  · have := dl_len s; simp; omega
  · intro i h1 h2
    have h2 : i < n := by simpa using h2
    have h3 : k + i < s.data.size := by have := dl_len s; rw [Array.length_toList] at this; omega
    rw [List.getElem_take, List.getElem_drop, List.getElem_map, List.getElem_range, get_data, getElem!_pos s.data (k + i) h3]
    simp
theorem u8_of (b : UInt8) (n : Nat) (h : b.toNat = n) : UInt8.ofNat n = b := by subst h; simp
theorem enc_dec {s : ByteArray} {k v w : Nat} (hd : Utf8.decode s k = (v, w)) (hv : ¬ (v = 65533 ∧ w = 1)) (hw : k + w ≤ s.size) : Utf8.encode (v : Int) = s.extract k (k + w) := by
  rw [decode_at] at hd
  have g0 := (s.get! k).toNat_lt
  have g1 := (s.get! (k + 1)).toNat_lt
  have g2 := (s.get! (k + 2)).toNat_lt
  have g3 := (s.get! (k + 3)).toNat_lt
  unfold decodeN at hd
  unfold Utf8.encode Utf8.valid
  apply ByteArray.ext; apply Array.toList_inj.1
  rw [extract_list s k w hw]
  split at hd
  · obtain ⟨rfl, rfl⟩ := Prod.mk.inj hd
    have hva : (decide (0 ≤ ((s.get! k).toNat : Int)) && decide (((s.get! k).toNat : Int) < 0xD800) || decide (0xE000 ≤ ((s.get! k).toNat : Int)) && decide (((s.get! k).toNat : Int) ≤ 0x10FFFF)) = true := by
      simp only [Bool.or_eq_true, Bool.and_eq_true, decide_eq_true_eq]; omega
    simp only [hva, if_true, Int.toNat_natCast]
    rw [if_pos (by assumption)]
    simp
  split at hd
  · rename_i hg
    split at hd
    · rename_i hr
      obtain ⟨rfl, rfl⟩ := Prod.mk.inj hd
      obtain ⟨v, hve⟩ : ∃ v, (s.get! k).toNat % 32 * 64 + (s.get! (k + 1)).toNat % 64 = v := ⟨_, rfl⟩
      rw [hve] at hr ⊢
      have hva : (decide (0 ≤ (v : Int)) && decide ((v : Int) < 0xD800) || decide (0xE000 ≤ (v : Int)) && decide ((v : Int) ≤ 0x10FFFF)) = true := by
        simp only [Bool.or_eq_true, Bool.and_eq_true, decide_eq_true_eq]; omega
      simp only [hva, if_true, Int.toNat_natCast]
      rw [if_neg (by omega), if_pos (by omega), u8_of (s.get! k) _ (by omega), u8_of (s.get! (k + 1)) _ (by omega)]
      rfl
    · obtain ⟨rfl, rfl⟩ := Prod.mk.inj hd; exact absurd ⟨rfl, rfl⟩ hv
  split at hd
  · rename_i hg
    split at hd
    · rename_i hr
      obtain ⟨rfl, rfl⟩ := Prod.mk.inj hd
      obtain ⟨v, hve⟩ : ∃ v, (s.get! k).toNat % 16 * 4096 + (s.get! (k + 1)).toNat % 64 * 64 + (s.get! (k + 2)).toNat % 64 = v := ⟨_, rfl⟩
      rw [hve] at hr ⊢
      have hva : (decide (0 ≤ (v : Int)) && decide ((v : Int) < 0xD800) || decide (0xE000 ≤ (v : Int)) && decide ((v : Int) ≤ 0x10FFFF)) = true := by
        simp only [Bool.or_eq_true, Bool.and_eq_true, decide_eq_true_eq]; omega
      simp only [hva, if_true, Int.toNat_natCast]
      rw [if_neg (by omega), if_neg (by omega), if_pos (by omega), u8_of (s.get! k) _ (by omega), u8_of (s.get! (k + 1)) _ (by omega), u8_of (s.get! (k + 2)) _ (by omega)]
      rfl
    · obtain ⟨rfl, rfl⟩ := Prod.mk.inj hd; exact absurd ⟨rfl, rfl⟩ hv
  split at hd
  · rename_i hg
    split at hd
    · rename_i hr
      obtain ⟨rfl, rfl⟩ := Prod.mk.inj hd
      obtain ⟨v, hve⟩ : ∃ v, (s.get! k).toNat % 8 * 262144 + (s.get! (k + 1)).toNat % 64 * 4096 + (s.get! (k + 2)).toNat % 64 * 64 + (s.get! (k + 3)).toNat % 64 = v := ⟨_, rfl⟩
      rw [hve] at hr ⊢
      have hva : (decide (0 ≤ (v : Int)) && decide ((v : Int) < 0xD800) || decide (0xE000 ≤ (v : Int)) && decide ((v : Int) ≤ 0x10FFFF)) = true := by
        simp only [Bool.or_eq_true, Bool.and_eq_true, decide_eq_true_eq]; omega
      simp only [hva, if_true, Int.toNat_natCast]
      rw [if_neg (by omega), if_neg (by omega), if_neg (by omega), u8_of (s.get! k) _ (by omega), u8_of (s.get! (k + 1)) _ (by omega), u8_of (s.get! (k + 2)) _ (by omega), u8_of (s.get! (k + 3)) _ (by omega)]
      rfl
    · obtain ⟨rfl, rfl⟩ := Prod.mk.inj hd; exact absurd ⟨rfl, rfl⟩ hv
  · obtain ⟨rfl, rfl⟩ := Prod.mk.inj hd; exact absurd ⟨rfl, rfl⟩ hv
theorem hexD_no46 : ∀ f n, n < 16 ^ (f + 1) → (46 : UInt8) ∉ hexD f n := by
  have one : ∀ y : Fin 16, (46 : UInt8) ≠ dig y.val := by decide
  intro f
  induction f with
  | zero => intro n h; simp only [hexD, List.mem_singleton]; exact one ⟨n, by simpa using h⟩
  | succ f ih =>
    intro n hn
    simp only [hexD]
    split
    · rename_i h; simp only [List.mem_singleton]; exact one ⟨n, h⟩
    · rw [List.mem_append, List.mem_singleton]
      rintro (h | h)
      · exact ih _ (by rw [Nat.pow_succ] at hn; omega) h
      · exact one ⟨n % 16, by omega⟩ h

theorem pieceV_esc (l : List UInt8) (t : ByteArray) (n : Int) (h : escV (bl l) = (t, n)) (hn : n ≠ 0) : pieceV (bl (92 :: l)) = (t, n + 1) := by
  have he : (bl (92 :: l)).extract 1 (bl (92 :: l)).size = bl l := by rw [bl_ext]; rfl
  unfold pieceV
  rw [bl_get _ 0 (by simp), he, h]
  simp only [List.getElem_cons_zero]
  rw [if_pos (by decide), if_neg hn]
theorem pieceV_plain (c : UInt8) (l : List UInt8) (h : c.toNat ≠ 92) : pieceV (bl (c :: l)) = (bl [c], 1) := by
  unfold pieceV
  rw [bl_get _ 0 (by simp)]
  simp only [List.getElem_cons_zero]
  rw [if_neg h, bl_ext2]
  rfl
theorem piece_q (s : ByteArray) (k : Nat) (hk : k < s.size) (R : List UInt8) : pieceV (bl (qPiece s k ++ R)) = (s.extract k (k + (Utf8.decode s k).2), ((qPiece s k).length : Int)) := by
  have hd := dec_width s k hk
  obtain ⟨v, hv⟩ : ∃ v, (Utf8.decode s k).1 = v := ⟨_, rfl⟩
  obtain ⟨w, hw⟩ : ∃ w, (Utf8.decode s k).2 = w := ⟨_, rfl⟩
  have hdec : Utf8.decode s k = (v, w) := Prod.ext hv hw
  have hb := bt_get s hk
  cases hlo : lone s k with
  | true =>
    have hl := ofDec_lone hlo
    have hg := (s.get! k).toNat_lt
    unfold qPiece
    rw [hlo, if_pos rfl, hb, hl.2, extract_one s k hk]
    simp only [Int.toNat_natCast]
    have hx := escV_x ((s.get! k).toNat / 16) ((s.get! k).toNat % 16) (by omega) (by omega) R
    have := pieceV_esc _ _ _ hx (by decide)
    rw [show [92, 120, dig ((s.get! k).toNat / 16), dig ((s.get! k).toNat % 16)] ++ R = 92 :: (120 :: dig ((s.get! k).toNat / 16) :: dig ((s.get! k).toNat % 16) :: R) from rfl, this]
    rw [u8_of (s.get! k) _ (by omega)]
    rfl
  | false =>
    have hval : ¬ (v = 65533 ∧ w = 1) := by
      rintro ⟨rfl, rfl⟩
      unfold lone at hlo
      exact of_decide_eq_false hlo hdec
    have henc := enc_dec hdec hval (by omega)
    unfold qPiece
    rw [hlo, hv, hw]
    simp only [Bool.false_eq_true, if_false]
    rw [← henc]
    by_cases h1 : v = 34 ∨ v = 92
    · have hc := dec_ascii hdec (by omega)
      have hvc : (v.toUInt8).toNat = v := by simp [Nat.toUInt8]; omega
      rw [if_pos h1, enc_c v h1, henc, hc.1, extract_one s k hk]
      have hx := escV_self v.toUInt8 R (by rw [hvc]; exact h1)
      rw [show (92 :: [v.toUInt8]) ++ R = 92 :: (v.toUInt8 :: R) from rfl, pieceV_esc _ _ _ hx (by decide)]
      rw [show v.toUInt8 = s.get! k from u8_of _ _ hc.2]
      rfl
    · rw [if_neg h1]
      by_cases h2 : 32 ≤ v ∧ v ≤ 126
      · have hc := dec_ascii hdec (by omega)
        rw [if_pos h2, enc_ascii v (by omega), henc, hc.1, extract_one s k hk]
        rw [show [UInt8.ofNat v] ++ R = UInt8.ofNat v :: R from rfl, pieceV_plain _ _ (by simp; omega)]
        rw [u8_of (s.get! k) v hc.2]
        rfl
      · rw [if_neg h2]
        have hm : 16 ^ (7 + 1) = 4294967296 := by decide
        have hx := escV_u (hexL v) R (hexD_no46 7 v (by omega)) v (puV_hexL v (by omega)) (by omega)
        have hlen : ([92, 117] ++ hexL v ++ [46]).length = (hexL v).length + 3 := by simp
        rw [show [92, 117] ++ hexL v ++ [46] ++ R = 92 :: (117 :: (hexL v ++ 46 :: R)) by simp, pieceV_esc _ _ _ hx (by omega), hlen]
        refine Prod.ext rfl ?_
        show ((hexL v).length : Int) + 2 + 1 = (((hexL v).length + 3 : Nat) : Int)
        omega
theorem qPiece_pos (s : ByteArray) (k : Nat) (hk : k < s.size) : 1 ≤ (qPiece s k).length := by
  have h := piece_q s k hk []
  rw [List.append_nil] at h
  have hd := dec_width s k hk
  by_cases h0 : qPiece s k = []
  · rw [h0] at h
    have := congrArg (fun p => p.1.size) h
    simp only [ByteArray.size_extract] at this
    have h2 : (pieceV (bl [])).1.size ≤ 0 := by decide +kernel
    omega
  · have := List.length_pos_iff.2 h0; omega
theorem unq_qf (s : ByteArray) : ∀ n k f, s.size - k ≤ n → k ≤ s.size → (qf s k).length ≤ f → unqF f (bl (qf s k)) = some (s.data.toList.drop k) := by
  intro n
  induction n with
  | zero =>
    intro k f h1 h2 h3
    rw [qf_end s k (by omega), List.drop_of_length_le (by rw [dl_len]; omega)]
    cases f with
    | zero => rfl
    | succ f => unfold unqF; rw [if_pos (by rw [bl_size]; rfl)]
  | succ n ih =>
    intro k f h1 h2 h3
    by_cases hk : k < s.size
    · have hd := dec_width s k hk
      have hp := qPiece_pos s k hk
      rw [qf_step s k hk] at h3 ⊢
      rw [List.length_append] at h3
      cases f with
      | zero => omega
      | succ f =>
        unfold unqF
        rw [if_neg (by rw [bl_size, List.length_append]; omega), piece_q s k hk, bl_ext]
        simp only [Int.toNat_natCast]
        rw [if_neg (by omega), List.drop_left, ih _ f (by omega) (by omega) (by omega)]
        simp only [Option.map_some]
        congr 1
        rw [Lib.extract_data, show k + (Utf8.decode s k).2 - k = (Utf8.decode s k).2 by omega, ← List.drop_drop]
        exact List.take_append_drop _ _
    · rw [qf_end s k hk, List.drop_of_length_le (by rw [dl_len]; omega)]
      cases f with
      | zero => rfl
      | succ f => unfold unqF; rw [if_pos (by rw [bl_size]; rfl)]
/-- what is in quotes is unquoted as it was -/
theorem unquote_quote (s : ByteArray) : unquoteV (bl (quoteL s)) = (s, true) := by
  have hz : (quoteL s).length = (qf s 0).length + 2 := quoteL_len s
  have hq : quoteL s = 34 :: (qf s 0 ++ [34]) := by rw [quoteL_qf]; simp
  have hin : (bl (quoteL s)).extract 1 ((bl (quoteL s)).size - 1) = bl (qf s 0) := by
    rw [bl_ext2, bl_size, hz, hq]
    congr 1
    simp
  unfold unquoteV
  rw [if_neg, hin]
  · have h := unq_qf s _ 0 (bl (quoteL s)).size (Nat.le_refl _) (Nat.zero_le _) (by rw [bl_size]; omega)
    rw [h]
    simp only [endV, List.drop_zero, bl_of, if_true]
  · rw [bl_size, hz, bl_get _ 0 (by omega), bl_get _ _ (by omega)]
    simp only [hq, List.getElem_cons_zero]
    rintro (h | h | h)
    · omega
    · exact h (by decide)
    · apply h
      simp
theorem unquote_told (s : ByteArray) : ((unquoteV s).2 = false ∧ (unquoteV s).1 = ⟨#[]⟩) ∨ ((unquoteV s).2 = true ∧ bl (quoteL (unquoteV s).1) = s) := by
  unfold unquoteV
  split
  · exact .inl ⟨rfl, rfl⟩
  · unfold endV
    split
    · exact .inl ⟨rfl, rfl⟩
    · split
      · rename_i h; exact .inr ⟨rfl, h⟩
      · exact .inl ⟨rfl, rfl⟩
end Go.Proofs.YtojchifegifecaaDoor.R
