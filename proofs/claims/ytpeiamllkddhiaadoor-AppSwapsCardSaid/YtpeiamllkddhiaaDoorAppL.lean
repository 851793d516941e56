/- Plain: settings' lines joined, their sizes. -/
import Derived.Test.YtpeiamllkddhiaaDoorAppP
import Derived.Lib.ItoaLen
namespace Go.Proofs.YtpeiamllkddhiaaDoor.P
open Go.Proofs.YtpeiamllkddhiaaDoor.R Go.PlainAid Go.Lib
set_option linter.unusedVariables false

theorem decN_width4 (n b0 b1 b2 b3 : Nat) : (decodeN n b0 b1 b2 b3).2 ≤ 4 := by
  unfold decodeN
  repeat' split
  all_goals (simp only []; omega)
theorem rfrom_size (s : ByteArray) : ∀ f k, s.size - k ≤ f → s.size - k ≤ 4 * (rfrom s f k).length
  | 0, k, h => by omega
  | f + 1, k, h => by
    simp only [rfrom]
    by_cases hk : k < s.size
    · rw [if_pos hk]
      have hd := dec_width s k hk
      have h4 : (Utf8.decode s k).2 ≤ 4 := by rw [decode_at]; exact decN_width4 _ _ _ _ _
      have := rfrom_size s f (k + (Utf8.decode s k).2) (by omega)
      simp only [List.length_cons]
      omega
    · omega
theorem begin_size {s : ByteArray} (h : beginV s = true) : s.size ≤ 128 := by
  unfold beginV at h
  rw [Bool.and_eq_true, decide_eq_true_eq] at h
  have := rfrom_size s s.size 0 (by omega)
  have e : rfrom s s.size 0 = rl s := rfl
  rw [e] at this
  omega
theorem key_size {s : ByteArray} (h : keyV s = true) : s.size ≤ 128 := by
  unfold keyV at h
  rw [Bool.and_eq_true] at h
  exact begin_size h.2
theorem mk_size (l : List UInt8) : (⟨l.toArray⟩ : ByteArray).size = l.length := by
  show l.toArray.size = _
  simp
theorem digs_size (n : Int) (h0 : 0 ≤ n) (h1 : n ≤ 1000000) : (digs n).size ≤ 21 := by
  unfold digs
  rw [mk_size]
  have := Lib.itoa_length_le n (by omega) (by omega)
  omega
def sp : ByteArray := ⟨#[32]⟩
theorem sp_size : sp.size = 1 := rfl
theorem joinB_snoc (L : List ByteArray) (y : ByteArray) : joinB (L ++ [y]) = if L = [] then y else joinB L ++ sp ++ y := by
  induction L with
  | nil => rfl
  | cons a t ih =>
    rw [if_neg (by simp)]
    cases t with
    | nil => rfl
    | cons b t =>
      show a ++ ⟨#[32]⟩ ++ joinB ((b :: t) ++ [y]) = a ++ ⟨#[32]⟩ ++ joinB (b :: t) ++ sp ++ y
      rw [ih, if_neg (by simp)]
      simp only [ByteArray.append_assoc]
theorem joinB_size (L : List ByteArray) (m : Nat) (h : ∀ x ∈ L, x.size ≤ m) : (joinB L).size ≤ L.length * (m + 1) := by
  induction L with
  | nil => exact Nat.zero_le _
  | cons a t ih =>
    have h1 := h a List.mem_cons_self
    cases t with
    | nil => show a.size ≤ _; simp; omega
    | cons b t =>
      have h2 := ih (fun x hx => h x (List.mem_cons_of_mem _ hx))
      show (a ++ ⟨#[32]⟩ ++ joinB (b :: t)).size ≤ _
      rw [ByteArray.size_append, ByteArray.size_append]
      have e : (⟨#[32]⟩ : ByteArray).size = 1 := rfl
      rw [e, List.length_cons (a := a), Nat.add_mul]
      omega
theorem quote_size {s : ByteArray} {m : Nat} (h : s.size ≤ m) : (⟨(quoteL s).toArray⟩ : ByteArray).size ≤ 11 * m + 2 := by
  rw [mk_size]
  exact quoteL_len2 s m h
theorem line_size {e : Ent} (hk : keyV e.key = true) (hv : e.val.size ≤ 1024) (h0 : 0 ≤ e.rev) (h1 : e.rev ≤ 1000000) : (lineB e).size ≤ 13000 := by
  unfold lineB
  simp only [ByteArray.size_append]
  have q1 := quote_size (key_size hk)
  have q2 := quote_size hv
  have q3 := digs_size e.rev h0 h1
  have e1 : (⟨#[61]⟩ : ByteArray).size = 1 := rfl
  have e2 : (⟨#[58]⟩ : ByteArray).size = 1 := rfl
  omega
/-- lines of the settings that begin so -/
def linesB (A : List Ent) (p : ByteArray) : List ByteArray := (hits A p).map lineB
theorem lines_snoc (A : List Ent) (e : Ent) (p : ByteArray) : linesB (A ++ [e]) p = if begs e.key p then linesB A p ++ [lineB e] else linesB A p := by
  unfold linesB hits
  rw [List.filter_append, List.map_append]
  cases h : begs e.key p <;> simp [h]
theorem lines_len (A : List Ent) (p : ByteArray) : (linesB A p).length ≤ A.length := by
  unfold linesB hits
  rw [List.length_map]
  exact List.length_filter_le _ _
theorem findR_lines (A : List Ent) (p : ByteArray) : findR A p = ⟨0, joinB (linesB A p), ((linesB A p).length : Nat)⟩ := by
  unfold findR linesB
  rw [List.length_map]
theorem lines_size {A : List Ent} {N : Nat} (h : Good N A) (hN : N ≤ 1000000) (p : ByteArray) : ∀ x ∈ linesB A p, x.size ≤ 13000 := by
  intro x hx
  obtain ⟨e, he, rfl⟩ := List.mem_map.1 hx
  have := h.ent e (List.mem_filter.1 he).1
  exact line_size this.2.2.1 this.2.2.2 (by omega) (by omega)
theorem lines_take {A : List Ent} {N i : Nat} (h : Good N A) (hN : N ≤ 100000) (p : ByteArray) : (joinB (linesB (A.take i) p)).size ≤ 2000000000 := by
  have h1 := joinB_size (linesB (A.take i) p) 13000 (fun x hx => by
    obtain ⟨e, he, rfl⟩ := List.mem_map.1 hx
    have := h.ent e (List.mem_of_mem_take (List.mem_filter.1 he).1)
    exact line_size this.2.2.1 this.2.2.2 (by omega) (by omega))
  have h2 := lines_len (A.take i) p
  have h3 := List.length_take_le i A
  have h4 : (A.take i).length ≤ A.length := by rw [List.length_take]; omega
  have h5 := h.len
  have h6 : (linesB (A.take i) p).length * (13000 + 1) ≤ 100000 * 13001 := Nat.mul_le_mul (by omega) (by omega)
  omega
end Go.Proofs.YtpeiamllkddhiaaDoor.P
