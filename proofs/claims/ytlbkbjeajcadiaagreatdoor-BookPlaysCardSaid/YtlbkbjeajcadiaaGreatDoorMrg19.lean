/- Several texts in one. -/
import Derived.Test.YtlbkbjeajcadiaaGreatDoorMrg18
import Derived.Lib.ItoaLen
import Derived.Test.YtlbkbjeajcadiaaGreatDoorMrg6
import Derived.Test.YtlbkbjeajcadiaaGreatDoorMrg5
import Derived.Deep.DeepCutAuto
import Derived.Test.YtlbkbjeajcadiaaGreatDoorMrg8
import Derived.Test.YtlbkbjeajcadiaaGreatDoorMrg10
import Derived.Deep.RegionHeld3
import Derived.Test.YtlbkbjeajcadiaaGreatDoorMrg17
import Derived.Test.YtlbkbjeajcadiaaGreatDoorMrg4

/- The reference's Without; a number's digits. -/
namespace Go.Proofs.YtlbkbjeajcadiaaGreatDoor.P
open Go.RowKit Go.Proofs.YtlbkbjeajcadiaaGreatDoor.R Go.Proofs.YtlbkbjeajcadiaaGreatDoor.M Go.BigFrame
set_option linter.unusedVariables false
set_option linter.unusedSimpArgs false

theorem del_keep {P : List Ent} {k : ByteArray} {x : Ent} (h : x.key ≠ k) : del (P ++ [x]) k = del P k ++ [x] := by
  unfold del; rw [List.filter_append]; simp [h]
theorem del_drop {P : List Ent} {k : ByteArray} {x : Ent} (h : x.key = k) : del (P ++ [x]) k = del P k := by
  unfold del; rw [List.filter_append]; simp [h]
theorem addr_add0 (g : Nat) : (⟨g, 0, none⟩ : Addr).add 0 = ⟨g, 0, none⟩ := by unfold Addr.add; split <;> simp_all
theorem conv_dig (x : Nat) (hx : x < 10) (d : UInt8) (hd : d = UInt8.ofNat (48 + x)) (w : World) : (convert 95 9 (.slice (some ⟨w.heap.size, 0, none⟩) 1 1)).run Tryz.prog (w.alloc (.cells #[.int .u8 (48 + (x : Int))] 5)) = .ok (.string ⟨#[d]⟩) (w.alloc (.cells #[.int .u8 (48 + (x : Int))] 5)) := by
  subst hd
  have hv : ((UInt8.ofNat (48 + x)).toNat : Int) = 48 + (x : Int) := by
    rw [UInt8.toNat_ofNat']
    omega
  exact run_convert_bytes_back (P := Tryz.prog) _ 95 9 5 ⟨w.heap.size, 0, none⟩ 1 [UInt8.ofNat (48 + x)] Tryz.underlying95 Tryz.underlying5 Tryz.underlying9 (fun j hj => by
    match j, hj with
    | 0, _ =>
      rw [addr_add0]
      simp only [List.getElem_cons_zero]
      rw [hv]
      exact cell_of_row _ _ 0 _ _ (0, 0) (heap_alloc_new w _))
/-- what a number's digits are, its lower ones out -/
def TextAt (N n : Nat) (l : List UInt8) : Prop := (n < 10 → Lib.decDigits N = l) ∧ (¬ n < 10 → Lib.decDigits N = Lib.decDigits (n / 10) ++ l)
theorem TextAt.start (N : Nat) : TextAt N N [UInt8.ofNat (48 + N % 10)] :=
  ⟨fun h => by rw [Lib.decDigits, dif_pos h, Nat.mod_eq_of_lt h], fun h => by rw [Lib.decDigits, dif_neg h]⟩
theorem TextAt.step {N n : Nat} {l : List UInt8} (h : TextAt N n l) (hn : ¬ n < 10) : TextAt N (n / 10) (UInt8.ofNat (48 + n / 10 % 10) :: l) := by
  have h2 := h.2 hn
  refine ⟨fun hl => ?_, fun hl => ?_⟩
  · rw [h2, Lib.decDigits, dif_pos hl, Nat.mod_eq_of_lt hl]; rfl
  · rw [h2, Lib.decDigits, dif_neg hl, List.append_assoc]; rfl
theorem cons_ba (a : UInt8) (l : List UInt8) : (⟨#[a]⟩ : ByteArray) ++ ⟨l.toArray⟩ = ⟨(a :: l).toArray⟩ := by
  apply ba_ext
  rw [ByteArray.data_append]
  simp
end Go.Proofs.YtlbkbjeajcadiaaGreatDoor.P

/- Plain: settings' lines joined, their sizes. -/
namespace Go.Proofs.YtlbkbjeajcadiaaGreatDoor.P
open Go.Proofs.YtlbkbjeajcadiaaGreatDoor.R Go.PlainAid Go.Lib
set_option linter.unusedVariables false

theorem decN_width4 (n b0 b1 b2 b3 : Nat) : (decodeN n b0 b1 b2 b3).2 ≤ 4 := by
  unfold decodeN
  repeat' split
  all_goals (simp only []; omega)
theorem rfrom_size (s : ByteArray) : ∀ f k, s.size - k ≤ f → s.size - k ≤ 4 * (rfrom s f k).length
  | 0, k, h => by omega
  | f + 1, k, h => by
    simp only [rfrom]
    by_cases hk : k < s.size
    · rw [if_pos hk]
      have hd := dec_width s k hk
      have h4 : (Utf8.decode s k).2 ≤ 4 := by rw [decode_at]; exact decN_width4 _ _ _ _ _
      have := rfrom_size s f (k + (Utf8.decode s k).2) (by omega)
      simp only [List.length_cons]
      omega
    · omega
theorem begin_size {s : ByteArray} (h : beginV s = true) : s.size ≤ 128 := by
  unfold beginV at h
  rw [Bool.and_eq_true, decide_eq_true_eq] at h
  have := rfrom_size s s.size 0 (by omega)
  have e : rfrom s s.size 0 = rl s := rfl
  rw [e] at this
  omega
theorem key_size {s : ByteArray} (h : keyV s = true) : s.size ≤ 128 := by
  unfold keyV at h
  rw [Bool.and_eq_true] at h
  exact begin_size h.2
theorem mk_size (l : List UInt8) : (⟨l.toArray⟩ : ByteArray).size = l.length := by
  show l.toArray.size = _
  simp
theorem digs_size (n : Int) (h0 : 0 ≤ n) (h1 : n ≤ 1000000) : (digs n).size ≤ 21 := by
  unfold digs
  rw [mk_size]
  have := Lib.itoa_length_le n (by omega) (by omega)
  omega
def sp : ByteArray := ⟨#[32]⟩
theorem sp_size : sp.size = 1 := rfl
theorem joinB_snoc (L : List ByteArray) (y : ByteArray) : joinB (L ++ [y]) = if L = [] then y else joinB L ++ sp ++ y := by
  induction L with
  | nil => rfl
  | cons a t ih =>
    rw [if_neg (by simp)]
    cases t with
    | nil => rfl
    | cons b t =>
      show a ++ ⟨#[32]⟩ ++ joinB ((b :: t) ++ [y]) = a ++ ⟨#[32]⟩ ++ joinB (b :: t) ++ sp ++ y
      rw [ih, if_neg (by simp)]
      simp only [ByteArray.append_assoc]
theorem joinB_size (L : List ByteArray) (m : Nat) (h : ∀ x ∈ L, x.size ≤ m) : (joinB L).size ≤ L.length * (m + 1) := by
  induction L with
  | nil => exact Nat.zero_le _
  | cons a t ih =>
    have h1 := h a List.mem_cons_self
    cases t with
    | nil => show a.size ≤ _; simp; omega
    | cons b t =>
      have h2 := ih (fun x hx => h x (List.mem_cons_of_mem _ hx))
      show (a ++ ⟨#[32]⟩ ++ joinB (b :: t)).size ≤ _
      rw [ByteArray.size_append, ByteArray.size_append]
      have e : (⟨#[32]⟩ : ByteArray).size = 1 := rfl
      rw [e, List.length_cons (a := a), Nat.add_mul]
      omega
theorem quote_size {s : ByteArray} {m : Nat} (h : s.size ≤ m) : (⟨(quoteL s).toArray⟩ : ByteArray).size ≤ 11 * m + 2 := by
  rw [mk_size]
  exact quoteL_len2 s m h
theorem line_size {e : Ent} (hk : keyV e.key = true) (hv : e.val.size ≤ 1024) (h0 : 0 ≤ e.rev) (h1 : e.rev ≤ 1000000) : (lineB e).size ≤ 13000 := by
  unfold lineB
  simp only [ByteArray.size_append]
  have q1 := quote_size (key_size hk)
  have q2 := quote_size hv
  have q3 := digs_size e.rev h0 h1
  have e1 : (⟨#[61]⟩ : ByteArray).size = 1 := rfl
  have e2 : (⟨#[58]⟩ : ByteArray).size = 1 := rfl
  omega
/-- lines of the settings that begin so -/
def linesB (A : List Ent) (p : ByteArray) : List ByteArray := (hits A p).map lineB
theorem lines_snoc (A : List Ent) (e : Ent) (p : ByteArray) : linesB (A ++ [e]) p = if begs e.key p then linesB A p ++ [lineB e] else linesB A p := by
  unfold linesB hits
  rw [List.filter_append, List.map_append]
  cases h : begs e.key p <;> simp [h]
theorem lines_len (A : List Ent) (p : ByteArray) : (linesB A p).length ≤ A.length := by
  unfold linesB hits
  rw [List.length_map]
  exact List.length_filter_le _ _
theorem findR_lines (A : List Ent) (p : ByteArray) : findR A p = ⟨0, joinB (linesB A p), ((linesB A p).length : Nat)⟩ := by
  unfold findR linesB
  rw [List.length_map]
theorem lines_size {A : List Ent} {N : Nat} (h : Good N A) (hN : N ≤ 1000000) (p : ByteArray) : ∀ x ∈ linesB A p, x.size ≤ 13000 := by
  intro x hx
  obtain ⟨e, he, rfl⟩ := List.mem_map.1 hx
  have := h.ent e (List.mem_filter.1 he).1
  exact line_size this.2.2.1 this.2.2.2 (by omega) (by omega)
theorem lines_take {A : List Ent} {N i : Nat} (h : Good N A) (hN : N ≤ 100000) (p : ByteArray) : (joinB (linesB (A.take i) p)).size ≤ 2000000000 := by
  have h1 := joinB_size (linesB (A.take i) p) 13000 (fun x hx => by
    obtain ⟨e, he, rfl⟩ := List.mem_map.1 hx
    have := h.ent e (List.mem_of_mem_take (List.mem_filter.1 he).1)
    exact line_size this.2.2.1 this.2.2.2 (by omega) (by omega))
  have h2 := lines_len (A.take i) p
  have h3 := List.length_take_le i A
  have h4 : (A.take i).length ≤ A.length := by rw [List.length_take]; omega
  have h5 := h.len
  have h6 : (linesB (A.take i) p).length * (13000 + 1) ≤ 100000 * 13001 := Nat.mul_le_mul (by omega) (by omega)
  omega
end Go.Proofs.YtlbkbjeajcadiaaGreatDoor.P

/- The reference's hex and Quote. -/
namespace Go.Proofs.YtlbkbjeajcadiaaGreatDoor.R
open Go.RowKit Go.PlainAid Go.Lib

theorem sl_h (x : Nat) (hx : x < 16) (W : World) : (Instr.slice 9 (.string ⟨#[48, 49, 50, 51, 52, 53, 54, 55, 56, 57, 97, 98, 99, 100, 101, 102]⟩) (some (.int .i64 (x : Int))) (some (.int .i64 ((x : Int) + 1))) none).run Tryz.prog W = .ok (.string ⟨#[dig x]⟩) W := by
  have h := run_slice_string (P := Tryz.prog) W 9 hexS .i64 .i64 (x : Int) ((x : Int) + 1) Tryz.underlying9 (by omega) (by omega) (by rw [show ((hexS.size : Nat) : Int) = 16 by decide]; omega)
  have he : ∀ y : Fin 16, hexS.extract y.val (y.val + 1) = ⟨#[dig y.val]⟩ := by decide
  rw [show ((x : Int)).toNat = x by omega, show ((x : Int) + 1).toNat = x + 1 by omega, he ⟨x, hx⟩] at h
  exact h

theorem arr_size' (l : List UInt8) : (⟨l.toArray⟩ : ByteArray).size = l.length := by show l.toArray.size = _; simp
theorem decN_ascii {n b0 b1 b2 b3 v w : Nat} (h : decodeN n b0 b1 b2 b3 = (v, w)) (hv : v < 128) : w = 1 ∧ b0 = v := by
  unfold decodeN at h
  split at h
  · obtain ⟨rfl, rfl⟩ := Prod.mk.inj h; exact ⟨rfl, rfl⟩
  split at h
  · split at h <;> (obtain ⟨rfl, rfl⟩ := Prod.mk.inj h; omega)
  split at h
  · split at h <;> (obtain ⟨rfl, rfl⟩ := Prod.mk.inj h; omega)
  split at h
  · split at h <;> (obtain ⟨rfl, rfl⟩ := Prod.mk.inj h; omega)
  · obtain ⟨rfl, rfl⟩ := Prod.mk.inj h; omega
theorem dec_ascii {s : ByteArray} {k v w : Nat} (h : Utf8.decode s k = (v, w)) (hv : v < 128) : w = 1 ∧ (s.get! k).toNat = v := by
  rw [decode_at] at h; exact decN_ascii h hv
theorem decN_low {n b0 b1 b2 b3 : Nat} (h : b0 < 128) : decodeN n b0 b1 b2 b3 = (b0, 1) := by unfold decodeN; rw [if_pos h]
theorem lone_high {s : ByteArray} {k : Nat} (h : lone s k = true) : 128 ≤ (s.get! k).toNat := by
  unfold lone at h
  have h := of_decide_eq_true h
  rw [decode_at] at h
  by_cases hb : (s.get! k).toNat < 128
  · rw [decN_low hb] at h; have := (Prod.mk.inj h).1; omega
  · omega
theorem extract_one (s : ByteArray) (k : Nat) (h : k < s.size) : s.extract k (k + 1) = ⟨#[s.get! k]⟩ := by
  have h' : k < s.data.size := h
  apply ByteArray.ext
  apply Array.toList_inj.1
  rw [Lib.extract_data, show k + 1 - k = 1 by omega, get_data, getElem!_pos s.data k h', List.drop_eq_getElem_cons (by simpa using h')]
  simp
theorem enc_ascii (v : Nat) (h : v < 128) : Lib.encodeRune (v : Int) = [UInt8.ofNat v] := by
  have : ∀ y : Fin 128, Lib.encodeRune ((y.val : Nat) : Int) = [UInt8.ofNat y.val] := by decide
  exact this ⟨v, h⟩
theorem part_ascii {s : ByteArray} {k v w : Nat} (hk : k < s.size) (h : Utf8.decode s k = (v, w)) (hv : v < 128) : s.extract k (k + w) = ⟨(Lib.encodeRune (v : Int)).toArray⟩ := by
  obtain ⟨rfl, hb⟩ := dec_ascii h hv
  rw [extract_one s k hk, enc_ascii v hv, ← hb]
  simp
theorem hexL_two (b : Nat) (h : 16 ≤ b) (h2 : b < 256) : hexL b = [dig (b / 16), dig (b % 16)] := by
  unfold hexL
  rw [hexD_great h, hexD_small (by omega)]
  rfl
end Go.Proofs.YtlbkbjeajcadiaaGreatDoor.R

/- The reference's Quote. -/
namespace Go.Proofs.YtlbkbjeajcadiaaGreatDoor.R
open Go.RowKit Go.PlainAid Go.Lib

theorem runes_row (s : ByteArray) (w : World) (hs : s.size ≤ 1000000) (l : List (Int × Int)) (hl : rl s = l) :
    Calls Tryz.prog 131 #[.string s] w fun e w' => ∃ ao cap, e = .returned (.slice ao l.length cap) ∧ (∀ j, j < l.length → ∃ g, ao = some ⟨g, 0, none⟩ ∧ g < w'.heap.size ∧ ∀ j, j < l.length * 2 → w'.cell? ⟨g, j, none⟩ = (cellsR l)[j]?) ∧ Below w.heap.size w w' := by
  subst hl
  refine (runes_any s w hs).mono fun e w' hh => ?_
  obtain ⟨v, rfl, hown, hb⟩ := hh
  obtain ⟨ao, cap, rfl, _, hv⟩ := own_view hown
  refine ⟨ao, cap, rfl, fun j hj => ?_, hb⟩
  obtain ⟨g, rfl, _, hg, hc⟩ := hv (by omega)
  exact ⟨g, rfl, hg, hc⟩
theorem ofDec_of {s : ByteArray} {k : Nat} (h : lone s k = false) : ofDec (Utf8.decode s k) = (((Utf8.decode s k).1 : Int), ((Utf8.decode s k).2 : Int)) := by
  unfold ofDec
  rw [if_neg]
  rintro ⟨h1, h2⟩
  unfold lone at h
  exact of_decide_eq_false h (Prod.ext h1 h2)
theorem ofDec_lone {s : ByteArray} {k : Nat} (h : lone s k = true) : ofDec (Utf8.decode s k) = (-1, 1) ∧ (Utf8.decode s k).2 = 1 := by
  unfold lone at h
  have h := of_decide_eq_true h
  rw [h]; exact ⟨ofDec_bad, rfl⟩

end Go.Proofs.YtlbkbjeajcadiaaGreatDoor.R

/- The reference's Do. -/
namespace Go.Proofs.YtlbkbjeajcadiaaGreatDoor.P
open Go.RowKit Go.Proofs.YtlbkbjeajcadiaaGreatDoor.R Go.Proofs.YtlbkbjeajcadiaaGreatDoor.M Go.BigFrame
set_option linter.unusedVariables false
set_option linter.unusedSimpArgs false

abbrev repV (r : Rep) : Value := .agg #[.int .i64 r.code, .string r.val, .int .i64 r.rev]
theorem look_at {A : List Ent} {k : ByteArray} : (look A k = none → atI A k = -1) ∧ ∀ e, look A k = some e → ∃ i : Nat, atI A k = i ∧ A[i]? = some e := by
  refine ⟨fun h => atI_no (look_none h), fun e h => ?_⟩
  unfold look at h
  rw [List.find?_eq_some_iff_getElem] at h
  obtain ⟨hk, i, hi, he, hn⟩ := h
  refine ⟨i, atI_yes (List.getElem?_eq_some_iff.2 ⟨hi, he⟩) (by simpa using hk) (fun j x hj hx => ?_), List.getElem?_eq_some_iff.2 ⟨hi, he⟩⟩
  have h1 := List.getElem?_eq_some_iff.1 hx
  have := hn j hj
  rw [h1.2] at this
  simpa using this
theorem refcheck_v (c : Cmd) (w : World) (hs : c.key.size ≤ 1000000) (v : Int) (hv : chk c = v) :
    Calls Tryz.prog 68 #[cmdV c] w fun e w' => e = .returned (.int .i64 v) ∧ Below w.heap.size w w' := by subst hv; exact refcheck_any c w hs
theorem set3 {w : World} {b : Nat} {v0 v1 v2 u0 u1 u2 : Value} {T : TypeId} (h : w.heap[b]? = some (.cells #[v0, v1, v2] T (0, 0))) :
    (((w.setCell ⟨b, 0, none⟩ u0).setCell ⟨b, 1, none⟩ u1).setCell ⟨b, 2, none⟩ u2).heap[b]? = some (.cells #[u0, u1, u2] T (0, 0)) := by
  have s0 := heap_set w b 0 u0 b _ _ _ h
  rw [if_pos rfl] at s0
  have s1 := heap_set _ b 1 u1 b _ _ _ s0
  rw [if_pos rfl] at s1
  have s2 := heap_set _ b 2 u2 b _ _ _ s1
  rw [if_pos rfl] at s2
  exact s2
theorem set3_below {w0 w : World} {B b : Nat} {u0 u1 u2 : Value} (hb : B ≤ b) (h : Below B w0 w) : Below B w0 (((w.setCell ⟨b, 0, none⟩ u0).setCell ⟨b, 1, none⟩ u1).setCell ⟨b, 2, none⟩ u2) :=
  ((h.setCell (p := ⟨b, 0, none⟩) hb _).setCell (p := ⟨b, 1, none⟩) hb _).setCell (p := ⟨b, 2, none⟩) hb _
theorem far3 {W : World} {r B o : Nat} {u0 u1 u2 : Value} (h : B ≠ r) : (((W.setCell ⟨r, 0, none⟩ u0).setCell ⟨r, 1, none⟩ u1).setCell ⟨r, 2, none⟩ u2).cell? ⟨B, o, none⟩ = W.cell? ⟨B, o, none⟩ := by
  have e := fun (X : World) (j : Nat) (v : Value) => World.cell?_of_block (w := X) (w' := X.setCell ⟨r, j, none⟩ v) (a := ⟨B, o, none⟩) (Below.heap_setCell X ⟨r, j, none⟩ v B h)
  exact (e _ _ _).trans ((e _ _ _).trans (e _ _ _))
theorem SetsV.far {W : World} {r : Nat} {oo : Option Addr} {oc : Nat} {A : List Ent} {u0 u1 u2 : Value} (h : SetsV W oo oc A) (hn : ∀ a, oo = some a → r < a.block) :
    SetsV (((W.setCell ⟨r, 0, none⟩ u0).setCell ⟨r, 1, none⟩ u1).setCell ⟨r, 2, none⟩ u2) oo oc A :=
  ⟨h.le, fun i e hi => by
    obtain ⟨b, off, e1, hl, c0, c1, c2⟩ := h.row i e hi
    have hb : b ≠ r := by have := hn _ e1; simp only at this; omega
    exact ⟨b, off, e1, by simpa [World.setCell] using hl, (far3 hb).trans c0, (far3 hb).trans c1, (far3 hb).trans c2⟩⟩
/-- what Do leaves -/
def DoPost (A : List Ent) (c : Cmd) (w : World) (e : Ending) (w' : World) : Prop :=
  ∃ oo oc, e = .returned (.tuple #[.slice oo (act A c).1.length oc, repV (act A c).2]) ∧ SetsV w' oo oc (act A c).1 ∧ Below w.heap.size w w'
theorem DoPost.mk {A B : List Ent} {c : Cmd} {w W : World} {R : Rep} {oo : Option Addr} {oc : Nat} (hv : act A c = (B, R)) (hs : SetsV W oo oc B) (hb : Below w.heap.size w W) :
    DoPost A c w (.returned (.tuple #[.slice oo B.length oc, repV R])) W := ⟨oo, oc, by rw [hv], by rw [hv]; exact hs, hb⟩
theorem findAt_skip {A : List Ent} {c : Cmd} {k : Nat} {x : Ent} (hx : A[k]? = some x) (hb : begs x.key c.key = false) : linesB (A.take (k + 1)) c.key = linesB (A.take k) c.key := by
  rw [List.take_add_one, hx, Option.toList_some, lines_snoc, hb]; rfl
theorem findAt_more {A : List Ent} {c : Cmd} {k : Nat} {x : Ent} (hx : A[k]? = some x) (hb : begs x.key c.key = true) : linesB (A.take (k + 1)) c.key = linesB (A.take k) c.key ++ [lineB x] := by
  rw [List.take_add_one, hx, Option.toList_some, lines_snoc, hb]; rfl
end Go.Proofs.YtlbkbjeajcadiaaGreatDoor.P

/- The program's settings: New, none, get, put. -/
namespace Go.Proofs.YtlbkbjeajcadiaaGreatDoor.P
open Go.RowKit Go.Proofs.YtlbkbjeajcadiaaGreatDoor.R Go.Proofs.YtlbkbjeajcadiaaGreatDoor.M Go.BigFrame
set_option linter.unusedVariables false
set_option linter.unusedSimpArgs false

def getO : Option Ent → Rep
  | none => ⟨8, nul, 0⟩
  | some e => ⟨0, e.val, e.rev⟩
def getR (A : List Ent) (k : ByteArray) : Rep := getO (look A k)
end Go.Proofs.YtlbkbjeajcadiaaGreatDoor.P

/- The program's settings: put, remove, cas. -/
namespace Go.Proofs.YtlbkbjeajcadiaaGreatDoor.P
open Go.RowKit Go.Proofs.YtlbkbjeajcadiaaGreatDoor.R Go.Proofs.YtlbkbjeajcadiaaGreatDoor.M Go.BigFrame Go.Maps
set_option linter.unusedVariables false
set_option linter.unusedSimpArgs false

theorem mods_set3 {S : Nat → Prop} {w w1 : World} {r : Nat} {u0 u1 u2 : Value} (h : Mods S w w1) (hr : w.heap.size ≤ r) : Mods S w (((w1.setCell ⟨r, 0, none⟩ u0).setCell ⟨r, 1, none⟩ u1).setCell ⟨r, 2, none⟩ u2) :=
  ((h.setCell (p := ⟨r, 0, none⟩) (fun h => by simp only at h; omega) _).setCell (p := ⟨r, 1, none⟩) (fun h => by simp only at h; omega) _).setCell (p := ⟨r, 2, none⟩) (fun h => by simp only at h; omega) _
theorem mods3 {w w1 : World} {r : Nat} {u0 u1 u2 : Value} : Mods (fun k => k = r) w1 (((w1.setCell ⟨r, 0, none⟩ u0).setCell ⟨r, 1, none⟩ u1).setCell ⟨r, 2, none⟩ u2) :=
  (((Mods.refl (fun k => k = r) w1).setCell (p := ⟨r, 0, none⟩) (fun _ => rfl) _).setCell (p := ⟨r, 1, none⟩) (fun _ => rfl) _).setCell (p := ⟨r, 2, none⟩) (fun _ => rfl) _
end Go.Proofs.YtlbkbjeajcadiaaGreatDoor.P

/- The program's settings: Keys, Copy. -/
namespace Go.Proofs.YtlbkbjeajcadiaaGreatDoor.P
open Go.RowKit Go.Proofs.YtlbkbjeajcadiaaGreatDoor.R Go.Proofs.YtlbkbjeajcadiaaGreatDoor.M Go.BigFrame Go.Maps
set_option linter.unusedVariables false
set_option linter.unusedSimpArgs false

def strV (k : List UInt8) : Value := .string ⟨k.toArray⟩
/-- a slice that holds texts, in blocks not below B -/
structure StrsV (B : Nat) (w : World) (ao : Option Addr) (cap : Nat) (K : List (List UInt8)) : Prop where
  le : K.length ≤ cap ∧ cap ≤ maxLen
  row : ∀ i k, K[i]? = some k → ∃ b, ao = some ⟨b, 0, none⟩ ∧ B ≤ b ∧ b < w.heap.size ∧ w.cell? ⟨b, i, none⟩ = some (strV k)
theorem StrsV.below {B : Nat} {w w1 : World} {ao : Option Addr} {cap : Nat} {K : List (List UInt8)} (h : StrsV B w ao cap K) (hb : Below w.heap.size w w1) : StrsV B w1 ao cap K :=
  ⟨h.le, fun i e hi => by
    obtain ⟨b, e1, hB, hl, c0⟩ := h.row i e hi
    exact ⟨b, e1, hB, Nat.lt_of_lt_of_le hl hb.size, (hb.cell (p := ⟨b, _, none⟩) hl).trans c0⟩⟩
theorem StrsV.of_own {B : Nat} {w : World} {v : Value} {K : List (List UInt8)} (h : w.ownsRow B tStr 1 v K.length (K.map strV)) : ∃ ao cap, v = .slice ao K.length cap ∧ StrsV B w ao cap K := by
  obtain ⟨ao, cap, rfl, h1, h2, h3, h4⟩ := M.own_view h
  refine ⟨ao, cap, rfl, ⟨h1, h2⟩, fun i k hi => ?_⟩
  have hil := (List.getElem?_eq_some_iff.1 hi).1
  cases ao with
  | none => have := (h3 rfl).1; omega
  | some a =>
    obtain ⟨g, cur, rfl, hB, hg, hsz, htk⟩ := h4 a rfl
    refine ⟨g, rfl, hB, M.heap_lt hg, ?_⟩
    rw [cell_of_row w g i _ _ _ hg, ← Array.getElem?_toList]
    have hv : (K.map strV)[i]? = some (strV k) := by rw [List.getElem?_map, hi]; rfl
    rw [← htk, List.getElem?_take_of_lt (by omega)] at hv
    exact hv
end Go.Proofs.YtlbkbjeajcadiaaGreatDoor.P
