/- The reference's settings in memory: at, With, Without. -/
import Derived.Test.YtpeiamllkddhiaaGreatDoorAppF
import Derived.Sort.Walk0
import Derived.Deep.AppendLies
namespace Go.Proofs.YtpeiamllkddhiaaGreatDoor.P
open Go.RowKit Go.Proofs.YtpeiamllkddhiaaGreatDoor.R Go.Proofs.YtpeiamllkddhiaaGreatDoor.M Go.BigFrame
set_option linter.unusedVariables false
set_option linter.unusedSimpArgs false

def cellsE (A : List Ent) : List Value := A.flatMap fun e => [.string e.key, .string e.val, .int .i64 e.rev]
theorem cellsE_len (A : List Ent) : (cellsE A).length = A.length * 3 := by
  induction A with
  | nil => rfl
  | cons a t ih => simp [cellsE] at ih ⊢; omega
theorem cellsE_app (A B : List Ent) : cellsE (A ++ B) = cellsE A ++ cellsE B := by simp [cellsE]
theorem cellsE_get (A : List Ent) (i : Nat) (e : Ent) (h : A[i]? = some e) : (cellsE A)[i * 3]? = some (.string e.key) ∧ (cellsE A)[i * 3 + 1]? = some (.string e.val) ∧ (cellsE A)[i * 3 + 2]? = some (.int .i64 e.rev) := by
  induction A generalizing i with
  | nil => simp at h
  | cons y l ih =>
    cases i with
    | zero => simp at h; subst h; exact ⟨rfl, rfl, rfl⟩
    | succ i =>
      have := ih i (by simpa using h)
      rw [show (i + 1) * 3 = i * 3 + 3 by omega]
      exact this
/-- a slice that holds settings -/
structure SetsV (w : World) (ao : Option Addr) (cap : Nat) (A : List Ent) : Prop where
  le : A.length ≤ cap ∧ cap ≤ maxLen
  row : ∀ i e, A[i]? = some e → ∃ b off, ao = some ⟨b, off, none⟩ ∧ b < w.heap.size ∧ w.cell? ⟨b, off + i * 3, none⟩ = some (.string e.key) ∧ w.cell? ⟨b, off + i * 3 + 1, none⟩ = some (.string e.val) ∧ w.cell? ⟨b, off + i * 3 + 2, none⟩ = some (.int .i64 e.rev)
theorem SetsV.below {w w1 : World} {ao : Option Addr} {cap : Nat} {A : List Ent} (h : SetsV w ao cap A) (hb : Below w.heap.size w w1) : SetsV w1 ao cap A :=
  ⟨h.le, fun i e hi => by
    obtain ⟨b, off, e1, hl, c0, c1, c2⟩ := h.row i e hi
    exact ⟨b, off, e1, Nat.lt_of_lt_of_le hl hb.size, (hb.cell (p := ⟨b, _, none⟩) hl).trans c0, (hb.cell (p := ⟨b, _, none⟩) hl).trans c1, (hb.cell (p := ⟨b, _, none⟩) hl).trans c2⟩⟩
theorem SetsV.of_own {B : Nat} {w : World} {ao : Option Addr} {cap : Nat} {A : List Ent} (h : w.ownsRow B 64 3 (.slice ao A.length cap) A.length (cellsE A)) : SetsV w ao cap A := by
  obtain ⟨ao', cap', e, h1, h2, h3, h4⟩ := M.own_view h
  cases e
  refine ⟨⟨h1, h2⟩, fun i e hi => ?_⟩
  have hil := (List.getElem?_eq_some_iff.1 hi).1
  cases ao with
  | none => have := (h3 rfl).1; omega
  | some a =>
    obtain ⟨g, cur, rfl, _, hg, hsz, htk⟩ := h4 a rfl
    obtain ⟨c0, c1, c2⟩ := cellsE_get A i e hi
    have hcell : ∀ j v, j < A.length * 3 → (cellsE A)[j]? = some v → w.cell? ⟨g, 0 + j, none⟩ = some v := fun j v hj hv => by
      rw [cell_of_row w g (0 + j) _ _ _ hg, Nat.zero_add, ← Array.getElem?_toList]
      rw [← htk, List.getElem?_take_of_lt hj] at hv
      exact hv
    exact ⟨g, 0, rfl, M.heap_lt hg, hcell _ _ (by omega) c0, by rw [Nat.add_assoc]; exact hcell _ _ (by omega) c1, by rw [Nat.add_assoc]; exact hcell _ _ (by omega) c2⟩
theorem SetsV.nil (w : World) : SetsV w none 0 [] := ⟨⟨Nat.le_refl _, Nat.zero_le _⟩, fun i e h => by simp at h⟩
def atI (A : List Ent) (k : ByteArray) : Int := match A.findIdx? fun e => decide (e.key = k) with
  | none => -1
  | some i => (i : Int)
theorem atI_no {A : List Ent} {k : ByteArray} (h : ∀ e ∈ A, e.key ≠ k) : atI A k = -1 := by
  unfold atI
  have : A.findIdx? (fun e => decide (e.key = k)) = none := by
    rw [List.findIdx?_eq_none_iff]
    intro e he
    exact decide_eq_false (h e he)
  rw [this]
theorem atI_yes {A : List Ent} {k : ByteArray} {i : Nat} {e : Ent} (h : A[i]? = some e) (he : e.key = k) (hn : ∀ j x, j < i → A[j]? = some x → x.key ≠ k) : atI A k = i := by
  unfold atI
  have : A.findIdx? (fun e => decide (e.key = k)) = some i := by
    rw [List.findIdx?_eq_some_iff_getElem]
    obtain ⟨h1, h2⟩ := List.getElem?_eq_some_iff.1 h
    refine ⟨h1, by rw [h2]; exact decide_eq_true he, fun j hj => ?_⟩
    have := hn j (A[j]'(by omega)) hj (List.getElem?_eq_getElem (by omega))
    simpa using this
  rw [this]
set_option maxRecDepth 100000 in
set_option maxHeartbeats 1000000 in
theorem at_any (A : List Ent) (ao : Option Addr) (cap : Nat) (k : ByteArray) (w : World) (h : SetsV w ao cap A) :
    Calls Tryz.prog 21 #[.slice ao A.length cap, .string k] w fun e w' => e = .returned (.int .i64 (atI A k)) ∧ w = w' := by
  have H := Lib.hid h.row
  obtain ⟨hl1, hl2⟩ := h.le
  unfold maxLen at hl2
  clear h
  go_enter Tryz.func21, Tryz.ntmps21
  go_wp2_with fail
  go_loopw [5] (fun iv wr => ∃ i : Nat, iv = .int .i64 i ∧ i ≤ A.length ∧ w = wr ∧ ∀ j x, j < i → A[j]? = some x → x.key ≠ k) (fun iv _ => A.length - (intOf iv).toNat)
  case atStart => exact ⟨0, rfl, Nat.zero_le _, rfl, fun j x hj => absurd hj (by omega)⟩
  case round =>
    obtain ⟨i, rfl, hi, rfl, hno⟩ := hrel
    have HNO := Lib.hid hno
    clear hno
    by_cases hil : i < A.length
    · have hii : (i : Int) < (A.length : Int) := by omega
      obtain ⟨e, he⟩ : ∃ e, A[i]? = some e := ⟨_, List.getElem?_eq_getElem hil⟩
      obtain ⟨b, off, rfl, _, c0, _, _⟩ := H.out i e he
      have HE := Lib.hid he
      by_cases hk : e.key = k
      · have HV := Lib.hid (atI_yes he hk HNO.out)
        have e1 : (e.key.toList == k.toList) = true := by rw [ba_eq, decide_eq_true hk]
        have e2 : e.key.toList = k.toList := by rw [hk]
        clear hk he
        go_wp2_with fail
        go_ret
        exact ⟨by rw [HV.out]; rfl, rfl⟩
      · have HN := Lib.hid (show ∀ j x, j < i + 1 → A[j]? = some x → x.key ≠ k from fun j x hj hx => by
          by_cases e2 : j = i
          · subst e2; rw [he] at hx; cases hx; exact hk
          · exact HNO.out j x (by omega) hx)
        have e1 : (e.key.toList == k.toList) = false := by rw [ba_eq, decide_eq_false hk]
        have e2 : ¬ e.key.toList = k.toList := beq_eq_false_iff_ne.1 e1
        clear hk he
        go_wp2_with fail
        go_roundw
        case rel => exact ⟨i + 1, by go_num, by omega, by trivial, HN.out⟩
        case measure => simp [intOf]; omega
    · obtain rfl : i = A.length := by omega
      have hii : ¬ (A.length : Int) < (A.length : Int) := by omega
      have HV := Lib.hid (atI_no (A := A) (k := k) fun e he => by
        obtain ⟨j, hj⟩ := List.mem_iff_getElem?.1 he
        exact HNO.out j e (List.getElem?_eq_some_iff.1 hj).1 hj)
      go_wp2_with fail
      go_ret
      exact ⟨by rw [HV.out]; rfl, rfl⟩
end Go.Proofs.YtpeiamllkddhiaaGreatDoor.P
