/- The program's keys: Count, alone, clean, Beginning, Key, Begins; the reference's Beginning, Key, Begins. -/
import Derived.Test.YtlbkbjeajcadiaaGreatDoorMrg1
import Derived.Test.YtlbkbjeajcadiaaGreatDoorShelf
import Derived.Lib.OthersKept
namespace Go.Proofs.YtlbkbjeajcadiaaGreatDoor.R
open Go.RowKit Go.PlainAid Go.Lib

theorem tabs_of_below {g3 g4 B : Nat} {w w' : World} (h : Lib.Utf8Tabs g3 g4 w) (hb : Below B w w') (h3 : g3 < B) (h4 : g4 < B) : Lib.Utf8Tabs g3 g4 w' :=
  ⟨fun i hi => (hb.cell (p := ⟨g3, i, none⟩) h3).trans (h.1 i hi), fun i hi => ⟨(hb.cell (p := ⟨g4, 2 * i, none⟩) h4).trans (h.2 i hi).1, (hb.cell (p := ⟨g4, 2 * i + 1, none⟩) h4).trans (h.2 i hi).2⟩⟩

set_option maxHeartbeats 400000 in
theorem count_any (s : ByteArray) (w : World) (hs : s.size ≤ 140737488355328) :
    Calls Tryz.prog 107 #[.string s] w fun e w' => e = .returned (.int .i64 (Lib.runeCount s)) ∧ Below w.heap.size w w' := by
  go_enter Tryz.func107, Tryz.ntmps107
  go_wp2
  go_loopw [3] (fun n w' => ∃ (pos b acc : Nat), w' = w.iter s pos ∧ n = .int .i64 acc ∧ acc + Lib.runeCountFrom s b pos = Lib.runeCount s ∧ s.size ≤ pos + b ∧ acc ≤ pos) (fun _ w' => s.size - w'.iterPos w.heap.size)
  case atStart => exact ⟨0, s.size, 0, rfl, rfl, by simp [Lib.runeCount], by omega, Nat.le_refl _⟩
  case round =>
    obtain ⟨pos, b, acc, rfl, rfl, hc, hb, ha⟩ := hrel
    by_cases hp : pos < s.size
    · have hnx : ∀ ty, (Instr.next (.pointer (some ⟨w.heap.size, 0, none⟩)) true ty).run Tryz.prog (w.iter s pos) = _ := fun ty => run_next_any w s pos ty hp
      have hwd := Lib.decode_width_pos s pos hp
      go_wp2
      go_roundw
      case rel =>
        cases b with
        | zero => omega
        | succ b =>
          refine ⟨pos + (Utf8.decode s pos).2, b, acc + 1, rfl, by go_num, ?_, by omega, by omega⟩
          rw [← hc]
          simp [Lib.runeCountFrom, hp]
          omega
      case measure =>
        simp
        omega
    · have hnx : ∀ ty, (Instr.next (.pointer (some ⟨w.heap.size, 0, none⟩)) true ty).run Tryz.prog (w.iter s pos) = _ := fun ty => run_next_end w s pos ty hp
      go_wp2
      go_ret
      rw [Lib.runeCountFrom_end s b pos hp, Nat.add_zero] at hc
      subst hc
      exact ⟨rfl, (Below.refl _ _).alloc (Nat.le_refl _) _⟩

/-- does a byte stand alone at a place? -/
def lone (s : ByteArray) (k : Nat) : Bool := decide (Utf8.decode s k = (65533, 1))

theorem get_extract (s : ByteArray) (k j : Nat) : (s.extract k s.size).get! j = s.get! (k + j) := by
  cases s with
  | mk d =>
    show ((⟨d⟩ : ByteArray).extract k d.size).get! j = d[k + j]!
    have e : (ByteArray.extract ⟨d⟩ k d.size) = ⟨d.extract k d.size⟩ := by
      apply ByteArray.ext; simp
    rw [e]
    show (d.extract k d.size)[j]! = d[k + j]!
    by_cases h : k + j < d.size
    · rw [getElem!_pos (d.extract k d.size) j (by simp; omega), getElem!_pos d (k + j) h]; simp
    · have e1 : (d.extract k d.size)[j]? = none := Array.getElem?_eq_none (by simp; omega)
      have e2 : d[k + j]? = none := Array.getElem?_eq_none (by omega)
      rw [Array.getElem!_eq_getD, Array.getElem!_eq_getD, Array.getD_eq_getD_getElem?, Array.getD_eq_getD_getElem?, e1, e2]
theorem decode_extract (s : ByteArray) (k : Nat) (h : k < s.size) : Lib.decodeGo (s.extract k s.size) = Utf8.decode s k := by
  unfold Lib.decodeGo
  have hz : (s.extract k s.size).size = s.size - k := by simp
  rw [if_neg (by omega), decode_at, decode_at, hz, get_extract, get_extract, get_extract, get_extract]
  simp

set_option maxHeartbeats 400000 in
theorem alone_any (s : ByteArray) (k : Nat) (w : World) (_hs : s.size ≤ 140737488355328) (hk : k < s.size) (hT : Lib.Utf8Tabs 0 1 w) :
    Calls Tryz.prog 143 #[.string s, .int .i64 k, .int .i32 (Utf8.decode s k).1] w fun e w' => e = .returned (.bool (lone s k)) ∧ Below w.heap.size w w' := by
  by_cases h : (Utf8.decode s k).1 = 65533
  · have hd := decode_extract s k hk
    have HL := Lib.hid (show lone s k = (((Utf8.decode s k).2 : Int) == 1) by
      unfold lone
      by_cases h1 : (Utf8.decode s k).2 = 1
      · rw [decide_eq_true (Prod.ext h h1), h1]; rfl
      · rw [decide_eq_false (fun e => h1 (by rw [e])), beq_false' (by omega)])
    have e1 : (((Utf8.decode s k).1 : Int) != 65533) = false := by rw [h]; rfl
    have HD := Lib.hid hd
    have HT := Lib.hid hT
    have HE := Lib.hid e1
    clear hd hT e1 h
    obtain ⟨d, hd⟩ : ∃ d, Utf8.decode s k = d := ⟨_, rfl⟩
    rw [hd] at HD HE HL ⊢
    clear hd
    have e1 := HE.out
    go_enter Tryz.func143, Tryz.ntmps143
    go_wp2_with fail
    refine (Tryz.utf8_DecodeRuneInString (s.extract k s.size) w HT.out).mono ?_
    rintro e w1 ⟨rfl, b1⟩
    rw [HD.out]
    go_wp2_with fail
    go_ret
    exact ⟨ret_bool HL.out.symm, b1⟩
  · have HL := Lib.hid (show lone s k = false by unfold lone; exact decide_eq_false fun e => h (by rw [e]))
    have e1 : (((Utf8.decode s k).1 : Int) != 65533) = true := bne_true (by omega)
    obtain ⟨d, hd⟩ : ∃ d, Utf8.decode s k = d := ⟨_, rfl⟩
    rw [hd] at e1 ⊢
    clear hd hT h
    go_enter Tryz.func143, Tryz.ntmps143
    go_wp2_with fail
    go_ret
    exact ⟨ret_bool HL.out.symm, Below.refl _ _⟩
end Go.Proofs.YtlbkbjeajcadiaaGreatDoor.R
