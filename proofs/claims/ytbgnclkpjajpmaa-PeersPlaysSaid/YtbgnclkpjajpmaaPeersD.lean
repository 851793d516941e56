/- The walk of the law PeersForms. -/
import Derived.Test.YtbgnclkpjajpmaaPeersC
import Derived.StillTailTactics
import Derived.Deep.Slices
import Derived.Deep.Fields
namespace Go.Proofs.Ytbgnclkpjajpmaa.P
open Go.RowKit

/-- what a list of heard words is in memory -/
structure Words (w : World) (ao : Option Addr) (b off len : Nat) (F V : Nat → Int) : Prop where
  le : len ≤ maxLen
  lt : 0 < len → b < w.heap.size
  at' : 0 < len → ao = some ⟨b, off, none⟩
  cf : ∀ i, i < len → w.cell? ⟨b, off + i * 2, none⟩ = some (.int .i64 (F i))
  cv : ∀ i, i < len → w.cell? ⟨b, off + i * 2 + 1, none⟩ = some (.int .i64 (V i))

/-- the table behind the first k words -/
def after (n : Nat) (F V : Nat → Int) : Nat → Nat → Int
  | 0 => fun _ => 0
  | k + 1 => heard n (after n F V k) (F k) (V k)

theorem after_mem (n : Nat) (F V : Nat → Int) : ∀ k i, after n F V k i = 0 ∨ after n F V k i = 1 ∨ after n F V k i = 2
  | 0, i => .inl rfl
  | k + 1, i => by
    simp only [after, heard]
    split
    · rename_i h
      simp only [put]
      split
      · have : 0 ≤ F k ∧ F k < n ∧ (V k = 1 ∨ V k = 2) := by simpa [heardOk] using h
        omega
      · exact after_mem n F V k i
    · exact after_mem n F V k i


/-- how many of the first k are of the new version -/
def cnt (s : Nat → Int) : Nat → Nat
  | 0 => 0
  | k + 1 => cnt s k + if s k = 2 then 1 else 0
theorem cnt_le (s : Nat → Int) : ∀ k, cnt s k ≤ k
  | 0 => Nat.le_refl _
  | k + 1 => by have := cnt_le s k; simp only [cnt]; split <;> omega
theorem cnt_all {s : Nat → Int} : ∀ {k : Nat}, cnt s k = k → ∀ i, i < k → s i = 2
  | 0, _, i, h => by omega
  | k + 1, h, i, hi => by
    have hl := cnt_le s k
    simp only [cnt] at h
    split at h
    · rename_i h2
      by_cases e : i = k
      · subst e; exact h2
      · exact cnt_all (k := k) (by omega) i (by omega)
    · omega
theorem cnt_of_all {s : Nat → Int} : ∀ {k : Nat}, (∀ i, i < k → s i = 2) → cnt s k = k
  | 0, _ => rfl
  | k + 1, h => by simp only [cnt]; rw [cnt_of_all fun i hi => h i (by omega), if_pos (h k (by omega))]
theorem allV_cnt {s : Nat → Int} {n : Nat} (h0 : 0 < n) (hs : ∀ i, s i = 0 ∨ s i = 1 ∨ s i = 2) : allV n s 2 = ((cnt s n : Int) == (n : Int)) := by
  by_cases h : cnt s n = n
  · rw [h, beq_self_eq_true]
    exact allV_true h0 fun i hi => by rw [cnt_all h i hi]; exact Int.le_refl _
  · have : ¬ ∀ i, i < n → s i = 2 := fun hall => h (cnt_of_all hall)
    rw [beq_eq_false_iff_ne.2 (by omega)]
    refine Classical.byContradiction fun hn => this fun i hi => ?_
    have ht : allV n s 2 = true := by simpa using hn
    simp only [allV, decide_eq_true_eq] at ht
    have h1 := ht.2 i hi
    have h2 := hs i
    omega
/-- the count at the places from -1 on -/
def cntI (s : Nat → Int) (k : Nat) : Nat := cnt s (min (k - 1) 7)
theorem cntI_hit {s : Nat → Int} {k : Nat} (h : ofV 7 s ((k : Int) - 1) = 2) : cntI s (k + 1) = cntI s k + 1 := by
  have hr : 0 ≤ (k : Int) - 1 ∧ (k : Int) - 1 < (7 : Nat) := by
    by_cases h7 : 0 ≤ (k : Int) - 1 ∧ (k : Int) - 1 < (7 : Nat)
    · exact h7
    · rw [ofV_out (by omega)] at h; omega
  rw [ofV_in hr] at h
  obtain ⟨j, rfl⟩ : ∃ j, k = j + 1 := ⟨k - 1, by omega⟩
  have e : (((j + 1 : Nat) : Int) - 1).toNat = j := by omega
  rw [e] at h
  have e1 : min (j + 1 + 1 - 1) 7 = j + 1 := by omega
  have e2 : min (j + 1 - 1) 7 = j := by omega
  simp only [cntI, e1, e2, cnt, h, if_true]
theorem cntI_miss {s : Nat → Int} {k : Nat} (h : ofV 7 s ((k : Int) - 1) ≠ 2) : cntI s (k + 1) = cntI s k := by
  by_cases hr : 0 ≤ (k : Int) - 1 ∧ (k : Int) - 1 < (7 : Nat)
  · rw [ofV_in hr] at h
    obtain ⟨j, rfl⟩ : ∃ j, k = j + 1 := ⟨k - 1, by omega⟩
    have e : (((j + 1 : Nat) : Int) - 1).toNat = j := by omega
    rw [e] at h
    have e1 : min (j + 1 + 1 - 1) 7 = j + 1 := by omega
    have e2 : min (j + 1 - 1) 7 = j := by omega
    simp only [cntI, e1, e2, cnt, h, if_false, Nat.add_zero]
  · have : min (k + 1 - 1) 7 = min (k - 1) 7 := by omega
    simp only [cntI, this]
theorem ofV_mem {n : Nat} {s : Nat → Int} (hs : ∀ i, s i = 0 ∨ s i = 1 ∨ s i = 2) (r : Int) : ofV n s r = 0 ∨ ofV n s r = 1 ∨ ofV n s r = 2 := by
  unfold ofV; split
  · exact hs _
  · exact .inl rfl

theorem tag_val (v : Int) (a : Bool) (w : World) (r : Int) (h : tagV v a = r) :
    Calls Try.prog 15 #[.int .i64 v, .bool a] w fun e w' => e = .returned (.int .i64 r) ∧ w = w' := by
  subst h; exact tag_any v a w

set_option maxHeartbeats 2000000 in
theorem forms_any (ao : Option Addr) (b off len cap : Nat) (F V : Nat → Int) (v : Int) (a : Bool) (w : World) (hw : Words w ao b off len F V) :
    Calls Try.prog 5 #[.slice ao len cap, .int .i64 v, .bool a] w fun e w' => e = .returned (.bool true) ∧ Below w.heap.size w w' := by
  have hle := hw.le
  unfold maxLen at hle
  by_cases hbig : 60 < len
  · go_enter Try.func5, Try.ntmps5
    go_wp2_with fail
    refine (awake_any w).mono ?_
    rintro e w7 ⟨rfl, b7⟩
    go_wp2_with fail
    go_ret
    exact ⟨rfl, b7⟩
  · have h60 : len ≤ 60 := by omega
    have HW := Lib.hid hw
    clear hw hle
    go_enter Try.func5, Try.ntmps5
    go_wp2_with fail
    refine (new_val 7 w 7 (by decide)).mono ?_
    rintro e w1 ⟨rfl, t1, b1, z1⟩
    clear z1
    go_wp2_with fail
    go_loopw [8] (fun i wr => ∃ k : Nat, k ≤ len ∧ i = .int .i64 k ∧ IsTab wr w.heap.size 7 (after 7 F V k) ∧ Below w.heap.size w wr) (fun i _ => len - (intOf i).toNat)
    case atStart => exact ⟨0, Nat.zero_le _, rfl, t1, b1⟩
    case round =>
      clear t1 b1
      obtain ⟨k, hk, rfl, tk, bk⟩ := hrel
      by_cases hlt : k < len
      · obtain rfl := HW.out.at' (by omega)
        have hb := HW.out.lt (by omega)
        have c1 := (bk.cell (p := ⟨b, off + k * 2, none⟩) hb).trans (HW.out.cf k hlt)
        have c2 := (bk.cell (p := ⟨b, off + k * 2 + 1, none⟩) hb).trans (HW.out.cv k hlt)
        have H := Lib.hid (hear_rel _ 7 _ (F k) (V k) _ _ tk.drew rfl)
        have HT := Lib.hid tk
        have HB := Lib.hid bk
        clear tk bk
        go_wp2_with fail
        go_still_tail 11, (by kernel_rfl)
        go_wp2_with fail
        refine H.out.mono ?_
        rintro e w2 ⟨rfl, t2, g2⟩
        have b2 := grow_below HB.out.drew g2 (Nat.le_refl _) (Nat.le_refl _)
        clear g2
        go_wp2_with fail
        go_roundw
        case rel => exact ⟨k + 1, by omega, by go_num, t2, b2⟩
        case measure => simp [intOf]; omega
      · have hs := after_mem 7 F V k
        obtain ⟨s, hsd⟩ : ∃ s, s = after 7 F V k := ⟨_, rfl⟩
        rw [← hsd] at tk hs
        clear hsd HW
        have HS := Lib.hid hs
        clear hs
        go_wp2_with fail
        go_loopw [9, 10] (fun m i wr => ∃ j : Nat, j ≤ 9 ∧ i = .int .i64 ((j : Int) - 1) ∧ m = .int .i64 (cntI s j) ∧ IsTab wr w.heap.size 7 s ∧ Below w.heap.size w wr) (fun _ i _ => (8 - intOf i).toNat)
        case atStart => exact ⟨0, Nat.zero_le _, rfl, rfl, tk, bk⟩
        case round =>
          clear tk bk
          obtain ⟨j, hj, rfl, rfl, tj, bj⟩ := hrel
          have hc := cnt_le s (min (j - 1) 7)
          by_cases hj9 : j < 9
          · have hm := ofV_mem (n := 7) HS.out ((j : Int) - 1)
            have hcl : cntI s j ≤ 7 := by unfold cntI; omega
            clear hc
            rcases hm with hx | hx | hx
            · have HX := Lib.hid hx
              clear hx
              have F1 := Lib.hid (show max (ofV 7 s ((j : Int) - 1)) 1 = 1 by rw [HX.out]; rfl)
              have HC := Lib.hid (cntI_miss (s := s) (k := j) (by rw [HX.out]; decide))
              go_wp2_with fail
              refine (for_val _ 7 _ _ _ 1 tj F1.out).mono ?_
              rintro e wx ⟨rfl, rfl⟩
              go_wp2_with fail
              refine (of_val _ 7 _ _ _ 0 tj HX.out).mono ?_
              rintro e wx ⟨rfl, rfl⟩
              go_wp2_with fail
              refine (for_val _ 7 _ _ _ 1 tj F1.out).mono ?_
              rintro e wx ⟨rfl, rfl⟩
              go_wp2_with fail
              refine (of_val _ 7 _ _ _ 0 tj HX.out).mono ?_
              rintro e wx ⟨rfl, rfl⟩
              go_wp2_with fail
              go_roundw
              case rel => exact ⟨j + 1, by omega, by go_num, by rw [HC.out], tj, bj⟩
              case measure => simp [intOf]; omega
            · have HX := Lib.hid hx
              clear hx
              have F1 := Lib.hid (show max (ofV 7 s ((j : Int) - 1)) 1 = 1 by rw [HX.out]; rfl)
              have HC := Lib.hid (cntI_miss (s := s) (k := j) (by rw [HX.out]; decide))
              go_wp2_with fail
              refine (for_val _ 7 _ _ _ 1 tj F1.out).mono ?_
              rintro e wx ⟨rfl, rfl⟩
              go_wp2_with fail
              refine (of_val _ 7 _ _ _ 1 tj HX.out).mono ?_
              rintro e wx ⟨rfl, rfl⟩
              go_wp2_with fail
              refine (for_val _ 7 _ _ _ 1 tj F1.out).mono ?_
              rintro e wx ⟨rfl, rfl⟩
              go_wp2_with fail
              refine (of_val _ 7 _ _ _ 1 tj HX.out).mono ?_
              rintro e wx ⟨rfl, rfl⟩
              go_wp2_with fail
              go_roundw
              case rel => exact ⟨j + 1, by omega, by go_num, by rw [HC.out], tj, bj⟩
              case measure => simp [intOf]; omega
            · have HX := Lib.hid hx
              clear hx
              have F1 := Lib.hid (show max (ofV 7 s ((j : Int) - 1)) 1 = 2 by rw [HX.out]; rfl)
              have HC := Lib.hid (cntI_hit HX.out)
              go_wp2_with fail
              refine (for_val _ 7 _ _ _ 2 tj F1.out).mono ?_
              rintro e wx ⟨rfl, rfl⟩
              go_wp2_with fail
              refine (of_val _ 7 _ _ _ 2 tj HX.out).mono ?_
              rintro e wx ⟨rfl, rfl⟩
              go_wp2_with fail
              refine (for_val _ 7 _ _ _ 2 tj F1.out).mono ?_
              rintro e wx ⟨rfl, rfl⟩
              go_wp2_with fail
              refine (for_val _ 7 _ _ _ 2 tj F1.out).mono ?_
              rintro e wx ⟨rfl, rfl⟩
              go_wp2_with fail
              refine (of_val _ 7 _ _ _ 2 tj HX.out).mono ?_
              rintro e wx ⟨rfl, rfl⟩
              go_wp2_with fail
              go_roundw
              case rel => exact ⟨j + 1, by omega, by go_num, by rw [HC.out]; go_num, tj, bj⟩
              case measure => simp [intOf]; omega
          · obtain rfl : j = 9 := by omega
            have HV := Lib.hid (allV_cnt (s := s) (n := 7) (by omega) HS.out)
            have e9 : cntI s 9 = cnt s 7 := rfl
            rw [e9]
            clear hc
            by_cases hv : v = 2
            · subst hv
              cases a
              · skip
                go_wp2_with fail
                refine (all_val _ 7 _ 2 _ _ tj HV.out).mono ?_
                rintro e w2 ⟨rfl, t2, b2⟩
                have b2 := bj.trans (b2.mono bj.size)
                clear bj tj
                go_wp2_with fail
                refine (tag_val 2 false _ 1 (by decide)).mono ?_
                rintro e w3 ⟨rfl, rfl⟩
                go_wp2_with fail
                refine (awake_any _).mono ?_
                rintro e w7 ⟨rfl, b7⟩
                have b7 := b2.trans (b7.mono b2.size)
                clear b2
                go_wp2_with fail
                go_ret
                exact ⟨rfl, b7⟩
              · skip
                go_wp2_with fail
                refine (all_val _ 7 _ 2 _ _ tj HV.out).mono ?_
                rintro e w2 ⟨rfl, t2, b2⟩
                have b2 := bj.trans (b2.mono bj.size)
                clear bj tj
                go_wp2_with fail
                refine (tag_val 2 true _ 2 (by decide)).mono ?_
                rintro e w3 ⟨rfl, rfl⟩
                go_wp2_with fail
                refine (awake_any _).mono ?_
                rintro e w7 ⟨rfl, b7⟩
                have b7 := b2.trans (b7.mono b2.size)
                clear b2
                go_wp2_with fail
                go_ret
                exact ⟨rfl, b7⟩
            · have e2 : (v == 2) = false := by rw [beq_eq_false_iff_ne]; exact hv
              have HT := Lib.hid (show tagV v a = 1 by unfold tagV; rw [if_neg (by simp [hv])])
              clear hv
              go_wp2_with fail
              refine (all_val _ 7 _ 2 _ _ tj HV.out).mono ?_
              rintro e w2 ⟨rfl, t2, b2⟩
              have b2 := bj.trans (b2.mono bj.size)
              clear bj tj
              go_wp2_with fail
              refine (tag_val v a _ 1 HT.out).mono ?_
              rintro e w3 ⟨rfl, rfl⟩
              go_wp2_with fail
              refine (awake_any _).mono ?_
              rintro e w7 ⟨rfl, b7⟩
              have b7 := b2.trans (b7.mono b2.size)
              clear b2
              go_wp2_with fail
              go_ret
              exact ⟨rfl, b7⟩
end Go.Proofs.Ytbgnclkpjajpmaa.P
