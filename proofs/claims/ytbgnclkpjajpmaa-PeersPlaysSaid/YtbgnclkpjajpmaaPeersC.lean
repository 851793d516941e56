/- The walk of the law PeersLast. Written by gen.py. -/
import Derived.Test.YtbgnclkpjajpmaaPeersB
import Derived.OpenShut
namespace Go.Proofs.Ytbgnclkpjajpmaa.P
open Go.RowKit

theorem heard_put {n : Nat} {s : Nat → Int} {i v : Int} (h : heardOk n i v = true) : heard n s i v = put s i.toNat v := by simp only [heard, h, if_true]
theorem heardOk_mk {n : Nat} {i v : Int} (h0 : 0 ≤ i) (h : i < n) (hv : v = 1 ∨ v = 2) : heardOk n i v = true := by simp only [heardOk]; exact decide_eq_true ⟨h0, h, hv⟩

def filled (k : Nat) (v : Int) : Nat → Int := fun j => if j < k then v else 0
theorem filled_put (k : Nat) (v : Int) : put (filled k v) k v = filled (k + 1) v := by
  funext j; simp only [put, filled]
  by_cases e : j = k
  · subst e; simp
  · simp only [if_neg e]; by_cases h : j < k
    · rw [if_pos h, if_pos (by omega)]
    · rw [if_neg h, if_neg (by omega)]
theorem filled_zero (v : Int) : filled 0 v = fun _ => 0 := by funext j; simp [filled]
theorem allV_filled (k : Nat) (hk : 0 < k) (v u : Int) (r : Bool) (h : decide (u ≤ v) = r) : allV k (filled k v) u = r := by
  subst h
  by_cases h : u ≤ v
  · rw [decide_eq_true h]; exact allV_true hk fun i hi => by simp only [filled, if_pos hi]; exact h
  · rw [decide_eq_false h]; exact allV_false (i := 0) hk (by simp only [filled, if_pos hk]; omega)
theorem heard_filled (k j : Nat) (v : Int) (h : j < k) (hv : v = 1 ∨ v = 2) : heard k (filled j v) (j : Int) v = filled (j + 1) v := by
  rw [heard_put (heardOk_mk (by omega) (by omega) hv), Int.toNat_natCast, filled_put]
theorem ofV_self {k i : Nat} {s : Nat → Int} {v : Int} (h : i < k) : ofV k (put s i v) (i : Int) = v := by
  rw [ofV_in ⟨by omega, by omega⟩]; simp [put]
theorem ofV_other {k i j : Nat} {v u : Int} (h : j < k) (hne : j ≠ i) : ofV k (put (filled k v) i u) (j : Int) = v := by
  rw [ofV_in ⟨by omega, by omega⟩]; simp [put, hne, filled, h]
/-- behind one more word all are of the new version just if .. -/
theorem allV_last {k i : Nat} (h : i < k) (v u : Int) (r : Bool) (hr : decide (2 ≤ u ∧ (2 ≤ v ∨ k = 1)) = r) : allV k (put (filled k v) i u) 2 = r := by
  subst hr
  by_cases hu : 2 ≤ u
  · by_cases hv : 2 ≤ v
    · rw [decide_eq_true ⟨hu, .inl hv⟩]
      exact allV_true (by omega) fun j hj => by simp only [put, filled]; split <;> simp_all
    · by_cases hk : k = 1
      · rw [decide_eq_true ⟨hu, .inr hk⟩]
        exact allV_true (by omega) fun j hj => by simp only [put, filled]; rw [if_pos (by omega)]; exact hu
      · rw [decide_eq_false (by simp [hv, hk])]
        by_cases hi : i = 0
        · exact allV_false (i := 1) (by omega) (by simp only [put, filled]; rw [if_neg (by omega), if_pos (by omega)]; omega)
        · exact allV_false (i := 0) (by omega) (by simp only [put, filled]; rw [if_neg (by omega), if_pos (by omega)]; omega)
  · rw [decide_eq_false (by simp [hu])]
    exact allV_false (i := i) h (by simp only [put, filled, if_true]; omega)


set_option maxHeartbeats 1000000 in
theorem last_11 (a0 a1 a2 : Int) (h0 : 0 ≤ a0) (l0 : a0 ≤ 255) (h1 : 0 ≤ a1) (l1 : a1 ≤ 255) (h2 : 0 ≤ a2) (l2 : a2 ≤ 255) (w : World) :
    Calls Try.prog 3 #[.int .u8 a0, .int .u8 a1, .int .u8 a2, .bool false, .bool false] w fun e w' => e = .returned (.bool true) ∧ Below w.heap.size w w' := by
  go_enter Try.func3, Try.ntmps3
  go_wp2_with fail
  obtain ⟨k, hk⟩ : ∃ k : Nat, (k : Int) = 1 + a0 % 7 := ⟨(1 + a0 % 7).toNat, by omega⟩
  have k0 : 0 < k := by omega
  have k7 : k ≤ 7 := by omega
  rw [← hk]
  clear hk
  refine (new_val k w k (by omega)).mono ?_
  rintro e w1 ⟨rfl, t1, b1, z1⟩
  rw [← filled_zero 1] at t1
  go_wp2_with fail
  go_loopw [14] (fun i wr => ∃ j : Nat, j ≤ k ∧ i = .int .i64 j ∧ IsTab wr w.heap.size k (filled j 1) ∧ Below w.heap.size w wr) (fun i _ => k - (intOf i).toNat)
  case atStart => exact ⟨0, Nat.zero_le _, rfl, t1, b1⟩
  case round =>
    clear t1 b1 z1
    obtain ⟨j, hj, rfl, tj, bj⟩ := hrel
    by_cases hlt : j < k
    · go_wp2_with fail
      refine (hear_rel _ k _ j 1 _ true tj (heardOk_mk (by omega) (by omega) (by omega))).mono ?_
      rintro e w2 ⟨rfl, t2, g2⟩
      rw [heard_filled k j 1 hlt (by omega)] at t2
      have b2 := grow_below bj g2 (Nat.le_refl _) (Nat.le_refl _)
      clear g2
      go_wp2_with fail
      go_roundw
      case rel => exact ⟨j + 1, by omega, by go_num, t2, b2⟩
      case measure => simp [intOf]; omega
    · obtain rfl : j = k := by omega
      go_wp2_with fail
      refine (all_val _ j _ 2 _ false tj (allV_filled j k0 1 2 _ (by decide))).mono ?_
      rintro e w2 ⟨rfl, t2, b2⟩
      have b2 := bj.trans (b2.mono bj.size)
      go_wp2_with fail
      refine (all_val _ j _ 1 _ true t2 (allV_filled j k0 1 1 _ (by decide))).mono ?_
      rintro e w3 ⟨rfl, t3, b3⟩
      have b3 := b2.trans (b3.mono b2.size)
      go_wp2_with fail
      go_region
      all_goals go_wp2_with fail
      obtain ⟨p, hp⟩ : ∃ p : Nat, (p : Int) = a1 % (j : Int) := ⟨(a1 % (j : Int)).toNat, by have := Int.emod_nonneg a1 (show (j : Int) ≠ 0 by omega); omega⟩
      obtain ⟨q, hq⟩ : ∃ q : Nat, (q : Int) = a2 % (j : Int) := ⟨(a2 % (j : Int)).toNat, by have := Int.emod_nonneg a2 (show (j : Int) ≠ 0 by omega); omega⟩
      have hpj : p < j := by have := Int.emod_lt_of_pos a1 (show (0 : Int) < (j : Int) by omega); omega
      have hqj : q < j := by have := Int.emod_lt_of_pos a2 (show (0 : Int) < (j : Int) by omega); omega
      rw [← hp, ← hq]
      clear hp hq tj bj t2 b2
      refine (hear_rel _ j _ p 1 _ true t3.drew (heardOk_mk (by omega) (by omega) (by omega))).mono ?_
      rintro e w4 ⟨rfl, t4, g4⟩
      rw [heard_put (heardOk_mk (by omega) (by omega) (by omega)), Int.toNat_natCast] at t4
      have b4 := grow_below b3.drew g4 (Nat.le_refl _) (Nat.le_refl _)
      clear g4 b3 t3
      go_wp2_with fail
      refine (of_val _ j _ p _ 1 t4 (ofV_self hpj)).mono ?_
      rintro e w5 ⟨rfl, rfl⟩
      have hne : p ≠ q → ((p : Int) != (q : Int)) = true := fun h => by rw [bne_iff_ne]; omega
      have heq : p = q → ((p : Int) != (q : Int)) = false := fun h => by subst h; exact bne_self_eq_false _
      have end1 : ∀ r : Bool, decide ((2 : Int) ≤ 1 ∧ ((2 : Int) ≤ 1 ∨ j = 1)) = r → allV j (put (filled j 1) p 1) 2 = r := fun r h => allV_last hpj 1 1 r h
      have HE := Lib.hid end1
      clear end1
      by_cases hpq : p = q
      · have e1 := heq hpq
        clear heq hne
        subst hpq
        by_cases hj1 : j = 1
        · have e2 : ((j : Int) == 1) = true := by rw [beq_iff_eq]; omega
          have HE' := Lib.hid (HE.out false (by rw [hj1]; decide))
          clear HE
          have HJ := Lib.hid hj1
          clear hj1
          go_wp2_with fail
          refine (all_val _ j _ 2 _ false t4 HE'.out).mono ?_
          rintro e w6 ⟨rfl, t6, b6⟩
          have b6 := b4.trans (b6.mono b4.size)
          go_wp2_with fail
          refine (awake_any w6).mono ?_
          rintro e w7 ⟨rfl, b7⟩
          have b7 := b6.trans (b7.mono b6.size)
          go_wp2_with fail
          go_ret
          exact ⟨rfl, b7⟩
        · have e2 : ((j : Int) == 1) = false := by rw [beq_eq_false_iff_ne]; omega
          have HE' := Lib.hid (HE.out false (by simp [hj1]))
          clear HE
          go_wp2_with fail
          refine (all_val _ j _ 2 _ false t4 HE'.out).mono ?_
          rintro e w6 ⟨rfl, t6, b6⟩
          have b6 := b4.trans (b6.mono b4.size)
          go_wp2_with fail
          refine (awake_any w6).mono ?_
          rintro e w7 ⟨rfl, b7⟩
          have b7 := b6.trans (b7.mono b6.size)
          go_wp2_with fail
          go_ret
          exact ⟨rfl, b7⟩
      · have e1 := hne hpq
        clear heq hne
        have hj1 : j ≠ 1 := by omega
        have e2 : ((j : Int) == 1) = false := by rw [beq_eq_false_iff_ne]; omega
        have HE' := Lib.hid (HE.out false (by simp [hj1]))
        clear HE
        go_wp2_with fail
        refine (of_val _ j _ q _ 1 t4 (ofV_other hqj (Ne.symm hpq))).mono ?_
        rintro e w5 ⟨rfl, rfl⟩
        go_wp2_with fail
        refine (all_val _ j _ 2 _ false t4 HE'.out).mono ?_
        rintro e w6 ⟨rfl, t6, b6⟩
        have b6 := b4.trans (b6.mono b4.size)
        go_wp2_with fail
        refine (awake_any w6).mono ?_
        rintro e w7 ⟨rfl, b7⟩
        have b7 := b6.trans (b7.mono b6.size)
        go_wp2_with fail
        go_ret
        exact ⟨rfl, b7⟩

set_option maxHeartbeats 1000000 in
theorem last_12 (a0 a1 a2 : Int) (h0 : 0 ≤ a0) (l0 : a0 ≤ 255) (h1 : 0 ≤ a1) (l1 : a1 ≤ 255) (h2 : 0 ≤ a2) (l2 : a2 ≤ 255) (w : World) :
    Calls Try.prog 3 #[.int .u8 a0, .int .u8 a1, .int .u8 a2, .bool false, .bool true] w fun e w' => e = .returned (.bool true) ∧ Below w.heap.size w w' := by
  go_enter Try.func3, Try.ntmps3
  go_wp2_with fail
  obtain ⟨k, hk⟩ : ∃ k : Nat, (k : Int) = 1 + a0 % 7 := ⟨(1 + a0 % 7).toNat, by omega⟩
  have k0 : 0 < k := by omega
  have k7 : k ≤ 7 := by omega
  rw [← hk]
  clear hk
  refine (new_val k w k (by omega)).mono ?_
  rintro e w1 ⟨rfl, t1, b1, z1⟩
  rw [← filled_zero 1] at t1
  go_wp2_with fail
  go_loopw [14] (fun i wr => ∃ j : Nat, j ≤ k ∧ i = .int .i64 j ∧ IsTab wr w.heap.size k (filled j 1) ∧ Below w.heap.size w wr) (fun i _ => k - (intOf i).toNat)
  case atStart => exact ⟨0, Nat.zero_le _, rfl, t1, b1⟩
  case round =>
    clear t1 b1 z1
    obtain ⟨j, hj, rfl, tj, bj⟩ := hrel
    by_cases hlt : j < k
    · go_wp2_with fail
      refine (hear_rel _ k _ j 1 _ true tj (heardOk_mk (by omega) (by omega) (by omega))).mono ?_
      rintro e w2 ⟨rfl, t2, g2⟩
      rw [heard_filled k j 1 hlt (by omega)] at t2
      have b2 := grow_below bj g2 (Nat.le_refl _) (Nat.le_refl _)
      clear g2
      go_wp2_with fail
      go_roundw
      case rel => exact ⟨j + 1, by omega, by go_num, t2, b2⟩
      case measure => simp [intOf]; omega
    · obtain rfl : j = k := by omega
      go_wp2_with fail
      refine (all_val _ j _ 2 _ false tj (allV_filled j k0 1 2 _ (by decide))).mono ?_
      rintro e w2 ⟨rfl, t2, b2⟩
      have b2 := bj.trans (b2.mono bj.size)
      go_wp2_with fail
      refine (all_val _ j _ 1 _ true t2 (allV_filled j k0 1 1 _ (by decide))).mono ?_
      rintro e w3 ⟨rfl, t3, b3⟩
      have b3 := b2.trans (b3.mono b2.size)
      go_wp2_with fail
      go_region
      all_goals go_wp2_with fail
      obtain ⟨p, hp⟩ : ∃ p : Nat, (p : Int) = a1 % (j : Int) := ⟨(a1 % (j : Int)).toNat, by have := Int.emod_nonneg a1 (show (j : Int) ≠ 0 by omega); omega⟩
      obtain ⟨q, hq⟩ : ∃ q : Nat, (q : Int) = a2 % (j : Int) := ⟨(a2 % (j : Int)).toNat, by have := Int.emod_nonneg a2 (show (j : Int) ≠ 0 by omega); omega⟩
      have hpj : p < j := by have := Int.emod_lt_of_pos a1 (show (0 : Int) < (j : Int) by omega); omega
      have hqj : q < j := by have := Int.emod_lt_of_pos a2 (show (0 : Int) < (j : Int) by omega); omega
      rw [← hp, ← hq]
      clear hp hq tj bj t2 b2
      refine (hear_rel _ j _ p 2 _ true t3.drew (heardOk_mk (by omega) (by omega) (by omega))).mono ?_
      rintro e w4 ⟨rfl, t4, g4⟩
      rw [heard_put (heardOk_mk (by omega) (by omega) (by omega)), Int.toNat_natCast] at t4
      have b4 := grow_below b3.drew g4 (Nat.le_refl _) (Nat.le_refl _)
      clear g4 b3 t3
      go_wp2_with fail
      refine (of_val _ j _ p _ 2 t4 (ofV_self hpj)).mono ?_
      rintro e w5 ⟨rfl, rfl⟩
      have hne : p ≠ q → ((p : Int) != (q : Int)) = true := fun h => by rw [bne_iff_ne]; omega
      have heq : p = q → ((p : Int) != (q : Int)) = false := fun h => by subst h; exact bne_self_eq_false _
      have end1 : ∀ r : Bool, decide ((2 : Int) ≤ 2 ∧ ((2 : Int) ≤ 1 ∨ j = 1)) = r → allV j (put (filled j 1) p 2) 2 = r := fun r h => allV_last hpj 1 2 r h
      have HE := Lib.hid end1
      clear end1
      by_cases hpq : p = q
      · have e1 := heq hpq
        clear heq hne
        subst hpq
        by_cases hj1 : j = 1
        · have e2 : ((j : Int) == 1) = true := by rw [beq_iff_eq]; omega
          have HE' := Lib.hid (HE.out true (by rw [hj1]; decide))
          clear HE
          have HJ := Lib.hid hj1
          clear hj1
          go_wp2_with fail
          refine (all_val _ j _ 2 _ true t4 HE'.out).mono ?_
          rintro e w6 ⟨rfl, t6, b6⟩
          have b6 := b4.trans (b6.mono b4.size)
          go_wp2_with fail
          refine (awake_any w6).mono ?_
          rintro e w7 ⟨rfl, b7⟩
          have b7 := b6.trans (b7.mono b6.size)
          go_wp2_with fail
          go_ret
          exact ⟨rfl, b7⟩
        · have e2 : ((j : Int) == 1) = false := by rw [beq_eq_false_iff_ne]; omega
          have HE' := Lib.hid (HE.out false (by simp [hj1]))
          clear HE
          go_wp2_with fail
          refine (all_val _ j _ 2 _ false t4 HE'.out).mono ?_
          rintro e w6 ⟨rfl, t6, b6⟩
          have b6 := b4.trans (b6.mono b4.size)
          go_wp2_with fail
          refine (awake_any w6).mono ?_
          rintro e w7 ⟨rfl, b7⟩
          have b7 := b6.trans (b7.mono b6.size)
          go_wp2_with fail
          go_ret
          exact ⟨rfl, b7⟩
      · have e1 := hne hpq
        clear heq hne
        have hj1 : j ≠ 1 := by omega
        have e2 : ((j : Int) == 1) = false := by rw [beq_eq_false_iff_ne]; omega
        have HE' := Lib.hid (HE.out false (by simp [hj1]))
        clear HE
        go_wp2_with fail
        refine (of_val _ j _ q _ 1 t4 (ofV_other hqj (Ne.symm hpq))).mono ?_
        rintro e w5 ⟨rfl, rfl⟩
        go_wp2_with fail
        refine (all_val _ j _ 2 _ false t4 HE'.out).mono ?_
        rintro e w6 ⟨rfl, t6, b6⟩
        have b6 := b4.trans (b6.mono b4.size)
        go_wp2_with fail
        refine (awake_any w6).mono ?_
        rintro e w7 ⟨rfl, b7⟩
        have b7 := b6.trans (b7.mono b6.size)
        go_wp2_with fail
        go_ret
        exact ⟨rfl, b7⟩

set_option maxHeartbeats 1000000 in
theorem last_21 (a0 a1 a2 : Int) (h0 : 0 ≤ a0) (l0 : a0 ≤ 255) (h1 : 0 ≤ a1) (l1 : a1 ≤ 255) (h2 : 0 ≤ a2) (l2 : a2 ≤ 255) (w : World) :
    Calls Try.prog 3 #[.int .u8 a0, .int .u8 a1, .int .u8 a2, .bool true, .bool false] w fun e w' => e = .returned (.bool true) ∧ Below w.heap.size w w' := by
  go_enter Try.func3, Try.ntmps3
  go_wp2_with fail
  obtain ⟨k, hk⟩ : ∃ k : Nat, (k : Int) = 1 + a0 % 7 := ⟨(1 + a0 % 7).toNat, by omega⟩
  have k0 : 0 < k := by omega
  have k7 : k ≤ 7 := by omega
  rw [← hk]
  clear hk
  refine (new_val k w k (by omega)).mono ?_
  rintro e w1 ⟨rfl, t1, b1, z1⟩
  rw [← filled_zero 2] at t1
  go_wp2_with fail
  go_loopw [14] (fun i wr => ∃ j : Nat, j ≤ k ∧ i = .int .i64 j ∧ IsTab wr w.heap.size k (filled j 2) ∧ Below w.heap.size w wr) (fun i _ => k - (intOf i).toNat)
  case atStart => exact ⟨0, Nat.zero_le _, rfl, t1, b1⟩
  case round =>
    clear t1 b1 z1
    obtain ⟨j, hj, rfl, tj, bj⟩ := hrel
    by_cases hlt : j < k
    · go_wp2_with fail
      refine (hear_rel _ k _ j 2 _ true tj (heardOk_mk (by omega) (by omega) (by omega))).mono ?_
      rintro e w2 ⟨rfl, t2, g2⟩
      rw [heard_filled k j 2 hlt (by omega)] at t2
      have b2 := grow_below bj g2 (Nat.le_refl _) (Nat.le_refl _)
      clear g2
      go_wp2_with fail
      go_roundw
      case rel => exact ⟨j + 1, by omega, by go_num, t2, b2⟩
      case measure => simp [intOf]; omega
    · obtain rfl : j = k := by omega
      go_wp2_with fail
      refine (all_val _ j _ 2 _ true tj (allV_filled j k0 2 2 _ (by decide))).mono ?_
      rintro e w2 ⟨rfl, t2, b2⟩
      have b2 := bj.trans (b2.mono bj.size)
      go_wp2_with fail
      refine (all_val _ j _ 1 _ true t2 (allV_filled j k0 2 1 _ (by decide))).mono ?_
      rintro e w3 ⟨rfl, t3, b3⟩
      have b3 := b2.trans (b3.mono b2.size)
      go_wp2_with fail
      go_region
      all_goals go_wp2_with fail
      obtain ⟨p, hp⟩ : ∃ p : Nat, (p : Int) = a1 % (j : Int) := ⟨(a1 % (j : Int)).toNat, by have := Int.emod_nonneg a1 (show (j : Int) ≠ 0 by omega); omega⟩
      obtain ⟨q, hq⟩ : ∃ q : Nat, (q : Int) = a2 % (j : Int) := ⟨(a2 % (j : Int)).toNat, by have := Int.emod_nonneg a2 (show (j : Int) ≠ 0 by omega); omega⟩
      have hpj : p < j := by have := Int.emod_lt_of_pos a1 (show (0 : Int) < (j : Int) by omega); omega
      have hqj : q < j := by have := Int.emod_lt_of_pos a2 (show (0 : Int) < (j : Int) by omega); omega
      rw [← hp, ← hq]
      clear hp hq tj bj t2 b2
      refine (hear_rel _ j _ p 1 _ true t3.drew (heardOk_mk (by omega) (by omega) (by omega))).mono ?_
      rintro e w4 ⟨rfl, t4, g4⟩
      rw [heard_put (heardOk_mk (by omega) (by omega) (by omega)), Int.toNat_natCast] at t4
      have b4 := grow_below b3.drew g4 (Nat.le_refl _) (Nat.le_refl _)
      clear g4 b3 t3
      go_wp2_with fail
      refine (of_val _ j _ p _ 1 t4 (ofV_self hpj)).mono ?_
      rintro e w5 ⟨rfl, rfl⟩
      have hne : p ≠ q → ((p : Int) != (q : Int)) = true := fun h => by rw [bne_iff_ne]; omega
      have heq : p = q → ((p : Int) != (q : Int)) = false := fun h => by subst h; exact bne_self_eq_false _
      have end1 : ∀ r : Bool, decide ((2 : Int) ≤ 1 ∧ ((2 : Int) ≤ 2 ∨ j = 1)) = r → allV j (put (filled j 2) p 1) 2 = r := fun r h => allV_last hpj 2 1 r h
      have HE := Lib.hid end1
      clear end1
      by_cases hpq : p = q
      · have e1 := heq hpq
        clear heq hne
        subst hpq
        by_cases hj1 : j = 1
        · have e2 : ((j : Int) == 1) = true := by rw [beq_iff_eq]; omega
          have HE' := Lib.hid (HE.out false (by rw [hj1]; decide))
          clear HE
          have HJ := Lib.hid hj1
          clear hj1
          go_wp2_with fail
          refine (all_val _ j _ 2 _ false t4 HE'.out).mono ?_
          rintro e w6 ⟨rfl, t6, b6⟩
          have b6 := b4.trans (b6.mono b4.size)
          go_wp2_with fail
          refine (awake_any w6).mono ?_
          rintro e w7 ⟨rfl, b7⟩
          have b7 := b6.trans (b7.mono b6.size)
          go_wp2_with fail
          go_ret
          exact ⟨rfl, b7⟩
        · have e2 : ((j : Int) == 1) = false := by rw [beq_eq_false_iff_ne]; omega
          have HE' := Lib.hid (HE.out false (by simp [hj1]))
          clear HE
          go_wp2_with fail
          refine (all_val _ j _ 2 _ false t4 HE'.out).mono ?_
          rintro e w6 ⟨rfl, t6, b6⟩
          have b6 := b4.trans (b6.mono b4.size)
          go_wp2_with fail
          refine (awake_any w6).mono ?_
          rintro e w7 ⟨rfl, b7⟩
          have b7 := b6.trans (b7.mono b6.size)
          go_wp2_with fail
          go_ret
          exact ⟨rfl, b7⟩
      · have e1 := hne hpq
        clear heq hne
        have hj1 : j ≠ 1 := by omega
        have e2 : ((j : Int) == 1) = false := by rw [beq_eq_false_iff_ne]; omega
        have HE' := Lib.hid (HE.out false (by simp [hj1]))
        clear HE
        go_wp2_with fail
        refine (of_val _ j _ q _ 2 t4 (ofV_other hqj (Ne.symm hpq))).mono ?_
        rintro e w5 ⟨rfl, rfl⟩
        go_wp2_with fail
        refine (all_val _ j _ 2 _ false t4 HE'.out).mono ?_
        rintro e w6 ⟨rfl, t6, b6⟩
        have b6 := b4.trans (b6.mono b4.size)
        go_wp2_with fail
        refine (awake_any w6).mono ?_
        rintro e w7 ⟨rfl, b7⟩
        have b7 := b6.trans (b7.mono b6.size)
        go_wp2_with fail
        go_ret
        exact ⟨rfl, b7⟩

set_option maxHeartbeats 1000000 in
theorem last_22 (a0 a1 a2 : Int) (h0 : 0 ≤ a0) (l0 : a0 ≤ 255) (h1 : 0 ≤ a1) (l1 : a1 ≤ 255) (h2 : 0 ≤ a2) (l2 : a2 ≤ 255) (w : World) :
    Calls Try.prog 3 #[.int .u8 a0, .int .u8 a1, .int .u8 a2, .bool true, .bool true] w fun e w' => e = .returned (.bool true) ∧ Below w.heap.size w w' := by
  go_enter Try.func3, Try.ntmps3
  go_wp2_with fail
  obtain ⟨k, hk⟩ : ∃ k : Nat, (k : Int) = 1 + a0 % 7 := ⟨(1 + a0 % 7).toNat, by omega⟩
  have k0 : 0 < k := by omega
  have k7 : k ≤ 7 := by omega
  rw [← hk]
  clear hk
  refine (new_val k w k (by omega)).mono ?_
  rintro e w1 ⟨rfl, t1, b1, z1⟩
  rw [← filled_zero 2] at t1
  go_wp2_with fail
  go_loopw [14] (fun i wr => ∃ j : Nat, j ≤ k ∧ i = .int .i64 j ∧ IsTab wr w.heap.size k (filled j 2) ∧ Below w.heap.size w wr) (fun i _ => k - (intOf i).toNat)
  case atStart => exact ⟨0, Nat.zero_le _, rfl, t1, b1⟩
  case round =>
    clear t1 b1 z1
    obtain ⟨j, hj, rfl, tj, bj⟩ := hrel
    by_cases hlt : j < k
    · go_wp2_with fail
      refine (hear_rel _ k _ j 2 _ true tj (heardOk_mk (by omega) (by omega) (by omega))).mono ?_
      rintro e w2 ⟨rfl, t2, g2⟩
      rw [heard_filled k j 2 hlt (by omega)] at t2
      have b2 := grow_below bj g2 (Nat.le_refl _) (Nat.le_refl _)
      clear g2
      go_wp2_with fail
      go_roundw
      case rel => exact ⟨j + 1, by omega, by go_num, t2, b2⟩
      case measure => simp [intOf]; omega
    · obtain rfl : j = k := by omega
      go_wp2_with fail
      refine (all_val _ j _ 2 _ true tj (allV_filled j k0 2 2 _ (by decide))).mono ?_
      rintro e w2 ⟨rfl, t2, b2⟩
      have b2 := bj.trans (b2.mono bj.size)
      go_wp2_with fail
      refine (all_val _ j _ 1 _ true t2 (allV_filled j k0 2 1 _ (by decide))).mono ?_
      rintro e w3 ⟨rfl, t3, b3⟩
      have b3 := b2.trans (b3.mono b2.size)
      go_wp2_with fail
      go_region
      all_goals go_wp2_with fail
      obtain ⟨p, hp⟩ : ∃ p : Nat, (p : Int) = a1 % (j : Int) := ⟨(a1 % (j : Int)).toNat, by have := Int.emod_nonneg a1 (show (j : Int) ≠ 0 by omega); omega⟩
      obtain ⟨q, hq⟩ : ∃ q : Nat, (q : Int) = a2 % (j : Int) := ⟨(a2 % (j : Int)).toNat, by have := Int.emod_nonneg a2 (show (j : Int) ≠ 0 by omega); omega⟩
      have hpj : p < j := by have := Int.emod_lt_of_pos a1 (show (0 : Int) < (j : Int) by omega); omega
      have hqj : q < j := by have := Int.emod_lt_of_pos a2 (show (0 : Int) < (j : Int) by omega); omega
      rw [← hp, ← hq]
      clear hp hq tj bj t2 b2
      refine (hear_rel _ j _ p 2 _ true t3.drew (heardOk_mk (by omega) (by omega) (by omega))).mono ?_
      rintro e w4 ⟨rfl, t4, g4⟩
      rw [heard_put (heardOk_mk (by omega) (by omega) (by omega)), Int.toNat_natCast] at t4
      have b4 := grow_below b3.drew g4 (Nat.le_refl _) (Nat.le_refl _)
      clear g4 b3 t3
      go_wp2_with fail
      refine (of_val _ j _ p _ 2 t4 (ofV_self hpj)).mono ?_
      rintro e w5 ⟨rfl, rfl⟩
      have hne : p ≠ q → ((p : Int) != (q : Int)) = true := fun h => by rw [bne_iff_ne]; omega
      have heq : p = q → ((p : Int) != (q : Int)) = false := fun h => by subst h; exact bne_self_eq_false _
      have end1 : ∀ r : Bool, decide ((2 : Int) ≤ 2 ∧ ((2 : Int) ≤ 2 ∨ j = 1)) = r → allV j (put (filled j 2) p 2) 2 = r := fun r h => allV_last hpj 2 2 r h
      have HE := Lib.hid end1
      clear end1
      by_cases hpq : p = q
      · have e1 := heq hpq
        clear heq hne
        subst hpq
        by_cases hj1 : j = 1
        · have e2 : ((j : Int) == 1) = true := by rw [beq_iff_eq]; omega
          have HE' := Lib.hid (HE.out true (by rw [hj1]; decide))
          clear HE
          have HJ := Lib.hid hj1
          clear hj1
          go_wp2_with fail
          refine (all_val _ j _ 2 _ true t4 HE'.out).mono ?_
          rintro e w6 ⟨rfl, t6, b6⟩
          have b6 := b4.trans (b6.mono b4.size)
          go_wp2_with fail
          refine (awake_any w6).mono ?_
          rintro e w7 ⟨rfl, b7⟩
          have b7 := b6.trans (b7.mono b6.size)
          go_wp2_with fail
          go_ret
          exact ⟨rfl, b7⟩
        · have e2 : ((j : Int) == 1) = false := by rw [beq_eq_false_iff_ne]; omega
          have HE' := Lib.hid (HE.out true (by simp [hj1]))
          clear HE
          go_wp2_with fail
          refine (all_val _ j _ 2 _ true t4 HE'.out).mono ?_
          rintro e w6 ⟨rfl, t6, b6⟩
          have b6 := b4.trans (b6.mono b4.size)
          go_wp2_with fail
          refine (awake_any w6).mono ?_
          rintro e w7 ⟨rfl, b7⟩
          have b7 := b6.trans (b7.mono b6.size)
          go_wp2_with fail
          go_ret
          exact ⟨rfl, b7⟩
      · have e1 := hne hpq
        clear heq hne
        have hj1 : j ≠ 1 := by omega
        have e2 : ((j : Int) == 1) = false := by rw [beq_eq_false_iff_ne]; omega
        have HE' := Lib.hid (HE.out true (by simp [hj1]))
        clear HE
        go_wp2_with fail
        refine (of_val _ j _ q _ 2 t4 (ofV_other hqj (Ne.symm hpq))).mono ?_
        rintro e w5 ⟨rfl, rfl⟩
        go_wp2_with fail
        refine (all_val _ j _ 2 _ true t4 HE'.out).mono ?_
        rintro e w6 ⟨rfl, t6, b6⟩
        have b6 := b4.trans (b6.mono b4.size)
        go_wp2_with fail
        refine (awake_any w6).mono ?_
        rintro e w7 ⟨rfl, b7⟩
        have b7 := b6.trans (b7.mono b6.size)
        go_wp2_with fail
        go_ret
        exact ⟨rfl, b7⟩

theorem last_any (a0 a1 a2 : Int) (a3 a4 : Bool) (w0 : (Lit.int .u8 a0).wf = true) (w1 : (Lit.int .u8 a1).wf = true) (w2 : (Lit.int .u8 a2).wf = true) (w : World) :
    Calls Try.prog 3 #[.int .u8 a0, .int .u8 a1, .int .u8 a2, .bool a3, .bool a4] w fun e w' => e = .returned (.bool true) ∧ Below w.heap.size w w' := by
  have b0 := bounds_u8 w0
  have b1 := bounds_u8 w1
  have b2 := bounds_u8 w2
  match a3, a4 with
  | false, false => exact last_11 a0 a1 a2 b0.1 b0.2 b1.1 b1.2 b2.1 b2.2 w
  | false, true => exact last_12 a0 a1 a2 b0.1 b0.2 b1.1 b1.2 b2.1 b2.2 w
  | true, false => exact last_21 a0 a1 a2 b0.1 b0.2 b1.1 b1.2 b2.1 b2.2 w
  | true, true => exact last_22 a0 a1 a2 b0.1 b0.2 b1.1 b1.2 b2.1 b2.2 w

end Go.Proofs.Ytbgnclkpjajpmaa.P
