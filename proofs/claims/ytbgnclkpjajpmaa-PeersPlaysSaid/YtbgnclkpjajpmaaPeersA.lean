/- Contracts of package peers (New, Of, For, Hear, All, Tag): what each call gives and does to memory, at every input. -/
import Derived.Test.YtbgnclkpjajpmaaRows
import Derived.WalkKit
import Derived.WalkSpells
import Derived.WalkLawsBesides
import Derived.BigQuiet
import Derived.Deep.QuietTactic
import Derived.Lib.Hide
import Derived.LoopTactic
namespace Go.Proofs.Ytbgnclkpjajpmaa.P
open Go.RowKit

theorem tabval (n c : Int) (h : min (max n 0) 7 = c) (w : World) : w.alloc (.cells #[.int .i64 c, .int .i64 0, .int .i64 0, .int .i64 0, .int .i64 0, .int .i64 0, .int .i64 0, .int .i64 0] 40) = w.alloc (.cells #[.int .i64 (min (max n 0) 7), .int .i64 0, .int .i64 0, .int .i64 0, .int .i64 0, .int .i64 0, .int .i64 0, .int .i64 0] 40) := by rw [h]

set_option maxHeartbeats 400000 in
theorem new_any (n : Int) (w : World) : Calls Try.prog 6 #[.int .i64 n] w fun e w' => e = .returned (.pointer (some ⟨w.heap.size, 0, none⟩)) ∧ w' = w.alloc (.cells #[.int .i64 (min (max n 0) 7), .int .i64 0, .int .i64 0, .int .i64 0, .int .i64 0, .int .i64 0, .int .i64 0, .int .i64 0] 40) := by
  go_enter Try.func6, Try.ntmps6
  go_wp2
  all_goals go_ret
  all_goals exact ⟨rfl, tabval _ _ (by omega) _⟩

/-- the table at block b: of n replicas, each of a version -/
structure IsTab (w : World) (b : Nat) (n : Nat) (s : Nat → Int) : Prop where
  le : n ≤ 7
  cn : w.cell? ⟨b, 0, none⟩ = some (.int .i64 n)
  cs : ∀ i, i < 7 → w.cell? ⟨b, i + 1, none⟩ = some (.int .i64 (s i))
  fz : ∀ i, i < 7 → w.frozen? ⟨b, i + 1, none⟩ = false

def heardOk (n : Nat) (i v : Int) : Bool := decide (0 ≤ i ∧ i < n ∧ (v = 1 ∨ v = 2))


theorem bne_true {a b : Int} (h : a ≠ b) : (a != b) = true := by rw [bne_iff_ne]; exact h
theorem bne_false {a b : Int} (h : a = b) : (a != b) = false := by subst h; exact bne_self_eq_false a

set_option maxHeartbeats 400000 in
theorem hear_no (b n : Nat) (s : Nat → Int) (i v : Int) (w : World) (ht : IsTab w b n s) (h : heardOk n i v = false) :
    Calls Try.prog 7 #[.pointer (some ⟨b, 0, none⟩), .int .i64 i, .int .i64 v] w fun e w' => e = .returned (.bool false) ∧ w = w' := by
  have cn := ht.cn
  have hl := ht.le
  have h' : i < 0 ∨ (0 ≤ i ∧ (n : Int) ≤ i) ∨ (0 ≤ i ∧ i < n ∧ v ≠ 1 ∧ v ≠ 2) := by simp [heardOk] at h; omega
  clear h ht
  rcases h' with h | ⟨h1, h2⟩ | ⟨h1, h2, h3, h4⟩
  · go_enter Try.func7, Try.ntmps7
    go_wp2
    go_ret
    exact ⟨rfl, rfl⟩
  · have h3 : ¬ i < 0 := by omega
    go_enter Try.func7, Try.ntmps7
    go_wp2
    go_ret
    exact ⟨rfl, rfl⟩
  · have e3 := bne_true h3
    have e4 := bne_true h4
    have h5 : ¬ i < 0 := by omega
    go_enter Try.func7, Try.ntmps7
    go_wp2
    go_ret
    exact ⟨rfl, rfl⟩

set_option maxHeartbeats 400000 in
theorem hear_yes (b n : Nat) (s : Nat → Int) (i v : Int) (w : World) (ht : IsTab w b n s) (h : heardOk n i v = true) :
    Calls Try.prog 7 #[.pointer (some ⟨b, 0, none⟩), .int .i64 i, .int .i64 v] w fun e w' => e = .returned (.bool true) ∧ w' = w.setCell ⟨b, 1 + i.toNat, none⟩ (.int .i64 v) := by
  have cn := ht.cn
  have hl := ht.le
  have h' : 0 ≤ i ∧ i < n ∧ (v = 1 ∨ v = 2) := by simpa [heardOk] using h
  have cs := ht.cs i.toNat (by omega)
  have fz := ht.fz i.toNat (by omega)
  rw [Nat.add_comm] at cs fz
  clear h ht
  obtain ⟨h1, h2, h3⟩ := h'
  have h5 : ¬ i < 0 := by omega
  have h6 : i < 7 := by omega
  rcases h3 with h3 | h3
  · subst h3
    go_enter Try.func7, Try.ntmps7
    go_wp2
    go_ret
    exact ⟨rfl, rfl⟩
  · subst h3
    go_enter Try.func7, Try.ntmps7
    go_wp2
    go_ret
    exact ⟨rfl, rfl⟩

/-- what a table tells of a replica -/
def ofV (n : Nat) (s : Nat → Int) (r : Int) : Int := if 0 ≤ r ∧ r < n then s r.toNat else 0
theorem ofV_in {n : Nat} {s : Nat → Int} {r : Int} (h : 0 ≤ r ∧ r < n) : ofV n s r = s r.toNat := by unfold ofV; rw [if_pos h]
theorem ofV_out {n : Nat} {s : Nat → Int} {r : Int} (h : r < 0 ∨ (n : Int) ≤ r) : ofV n s r = 0 := by unfold ofV; rw [if_neg (by omega)]
theorem ret_int {k : IntKind} {a b : Int} (h : a = b) : Ending.returned (.int k a) = .returned (.int k b) := by rw [h]
theorem ret_bool {a b : Bool} (h : a = b) : Ending.returned (.bool a) = .returned (.bool b) := by rw [h]

set_option maxHeartbeats 400000 in
theorem of_any (b n : Nat) (s : Nat → Int) (r : Int) (w : World) (ht : IsTab w b n s) :
    Calls Try.prog 9 #[.pointer (some ⟨b, 0, none⟩), .int .i64 r] w fun e w' => e = .returned (.int .i64 (ofV n s r)) ∧ w = w' := by
  have cn := ht.cn
  have hl := ht.le
  rcases (show r < 0 ∨ (0 ≤ r ∧ (n : Int) ≤ r) ∨ (0 ≤ r ∧ r < n) from by omega) with h | ⟨h, h2⟩ | ⟨h, h2⟩
  · have HV := Lib.hid (ofV_out (n := n) (s := s) (r := r) (by omega))
    clear ht
    go_enter Try.func9, Try.ntmps9
    go_wp2
    go_ret
    exact ⟨ret_int HV.out.symm, rfl⟩
  · have HV := Lib.hid (ofV_out (n := n) (s := s) (r := r) (by omega))
    have h5 : ¬ r < 0 := by omega
    clear ht
    go_enter Try.func9, Try.ntmps9
    go_wp2
    go_ret
    exact ⟨ret_int HV.out.symm, rfl⟩
  · have HV := Lib.hid (ofV_in (n := n) (s := s) (r := r) (by omega))
    have cs := ht.cs r.toNat (by omega)
    rw [Nat.add_comm] at cs
    have h5 : ¬ r < 0 := by omega
    have h6 : r < 7 := by omega
    clear ht
    go_enter Try.func9, Try.ntmps9
    go_wp2
    go_ret
    exact ⟨ret_int HV.out.symm, rfl⟩

set_option maxHeartbeats 400000 in
theorem for_any (b n : Nat) (s : Nat → Int) (r : Int) (w : World) (ht : IsTab w b n s) :
    Calls Try.prog 13 #[.pointer (some ⟨b, 0, none⟩), .int .i64 r] w fun e w' => e = .returned (.int .i64 (max (ofV n s r) 1)) ∧ w = w' := by
  go_enter Try.func13, Try.ntmps13
  go_wp2_with (go_at_call 9; refine (of_any _ _ _ _ _ ht).mono ?_; rintro e w' ⟨rfl, rfl⟩)
  all_goals go_ret
  all_goals exact ⟨ret_int (by omega), rfl⟩

def tagV (v : Int) (a : Bool) : Int := if v = 2 ∧ a = true then 2 else 1

set_option maxHeartbeats 400000 in
theorem tag_any (v : Int) (a : Bool) (w : World) :
    Calls Try.prog 15 #[.int .i64 v, .bool a] w fun e w' => e = .returned (.int .i64 (tagV v a)) ∧ w = w' := by
  by_cases hv : v = 2
  · subst hv
    cases a
    · go_enter Try.func15, Try.ntmps15
      go_wp2
      go_ret
      exact ⟨rfl, rfl⟩
    · go_enter Try.func15, Try.ntmps15
      go_wp2
      go_ret
      exact ⟨rfl, rfl⟩
  · have h2 : (v == 2) = false := by rw [beq_eq_false_iff_ne]; exact hv
    have HV := Lib.hid (show tagV v a = 1 by unfold tagV; rw [if_neg (by simp [hv])])
    clear hv
    go_enter Try.func15, Try.ntmps15
    go_wp2
    go_ret
    exact ⟨ret_int HV.out.symm, rfl⟩

/-- are all of a version, or a later one? -/
def allV (n : Nat) (s : Nat → Int) (v : Int) : Bool := decide (0 < n ∧ ∀ i, i < n → v ≤ s i)
theorem allV_true {n : Nat} {s : Nat → Int} {v : Int} (h : 0 < n) (hall : ∀ i, i < n → v ≤ s i) : allV n s v = true := by simp only [allV]; exact decide_eq_true ⟨h, hall⟩
theorem allV_false {n i : Nat} {s : Nat → Int} {v : Int} (hi : i < n) (hs : s i < v) : allV n s v = false := by
  simp only [allV]; refine decide_eq_false fun h => ?_; have := h.2 i hi; omega
theorem allV_zero {s : Nat → Int} {v : Int} : allV 0 s v = false := by simp [allV]

set_option maxHeartbeats 1000000 in
theorem all_any (b n : Nat) (s : Nat → Int) (v : Int) (w : World) (ht : IsTab w b n s) :
    Calls Try.prog 8 #[.pointer (some ⟨b, 0, none⟩), .int .i64 v] w fun e w' => e = .returned (.bool (allV n s v)) ∧ ∃ k, w' = w.drewN k := by
  have cn := ht.cn
  have hl := ht.le
  go_enter Try.func8, Try.ntmps8
  have hl7 : (n : Int) ≤ 7 := by omega
  have HC := Lib.hid ht.cs
  clear ht
  go_wp2
  go_quiet (fail)
  go_wp2
  go_loop [16] (fun i => ∃ k : Nat, k ≤ n ∧ i = .int .i64 k ∧ ∀ j, j < k → v ≤ s j) (fun i => n - (intOf i).toNat)
  case atStart => exact ⟨0, Nat.zero_le _, rfl, fun j h => by omega⟩
  case round =>
    obtain ⟨k, hk, rfl, hall⟩ := hrel
    have HA := Lib.hid hall
    clear hall
    by_cases hlt : k < n
    · have hc : w.cell? ⟨b, 1 + k, none⟩ = some (.int .i64 (s k)) := by rw [Nat.add_comm]; exact HC.out k (by omega)
      by_cases hv : s k < v
      · go_wp2
        go_ret
        exact ⟨ret_bool (allV_false hlt hv).symm, _, rfl⟩
      · go_wp2
        go_round
        case rel => exact ⟨k + 1, by omega, by go_num, fun j hj => by
          by_cases e : j < k
          · exact HA.out j e
          · have : j = k := by omega
            subst this; omega⟩
        case measure => simp [intOf]; omega
    · have hkn : n = k := by omega
      subst hkn
      by_cases h0 : 0 < n
      · go_wp2
        go_ret
        exact ⟨ret_bool (allV_true h0 HA.out).symm, _, rfl⟩
      · have : n = 0 := by omega
        subst this
        go_wp2
        go_ret
        exact ⟨ret_bool allV_zero.symm, _, rfl⟩
end Go.Proofs.Ytbgnclkpjajpmaa.P
