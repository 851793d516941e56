/- Contracts of the library, at rows of numbers of one's own: Sort, Clone, Index. -/
import Derived.Test.YtmmggeaaheegmaaCompB
import Derived.Test.YtmmggeaaheegmaaShelf
import Derived.Sort.OwnSortedInts
namespace Go.Proofs.Ytmmggeaaheegmaa.K
open Go.RowKit M T
set_option linter.unusedVariables false
set_option linter.unusedSimpArgs false

theorem iv_int (l : List Nat) : iv l = (l.map fun (x : Nat) => (x : Int)).map (Value.int .i64) := by simp [iv]
/-- sorted -/
theorem sort_own (B : Nat) (w : World) (g cap : Nat) (l : List Nat) (h : w.ownsRow B 3 1 (.slice (some ⟨g, 0, none⟩) l.length cap) l.length (iv l)) (hl : l.length ≤ 1000000) :
    Calls Try.prog 24 #[.slice (some ⟨g, 0, none⟩) l.length cap] w fun e w' => e = .returned (.tuple #[]) ∧ ∃ l', (l'.Perm l ∧ l'.Pairwise (· ≤ ·) ∧ l'.length = l.length ∧ w'.ownsRow B 3 1 (.slice (some ⟨g, 0, none⟩) l.length cap) l.length (iv l') ∧ Mods (fun k => k = g) w w') := by
  obtain ⟨zs, hzs⟩ : ∃ zs : List Int, zs = l.map fun (x : Nat) => (x : Int) := ⟨_, rfl⟩
  have hzl : zs.length = l.length := by rw [hzs, List.length_map]
  obtain ⟨hx, h2⟩ := h
  rcases h2 with ⟨h0, _⟩ | ⟨g', c', cur, e0, hB, hg, hnc, hm, hcs, htk⟩
  · cases h0
  cases e0
  rw [iv_int, ← hzs] at htk
  have hH := holds_of_blockI (ss := zs) hg (by rw [hzl]; rw [Nat.mul_one] at htk; exact htk)
  have hc := Try.slices_Sort_int g 0 cap zs w hH (heap_lt hg) (by omega)
  rw [hzl] at hc
  refine hc.mono ?_
  rintro e w' ⟨he, n, os, rfl⟩
  refine ⟨he, (zs.mergeSort fun x y => decide (x ≤ y)).map Int.toNat, ?_⟩
  have hperm : (zs.mergeSort fun x y => decide (x ≤ y)).Perm zs := List.mergeSort_perm _ _
  have hpw : (zs.mergeSort fun x y => decide (x ≤ y)).Pairwise (fun x y => x ≤ y) := by
    have := List.pairwise_mergeSort (le := fun x y : Int => decide (x ≤ y)) (fun a b c h1 h2 => by simp at *; omega) (fun a b => by simp; omega) zs
    exact this.imp (fun h => by simpa using h)
  have hback : ((zs.mergeSort fun x y => decide (x ≤ y)).map Int.toNat).map (fun (x : Nat) => (x : Int)) = zs.mergeSort fun x y => decide (x ≤ y) := by
    rw [List.map_map]
    refine (List.map_congr_left fun x hx => ?_).trans (List.map_id _)
    have hx2 := hperm.mem_iff.1 hx
    rw [hzs] at hx2
    obtain ⟨y, _, rfl⟩ := List.mem_map.1 hx2
    simp
  have hlen : (zs.mergeSort fun x y => decide (x ≤ y)).length = zs.length := hperm.length_eq
  refine ⟨?_, ?_, by rw [List.length_map, hlen, hzl], ?_, Mods.of_grown (grownBy_sortedI _) |>.mono (fun k _ h => (Option.some.inj h).symm)⟩
  · have := hperm.map Int.toNat
    rw [hzs, List.map_map] at this
    rw [hzs]
    refine this.trans (List.Perm.of_eq ?_)
    exact (List.map_congr_left fun x hx => by simp).trans (List.map_id _)
  · exact List.Pairwise.map _ (fun a b hab => by omega) hpw
  · rw [iv_int, hback]
    have := ownsRow_sortedI (n := n) (os := os) (ts := zs.mergeSort fun x y => decide (x ≤ y)) hlen hB hg (by omega) hm hcs
    rwa [hzl] at this
/-- a copy -/
theorem clone_own (B : Nat) (w : World) (g off cap : Nat) (l : List Nat) (hc : ∀ (j x : Nat), l[j]? = some x → w.cell? ⟨g, off + j, none⟩ = some (.int .i64 (x : Int))) (hl : l.length ≤ 1000000) (hl0 : 0 < l.length) :
    Calls Try.prog 21 #[.slice (some ⟨g, off, none⟩) l.length cap] w fun e w' => ∃ g' cap', e = .returned (.slice (some ⟨g', 0, none⟩) l.length cap') ∧ (w.heap.size ≤ g' ∧ w'.ownsRow w.heap.size 3 1 (.slice (some ⟨g', 0, none⟩) l.length cap') l.length (iv l) ∧ Below w.heap.size w w') := by
  have hzl : (l.map fun (x : Nat) => (x : Int)).length = l.length := by simp
  refine (Try.slices_Clone_int g off l.length cap (l.map fun (x : Nat) => (x : Int)) w (by omega) (by omega) (fun j hj => ?_)).mono ?_
  · rw [hzl] at hj
    obtain ⟨x, hx⟩ : ∃ x, l[j]? = some x := ⟨_, List.getElem?_eq_getElem hj⟩
    rw [hc j x hx]
    simp [List.getD, hx]
  · rintro e w' ⟨v', he, hown, _, hb⟩
    obtain ⟨ao, cap', rfl, _, _, h3, h4⟩ := own_view hown
    cases ao with
    | none => have := (h3 rfl).1; omega
    | some a =>
      obtain ⟨g', cur, rfl, hB, _⟩ := h4 a rfl
      refine ⟨g', cap', he, hB, ?_, hb⟩
      rw [iv_int]
      have e2 : (l.map fun (x : Nat) => (x : Int)).take l.length = l.map fun (x : Nat) => (x : Int) := List.take_of_length_le (by omega)
      rwa [e2] at hown

set_option maxRecDepth 100000 in
set_option maxHeartbeats 400000 in
/-- where a number stands first -/
theorem index_own (w : World) (g cap : Nat) (l : List Nat) (v i : Nat) (hc : ∀ (j x : Nat), l[j]? = some x → w.cell? ⟨g, j, none⟩ = some (.int .i64 (x : Int))) (hl : l.length ≤ 1000000) (hi : l[i]? = some v) (hno : ∀ (j x : Nat), j < i → l[j]? = some x → x ≠ v) :
    Calls Try.prog 50 #[.slice (some ⟨g, 0, none⟩) l.length cap, .int .i64 v] w fun e w' => e = .returned (.int .i64 i) ∧ w = w' := by
  have hil : i < l.length := (List.getElem?_eq_some_iff.1 hi).1
  have HC := Lib.hid hc
  have HI := Lib.hid hi
  have HNO := Lib.hid hno
  clear hc hi hno
  go_enter Try.func50, Try.ntmps50
  go_wp2_with fail
  go_loopw [8] (fun iv wr => ∃ k : Nat, iv = .int .i64 k ∧ k ≤ i ∧ wr = w) (fun iv _ => i - (intOf iv).toNat)
  case atStart => exact ⟨0, rfl, Nat.zero_le _, rfl⟩
  case round =>
    obtain ⟨k, rfl, hk, rfl⟩ := hrel
    by_cases hlt : k < i
    · obtain ⟨x, hx⟩ : ∃ x, l[k]? = some x := ⟨_, List.getElem?_eq_getElem (by omega)⟩
      have c0 := HC.out k x hx
      have hkl : (k : Int) < (l.length : Int) := by omega
      have e1 : ((v : Int) == (x : Int)) = false := by rw [beq_eq_false_iff_ne]; have := HNO.out k x hlt hx; omega
      clear hx
      go_wp2_with fail
      go_roundw
      case rel => exact ⟨k + 1, by go_num, by omega, by trivial⟩
      case measure => simp [intOf]; omega
    · obtain rfl : k = i := by omega
      have c0 := HC.out k v HI.out
      have hkl : (k : Int) < (l.length : Int) := by omega
      have e1 : ((v : Int) == (v : Int)) = true := by simp
      go_wp2_with fail
      go_ret
      exact ⟨rfl, rfl⟩
end Go.Proofs.Ytmmggeaaheegmaa.K
