/- CompLong: the walk. -/
import Derived.Test.YtmmggeaaheegmaaCompDD
namespace Go.Proofs.Ytmmggeaaheegmaa.K
open Go.RowKit M T
set_option linter.unusedVariables false
set_option linter.unusedSimpArgs false

set_option maxRecDepth 100000 in
set_option maxHeartbeats 4000000 in
theorem long_all (a : Int) (h0 : 0 ≤ a) (h1 : a ≤ 65535) (w : World) :
    Calls Try.prog 4 #[.int .u16 a] w fun e w' => e = .returned (.bool true) ∧ Below w.heap.size w w' := by
  obtain ⟨k, hk⟩ : ∃ k : Nat, 1 + a % 2000 = (k : Int) := ⟨(1 + a % 2000).toNat, by omega⟩
  have hk1 : 1 ≤ k := by omega
  have hk2 : k ≤ 2000 := by omega
  have hmk := make_rows k (by omega)
  go_enter Try.func4, Try.ntmps4
  go_upto_region 3 with fail
  obtain ⟨w1, hw1⟩ : ∃ w1, w1 = w.alloc (.cells (tabV k fun _ => .slice none 0 0) 26) := ⟨_, rfl⟩
  obtain ⟨ge, hge⟩ : ∃ ge, ge = w.heap.size := ⟨_, rfl⟩
  rw [← hw1, ← hge]
  have hgl : GL w.heap.size w w1 ge k (partE 0) := by
    refine ⟨by rw [hw1]; exact (Below.refl _ _).alloc (Nat.le_refl _) _, by rw [hge]; exact Nat.le_refl _, fun _ => .slice none 0 0, by rw [hw1, hge]; exact heap_alloc_new w _, fun i hi => .inl ⟨by unfold partE; simp, rfl⟩⟩
  have HGL := Lib.hid hgl
  clear hgl hw1 hge hk hmk
  go_wp2_with fail
  go_loopw [5] (fun iv wr => ∃ i : Nat, iv = .int .i64 i ∧ i + 1 ≤ k ∧ GL w.heap.size w wr ge k (partE i)) (fun iv _ => k - (intOf iv).toNat)
  case atStart => exact ⟨0, rfl, by omega, HGL.out⟩
  case round =>
    clear HGL
    obtain ⟨i, rfl, hi, hgl⟩ := hrel
    have HGL := Lib.hid hgl
    by_cases hik : i + 1 < k
    · have hii : (i : Int) + 1 < (k : Int) := by omega
      have hiki : (i : Int) < (k : Int) := by omega
      obtain ⟨⟨v0, c0⟩, f0, hgs⟩ := hgl.cell i (by omega)
      clear hgl
      go_wp2_with fail
      go_roundw
      case rel => exact ⟨i + 1, by go_num, by omega, by have := HGL.out.set2 i ((i : Int) + 1); rwa [part_step] at this⟩
      case measure => simp [intOf]; omega
    · have hii : ¬ (i : Int) + 1 < (k : Int) := by omega
      obtain rfl : i = k - 1 := by omega
      rw [part_row k hk1] at hgl
      have HG1 := Lib.hid hgl
      have hed := hgl.ed (by omega)
      have hB := hgl.hB
      have HED := Lib.hid hed
      obtain ⟨w2, rfl⟩ : ∃ w2, w2 = wr := ⟨_, rfl⟩
      have hgew := (hgl.cell 0 (by omega)).2.2
      clear hgl HGL hed
      go_wp2_with fail
      refine (comps_any (rowE k) k _ k _ HED.out (by omega)).mono ?_
      rintro e w3 ⟨oo, oc, R, L, q, rfl, hin, hout, hb3⟩
      obtain rfl := hin.one (row_order k)
      rw [rowL_len]
      have hgl3 := HG1.out.below hb3 (by omega)
      obtain ⟨⟨v0, c0⟩, f0, hgs⟩ := hgl3.cell (k - 1) (by omega)
      have HGL3 := Lib.hid hgl3
      have HOUT := Lib.hid hout
      have hs3 := hb3.size
      have hk11 : (1 : Int) ≤ (k : Int) := by omega
      have hkk1 : (k : Int) - 1 < (k : Int) := by omega
      clear hin hout hb3 hgl3 HG1 HED
      go_upto_region 9 with fail
      obtain ⟨w4, hw4⟩ : ∃ w4, w4 = (w3.setCell ⟨ge, k - 1, none⟩ (.slice (some ⟨w3.heap.size, 0, none⟩) 1 1)).alloc (.cells #[.int .i64 0] 3) := ⟨_, rfl⟩
      rw [← hw4]
      have hgl4 := HGL3.out.set2 (k - 1) 0
      rw [← hw4] at hgl4
      have hgl5 := hgl4.congr (row_ring k hk1)
      have HGL5 := Lib.hid hgl5
      have HED := Lib.hid (hgl5.ed (by omega))
      have hm : Mods (fun x => x = ge) w3 w4 := by rw [hw4]; exact ((Mods.refl (fun x => x = ge) w3).setCell (p := ⟨ge, k - 1, none⟩) (fun _ => rfl) _).alloc _
      have hbo : ∀ i, w2.heap.size ≤ i → i ≠ ge := fun i hi => by omega
      have hout4 := HOUT.out.keep hm (fun a ha e => by obtain ⟨_, _, hb⟩ := HOUT.out.lt.1 a ha; exact hbo _ hb e) (fun r hr a ha e => by obtain ⟨_, _, hb⟩ := HOUT.out.lt.2 r hr a ha; exact hbo _ hb e)
      have HOUT4 := Lib.hid hout4
      have hs4 := hm.size
      clear hgl4 hgl5 hw4 hm hout4 HOUT HGL3 hbo c0 f0
      go_wp2_with fail
      refine (comps_any (ringE k) k _ k _ HED.out (by omega)).mono ?_
      rintro e w5 ⟨o5, c5, R5, L5, q5, rfl, hin, hout, hb5⟩
      obtain rfl := hin.one (ring_order hk1)
      have hout45 := HOUT4.out.below hb5
      have HOUT45 := Lib.hid hout45
      have HBE := Lib.hid (HGL5.out.bel.trans (hb5.mono (by omega)))
      obtain ⟨go5, a5, ca5, rfl, x5, r5⟩ := hout.hdr (i := 0) (c := List.range k) rfl
      have HR5 := Lib.hid r5
      have hr5 := r5.le
      rw [ns_len, List.length_range] at hr5
      rw [List.length_range] at x5
      obtain ⟨_, _, e8, hcap1, hcap2, _⟩ := own_view hout45.top
      cases e8
      rw [rowL_len] at hcap1
      have hl1 : ([List.range k] : List (List Nat)).length = 1 := rfl
      rw [hl1]
      have ekk : ((k : Int) != (k : Int)) = false := by simp
      clear hin hout hb5 hout45 r5 HOUT4 HGL5 HED hl1
      go_wp2_with fail
      go_loopw [8] (fun iv wr => ∃ i : Nat, iv = .int .i64 i ∧ i ≤ k ∧ w5 = wr) (fun iv _ => k - (intOf iv).toNat)
      case atStart => exact ⟨0, rfl, Nat.zero_le _, rfl⟩
      case round =>
        obtain ⟨i, rfl, hi, rfl⟩ := hrel
        by_cases hik : i < k
        · have hiki : (i : Int) < (k : Int) := by omega
          obtain ⟨g6, a6, ca6, rfl, x6, r6⟩ := HOUT45.out.hdr (rowL_get hik)
          obtain ⟨p7, po7, rfl, x7⟩ := r6.row 0 ((k - 1 - i : Nat) : Int) rfl
          rw [Nat.add_zero] at x7
          obtain ⟨p8, po8, rfl, x8⟩ := HR5.out.row i (i : Int) (by unfold ns; rw [List.getElem?_map, List.getElem?_range hik]; rfl)
          have hr6 := r6.le
          obtain ⟨y, hy⟩ : ∃ y : Nat, y = k - 1 - i := ⟨_, rfl⟩
          rw [← hy] at x7
          have x6 : w5.cell? ⟨g6, i, none⟩ = some (.slice (some ⟨p7, po7, none⟩) 1 ca6) := x6
          have ey : ((y : Int) != (k : Int) - 1 - (i : Int)) = false := by rw [bne_eq_false_iff_eq]; omega
          have ei : ((i : Int) != (i : Int)) = false := by simp
          clear hy r6
          go_wp2_with fail
          go_roundw
          case rel => exact ⟨i + 1, by go_num, by omega, by trivial⟩
          case measure => simp [intOf]; omega
        · have hiki : ¬ (i : Int) < (k : Int) := by omega
          go_wp2_with fail
          refine (awake_any _).mono ?_
          rintro e w6 ⟨rfl, hb6⟩
          have HB6 := Lib.hid (HBE.out.trans (hb6.mono HBE.out.size))
          clear hb6
          go_wp2_with fail
          go_ret
          exact ⟨rfl, HB6.out⟩
end Go.Proofs.Ytmmggeaaheegmaa.K
