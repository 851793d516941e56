/- Lists of ids: Has, Equal, Check, in the program and in the document. -/
import Derived.Test.YtlbkbjeajcadiaaGreatDoorMrg10
import Derived.Deep.DeepCutAuto
namespace Go.Proofs.YtlbkbjeajcadiaaGreatDoor.O
open Go.RowKit Go.Proofs.YtlbkbjeajcadiaaGreatDoor.M Go.BigFrame
set_option linter.unusedVariables false
set_option linter.unusedSimpArgs false

theorem eql_yes (a : Id) : ∀ w : World, (binOp .eql 31 (.agg #[.int .i64 a.r, .int .i64 a.n]) (.agg #[.int .i64 a.r, .int .i64 a.n])).run Tryz.prog w = .ok (.bool true) w := fun w => (run_id_eql a a w).trans (by simp)
theorem eql_no {a b : Id} (h : a ≠ b) : ∀ w : World, (binOp .eql 31 (.agg #[.int .i64 a.r, .int .i64 a.n]) (.agg #[.int .i64 b.r, .int .i64 b.n])).run Tryz.prog w = .ok (.bool false) w := fun w => (run_id_eql a b w).trans (by simp [h])
theorem neq_no (a : Id) : ∀ w : World, (binOp .neq 31 (.agg #[.int .i64 a.r, .int .i64 a.n]) (.agg #[.int .i64 a.r, .int .i64 a.n])).run Tryz.prog w = .ok (.bool false) w := fun w => (run_id_neq a a w).trans (by simp)
theorem neq_yes {a b : Id} (h : a ≠ b) : ∀ w : World, (binOp .neq 31 (.agg #[.int .i64 a.r, .int .i64 a.n]) (.agg #[.int .i64 b.r, .int .i64 b.n])).run Tryz.prog w = .ok (.bool true) w := fun w => (run_id_neq a b w).trans (by simp [h])
set_option maxRecDepth 100000 in
set_option maxHeartbeats 4000000 in
theorem refhas_any (l : List Id) (ao : Option Addr) (cap : Nat) (i : Id) (w : World) (h : IdsV w ao cap l) (v : Bool) (hv : decide (i ∈ l) = v) :
    Calls Tryz.prog 70 #[.slice ao l.length cap, idV i] w fun e w' => e = .returned (.bool v) ∧ Below w.heap.size w w' := by
  obtain ⟨hl1, hl2⟩ := h.le
  unfold maxLen at hl2
  have H := Lib.hid h
  have HV := Lib.hid hv
  clear h hv
  go_enter Tryz.func70, Tryz.ntmps70
  go_upto_region 1 with fail
  obtain ⟨W, hW⟩ : ∃ W, W = w.alloc (idO i) := ⟨_, rfl⟩
  rw [← hW]
  have HB : Hid (Below w.heap.size w W) := Lib.hid (by rw [hW]; exact (Below.refl _ _).alloc (Nat.le_refl _) _)
  have HX : Hid (W.heap[w.heap.size]? = some (idO i)) := Lib.hid (by rw [hW]; exact heap_alloc_new w _)
  clear hW
  have HL := Lib.hid (H.out.below (B := 0) HB.out)
  have hlt := M.heap_lt HX.out
  clear H
  go_wp2_with fail
  go_loopw [5] (fun iv wr => ∃ k : Nat, iv = .int .i64 k ∧ k ≤ l.length ∧ Below W.heap.size W wr ∧ (∀ j x, j < k → l[j]? = some x → x ≠ i)) (fun iv _ => l.length - (intOf iv).toNat)
  case atStart => exact ⟨0, rfl, Nat.zero_le _, Below.refl _ _, fun j x hj => absurd hj (by omega)⟩
  case round =>
    obtain ⟨k, rfl, hk, hb, hno⟩ := hrel
    have HNO := Lib.hid hno
    have HBR := Lib.hid hb
    clear hno hb
    by_cases hkl : k < l.length
    · have hii : (k : Int) < (l.length : Int) := by omega
      obtain ⟨x, hx⟩ : ∃ x, l[k]? = some x := ⟨_, List.getElem?_eq_getElem hkl⟩
      obtain ⟨b, off, rfl, hbl, c0, c1⟩ := HL.out.row k x hx
      obtain ⟨⟨d0, d1⟩, _⟩ := box2 HX.out
      have k0 := Kin.cell ((HBR.out.cell (p := ⟨b, _, none⟩) hbl).trans c0)
      have k1 := Kin.cell ((HBR.out.cell (p := ⟨b, _, none⟩) hbl).trans c1)
      have k2 := Kin.cell ((HBR.out.cell (p := ⟨w.heap.size, _, none⟩) hlt).trans d0)
      have k3 := Kin.cell ((HBR.out.cell (p := ⟨w.heap.size, _, none⟩) hlt).trans d1)
      clear c0 c1 d0 d1
      by_cases hxi : x = i
      · have HE := Lib.hid (show v = true by rw [← HV.out, decide_eq_true_eq, ← hxi]; exact List.mem_of_getElem? hx)
        subst hxi
        have q := eql_yes x
        clear hx
        go_upto_region 4 with fail
        refine wp_region_kin (by kernel_rfl) (by kernel_rfl) ?_
        repeat (go_big_quiet_step (fail))
        refine wpQuiet_nil ?_
        intro _ hxx
        obtain ⟨xk, rfl⟩ := hxx
        have HBK := Lib.hid (HBR.out.trans (xk.h.mono HBR.out.size))
        clear k0 k1 k2 k3 q
        go_wp2_with fail
        go_ret
        exact ⟨by rw [HE.out]; rfl, HB.out.trans (HBK.out.mono HB.out.size)⟩
      · have HN := Lib.hid (show ∀ j y, j < k + 1 → l[j]? = some y → y ≠ i from fun j y hj hy => by
          by_cases e : j = k
          · subst e; rw [hx] at hy; cases hy; exact hxi
          · exact HNO.out j y (by omega) hy)
        have q := eql_no hxi
        clear hx hxi
        go_upto_region 4 with fail
        refine wp_region_kin (by kernel_rfl) (by kernel_rfl) ?_
        repeat (go_big_quiet_step (fail))
        refine wpQuiet_nil ?_
        intro _ hxx
        obtain ⟨xk, rfl⟩ := hxx
        have HBK := Lib.hid (HBR.out.trans (xk.h.mono HBR.out.size))
        clear k0 k1 k2 k3 q
        go_wp2_with fail
        go_roundw
        case rel => exact ⟨k + 1, by go_num, by omega, HBK.out, HN.out⟩
        case measure => simp [intOf]; omega
    · obtain rfl : k = l.length := by omega
      have hii : ¬ (l.length : Int) < (l.length : Int) := by omega
      have HE := Lib.hid (show v = false by
        rw [← HV.out, decide_eq_false_iff_not]
        intro hm
        obtain ⟨j, hj⟩ := List.mem_iff_getElem?.1 hm
        exact HNO.out j i (List.getElem?_eq_some_iff.1 hj).1 hj rfl)
      go_wp2_with fail
      go_ret
      exact ⟨by rw [HE.out]; rfl, HB.out.trans (HBR.out.mono HB.out.size)⟩
set_option maxRecDepth 100000 in
set_option maxHeartbeats 4000000 in
theorem refequal_any (l m : List Id) (ao am : Option Addr) (cap cam : Nat) (w : World) (h : IdsV w ao cap l) (h2 : IdsV w am cam m) (v : Bool) (hv : decide (l = m) = v) :
    Calls Tryz.prog 44 #[.slice ao l.length cap, .slice am m.length cam] w fun e w' => e = .returned (.bool v) ∧ Below w.heap.size w w' := by
  obtain ⟨hl1, hl2⟩ := h.le
  unfold maxLen at hl2
  obtain ⟨hm1, hm2⟩ := h2.le
  unfold maxLen at hm2
  have H := Lib.hid h
  have H2 := Lib.hid h2
  have HV := Lib.hid hv
  clear h h2 hv
  cases hlen : ((l.length : Int) != (m.length : Int)) with
  | true =>
    have HE := Lib.hid (show v = false by
      rw [← HV.out, decide_eq_false_iff_not]
      rintro rfl
      simp at hlen)
    go_enter Tryz.func44, Tryz.ntmps44
    go_wp2_with fail
    go_ret
    exact ⟨by rw [HE.out]; rfl, Below.refl _ _⟩
  | false =>
    have hle : l.length = m.length := Int.ofNat_inj.1 (by simpa using hlen)
    go_enter Tryz.func44, Tryz.ntmps44
    go_wp2_with fail
    go_loopw [5] (fun iv wr => ∃ k : Nat, iv = .int .i64 k ∧ k ≤ l.length ∧ Below w.heap.size w wr ∧ l.take k = m.take k) (fun iv _ => l.length - (intOf iv).toNat)
    case atStart => exact ⟨0, rfl, Nat.zero_le _, Below.refl _ _, by simp⟩
    case round =>
      obtain ⟨k, rfl, hk, hb, htk⟩ := hrel
      have HTK := Lib.hid htk
      have HBR := Lib.hid hb
      clear htk hb
      by_cases hkl : k < l.length
      · have hii : (k : Int) < (l.length : Int) := by omega
        have hjj : (k : Int) < (m.length : Int) := by omega
        obtain ⟨x, hx⟩ : ∃ x, l[k]? = some x := ⟨_, List.getElem?_eq_getElem hkl⟩
        obtain ⟨y, hy⟩ : ∃ x, m[k]? = some x := ⟨_, List.getElem?_eq_getElem (by omega)⟩
        obtain ⟨b, off, rfl, hbl, c0, c1⟩ := H.out.row k x hx
        obtain ⟨b2, off2, rfl, hbl2, d0, d1⟩ := H2.out.row k y hy
        have k0 := Kin.cell ((HBR.out.cell (p := ⟨b, _, none⟩) hbl).trans c0)
        have k1 := Kin.cell ((HBR.out.cell (p := ⟨b, _, none⟩) hbl).trans c1)
        have k2 := Kin.cell ((HBR.out.cell (p := ⟨_, _, none⟩) hbl2).trans d0)
        have k3 := Kin.cell ((HBR.out.cell (p := ⟨_, _, none⟩) hbl2).trans d1)
        clear c0 c1 d0 d1
        by_cases hxi : x = y
        · have HN := Lib.hid (show l.take (k + 1) = m.take (k + 1) by rw [List.take_add_one, List.take_add_one, HTK.out, hx, hy, hxi])
          subst hxi
          have q := neq_no x
          clear hx hy
          go_upto_region 6 with fail
          refine wp_region_kin (by kernel_rfl) (by kernel_rfl) ?_
          repeat (go_big_quiet_step (fail))
          refine wpQuiet_nil ?_
          intro _ hxx
          obtain ⟨xk, rfl⟩ := hxx
          have HBK := Lib.hid (HBR.out.trans (xk.h.mono HBR.out.size))
          clear k0 k1 k2 k3 q
          go_wp2_with fail
          go_roundw
          case rel => exact ⟨k + 1, by go_num, by omega, HBK.out, HN.out⟩
          case measure => simp [intOf]; omega
        · have HE := Lib.hid (show v = false by
            rw [← HV.out, decide_eq_false_iff_not]
            rintro rfl
            rw [hx] at hy
            exact hxi (Option.some.inj hy))
          have q := neq_yes hxi
          clear hx hy hxi
          go_upto_region 6 with fail
          refine wp_region_kin (by kernel_rfl) (by kernel_rfl) ?_
          repeat (go_big_quiet_step (fail))
          refine wpQuiet_nil ?_
          intro _ hxx
          obtain ⟨xk, rfl⟩ := hxx
          have HBK := Lib.hid (HBR.out.trans (xk.h.mono HBR.out.size))
          clear k0 k1 k2 k3 q
          go_wp2_with fail
          go_ret
          exact ⟨by rw [HE.out]; rfl, HBK.out⟩
      · obtain rfl : k = l.length := by omega
        have hii : ¬ (l.length : Int) < (l.length : Int) := by omega
        have HE := Lib.hid (show v = true by
          rw [← HV.out, decide_eq_true_eq]
          have := HTK.out
          rwa [List.take_of_length_le (Nat.le_refl _), List.take_of_length_le (by omega)] at this)
        go_wp2_with fail
        go_ret
        exact ⟨by rw [HE.out]; rfl, HBR.out⟩
set_option maxRecDepth 100000 in
set_option maxHeartbeats 4000000 in
theorem sequal_any (l m : List Id) (ao am : Option Addr) (cap cam : Nat) (w : World) (h : IdsV w ao cap l) (h2 : IdsV w am cam m) (v : Bool) (hv : decide (l = m) = v) :
    Calls Tryz.prog 110 #[.slice ao l.length cap, .slice am m.length cam] w fun e w' => e = .returned (.bool v) ∧ Below w.heap.size w w' := by
  obtain ⟨hl1, hl2⟩ := h.le
  unfold maxLen at hl2
  obtain ⟨hm1, hm2⟩ := h2.le
  unfold maxLen at hm2
  have H := Lib.hid h
  have H2 := Lib.hid h2
  have HV := Lib.hid hv
  clear h h2 hv
  cases hlen : ((l.length : Int) != (m.length : Int)) with
  | true =>
    have HE := Lib.hid (show v = false by
      rw [← HV.out, decide_eq_false_iff_not]
      rintro rfl
      simp at hlen)
    go_enter Tryz.func110, Tryz.ntmps110
    go_wp2_with fail
    go_ret
    exact ⟨by rw [HE.out]; rfl, Below.refl _ _⟩
  | false =>
    have hle : l.length = m.length := Int.ofNat_inj.1 (by simpa using hlen)
    go_enter Tryz.func110, Tryz.ntmps110
    go_wp2_with fail
    go_loopw [13] (fun iv wr => ∃ k : Nat, iv = .int .i64 k ∧ k ≤ l.length ∧ Below w.heap.size w wr ∧ l.take k = m.take k) (fun iv _ => l.length - (intOf iv).toNat)
    case atStart => exact ⟨0, rfl, Nat.zero_le _, Below.refl _ _, by simp⟩
    case round =>
      obtain ⟨k, rfl, hk, hb, htk⟩ := hrel
      have HTK := Lib.hid htk
      have HBR := Lib.hid hb
      clear htk hb
      by_cases hkl : k < l.length
      · have hii : (k : Int) < (l.length : Int) := by omega
        have hjj : (k : Int) < (m.length : Int) := by omega
        obtain ⟨x, hx⟩ : ∃ x, l[k]? = some x := ⟨_, List.getElem?_eq_getElem hkl⟩
        obtain ⟨y, hy⟩ : ∃ x, m[k]? = some x := ⟨_, List.getElem?_eq_getElem (by omega)⟩
        obtain ⟨b, off, rfl, hbl, c0, c1⟩ := H.out.row k x hx
        obtain ⟨b2, off2, rfl, hbl2, d0, d1⟩ := H2.out.row k y hy
        have k0 := Kin.cell ((HBR.out.cell (p := ⟨b, _, none⟩) hbl).trans c0)
        have k1 := Kin.cell ((HBR.out.cell (p := ⟨b, _, none⟩) hbl).trans c1)
        have k2 := Kin.cell ((HBR.out.cell (p := ⟨_, _, none⟩) hbl2).trans d0)
        have k3 := Kin.cell ((HBR.out.cell (p := ⟨_, _, none⟩) hbl2).trans d1)
        clear c0 c1 d0 d1
        by_cases hxi : x = y
        · have HN := Lib.hid (show l.take (k + 1) = m.take (k + 1) by rw [List.take_add_one, List.take_add_one, HTK.out, hx, hy, hxi])
          subst hxi
          have q := neq_no x
          clear hx hy
          go_upto_region 6 with fail
          refine wp_region_kin (by kernel_rfl) (by kernel_rfl) ?_
          repeat (go_big_quiet_step (fail))
          refine wpQuiet_nil ?_
          intro _ hxx
          obtain ⟨xk, rfl⟩ := hxx
          have HBK := Lib.hid (HBR.out.trans (xk.h.mono HBR.out.size))
          clear k0 k1 k2 k3 q
          go_wp2_with fail
          go_roundw
          case rel => exact ⟨k + 1, by go_num, by omega, HBK.out, HN.out⟩
          case measure => simp [intOf]; omega
        · have HE := Lib.hid (show v = false by
            rw [← HV.out, decide_eq_false_iff_not]
            rintro rfl
            rw [hx] at hy
            exact hxi (Option.some.inj hy))
          have q := neq_yes hxi
          clear hx hy hxi
          go_upto_region 6 with fail
          refine wp_region_kin (by kernel_rfl) (by kernel_rfl) ?_
          repeat (go_big_quiet_step (fail))
          refine wpQuiet_nil ?_
          intro _ hxx
          obtain ⟨xk, rfl⟩ := hxx
          have HBK := Lib.hid (HBR.out.trans (xk.h.mono HBR.out.size))
          clear k0 k1 k2 k3 q
          go_wp2_with fail
          go_ret
          exact ⟨by rw [HE.out]; rfl, HBK.out⟩
      · obtain rfl : k = l.length := by omega
        have hii : ¬ (l.length : Int) < (l.length : Int) := by omega
        have HE := Lib.hid (show v = true by
          rw [← HV.out, decide_eq_true_eq]
          have := HTK.out
          rwa [List.take_of_length_le (Nat.le_refl _), List.take_of_length_le (by omega)] at this)
        go_wp2_with fail
        go_ret
        exact ⟨by rw [HE.out]; rfl, HBR.out⟩
set_option maxRecDepth 100000 in
set_option maxHeartbeats 4000000 in
theorem equal_any (l m : List Id) (ao am : Option Addr) (cap cam : Nat) (w : World) (h : IdsV w ao cap l) (h2 : IdsV w am cam m) (v : Bool) (hv : decide (l = m) = v) :
    Calls Tryz.prog 88 #[.slice ao l.length cap, .slice am m.length cam] w fun e w' => e = .returned (.bool v) ∧ Below w.heap.size w w' := by
  have HC := Lib.hid (sequal_any l m ao am cap cam w h h2 v hv)
  clear h h2 hv
  go_enter Tryz.func88, Tryz.ntmps88
  go_wp2_with fail
  refine HC.out.mono ?_
  rintro e w1 ⟨rfl, hb⟩
  have HB := Lib.hid hb
  clear hb HC
  go_wp2_with fail
  go_ret
  exact ⟨rfl, HB.out⟩
end Go.Proofs.YtlbkbjeajcadiaaGreatDoor.O
