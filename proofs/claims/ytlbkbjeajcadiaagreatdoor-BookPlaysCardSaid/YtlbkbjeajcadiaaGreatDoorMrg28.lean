/- Several texts in one. -/
import Derived.Test.YtlbkbjeajcadiaaGreatDoorMrg26

/- The document's Wall, Next. -/
namespace Go.Proofs.YtlbkbjeajcadiaaGreatDoor.B
open Go.RowKit Go.Proofs.YtlbkbjeajcadiaaGreatDoor.M Go.BigFrame Go.Maps Go.Proofs.YtlbkbjeajcadiaaGreatDoor.O Go.Proofs.YtlbkbjeajcadiaaGreatDoor.P Go.Proofs.YtlbkbjeajcadiaaGreatDoor.Mp Go.Proofs.YtlbkbjeajcadiaaGreatDoor.Rw Go.Proofs.YtlbkbjeajcadiaaGreatDoor.R
set_option linter.unusedVariables false
set_option linter.unusedSimpArgs false

/-- the document's records that hold a barrier, from a state on -/
def wallL (l : List Rv) (s : Int) : Bool := l.any fun x => decide (x.cmd.kind = 6) && decide (s ≤ x.st)
theorem wallL_none {l : List Rv} {s : Int} (h : ∀ (j : Nat) (x : Rv), j < l.length → l[j]? = some x → (decide (x.cmd.kind = 6) && decide (s ≤ x.st)) = false) : wallL l s = false := by
  unfold wallL
  rw [List.any_eq_false]
  intro x hx
  obtain ⟨j, hj⟩ := List.mem_iff_getElem?.1 hx
  rw [h j x (List.getElem?_eq_some_iff.1 hj).1 hj]
  exact Bool.false_ne_true
theorem wallL_some {l : List Rv} {s : Int} {k : Nat} {x : Rv} (hx : l[k]? = some x) (h : (decide (x.cmd.kind = 6) && decide (s ≤ x.st)) = true) : wallL l s = true := by
  unfold wallL
  rw [List.any_eq_true]
  exact ⟨x, List.mem_of_getElem? hx, h⟩
set_option maxRecDepth 100000 in
set_option maxHeartbeats 4000000 in
theorem refwall_any (X : List Rv) (ao : Option Addr) (cap : Nat) (s : Int) (w : World) (h : RecsV w ao cap X) (v : Bool) (hv : wallL X s = v) :
    Calls Tryz.prog 25 #[.slice ao X.length cap, .int .i64 s] w fun e w' => e = .returned (.bool v) ∧ w' = w := by
  obtain ⟨hl1, hl2⟩ := h.le
  unfold maxLen at hl2
  have H := Lib.hid h
  have HV := Lib.hid hv
  clear h hv
  go_enter Tryz.func25, Tryz.ntmps25
  go_wp2_with fail
  go_loopw [5] (fun iv wr => ∃ k : Nat, iv = .int .i64 k ∧ k ≤ X.length ∧ wr = w ∧ (∀ (j : Nat) (x : Rv), j < k → X[j]? = some x → (decide (x.cmd.kind = 6) && decide (s ≤ x.st)) = false)) (fun iv _ => X.length - (intOf iv).toNat)
  case atStart => exact ⟨0, rfl, Nat.zero_le _, rfl, fun j x hj => absurd hj (by omega)⟩
  case round =>
    obtain ⟨k, rfl, hk, rfl, hno⟩ := hrel
    have HNO := Lib.hid hno
    clear hno
    by_cases hkl : k < X.length
    · have hii : (k : Int) < (X.length : Int) := by omega
      obtain ⟨x, hx⟩ : ∃ x, X[k]? = some x := ⟨_, List.getElem?_eq_getElem hkl⟩
      obtain ⟨b, off, e0, hbl, hrec⟩ := H.out.row k x hx
      subst e0
      have HXK := Lib.hid hx
      have c2 := hrec.c2
      have c7 := hrec.c7
      clear hx hrec hbl
      have HN := Lib.hid (show (decide (x.cmd.kind = 6) && decide (s ≤ x.st)) = false → ∀ (j : Nat) (y : Rv), j < k + 1 → X[j]? = some y → (decide (y.cmd.kind = 6) && decide (s ≤ y.st)) = false from fun he j y hj hy => by
        by_cases e : j = k
        · subst e
          rw [HXK.out] at hy
          cases hy
          exact he
        · exact HNO.out j y (by omega) hy)
      cases h6 : (x.cmd.kind == 6) with
      | false =>
        have HN2 := Lib.hid (HN.out (by
          have h7 : x.cmd.kind ≠ 6 := by simpa using h6
          rw [decide_eq_false h7]; rfl))
        go_wp2_with fail
        go_roundw
        case rel => exact ⟨k + 1, by go_num, by omega, (by first | rfl | trivial), HN2.out⟩
        case measure => simp [intOf]; omega
      | true =>
        have h7 : x.cmd.kind = 6 := by simpa using h6
        have H7 := Lib.hid h7
        clear h7
        by_cases hs : s ≤ x.st
        · have HE := Lib.hid (show v = true by
            rw [← HV.out]
            exact wallL_some HXK.out (by rw [decide_eq_true H7.out, decide_eq_true hs]; rfl))
          go_wp2_with fail
          go_ret
          exact ⟨by rw [HE.out]; rfl, rfl⟩
        · have HN2 := Lib.hid (HN.out (by rw [decide_eq_false hs, Bool.and_false]))
          go_wp2_with fail
          go_roundw
          case rel => exact ⟨k + 1, by go_num, by omega, (by first | rfl | trivial), HN2.out⟩
          case measure => simp [intOf]; omega
    · obtain rfl : k = X.length := by omega
      have hii : ¬ (X.length : Int) < (X.length : Int) := by omega
      have HE := Lib.hid (show v = false by rw [← HV.out]; exact wallL_none HNO.out)
      go_wp2_with fail
      go_ret
      exact ⟨by rw [HE.out]; rfl, rfl⟩
/-- the greatest number of a replica's in the document's records -/
def nextL (l : List Rv) (r : Int) : Int := l.foldl (fun m x => if x.id.r = r then max m x.id.n else m) 0
theorem nextL_step {l : List Rv} {r : Int} {k : Nat} {x : Rv} (hx : l[k]? = some x) : nextL (l.take (k + 1)) r = if x.id.r = r then max (nextL (l.take k) r) x.id.n else nextL (l.take k) r := by
  unfold nextL
  rw [List.take_add_one, hx, List.foldl_append]
  rfl
set_option maxRecDepth 100000 in
set_option maxHeartbeats 4000000 in
theorem refnext_any (X : List Rv) (ao : Option Addr) (cap : Nat) (r : Int) (w : World) (h : RecsV w ao cap X) (hid : ∀ x ∈ X, 0 ≤ x.id.n ∧ x.id.n ≤ 1099511627776) (v : Int) (hv : nextL X r + 1 = v) :
    Calls Tryz.prog 24 #[.slice ao X.length cap, .int .i64 r] w fun e w' => e = .returned (.int .i64 v) ∧ w' = w := by
  obtain ⟨hl1, hl2⟩ := h.le
  unfold maxLen at hl2
  have H := Lib.hid h
  have HV := Lib.hid hv
  have HID := Lib.hid hid
  clear h hv hid
  go_enter Tryz.func24, Tryz.ntmps24
  go_wp2_with fail
  go_loopw [5, 6] (fun mv iv wr => ∃ (k : Nat) (m : Int), mv = .int .i64 m ∧ iv = .int .i64 k ∧ k ≤ X.length ∧ wr = w ∧ nextL (X.take k) r = m ∧ 0 ≤ m ∧ m ≤ 1099511627776) (fun _ iv _ => X.length - (intOf iv).toNat)
  case atStart => exact ⟨0, 0, rfl, rfl, Nat.zero_le _, rfl, rfl, by decide, by decide⟩
  case round =>
    obtain ⟨k, m, rfl, rfl, hk, rfl, hm, hm0, hm1⟩ := hrel
    have HM := Lib.hid hm
    clear hm
    by_cases hkl : k < X.length
    · have hii : (k : Int) < (X.length : Int) := by omega
      obtain ⟨x, hx⟩ : ∃ x, X[k]? = some x := ⟨_, List.getElem?_eq_getElem hkl⟩
      obtain ⟨b, off, e0, hbl, hrec⟩ := H.out.row k x hx
      subst e0
      have HST := Lib.hid (nextL_step (r := r) hx)
      have HQ := Lib.hid (HID.out x (List.mem_of_getElem? hx))
      have c0 := hrec.c0
      have c1 := hrec.c1
      clear hx hrec hbl
      cases h1 : (x.id.r == r) with
      | false =>
        have HN := Lib.hid (show nextL (X.take (k + 1)) r = m by
          have h7 : x.id.r ≠ r := by simpa using h1
          rw [HST.out, if_neg h7, HM.out])
        go_wp2_with fail
        go_roundw
        case rel => exact ⟨k + 1, m, rfl, by go_num, by omega, (by first | rfl | trivial), HN.out, hm0, hm1⟩
        case measure => simp [intOf]; omega
      | true =>
        have HN := Lib.hid (show nextL (X.take (k + 1)) r = max m x.id.n by
          have h7 : x.id.r = r := by simpa using h1
          rw [HST.out, if_pos h7, HM.out])
        go_wp2_with fail
        go_roundw
        case rel => exact ⟨k + 1, max m x.id.n, rfl, by go_num, by omega, (by first | rfl | trivial), HN.out, by have := HQ.out; omega, by have := HQ.out; omega⟩
        case measure => simp [intOf]; omega
    · obtain rfl : k = X.length := by omega
      have hii : ¬ (X.length : Int) < (X.length : Int) := by omega
      have HE := Lib.hid (show v = m + 1 by
        rw [← HV.out, ← HM.out, List.take_of_length_le (Nat.le_refl _)])
      go_wp2_with fail
      go_ret
      exact ⟨by rw [HE.out]; rfl, rfl⟩
end Go.Proofs.YtlbkbjeajcadiaaGreatDoor.B

/- The document's At, Get. -/
namespace Go.Proofs.YtlbkbjeajcadiaaGreatDoor.B
open Go.RowKit Go.Proofs.YtlbkbjeajcadiaaGreatDoor.M Go.BigFrame Go.Maps Go.Proofs.YtlbkbjeajcadiaaGreatDoor.O Go.Proofs.YtlbkbjeajcadiaaGreatDoor.P Go.Proofs.YtlbkbjeajcadiaaGreatDoor.Mp Go.Proofs.YtlbkbjeajcadiaaGreatDoor.Rw Go.Proofs.YtlbkbjeajcadiaaGreatDoor.R
set_option linter.unusedVariables false
set_option linter.unusedSimpArgs false

/-- where a record of an id stands -/
def AtR (X : List Rv) (i : O.Id) (v : Int) : Prop := (v = -1 ∧ refGet X i = rv0 i) ∨ ∃ k : Nat, v = k ∧ X[k]? = some (refGet X i)
theorem at_here {X : List Rv} {k : Nat} {x : Rv} (hx : X[k]? = some x) (hno : ∀ (j : Nat) (y : Rv), j < k → X[j]? = some y → y.id ≠ x.id) : AtR X x.id k := by
  refine .inr ⟨k, rfl, ?_⟩
  rw [hx]
  unfold refGet
  have hf : X.find? (fun y => decide (y.id = x.id)) = some x := by
    rw [List.find?_eq_some_iff_getElem]
    obtain ⟨h1, h2⟩ := List.getElem?_eq_some_iff.1 hx
    refine ⟨by simp, k, h1, h2, fun j hj => ?_⟩
    have := hno j X[j] hj (List.getElem?_eq_getElem (by omega))
    simp [this]
  rw [hf]
  rfl
theorem at_none {X : List Rv} {i : O.Id} (hno : ∀ (j : Nat) (y : Rv), j < X.length → X[j]? = some y → y.id ≠ i) : AtR X i (-1) := by
  refine .inl ⟨rfl, ?_⟩
  unfold refGet
  have hf : X.find? (fun y => decide (y.id = i)) = none := by
    rw [List.find?_eq_none]
    intro x hx
    obtain ⟨j, hj⟩ := List.mem_iff_getElem?.1 hx
    have := hno j x (List.getElem?_eq_some_iff.1 hj).1 hj
    simp [this]
  rw [hf]
  rfl
set_option maxRecDepth 100000 in
set_option maxHeartbeats 4000000 in
theorem refat_any (X : List Rv) (ao : Option Addr) (cap : Nat) (i : O.Id) (w : World) (h : RecsV w ao cap X) :
    Calls Tryz.prog 43 #[.slice ao X.length cap, idV i] w fun e w' => ∃ v, e = .returned (.int .i64 v) ∧ (AtR X i v ∧ Below w.heap.size w w') := by
  obtain ⟨hl1, hl2⟩ := h.le
  unfold maxLen at hl2
  have H := Lib.hid h
  clear h
  go_enter Tryz.func43, Tryz.ntmps43
  go_upto_region 1 with fail
  obtain ⟨W, hW⟩ : ∃ W, W = w.alloc (idO i) := ⟨_, rfl⟩
  rw [← hW]
  have HB : Hid (Below w.heap.size w W) := Lib.hid (by rw [hW]; exact (Below.refl _ _).alloc (Nat.le_refl _) _)
  have HX : Hid (W.heap[w.heap.size]? = some (idO i)) := Lib.hid (by rw [hW]; exact heap_alloc_new w _)
  clear hW
  have HL := Lib.hid (H.out.below HB.out)
  have hlt := M.heap_lt HX.out
  clear H
  go_wp2_with fail
  go_loopw [5] (fun iv wr => ∃ k : Nat, iv = .int .i64 k ∧ k ≤ X.length ∧ Below W.heap.size W wr ∧ (∀ (j : Nat) (y : Rv), j < k → X[j]? = some y → y.id ≠ i)) (fun iv _ => X.length - (intOf iv).toNat)
  case atStart => exact ⟨0, rfl, Nat.zero_le _, Below.refl _ _, fun j x hj => absurd hj (by omega)⟩
  case round =>
    obtain ⟨k, rfl, hk, hb, hno⟩ := hrel
    have HNO := Lib.hid hno
    have HBR := Lib.hid hb
    clear hno hb
    by_cases hkl : k < X.length
    · have hii : (k : Int) < (X.length : Int) := by omega
      obtain ⟨x, hx⟩ : ∃ x, X[k]? = some x := ⟨_, List.getElem?_eq_getElem hkl⟩
      obtain ⟨b, off, e0, hbl, hrec⟩ := HL.out.row k x hx
      subst e0
      have hrb := hrec.below HBR.out hbl
      obtain ⟨⟨d0, d1⟩, _⟩ := box2 HX.out
      have k0 := Kin.cell hrb.c0
      have k1 := Kin.cell hrb.c1
      have k2 := Kin.cell ((HBR.out.cell (p := ⟨w.heap.size, _, none⟩) hlt).trans d0)
      have k3 := Kin.cell ((HBR.out.cell (p := ⟨w.heap.size, _, none⟩) hlt).trans d1)
      have HXK := Lib.hid hx
      clear d0 d1 hrb hrec
      by_cases hxi : x.id = i
      · have HE := Lib.hid (show AtR X i k by rw [← hxi]; exact at_here hx (by rw [hxi]; exact HNO.out))
        subst hxi
        have q := eql_yes x.id
        clear hx
        go_upto_region 4 with fail
        refine wp_region_kin (by kernel_rfl) (by kernel_rfl) ?_
        repeat (go_big_quiet_step (fail))
        refine wpQuiet_nil ?_
        intro _ hxx
        obtain ⟨xk, rfl⟩ := hxx
        have HBK := Lib.hid (HBR.out.trans (xk.h.mono HBR.out.size))
        clear k0 k1 k2 k3 q
        go_wp2_with fail
        go_ret
        exact ⟨k, rfl, HE.out, HB.out.trans (HBK.out.mono HB.out.size)⟩
      · have HN := Lib.hid (show ∀ (j : Nat) (y : Rv), j < k + 1 → X[j]? = some y → y.id ≠ i from fun j y hj hy => by
          by_cases e : j = k
          · subst e; rw [HXK.out] at hy; cases hy; exact hxi
          · exact HNO.out j y (by omega) hy)
        have q := eql_no hxi
        clear hx hxi
        go_upto_region 4 with fail
        refine wp_region_kin (by kernel_rfl) (by kernel_rfl) ?_
        repeat (go_big_quiet_step (fail))
        refine wpQuiet_nil ?_
        intro _ hxx
        obtain ⟨xk, rfl⟩ := hxx
        have HBK := Lib.hid (HBR.out.trans (xk.h.mono HBR.out.size))
        clear k0 k1 k2 k3 q
        go_wp2_with fail
        go_roundw
        case rel => exact ⟨k + 1, by go_num, by omega, HBK.out, HN.out⟩
        case measure => simp [intOf]; omega
    · obtain rfl : k = X.length := by omega
      have hii : ¬ (X.length : Int) < (X.length : Int) := by omega
      have HE := Lib.hid (at_none HNO.out)
      go_wp2_with fail
      go_ret
      exact ⟨-1, rfl, HE.out, HB.out.trans (HBR.out.mono HB.out.size)⟩
set_option maxRecDepth 100000 in
set_option maxHeartbeats 4000000 in
theorem refget_any (X : List Rv) (ao : Option Addr) (cap : Nat) (i : O.Id) (w : World) (h : RecsV w ao cap X) :
    Calls Tryz.prog 21 #[.slice ao X.length cap, idV i] w fun e w' => e = .returned (recV (refGet X i)) ∧ Below w.heap.size w w' := by
  obtain ⟨hl1, hl2⟩ := h.le
  unfold maxLen at hl2
  have H := Lib.hid h
  clear h
  go_enter Tryz.func21, Tryz.ntmps21
  go_upto_region 1 with fail
  obtain ⟨W, hW⟩ : ∃ W, W = (w.alloc (idO i)).alloc zrO := ⟨_, rfl⟩
  have HB : Hid (Below w.heap.size w W) := Lib.hid (by rw [hW]; exact ((Below.refl _ _).alloc (Nat.le_refl _) _).alloc (by simp) _)
  have HX : Hid (W.heap[w.heap.size]? = some (idO i)) := Lib.hid (by rw [hW, heap_al, if_neg (by simp)]; exact heap_alloc_new w _)
  have HZ : Hid (W.heap[w.heap.size + 1]? = some (recO (rv0 ⟨0, 0⟩))) := Lib.hid (by rw [hW, heap_al, if_pos (by simp)]; rfl)
  rw [← hW]
  clear hW
  have HAT := Lib.hid (refat_any X ao cap i W (H.out.below HB.out))
  obtain ⟨⟨d0, d1⟩, _⟩ := box2 HX.out
  go_wp2_with fail
  refine HAT.out.mono ?_
  rintro e w3 ⟨v, rfl, hat, hb3⟩
  have HX3 := Lib.hid ((hb3.block _ (M.heap_lt HX.out)).trans HX.out)
  have HZ3 := Lib.hid ((hb3.block _ (M.heap_lt HZ.out)).trans HZ.out)
  have HB3 := Lib.hid (HB.out.trans (hb3.mono HB.out.size))
  clear hb3 HAT d0 d1
  obtain ⟨y, hy⟩ : ∃ y, refGet X i = y := ⟨_, rfl⟩
  have HY := Lib.hid hy
  rcases hat with ⟨rfl, hg⟩ | ⟨k, rfl, hg⟩
  · have HG := Lib.hid hg
    clear hg hy
    obtain ⟨⟨d0, d1⟩, _⟩ := box2 HX3.out
    go_wp2_with (refine wpList_storeRec (by rfl) _ _ (by rfl) (by rfl) (w.heap.size + 1) (rv0 i) (rv0 ⟨0, 0⟩) (by rfl) (by rfl) HZ3.out ?_; intro w6 hx6 hm6; have HX6 := Lib.hid hx6; have HM6 := Lib.hid hm6; clear hx6 hm6)
    refine ret_rec (w.heap.size + 1) (rv0 i) 4 (by rfl) (by rfl) HX6.out rfl ?_
    exact ⟨by rw [HG.out], HB3.out.trans (HM6.out.below (fun j e => by omega) HB3.out.size)⟩
  · rw [hy] at hg
    have hkl : k < X.length := (List.getElem?_eq_some_iff.1 hg).1
    have hii : (k : Int) < (X.length : Int) := by omega
    obtain ⟨b, off, e0, hbl, hrec⟩ := H.out.row k y hg
    subst e0
    obtain ⟨c0, c1, c2, c3, c4, c5, c6, c7, c8, c9, c10, c11, c12, c13, c14, c15⟩ := hrec.below HB3.out hbl
    clear hg hy hrec hbl
    go_wp2_with (refine wpList_storeRec (by rfl) _ _ (by rfl) (by rfl) (w.heap.size + 1) y (rv0 ⟨0, 0⟩) (by rfl) (by rfl) HZ3.out ?_; intro w6 hx6 hm6; have HX6 := Lib.hid hx6; have HM6 := Lib.hid hm6; clear hx6 hm6)
    refine ret_rec (w.heap.size + 1) y 4 (by rfl) (by rfl) HX6.out rfl ?_
    exact ⟨by rw [HY.out], HB3.out.trans (HM6.out.below (fun j e => by omega) HB3.out.size)⟩
end Go.Proofs.YtlbkbjeajcadiaaGreatDoor.B

/- The document's With. -/
namespace Go.Proofs.YtlbkbjeajcadiaaGreatDoor.B
open Go.RowKit Go.Proofs.YtlbkbjeajcadiaaGreatDoor.M Go.BigFrame Go.Maps Go.Proofs.YtlbkbjeajcadiaaGreatDoor.O Go.Proofs.YtlbkbjeajcadiaaGreatDoor.P Go.Proofs.YtlbkbjeajcadiaaGreatDoor.Mp Go.Proofs.YtlbkbjeajcadiaaGreatDoor.Rw Go.Proofs.YtlbkbjeajcadiaaGreatDoor.R
set_option linter.unusedVariables false
set_option linter.unusedSimpArgs false

/-- records of the call's own -/
abbrev OwnRc (w : World) (B : Nat) (oo : Option Addr) (oc : Nat) (X : List Rv) : Prop := w.ownsRow B 40 16 (.slice oo X.length oc) X.length (X.flatMap recC)
theorem recC_one (x : Rv) : ∀ v ∈ recC x, v.oneCell' = true := by
  intro v hv
  simp only [recC, recA, List.mem_cons, List.not_mem_nil, or_false] at hv
  rcases hv with rfl | rfl | rfl | rfl | rfl | rfl | rfl | rfl | rfl | rfl | rfl | rfl | rfl | rfl | rfl | rfl <;> rfl
theorem info_recs : (Tryz.prog.info? 40).map (fun i => (i.zero, i.size, i.bytes)) = some (some (recV ⟨⟨0, 0⟩, 0, ⟨0, 0⟩, ⟨0, 0⟩, ⟨0, 0, 0, P.nul, P.nul, 0⟩, [], 0, 0, none, 0⟩), 16, 160) := by kernel_rfl
/-- what With does first at a record -/
def wHalf (r : Rv) (s : List Rv × Bool) (x : Rv) : List Rv × Bool := if s.2 = false ∧ ilt x.id r.id = false then (s.1 ++ [r], true) else s
theorem wStep_half (r : Rv) (s : List Rv × Bool) (x : Rv) : wStep r s x = if x.id = r.id then wHalf r s x else ((wHalf r s x).1 ++ [x], (wHalf r s x).2) := by
  unfold wStep wHalf
  by_cases h1 : x.id = r.id <;> by_cases h2 : s.2 = false ∧ ilt x.id r.id = false <;> simp [h1, h2]
def wFold (X : List Rv) (r : Rv) : List Rv × Bool := X.foldl (wStep r) ([], false)
theorem wFold_next {X : List Rv} {r x : Rv} {k : Nat} (h : X[k]? = some x) : wFold (X.take (k + 1)) r = wStep r (wFold (X.take k) r) x := by
  unfold wFold
  rw [List.take_add_one, h, List.foldl_append]
  rfl
theorem wfold_sub (r : Rv) : ∀ (l : List Rv) (s : List Rv × Bool) (y : Rv), y ∈ (l.foldl (wStep r) s).1 → y ∈ s.1 ∨ y ∈ l ∨ y = r := by
  intro l
  induction l with
  | nil => intro s y h; exact .inl h
  | cons a t ih =>
    intro s y h
    rcases ih _ y h with h | h | h
    · rw [wStep_half] at h
      have key : ∀ z, z ∈ (wHalf r s a).1 → z ∈ s.1 ∨ z = r := by
        intro z hz
        unfold wHalf at hz
        split at hz
        · rcases List.mem_append.1 hz with h | h
          · exact .inl h
          · exact .inr (List.mem_singleton.1 h)
        · exact .inl hz
      split at h
      · rcases key y h with h | h
        · exact .inl h
        · exact .inr (.inr h)
      · rcases List.mem_append.1 h with h | h
        · rcases key y h with h | h
          · exact .inl h
          · exact .inr (.inr h)
        · exact .inr (.inl (by rw [List.mem_singleton.1 h]; exact List.mem_cons_self))
    · exact .inr (.inl (List.mem_cons_of_mem _ h))
    · exact .inr (.inr h)
theorem with_sub {X : List Rv} {r y : Rv} (h : y ∈ withL X r) : y ∈ X ∨ y = r := by
  unfold withL at h
  have key := wfold_sub r X ([], false) y
  split at h
  · exact (key h).resolve_left (fun h => by cases h)
  · rcases List.mem_append.1 h with h | h
    · exact (key h).resolve_left (fun h => by cases h)
    · exact .inr (List.mem_singleton.1 h)
/-- what With has come to -/
structure WiS (W wr : World) (oo : Option Addr) (oc : Nat) (M : List Rv) (n : Nat) : Prop where
  own : OwnRc wr W.heap.size oo oc M
  bel : Below W.heap.size W wr
  len : M.length ≤ n
theorem with_out {w W wr : World} {ao oo : Option Addr} {cap oc : Nat} {X : List Rv} {r : Rv} (h : RecsV w ao cap X) (h0 : RvOk w r) (hb : Below w.heap.size w W) (hown : OwnRc wr W.heap.size oo oc (withL X r)) (hbel : Below W.heap.size W wr) (hn : (withL X r).length ≤ 2 * X.length + 1) :
    RecsV wr oo oc (withL X r) ∧ (∀ a, oo = some a → w.heap.size ≤ a.block) ∧ (withL X r).length ≤ 2 * X.length + 1 ∧ (∀ y ∈ withL X r, y ∈ X ∨ y = r) ∧ Below w.heap.size w wr := by
  have hb2 : Below w.heap.size w wr := hb.trans (hbel.mono hb.size)
  refine ⟨RecsV.of_own hown (fun y hy => ?_), fun a e => ?_, hn, fun y hy => with_sub hy, hb2⟩
  · rcases with_sub hy with h1 | h1
    · exact (h.ok y h1).below hb2
    · rw [h1]; exact h0.below hb2
  · subst e
    exact Nat.le_trans hb.size (hown.lt a.block rfl).1
set_option maxRecDepth 100000 in
set_option maxHeartbeats 4000000 in
theorem refwith_any (X : List Rv) (ao : Option Addr) (cap : Nat) (r : Rv) (w : World) (h : RecsV w ao cap X) (h0 : RvOk w r) (hl : X.length ≤ 1000) :
    Calls Tryz.prog 38 #[.slice ao X.length cap, recV r] w fun e w' => ∃ oo oc, e = .returned (.slice oo (withL X r).length oc) ∧ (RecsV w' oo oc (withL X r) ∧ (∀ a, oo = some a → w.heap.size ≤ a.block) ∧ (withL X r).length ≤ 2 * X.length + 1 ∧ (∀ y ∈ withL X r, y ∈ X ∨ y = r) ∧ Below w.heap.size w w') := by
  obtain ⟨hl1, hl2⟩ := h.le
  unfold maxLen at hl2
  obtain ⟨i0, hi, hz0, hz1, hz2⟩ := info_parts info_recs
  have H := Lib.hid h
  have H0 := Lib.hid h0
  clear h h0
  go_enter Tryz.func38, Tryz.ntmps38
  go_upto_region 1 with fail
  obtain ⟨W, hW⟩ : ∃ W, W = w.alloc (recO r) := ⟨_, rfl⟩
  rw [← hW]
  have HB : Hid (Below w.heap.size w W) := Lib.hid (by rw [hW]; exact (Below.refl _ _).alloc (Nat.le_refl _) _)
  have HX : Hid (W.heap[w.heap.size]? = some (recO r)) := Lib.hid (by rw [hW]; exact heap_alloc_new w _)
  clear hW
  go_wp2_with fail
  go_loopw [5, 6, 7] (fun ov dv kv wr => ∃ (k : Nat) (d : Bool) (L : List Rv) (oo : Option Addr) (oc : Nat), ov = .slice oo L.length oc ∧ dv = .bool d ∧ kv = .int .i64 k ∧ k ≤ X.length ∧ wFold (X.take k) r = (L, d) ∧ WiS W wr oo oc L (2 * k)) (fun _ _ kv _ => X.length - (intOf kv).toNat)
  case atStart => exact ⟨0, false, [], none, 0, rfl, rfl, rfl, Nat.zero_le _, rfl, World.ownsRow_nil _ _ _ _, Below.refl _ _, Nat.zero_le _⟩
  case round =>
    obtain ⟨k, d, L, oo, oc, rfl, rfl, rfl, hk, hf, hs⟩ := hrel
    have HF := Lib.hid hf
    have HS := Lib.hid hs
    have hLl := hs.len
    have hWr := hs.bel.size
    clear hf hs
    by_cases hkl : k < X.length
    · have hii : (k : Int) < (X.length : Int) := by omega
      obtain ⟨x, hx⟩ : ∃ x, X[k]? = some x := ⟨_, List.getElem?_eq_getElem hkl⟩
      have HNX := Lib.hid (show wFold (X.take (k + 1)) r = if x.id = r.id then wHalf r (L, d) x else ((wHalf r (L, d) x).1 ++ [x], (wHalf r (L, d) x).2) by rw [wFold_next hx, HF.out, wStep_half])
      obtain ⟨b, off, e0, hbl, hrec⟩ := H.out.row k x hx
      subst e0
      have HRC := Lib.hid (show ∀ wx, Below W.heap.size W wx → RecAt wx b (off + k * 16) x from fun wx hb => hrec.below (HB.out.trans (hb.mono HB.out.size)) hbl)
      have HBX := Lib.hid (show ∀ wx, Below W.heap.size W wx → wx.heap[w.heap.size]? = some (recO r) from fun wx hb => (hb.block _ (M.heap_lt HX.out)).trans HX.out)
      clear hx hrec hbl
      go_upto_region 6 with fail
      obtain ⟨cc, hcc⟩ : ∃ c, (!d && !ilt x.id r.id) = c := ⟨_, rfl⟩
      have HCC := Lib.hid hcc
      clear hcc
      go_cut [26] (fun cv wx => cv = .bool cc ∧ Below wr.heap.size wr wx)
      case first =>
        have hrb := HRC.out wr HS.out.bel
        obtain ⟨d0, d1, _⟩ := box16 (HBX.out wr HS.out.bel)
        have k0 := Kin.cell hrb.c0
        have k1 := Kin.cell hrb.c1
        have k2 := Kin.cell d0
        have k3 := Kin.cell d1
        clear hrb d0 d1
        obtain ⟨b2, hb2⟩ : ∃ b2, ilt x.id r.id = b2 := ⟨_, rfl⟩
        have HLT := Lib.hid hb2
        have HRL := Lib.hid (fun (y : Kin wr) => refless_any x.id r.id y.w b2 HLT.out)
        clear hb2
        cases d with
        | true =>
          have HE := Lib.hid (show false = cc by rw [← HCC.out]; rfl)
          refine wp_region_kin (by kernel_rfl) (by kernel_rfl) ?_
          repeat (go_big_quiet_step (fail))
          refine wpQuiet_nil ?_
          intro _ hxx
          obtain ⟨xk, rfl⟩ := hxx
          have HX2 := Lib.hid xk.h
          go_wp2_with fail
          go_meet
          exact ⟨by rw [HE.out], HX2.out⟩
        | false =>
          have HE := Lib.hid (show (!b2) = cc by rw [← HCC.out, HLT.out]; rfl)
          refine wp_region_kin (by kernel_rfl) (by kernel_rfl) ?_
          repeat (go_big_quiet_step ((go_at_call 71; exact Kin.grew _ (HRL.out _))))
          refine wpQuiet_nil ?_
          intro _ hxx
          obtain ⟨xk, rfl⟩ := hxx
          have HX2 := Lib.hid xk.h
          go_wp2_with fail
          go_meet
          exact ⟨by rw [HE.out], HX2.out⟩
      case rest =>
      obtain ⟨rfl, hb5⟩ := hcut
      obtain ⟨w5, rfl⟩ : ∃ w1, w1 = wc := ⟨_, rfl⟩
      have HBW := Lib.hid (HS.out.bel.trans (hb5.mono hWr))
      have hsz := HBW.out.size
      have HO2 := Lib.hid (Go.Proofs.YtlbkbjeajcadiaaGreatDoor.R.own_below HS.out.own hb5)
      clear hb5
      go_upto_if 26 with fail
      go_cut [5, 6] (fun ov dv wx => ∃ (d2 : Bool) (L2 : List Rv) (oo2 : Option Addr) (oc2 : Nat), ov = .slice oo2 L2.length oc2 ∧ dv = .bool d2 ∧ wHalf r (L, d) x = (L2, d2) ∧ WiS W wx oo2 oc2 L2 (2 * k + 1))
      case first =>
        cases cc with
        | false =>
          have HH := Lib.hid (show wHalf r (L, d) x = (L, d) from if_neg (fun h => by have h1 : d = false := h.1; have h2 : ilt x.id r.id = false := h.2; have := HCC.out; rw [h1, h2] at this; cases this))
          go_wp2_with fail
          go_meet
          exact ⟨d, L, oo, oc, rfl, rfl, HH.out, HO2.out, HBW.out, by omega⟩
        | true =>
          have HH := Lib.hid (show wHalf r (L, d) x = (L ++ [r], true) from if_pos (by have := HCC.out; rw [Bool.and_eq_true] at this; exact ⟨by simpa using this.1, by simpa using this.2⟩))
          have HXB := Lib.hid (HBX.out _ HBW.out)
          obtain ⟨c0, c1, c2, c3, c4, c5, c6, c7, c8, c9, c10, c11, c12, c13, c14, c15⟩ := box16 HXB.out
          go_wp2_with (refine wpList_app recC 16 (fun _ => rfl) (by decide) recC_one (by rfl) (.tmp 27) (.tmp 29) 22 (by rfl) W.heap.size 40 i0 _ 160 Tryz.underlying22 hi hz0 hz1 hz2 (by decide) rfl oo oc L r (recA r) rfl (by rfl) (by exact HO2.out) (by rfl) (by omega) (by omega) ?_; intro oo' oc' w7 hown hmod hbel; have HOW7 := Lib.hid hown; have HBE7 := Lib.hid hbel; clear hown hmod hbel)
          go_meet
          exact ⟨true, L ++ [r], oo', oc', by simp, rfl, HH.out, HOW7.out, HBW.out.trans HBE7.out, by simp; omega⟩
      case rest =>
        obtain ⟨d2, L2, oo2, oc2, rfl, rfl, hh, hs2⟩ := hcut
        obtain ⟨w6, rfl⟩ : ∃ w1, w1 = wc := ⟨_, rfl⟩
        have HH := Lib.hid hh
        have HS2 := Lib.hid hs2
        have hLl2 := hs2.len
        have hWr2 := hs2.bel.size
        clear hh hs2 HS hLl HBW hsz HO2
        have hrb := HRC.out w6 HS2.out.bel
        obtain ⟨d0, d1, _⟩ := box16 (HBX.out w6 HS2.out.bel)
        have k0 := Kin.cell hrb.c0
        have k1 := Kin.cell hrb.c1
        have k2 := Kin.cell d0
        have k3 := Kin.cell d1
        clear hrb d0 d1
        go_upto_region 9 with fail
        by_cases hid : x.id = r.id
        · have HE := Lib.hid (show wFold (X.take (k + 1)) r = (L2, d2) by rw [HNX.out, if_pos hid, HH.out])
          have q1 := neq_no r.id
          rw [hid] at k0 k1
          refine wp_region_kin (by kernel_rfl) (by kernel_rfl) ?_
          repeat (go_big_quiet_step (fail))
          refine wpQuiet_nil ?_
          intro _ hxx
          obtain ⟨xk, rfl⟩ := hxx
          have HX2 := Lib.hid xk.h
          clear k0 k1 k2 k3 q1
          go_wp2_with fail
          go_roundw
          case rel => exact ⟨k + 1, d2, L2, oo2, oc2, rfl, rfl, by go_num, by omega, HE.out, (Go.Proofs.YtlbkbjeajcadiaaGreatDoor.R.own_below HS2.out.own HX2.out), HS2.out.bel.trans (HX2.out.mono HS2.out.bel.size), by omega⟩
          case measure => simp [intOf]; omega
        · have HE := Lib.hid (show wFold (X.take (k + 1)) r = (L2 ++ [x], d2) by rw [HNX.out, if_neg hid, HH.out])
          have q1 := neq_yes hid
          refine wp_region_kin (by kernel_rfl) (by kernel_rfl) ?_
          repeat (go_big_quiet_step (fail))
          refine wpQuiet_nil ?_
          intro _ hxx
          obtain ⟨xk, rfl⟩ := hxx
          have HX2 := Lib.hid xk.h
          have HBW := Lib.hid (HS2.out.bel.trans (HX2.out.mono hWr2))
          have hsz := HBW.out.size
          have HO2 := Lib.hid ((Go.Proofs.YtlbkbjeajcadiaaGreatDoor.R.own_below HS2.out.own HX2.out))
          clear k0 k1 k2 k3 q1
          obtain ⟨c0, c1, c2, c3, c4, c5, c6, c7, c8, c9, c10, c11, c12, c13, c14, c15⟩ := HRC.out _ HBW.out
          go_wp2_with (refine wpList_app recC 16 (fun _ => rfl) (by decide) recC_one (by rfl) (.tmp 39) (.tmp 44) 22 (by rfl) W.heap.size 40 i0 _ 160 Tryz.underlying22 hi hz0 hz1 hz2 (by decide) rfl oo2 oc2 L2 x (recA x) rfl (by rfl) (by exact HO2.out) (by rfl) (by omega) (by omega) ?_; intro oo' oc' w7 hown hmod hbel; have HOW7 := Lib.hid hown; have HBE7 := Lib.hid hbel; clear hown hmod hbel)
          go_roundw
          case rel => exact ⟨k + 1, d2, L2 ++ [x], oo', oc', by simp, rfl, by go_num, by omega, HE.out, HOW7.out, HBW.out.trans HBE7.out, by simp; omega⟩
          case measure => simp [intOf]; omega
    · obtain rfl : k = X.length := by omega
      have hii : ¬ (X.length : Int) < (X.length : Int) := by omega
      have HFX := Lib.hid (show wFold X r = (L, d) by have := HF.out; rwa [List.take_length] at this)
      cases d with
      | true =>
        have HE := Lib.hid (show withL X r = L by unfold withL; rw [show X.foldl (wStep r) ([], false) = (L, true) from HFX.out]; rfl)
        have HO := Lib.hid (with_out H.out H0.out HB.out (by rw [HE.out]; exact HS.out.own) HS.out.bel (by rw [HE.out]; omega))
        go_wp2_with fail
        go_ret
        exact ⟨oo, oc, by rw [HE.out]; rfl, HO.out⟩
      | false =>
        have HE := Lib.hid (show withL X r = L ++ [r] by unfold withL; rw [show X.foldl (wStep r) ([], false) = (L, false) from HFX.out]; rfl)
        have HXB := Lib.hid (show wr.heap[w.heap.size]? = some (recO r) from (HS.out.bel.block _ (M.heap_lt HX.out)).trans HX.out)
        have hsz := hWr
        obtain ⟨c0, c1, c2, c3, c4, c5, c6, c7, c8, c9, c10, c11, c12, c13, c14, c15⟩ := box16 HXB.out
        go_wp2_with (refine wpList_app recC 16 (fun _ => rfl) (by decide) recC_one (by rfl) (.tmp 48) (.tmp 50) 22 (by rfl) W.heap.size 40 i0 _ 160 Tryz.underlying22 hi hz0 hz1 hz2 (by decide) rfl oo oc L r (recA r) rfl (by rfl) (by exact HS.out.own) (by rfl) (by omega) (by omega) ?_; intro oo' oc' w7 hown hmod hbel; have HOW7 := Lib.hid hown; have HBE7 := Lib.hid hbel; clear hown hmod hbel)
        have HO := Lib.hid (with_out H.out H0.out HB.out (by rw [HE.out]; exact HOW7.out) (HS.out.bel.trans HBE7.out) (by rw [HE.out, List.length_append]; simp; omega))
        go_ret
        exact ⟨oo', oc', by rw [HE.out, List.length_append]; rfl, HO.out⟩
end Go.Proofs.YtlbkbjeajcadiaaGreatDoor.B
