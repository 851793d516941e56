/- The book in memory: has, Active, Walled, Next. -/
import Derived.Test.YtlbkbjeajcadiaaGreatDoorBkN
namespace Go.Proofs.YtlbkbjeajcadiaaGreatDoor.B
open Go.RowKit Go.Proofs.YtlbkbjeajcadiaaGreatDoor.M Go.BigFrame Go.Maps Go.Proofs.YtlbkbjeajcadiaaGreatDoor.O Go.Proofs.YtlbkbjeajcadiaaGreatDoor.P Go.Proofs.YtlbkbjeajcadiaaGreatDoor.Mp Go.Proofs.YtlbkbjeajcadiaaGreatDoor.Rw Go.Proofs.YtlbkbjeajcadiaaGreatDoor.R
set_option linter.unusedVariables false
set_option linter.unusedSimpArgs false

/-- what a record's entry tells: is it such a barrier? -/
def isWall (s : Int) (q : Rv) : Bool := decide (q.cmd.kind = 6) && decide (s ≤ q.st)
theorem del_cov {R left : List (O.Id × Rv)} {p q : O.Id × Rv} (hn : (R.map Prod.fst).Nodup) (hp : p ∈ R) (hq : q ∈ R) (h : q ∉ delD left p.1) : q ∉ left ∨ q = p := by
  by_cases e : q.1 = p.1
  · right
    have h1 := findD_of hn (show (q.1, q.2) ∈ R from hq)
    have h2 := findD_of hn (show (p.1, p.2) ∈ R from hp)
    rw [e, h2] at h1
    exact Prod.ext e (Option.some.inj h1).symm
  · exact .inl (fun hl => h (mem_delD.2 ⟨hl, e⟩))
/-- the walk over the records -/
structure HsS (w wo wr : World) (b n : Nat) (R left : List (O.Id × Rv)) (cnt : Nat) : Prop where
  bel : Below w.heap.size w wr
  rng : RngL sIR wr b wo.heap.size n R left cnt
set_option maxRecDepth 100000 in
set_option maxHeartbeats 4000000 in
theorem has_any (p n : Nat) (R : List (O.Id × Rv)) (U : Nat → Prop) (s : Int) (w : World) (h : Bk w p n R U) (v : Bool) (hv : wallB R s = v) :
    Calls Tryz.prog 36 #[.pointer (some ⟨p, 0, none⟩), .int .i64 s] w fun e w' => e = .returned (.bool v) ∧ Below w.heap.size w w' := by
  obtain ⟨x, b, A, Fi, h1, h2, h3⟩ := h
  have H := Lib.hid h1
  have HV := Lib.hid hv
  clear h1 h2 h3 hv
  go_enter Tryz.func36, Tryz.ntmps36
  obtain ⟨e0, e1, e2⟩ := H.out.cells
  go_wp2_with (at_range; refine wpList_rangeL lIR H.out.recs rfl _ rfl rfl ?_; intro w2 cnt1 hrg1 hb2; have HRG1 := Lib.hid hrg1; have HB2 := Lib.hid hb2; clear hrg1 hb2)
  go_frame
  clear e0 e1 e2
  go_loopw [] (fun wr => ∃ (left : List (O.Id × Rv)) (cnt : Nat), HsS w w wr b n R left cnt ∧ ∀ q ∈ R, q ∉ left → isWall s q.2 = false) (fun wr => wr.rangeLeft b w.heap.size)
  case atStart => exact ⟨R, cnt1, ⟨HB2.out, HRG1.out⟩, fun q hq hn => absurd hq hn⟩
  case round =>
    obtain ⟨left, cnt, hs, hno⟩ := hrel
    have HS := Lib.hid hs
    have HNO := Lib.hid hno
    clear hs hno HRG1 HB2
    go_upto_region 4 with (at_next; refine wpList_nextR HS.out.rng rfl _ rfl rfl (fun HL0 => ?_) (fun q w3 cnt3 HXL HRG HLT HMN hen => ?_))
    · go_ret
      refine ⟨?_, HS.out.bel⟩
      have : v = false := by
        rw [← HV.out, ← Bool.not_eq_true, wall_iff]
        rintro ⟨q, hq, k1, k2⟩
        have := HNO.out q hq (by rw [HL0.out]; simp)
        unfold isWall at this
        rw [decide_eq_true k1, decide_eq_true k2] at this
        cases this
      rw [this]; rfl
    · have hbw : w.heap.size ≤ w.heap.size := Nat.le_refl _
      have hle := HS.out.bel.size
      have HB3 := Lib.hid (show Below w.heap.size w w3 from HS.out.bel.trans (HMN.out.below (B := w.heap.size) (fun j e => by omega) hle))
      have HMEM := Lib.hid (HS.out.rng.sub.subset HXL.out)
      obtain ⟨W, hW⟩ : ∃ W, W = w3.alloc (recO q.2) := ⟨_, rfl⟩
      rw [← hW]
      have hbW : Below w3.heap.size w3 W := by rw [hW]; exact (Below.refl _ _).alloc (Nat.le_refl _) _
      have hx : W.heap[w3.heap.size]? = some (recO q.2) := by rw [hW]; exact heap_alloc_new w3 _
      have HBW := Lib.hid (HB3.out.trans (hbW.mono HB3.out.size))
      have HRW := Lib.hid (HRG.out.below hbW)
      obtain ⟨c0, c1, c2, c3, c4, c5, c6, c7, c8, c9, c10, c11, c12, c13, c14, c15⟩ := box16 hx
      clear hW hbW hx hen c0 c1 c3 c4 c5 c6 c8 c9 c10 c11 c12 c13 c14 c15
      have HGO := Lib.hid (show isWall s q.2 = false → ∀ y ∈ R, y ∉ delD left q.1 → isWall s y.2 = false from fun hf y hy hn => by
        rcases del_cov H.out.recs.nd HMEM.out hy hn with h | rfl
        · exact HNO.out y hy h
        · exact hf)
      cases h1 : (q.2.cmd.kind == 6) with
      | false =>
        have HF := Lib.hid (show isWall s q.2 = false by
          have h2 : q.2.cmd.kind ≠ 6 := by simpa using h1
          unfold isWall; rw [decide_eq_false h2]; rfl)
        go_wp2_with fail
        go_roundw
        case rel => exact ⟨delD left q.1, cnt3, ⟨HBW.out, HRW.out⟩, HGO.out HF.out⟩
        case measure =>
          rw [HRW.out.left_eq, HS.out.rng.left_eq]
          exact HLT.out
      | true =>
        have h6 : q.2.cmd.kind = 6 := by simpa using h1
        have HK6 := Lib.hid h6
        clear h6
        by_cases h2 : s ≤ q.2.st
        · have HE := Lib.hid (show v = true by
            rw [← HV.out, wall_iff]
            exact ⟨q, HMEM.out, HK6.out, h2⟩)
          go_wp2_with fail
          go_ret
          exact ⟨by rw [HE.out]; rfl, HBW.out⟩
        · have HF := Lib.hid (show isWall s q.2 = false by unfold isWall; rw [decide_eq_false h2, Bool.and_false])
          go_wp2_with fail
          go_roundw
          case rel => exact ⟨delD left q.1, cnt3, ⟨HBW.out, HRW.out⟩, HGO.out HF.out⟩
          case measure =>
            rw [HRW.out.left_eq, HS.out.rng.left_eq]
            exact HLT.out
set_option maxRecDepth 100000 in
set_option maxHeartbeats 4000000 in
theorem active_any (p n : Nat) (R : List (O.Id × Rv)) (U : Nat → Prop) (w : World) (h : Bk w p n R U) (v : Bool) (hv : wallB R 3 = v) :
    Calls Tryz.prog 14 #[.pointer (some ⟨p, 0, none⟩)] w fun e w' => e = .returned (.bool v) ∧ Below w.heap.size w w' := by
  have HH := Lib.hid (has_any p n R U 3 w h v hv)
  clear h hv
  go_enter Tryz.func14, Tryz.ntmps14
  go_wp2_with fail
  refine HH.out.mono ?_
  rintro e w1 ⟨rfl, hb⟩
  have HB := Lib.hid hb
  clear hb HH
  go_wp2_with fail
  go_ret
  exact ⟨rfl, HB.out⟩
set_option maxRecDepth 100000 in
set_option maxHeartbeats 4000000 in
theorem walled_any (p n : Nat) (R : List (O.Id × Rv)) (U : Nat → Prop) (w : World) (h : Bk w p n R U) (v : Bool) (hv : wallB R 0 = v) :
    Calls Tryz.prog 15 #[.pointer (some ⟨p, 0, none⟩)] w fun e w' => e = .returned (.bool v) ∧ Below w.heap.size w w' := by
  have HH := Lib.hid (has_any p n R U 0 w h v hv)
  clear h hv
  go_enter Tryz.func15, Tryz.ntmps15
  go_wp2_with fail
  refine HH.out.mono ?_
  rintro e w1 ⟨rfl, hb⟩
  have HB := Lib.hid hb
  clear hb HH
  go_wp2_with fail
  go_ret
  exact ⟨rfl, HB.out⟩
/-- the greatest number of a replica's, of those that came -/
structure NxS (R left : List (O.Id × Rv)) (r m : Int) : Prop where
  pos : 0 ≤ m ∧ m ≤ 1099511627776
  is : m = 0 ∨ ∃ q ∈ R, q.1.r = r ∧ m = q.1.n
  ge : ∀ q ∈ R, q ∉ left → q.1.r = r → q.1.n ≤ m
theorem next_is {R : List (O.Id × Rv)} {r m : Int} (h : NxS R [] r m) : nextN R r = m + 1 := by
  unfold nextN
  rw [foldl_if (fun p : O.Id × Rv => p.1.n) (fun p => p.1.r = r)]
  congr 1
  obtain ⟨a1, a2, a3⟩ := mostV_gen ((R.filter fun x => decide (x.1.r = r)).map fun p => p.1.n) 0
  refine Int.le_antisymm ?_ ?_
  · rcases a3 with e | e
    · rw [e]; exact h.pos.1
    · obtain ⟨q, hq, e2⟩ := List.mem_map.1 e
      rw [List.mem_filter] at hq
      rw [← e2]
      exact h.ge q hq.1 (by simp) (by simpa using hq.2)
  · rcases h.is with e | ⟨q, hq, e1, e2⟩
    · rw [e]; exact a1
    · rw [e2]
      exact a2 _ (List.mem_map.2 ⟨q, List.mem_filter.2 ⟨hq, by simpa using e1⟩, rfl⟩)
theorem id_of_ok {x : Rv} (h : recOk x = true) : idOk x.id = true := by
  unfold recOk headBad at h
  cases hi : idOk x.id with
  | true => rfl
  | false => rw [hi] at h; simp at h
set_option maxRecDepth 100000 in
set_option maxHeartbeats 4000000 in
theorem next_any (p n : Nat) (R : List (O.Id × Rv)) (U : Nat → Prop) (r : Int) (w : World) (h : Bk w p n R U) (v : Int) (hv : nextN R r = v) :
    Calls Tryz.prog 13 #[.pointer (some ⟨p, 0, none⟩), .int .i64 r] w fun e w' => e = .returned (.int .i64 v) ∧ Below w.heap.size w w' := by
  obtain ⟨x, b, A, Fi, h1, h2, h3⟩ := h
  have H := Lib.hid h1
  have HV := Lib.hid hv
  clear h1 h2 h3 hv
  go_enter Tryz.func13, Tryz.ntmps13
  obtain ⟨e0, e1, e2⟩ := H.out.cells
  go_wp2_with (at_range; refine wpList_rangeL lIR H.out.recs rfl _ rfl rfl ?_; intro w2 cnt1 hrg1 hb2; have HRG1 := Lib.hid hrg1; have HB2 := Lib.hid hb2; clear hrg1 hb2)
  go_frame
  clear e0 e1 e2
  go_loopw [5] (fun mv wr => ∃ (m : Int) (left : List (O.Id × Rv)) (cnt : Nat), mv = .int .i64 m ∧ HsS w w wr b n R left cnt ∧ NxS R left r m) (fun _ wr => wr.rangeLeft b w.heap.size)
  case atStart => exact ⟨0, R, cnt1, rfl, ⟨HB2.out, HRG1.out⟩, ⟨⟨by decide, by decide⟩, .inl rfl, fun q hq hn => absurd hq hn⟩⟩
  case round =>
    obtain ⟨m, left, cnt, rfl, hs, hnx⟩ := hrel
    have HS := Lib.hid hs
    have HNX := Lib.hid hnx
    have hm0 := hnx.pos.1
    have hm1 := hnx.pos.2
    clear hs hnx HRG1 HB2
    go_upto_region 5 with (at_next; refine wpList_nextR HS.out.rng rfl _ rfl rfl (fun HL0 => ?_) (fun q w3 cnt3 HXL HRG HLT HMN hen => ?_))
    · have HE := Lib.hid (show v = m + 1 by
        rw [← HV.out]
        have := HNX.out
        rw [HL0.out] at this
        exact next_is this)
      go_wp2_with fail
      go_ret
      exact ⟨by rw [HE.out]; rfl, HS.out.bel⟩
    · have hle := HS.out.bel.size
      have HB3 := Lib.hid (show Below w.heap.size w w3 from HS.out.bel.trans (HMN.out.below (B := w.heap.size) (fun j e => by omega) hle))
      have HMEM := Lib.hid (HS.out.rng.sub.subset HXL.out)
      obtain ⟨W, hW⟩ : ∃ W, W = w3.alloc (idO q.1) := ⟨_, rfl⟩
      rw [← hW]
      have hbW : Below w3.heap.size w3 W := by rw [hW]; exact (Below.refl _ _).alloc (Nat.le_refl _) _
      have hx : W.heap[w3.heap.size]? = some (idO q.1) := by rw [hW]; exact heap_alloc_new w3 _
      have HBW := Lib.hid (HB3.out.trans (hbW.mono HB3.out.size))
      have HRW := Lib.hid (HRG.out.below hbW)
      obtain ⟨⟨d0, d1⟩, _⟩ := box2 hx
      clear hW hbW hx hen hle
      have HQ := Lib.hid (show 0 ≤ q.1.n ∧ q.1.n ≤ 1099511627776 from by
        obtain ⟨_, k1, k2, _⟩ := H.out.ok q HMEM.out
        have := id_of_ok k2
        rw [k1, idOk_iff] at this
        omega)
      cases h1 : (q.1.r == r) with
      | false =>
        have HNX2 := Lib.hid (show NxS R (delD left q.1) r m from ⟨HNX.out.pos, HNX.out.is, fun y hy hn hr => by
          rcases del_cov H.out.recs.nd HMEM.out hy hn with h | rfl
          · exact HNX.out.ge y hy h hr
          · simp [hr] at h1⟩)
        go_wp2_with fail
        go_roundw
        case rel => exact ⟨m, delD left q.1, cnt3, rfl, ⟨HBW.out, HRW.out⟩, HNX2.out⟩
        case measure =>
          rw [HRW.out.left_eq, HS.out.rng.left_eq]
          exact HLT.out
      | true =>
        have HNX2 := Lib.hid (show NxS R (delD left q.1) r (max m q.1.n) from by
          have hq := HQ.out
          refine ⟨⟨by omega, by omega⟩, ?_, fun y hy hn hr => ?_⟩
          · by_cases e : m ≤ q.1.n
            · right
              exact ⟨q, HMEM.out, by simpa using h1, by omega⟩
            · have h3 : max m q.1.n = m := by omega
              rw [h3]
              exact HNX.out.is
          · rcases del_cov H.out.recs.nd HMEM.out hy hn with h | rfl
            · have := HNX.out.ge y hy h hr; omega
            · omega)
        go_wp2_with fail
        go_roundw
        case rel => exact ⟨max m q.1.n, delD left q.1, cnt3, rfl, ⟨HBW.out, HRW.out⟩, HNX2.out⟩
        case measure =>
          rw [HRW.out.left_eq, HS.out.rng.left_eq]
          exact HLT.out
end Go.Proofs.YtlbkbjeajcadiaaGreatDoor.B
