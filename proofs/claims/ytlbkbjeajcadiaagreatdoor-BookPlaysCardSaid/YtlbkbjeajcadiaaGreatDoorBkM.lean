/- rec.GoesOn, the program's and the document's. -/
import Derived.Test.YtlbkbjeajcadiaaGreatDoorBkL
import Derived.Test.YtlbkbjeajcadiaaGreatDoorMrg14
namespace Go.Proofs.YtlbkbjeajcadiaaGreatDoor.B
open Go.RowKit Go.Proofs.YtlbkbjeajcadiaaGreatDoor.M Go.BigFrame Go.Maps Go.Proofs.YtlbkbjeajcadiaaGreatDoor.O Go.Proofs.YtlbkbjeajcadiaaGreatDoor.P Go.Proofs.YtlbkbjeajcadiaaGreatDoor.Mp Go.Proofs.YtlbkbjeajcadiaaGreatDoor.Rw Go.Proofs.YtlbkbjeajcadiaaGreatDoor.R
set_option linter.unusedVariables false
set_option linter.unusedSimpArgs false

theorem run_cmd_eql (c d : Cmd) (w : World) : (binOp .eql 24 (cmdV c) (cmdV d)).run Tryz.prog w = .ok (.bool (decide (c = d))) w := by
  have h1 : Tryz.prog.underlying 24 = some (.struct (Tryz.prog.fieldsOf 24)) := by kernel_rfl
  have h2 : Tryz.prog.stoodInHeld 24 = false := by kernel_rfl
  have hd : decide (c = d) = cmdEq c d := by rw [Bool.eq_iff_iff, decide_eq_true_eq, cmdEq_iff]
  rw [hd]
  unfold cmdEq
  rw [run_eql_struct, show (10000 : Nat) = 9999 + 1 from rfl, run_equalIn_struct _ _ _ _ _ h1 h2]
  cases e1 : (c.kind == d.kind)
  · simp [go_sem, e1, Result.andThen]
  cases e2 : (c.client == d.client)
  · simp [go_sem, e1, e2, Result.andThen]
  cases e3 : (c.seq == d.seq)
  · simp [go_sem, e1, e2, e3, Result.andThen]
  cases e4 : (c.key.toList == d.key.toList)
  · simp [go_sem, e1, e2, e3, e4, Result.andThen]
  cases e5 : (c.val.toList == d.val.toList)
  · simp [go_sem, e1, e2, e3, e4, e5, Result.andThen]
  cases e6 : (c.rev == d.rev)
  · simp [go_sem, e1, e2, e3, e4, e5, e6, Result.andThen]
  simp [go_sem, e1, e2, e3, e4, e5, e6, Result.andThen]
theorem two_recs2 (x y : Rv) (w : World) : ((w.alloc (recO x)).alloc (recO y)).heap[w.heap.size]? = some (recO x) ∧ ((w.alloc (recO x)).alloc (recO y)).heap[w.heap.size + 1]? = some (recO y) ∧ Below w.heap.size w ((w.alloc (recO x)).alloc (recO y)) :=
  ⟨by rw [heap_al, if_neg (by simp)]; exact heap_alloc_new w _, by rw [heap_al, if_pos (by simp)], ((Below.refl _ _).alloc (Nat.le_refl _) _).alloc (by simp) _⟩
set_option maxRecDepth 100000 in
set_option maxHeartbeats 4000000 in
theorem goeson_any (x y : Rv) (w : World) (hx : IdsV w x.ao x.cap x.deps) (hy : IdsV w y.ao y.cap y.deps) (hl : x.deps.length ≤ 1000000) (hl2 : y.deps.length ≤ 1000000) (v : Bool) (hv : goesOn x y = v) :
    Calls Tryz.prog 30 #[recV x, recV y] w fun e w' => e = .returned (.bool v) ∧ Below w.heap.size w w' := by
  have HX0 := Lib.hid hx
  have HY0 := Lib.hid hy
  have HV := Lib.hid hv
  clear hx hy hv
  go_enter Tryz.func30, Tryz.ntmps30
  go_upto_region 1 with fail
  obtain ⟨hba, hbb, hg⟩ := two_recs2 x y w
  obtain ⟨W, hW⟩ : ∃ W, W = (w.alloc (recO x)).alloc (recO y) := ⟨_, rfl⟩
  rw [← hW] at hba hbb hg ⊢
  have HA := Lib.hid hba
  have HB := Lib.hid hbb
  have HW := Lib.hid hg
  have HX := Lib.hid (HX0.out.below (B := 0) hg)
  have HY := Lib.hid (HY0.out.below (B := 0) hg)
  clear hW hba hbb hg HX0 HY0
  obtain ⟨c0, c1, c2, c3, c4, c5, c6, c7, c8, c9, c10, c11, c12, c13, c14, c15⟩ := box16 (HA.out)
  obtain ⟨d0, d1, d2, d3, d4, d5, d6, d7, d8, d9, d10, d11, d12, d13, d14, d15⟩ := box16 (HB.out)
  by_cases hid : x.id = y.id
  · have q1 := nq_no hid
    have HI := Lib.hid hid
    clear hid
    obtain ⟨b2, hb2⟩ : ∃ b, balLt y.bal x.bal = b := ⟨_, rfl⟩
    have HB2 := Lib.hid hb2
    have HC2 := Lib.hid (balless_any y.bal x.bal W b2 hb2)
    clear hb2
    go_wp2_with fail
    refine HC2.out.mono ?_
    rintro e w1 ⟨rfl, hb⟩
    have HA := Lib.hid ((hb.block _ (M.heap_lt HA.out)).trans HA.out)
    have HB := Lib.hid ((hb.block _ (M.heap_lt HB.out)).trans HB.out)
    have HX := Lib.hid (HX.out.below (B := 0) hb)
    have HY := Lib.hid (HY.out.below (B := 0) hb)
    have HW := Lib.hid (HW.out.trans (hb.mono HW.out.size))
    clear hb
    clear c0 c1 c2 c3 c4 c5 c6 c7 c8 c9 c10 c11 c12 c13 c14 c15 d0 d1 d2 d3 d4 d5 d6 d7 d8 d9 d10 d11 d12 d13 d14 d15
    clear q1 HC2
    cases b2 with
    | true =>
      have HE := Lib.hid (show v = false by rw [← HV.out]; unfold goesOn; rw [HB2.out]; simp)
      go_wp2_with fail
      go_ret
      exact ⟨by rw [HE.out]; rfl, HW.out⟩
    | false =>
      obtain ⟨b3, hb3⟩ : ∃ b, balLt y.took x.took = b := ⟨_, rfl⟩
      have HB3 := Lib.hid hb3
      have HC3 := Lib.hid (balless_any y.took x.took w1 b3 hb3)
      clear hb3
      obtain ⟨c0, c1, c2, c3, c4, c5, c6, c7, c8, c9, c10, c11, c12, c13, c14, c15⟩ := box16 (HA.out)
      obtain ⟨d0, d1, d2, d3, d4, d5, d6, d7, d8, d9, d10, d11, d12, d13, d14, d15⟩ := box16 (HB.out)
      go_wp2_with fail
      refine HC3.out.mono ?_
      rintro e w2 ⟨rfl, hb⟩
      have HA := Lib.hid ((hb.block _ (M.heap_lt HA.out)).trans HA.out)
      have HB := Lib.hid ((hb.block _ (M.heap_lt HB.out)).trans HB.out)
      have HX := Lib.hid (HX.out.below (B := 0) hb)
      have HY := Lib.hid (HY.out.below (B := 0) hb)
      have HW := Lib.hid (HW.out.trans (hb.mono HW.out.size))
      clear hb
      clear c0 c1 c2 c3 c4 c5 c6 c7 c8 c9 c10 c11 c12 c13 c14 c15 d0 d1 d2 d3 d4 d5 d6 d7 d8 d9 d10 d11 d12 d13 d14 d15
      clear HC3
      cases b3 with
      | true =>
        have HE := Lib.hid (show v = false by rw [← HV.out]; unfold goesOn; rw [HB3.out]; simp)
        go_wp2_with fail
        go_ret
        exact ⟨by rw [HE.out]; rfl, HW.out⟩
      | false =>
        have HREST := Lib.hid (show (decide (x.st ≠ 3) || (decide (y.st = 3) && decide (y.cmd = x.cmd) && atSame y.deps y.seq y.tag x.deps x.seq x.tag)) = v by rw [← HV.out]; unfold goesOn; rw [HB2.out, HB3.out, HI.out]; simp)
        obtain ⟨c0, c1, c2, c3, c4, c5, c6, c7, c8, c9, c10, c11, c12, c13, c14, c15⟩ := box16 (HA.out)
        obtain ⟨d0, d1, d2, d3, d4, d5, d6, d7, d8, d9, d10, d11, d12, d13, d14, d15⟩ := box16 (HB.out)
        cases h4 : (x.st != 3) with
        | true =>
          have HE := Lib.hid (show v = true by
            have h5 : x.st ≠ 3 := by simpa using h4
            rw [← HREST.out, decide_eq_true h5]; rfl)
          go_wp2_with fail
          go_ret
          exact ⟨by rw [HE.out]; rfl, HW.out⟩
        | false =>
          have h5 : x.st = 3 := by simpa using h4
          have HR2 := Lib.hid (show ((decide (y.st = 3) && decide (y.cmd = x.cmd)) && atSame y.deps y.seq y.tag x.deps x.seq x.tag) = v by rw [← HREST.out, show decide (x.st ≠ 3) = false from decide_eq_false (fun h => h h5), Bool.false_or])
          clear h5
          cases h6 : (y.st == 3) with
          | false =>
            have HE := Lib.hid (show v = false by
              have h7 : y.st ≠ 3 := by simpa using h6
              rw [← HR2.out, decide_eq_false h7]; rfl)
            go_wp2_with fail
            go_ret
            exact ⟨by rw [HE.out]; rfl, HW.out⟩
          | true =>
            have h7 : y.st = 3 := by simpa using h6
            obtain ⟨b8, hb8⟩ : ∃ b, decide (y.cmd = x.cmd) = b := ⟨_, rfl⟩
            have HR3 := Lib.hid (show (b8 && atSame y.deps y.seq y.tag x.deps x.seq x.tag) = v by rw [← HR2.out, decide_eq_true h7, Bool.true_and, hb8])
            have q2 : ∀ w : World, (binOp .eql 24 (.agg #[.int .i64 y.cmd.kind, .int .i64 y.cmd.client, .int .i64 y.cmd.seq, .string y.cmd.key, .string y.cmd.val, .int .i64 y.cmd.rev]) (.agg #[.int .i64 x.cmd.kind, .int .i64 x.cmd.client, .int .i64 x.cmd.seq, .string x.cmd.key, .string x.cmd.val, .int .i64 x.cmd.rev])).run Tryz.prog w = .ok (.bool b8) w := fun w => by rw [← hb8]; exact run_cmd_eql y.cmd x.cmd w
            clear h7 hb8
            cases b8 with
            | false =>
              have HE := Lib.hid (show v = false by rw [← HR3.out]; rfl)
              go_wp2_with fail
              go_ret
              exact ⟨by rw [HE.out]; rfl, HW.out⟩
            | true =>
              have HR4 := Lib.hid (show atSame y.deps y.seq y.tag x.deps x.seq x.tag = v by rw [← HR3.out, Bool.true_and])
              have HC5 := Lib.hid (asame_any y.ao x.ao y.cap x.cap y.deps x.deps y.seq y.tag x.seq x.tag w2 HY.out HX.out (by omega) v HR4.out)
              go_wp2_with fail
              refine HC5.out.mono ?_
              rintro e w3 ⟨rfl, hb⟩
              have HW3 := Lib.hid (HW.out.trans (hb.mono HW.out.size))
              clear hb HC5 q2 h4 h6
              clear c0 c1 c2 c3 c4 c5 c6 c7 c8 c9 c10 c11 c12 c13 c14 c15 d0 d1 d2 d3 d4 d5 d6 d7 d8 d9 d10 d11 d12 d13 d14 d15
              go_wp2_with fail
              go_ret
              exact ⟨rfl, HW3.out⟩
  · have q1 := nq_yes hid
    have HE := Lib.hid (show v = false by rw [← HV.out]; unfold goesOn; rw [decide_eq_false hid]; rfl)
    clear hid
    go_wp2_with fail
    go_ret
    exact ⟨by rw [HE.out]; rfl, HW.out⟩
set_option maxRecDepth 100000 in
set_option maxHeartbeats 4000000 in
theorem refgoeson_any (x y : Rv) (w : World) (hx : IdsV w x.ao x.cap x.deps) (hy : IdsV w y.ao y.cap y.deps) (hl : x.deps.length ≤ 1000000) (hl2 : y.deps.length ≤ 1000000) (v : Bool) (hv : goesOn x y = v) :
    Calls Tryz.prog 46 #[recV x, recV y] w fun e w' => e = .returned (.bool v) ∧ Below w.heap.size w w' := by
  have HX0 := Lib.hid hx
  have HY0 := Lib.hid hy
  have HV := Lib.hid hv
  clear hx hy hv
  go_enter Tryz.func46, Tryz.ntmps46
  go_upto_region 1 with fail
  obtain ⟨hba, hbb, hg⟩ := two_recs2 x y w
  obtain ⟨W, hW⟩ : ∃ W, W = (w.alloc (recO x)).alloc (recO y) := ⟨_, rfl⟩
  rw [← hW] at hba hbb hg ⊢
  have HA := Lib.hid hba
  have HB := Lib.hid hbb
  have HW := Lib.hid hg
  have HX := Lib.hid (HX0.out.below (B := 0) hg)
  have HY := Lib.hid (HY0.out.below (B := 0) hg)
  clear hW hba hbb hg HX0 HY0
  obtain ⟨c0, c1, c2, c3, c4, c5, c6, c7, c8, c9, c10, c11, c12, c13, c14, c15⟩ := box16 (HA.out)
  obtain ⟨d0, d1, d2, d3, d4, d5, d6, d7, d8, d9, d10, d11, d12, d13, d14, d15⟩ := box16 (HB.out)
  by_cases hid : x.id = y.id
  · have q1 := nq_no hid
    have HI := Lib.hid hid
    clear hid
    obtain ⟨b2, hb2⟩ : ∃ b, balLt y.bal x.bal = b := ⟨_, rfl⟩
    have HB2 := Lib.hid hb2
    have HC2 := Lib.hid (refballess_any y.bal x.bal W b2 hb2)
    clear hb2
    go_wp2_with fail
    refine HC2.out.mono ?_
    rintro e w1 ⟨rfl, hb⟩
    have HA := Lib.hid ((hb.block _ (M.heap_lt HA.out)).trans HA.out)
    have HB := Lib.hid ((hb.block _ (M.heap_lt HB.out)).trans HB.out)
    have HX := Lib.hid (HX.out.below (B := 0) hb)
    have HY := Lib.hid (HY.out.below (B := 0) hb)
    have HW := Lib.hid (HW.out.trans (hb.mono HW.out.size))
    clear hb
    clear c0 c1 c2 c3 c4 c5 c6 c7 c8 c9 c10 c11 c12 c13 c14 c15 d0 d1 d2 d3 d4 d5 d6 d7 d8 d9 d10 d11 d12 d13 d14 d15
    clear q1 HC2
    cases b2 with
    | true =>
      have HE := Lib.hid (show v = false by rw [← HV.out]; unfold goesOn; rw [HB2.out]; simp)
      go_wp2_with fail
      go_ret
      exact ⟨by rw [HE.out]; rfl, HW.out⟩
    | false =>
      obtain ⟨b3, hb3⟩ : ∃ b, balLt y.took x.took = b := ⟨_, rfl⟩
      have HB3 := Lib.hid hb3
      have HC3 := Lib.hid (refballess_any y.took x.took w1 b3 hb3)
      clear hb3
      obtain ⟨c0, c1, c2, c3, c4, c5, c6, c7, c8, c9, c10, c11, c12, c13, c14, c15⟩ := box16 (HA.out)
      obtain ⟨d0, d1, d2, d3, d4, d5, d6, d7, d8, d9, d10, d11, d12, d13, d14, d15⟩ := box16 (HB.out)
      go_wp2_with fail
      refine HC3.out.mono ?_
      rintro e w2 ⟨rfl, hb⟩
      have HA := Lib.hid ((hb.block _ (M.heap_lt HA.out)).trans HA.out)
      have HB := Lib.hid ((hb.block _ (M.heap_lt HB.out)).trans HB.out)
      have HX := Lib.hid (HX.out.below (B := 0) hb)
      have HY := Lib.hid (HY.out.below (B := 0) hb)
      have HW := Lib.hid (HW.out.trans (hb.mono HW.out.size))
      clear hb
      clear c0 c1 c2 c3 c4 c5 c6 c7 c8 c9 c10 c11 c12 c13 c14 c15 d0 d1 d2 d3 d4 d5 d6 d7 d8 d9 d10 d11 d12 d13 d14 d15
      clear HC3
      cases b3 with
      | true =>
        have HE := Lib.hid (show v = false by rw [← HV.out]; unfold goesOn; rw [HB3.out]; simp)
        go_wp2_with fail
        go_ret
        exact ⟨by rw [HE.out]; rfl, HW.out⟩
      | false =>
        have HREST := Lib.hid (show (decide (x.st ≠ 3) || (decide (y.st = 3) && decide (y.cmd = x.cmd) && atSame y.deps y.seq y.tag x.deps x.seq x.tag)) = v by rw [← HV.out]; unfold goesOn; rw [HB2.out, HB3.out, HI.out]; simp)
        obtain ⟨c0, c1, c2, c3, c4, c5, c6, c7, c8, c9, c10, c11, c12, c13, c14, c15⟩ := box16 (HA.out)
        obtain ⟨d0, d1, d2, d3, d4, d5, d6, d7, d8, d9, d10, d11, d12, d13, d14, d15⟩ := box16 (HB.out)
        cases h4 : (x.st != 3) with
        | true =>
          have HE := Lib.hid (show v = true by
            have h5 : x.st ≠ 3 := by simpa using h4
            rw [← HREST.out, decide_eq_true h5]; rfl)
          go_wp2_with fail
          go_ret
          exact ⟨by rw [HE.out]; rfl, HW.out⟩
        | false =>
          have h5 : x.st = 3 := by simpa using h4
          have HR2 := Lib.hid (show ((decide (y.st = 3) && decide (y.cmd = x.cmd)) && atSame y.deps y.seq y.tag x.deps x.seq x.tag) = v by rw [← HREST.out, show decide (x.st ≠ 3) = false from decide_eq_false (fun h => h h5), Bool.false_or])
          clear h5
          cases h6 : (y.st == 3) with
          | false =>
            have HE := Lib.hid (show v = false by
              have h7 : y.st ≠ 3 := by simpa using h6
              rw [← HR2.out, decide_eq_false h7]; rfl)
            go_wp2_with fail
            go_ret
            exact ⟨by rw [HE.out]; rfl, HW.out⟩
          | true =>
            have h7 : y.st = 3 := by simpa using h6
            obtain ⟨b8, hb8⟩ : ∃ b, decide (y.cmd = x.cmd) = b := ⟨_, rfl⟩
            have HR3 := Lib.hid (show (b8 && atSame y.deps y.seq y.tag x.deps x.seq x.tag) = v by rw [← HR2.out, decide_eq_true h7, Bool.true_and, hb8])
            have q2 : ∀ w : World, (binOp .eql 24 (.agg #[.int .i64 y.cmd.kind, .int .i64 y.cmd.client, .int .i64 y.cmd.seq, .string y.cmd.key, .string y.cmd.val, .int .i64 y.cmd.rev]) (.agg #[.int .i64 x.cmd.kind, .int .i64 x.cmd.client, .int .i64 x.cmd.seq, .string x.cmd.key, .string x.cmd.val, .int .i64 x.cmd.rev])).run Tryz.prog w = .ok (.bool b8) w := fun w => by rw [← hb8]; exact run_cmd_eql y.cmd x.cmd w
            clear h7 hb8
            cases b8 with
            | false =>
              have HE := Lib.hid (show v = false by rw [← HR3.out]; rfl)
              go_wp2_with fail
              go_ret
              exact ⟨by rw [HE.out]; rfl, HW.out⟩
            | true =>
              have HR4 := Lib.hid (show atSame y.deps y.seq y.tag x.deps x.seq x.tag = v by rw [← HR3.out, Bool.true_and])
              have HC5 := Lib.hid (refasame_any y.ao x.ao y.cap x.cap y.deps x.deps y.seq y.tag x.seq x.tag w2 HY.out HX.out (by omega) v HR4.out)
              go_wp2_with fail
              refine HC5.out.mono ?_
              rintro e w3 ⟨rfl, hb⟩
              have HW3 := Lib.hid (HW.out.trans (hb.mono HW.out.size))
              clear hb HC5 q2 h4 h6
              clear c0 c1 c2 c3 c4 c5 c6 c7 c8 c9 c10 c11 c12 c13 c14 c15 d0 d1 d2 d3 d4 d5 d6 d7 d8 d9 d10 d11 d12 d13 d14 d15
              go_wp2_with fail
              go_ret
              exact ⟨rfl, HW3.out⟩
  · have q1 := nq_yes hid
    have HE := Lib.hid (show v = false by rw [← HV.out]; unfold goesOn; rw [decide_eq_false hid]; rfl)
    clear hid
    go_wp2_with fail
    go_ret
    exact ⟨by rw [HE.out]; rfl, HW.out⟩
end Go.Proofs.YtlbkbjeajcadiaaGreatDoor.B
