/- The contract of cmd.Check: the walk. -/
import Derived.Test.YtlbkbjeajcadiaaGreatDoorMrg9
namespace Go.Proofs.YtlbkbjeajcadiaaGreatDoor.P
open Go.RowKit Go.Proofs.YtlbkbjeajcadiaaGreatDoor.R Go.Proofs.YtlbkbjeajcadiaaGreatDoor.M Go.BigFrame
set_option linter.unusedVariables false
set_option linter.unusedSimpArgs false

abbrev cmdA (c : Cmd) : Array Value := #[.int .i64 c.kind, .int .i64 c.client, .int .i64 c.seq, .string c.key, .string c.val, .int .i64 c.rev]
/-- what the box of a command gives in every world that keeps it -/
theorem kin_cmd (c : Cmd) (w : World) : (∀ x : Kin (w.alloc (.cells (cmdA c) 24)), x.w.cell? ⟨w.heap.size, 0, none⟩ = some (.int .i64 c.kind)) ∧ (∀ x : Kin (w.alloc (.cells (cmdA c) 24)), x.w.cell? ⟨w.heap.size, 1, none⟩ = some (.int .i64 c.client)) ∧
    (∀ x : Kin (w.alloc (.cells (cmdA c) 24)), x.w.cell? ⟨w.heap.size, 2, none⟩ = some (.int .i64 c.seq)) ∧ (∀ x : Kin (w.alloc (.cells (cmdA c) 24)), x.w.cell? ⟨w.heap.size, 3, none⟩ = some (.string c.key)) ∧
    (∀ x : Kin (w.alloc (.cells (cmdA c) 24)), x.w.cell? ⟨w.heap.size, 4, none⟩ = some (.string c.val)) ∧ (∀ x : Kin (w.alloc (.cells (cmdA c) 24)), x.w.cell? ⟨w.heap.size, 5, none⟩ = some (.int .i64 c.rev)) := by
  obtain ⟨⟨h0, h1, h2, h3, h4, h5⟩, _⟩ := box6 (heap_alloc_new w (.cells (cmdA c) 24))
  exact ⟨Kin.cell h0, Kin.cell h1, Kin.cell h2, Kin.cell h3, Kin.cell h4, Kin.cell h5⟩
/-- what holds behind the first test -/
structure Tested (c : Cmd) (W : World) (v : Value) (wx : World) : Prop where
  val : v = .bool (formBad c)
  bel : Below W.heap.size W wx
theorem formBad_out {c : Cmd} (h : out c.kind 6 = true) : formBad c = true := by
  unfold out at h
  unfold formBad
  rw [h]
  rfl
set_option maxRecDepth 100000 in
set_option maxHeartbeats 4000000 in
theorem check_any (c : Cmd) (w : World) (hT : Tabs w) (hs : c.key.size ≤ 1000000) :
    Calls Tryz.prog 51 #[cmdV c] w fun e w' => e = .returned (.int .i64 (chk c)) ∧ Below w.heap.size w w' := by
  go_enter Tryz.func51, Tryz.ntmps51
  go_wp2_with fail
  obtain ⟨k0, k1, k2, k3, k4, k5⟩ := kin_cmd c w
  obtain ⟨W, hW⟩ : ∃ W, W = w.alloc (.cells (cmdA c) 24) := ⟨_, rfl⟩
  rw [← hW] at k0 k1 k2 k3 k4 k5 ⊢
  have HWW := Lib.hid hW
  have hbx : W.heap[w.heap.size]? = some (.cells (cmdA c) 24 (0, 0)) := by rw [hW]; exact heap_alloc_new w _
  have HBX := Lib.hid hbx
  clear hW hbx
  go_cut [3] (fun v wx => Tested c W v wx)
  case first =>
    clear hT hs
    obtain ⟨bk, hbk⟩ : ∃ bk, bk = !out c.kind 6 := ⟨_, rfl⟩
    have HW := Lib.hid (fun x : World => within_any c.kind 6 (by decide) x)
    have HB := Lib.hid (fun x : World => bare_any c x)
    rw [← hbk] at HW
    cases bk with
    | false =>
      have HV : Hid (formBad c = true) := Lib.hid (formBad_out (by cases h : out c.kind 6 with
        | true => rfl
        | false => rw [h] at hbk; cases hbk))
      clear hbk
      refine wp_region_kin (by kernel_rfl) (by kernel_rfl) ?_
      repeat (go_big_quiet_step ((first
          | (go_at_call 78; exact Kin.same _ (HW.out _))
          | (go_at_call 79; exact Kin.call _ (named_any c _))
          | (go_at_call 80; exact Kin.call _ (HB.out _)))))
      refine wpQuiet_nil ?_
      intro _ hx
      obtain ⟨xk, rfl⟩ := hx
      (first | go_meet | (go_wp2_with fail; go_meet))
      exact ⟨by rw [HV.out], xk.h⟩
    | true =>
      have hout : out c.kind 6 = false := by
        cases h : out c.kind 6 with
        | false => rfl
        | true => rw [h] at hbk; cases hbk
      have hfb := formBad_eq c hout
      have hne := run_cmd_neq c (namedC c)
      obtain ⟨bn, hbn⟩ : ∃ bn, bn = !cmdEq c (namedC c) := ⟨_, rfl⟩
      obtain ⟨bb, hbb⟩ : ∃ bb, bb = bare c := ⟨_, rfl⟩
      rw [← hbn] at hne hfb
      rw [← hbb] at hfb HB
      clear hbk hbn hbb hout
      cases bn with
      | true =>
        have HV : Hid (formBad c = true) := Lib.hid (by rw [hfb]; rfl)
        clear hfb
        refine wp_region_kin (by kernel_rfl) (by kernel_rfl) ?_
        repeat (go_big_quiet_step ((first
          | (go_at_call 78; exact Kin.same _ (HW.out _))
          | (go_at_call 79; exact Kin.call _ (named_any c _))
          | (go_at_call 80; exact Kin.call _ (HB.out _)))))
        refine wpQuiet_nil ?_
        intro _ hx
        obtain ⟨xk, rfl⟩ := hx
        (first | go_meet | (go_wp2_with fail; go_meet))
        exact ⟨by rw [HV.out], xk.h⟩
      | false =>
        cases bb with
        | true =>
          have HV : Hid (formBad c = false) := Lib.hid (by rw [hfb]; rfl)
          clear hfb
          refine wp_region_kin (by kernel_rfl) (by kernel_rfl) ?_
          repeat (go_big_quiet_step ((first
          | (go_at_call 78; exact Kin.same _ (HW.out _))
          | (go_at_call 79; exact Kin.call _ (named_any c _))
          | (go_at_call 80; exact Kin.call _ (HB.out _)))))
          refine wpQuiet_nil ?_
          intro _ hx
          obtain ⟨xk, rfl⟩ := hx
          (first | go_meet | (go_wp2_with fail; go_meet))
          exact ⟨by rw [HV.out], xk.h⟩
        | false =>
          by_cases hc0 : c.client = 0
          · have e1 : (c.client == 0) = true := by rw [beq_iff_eq]; exact hc0
            have HV : Hid (formBad c = true) := Lib.hid (by rw [hfb]; simp [hc0])
            clear hfb hc0
            refine wp_region_kin (by kernel_rfl) (by kernel_rfl) ?_
            repeat (go_big_quiet_step ((first
          | (go_at_call 78; exact Kin.same _ (HW.out _))
          | (go_at_call 79; exact Kin.call _ (named_any c _))
          | (go_at_call 80; exact Kin.call _ (HB.out _)))))
            refine wpQuiet_nil ?_
            intro _ hx
            obtain ⟨xk, rfl⟩ := hx
            (first | go_meet | (go_wp2_with fail; go_meet))
            exact ⟨by rw [HV.out], xk.h⟩
          · have e1 : (c.client == 0) = false := by rw [beq_eq_false_iff_ne]; exact hc0
            by_cases hs0 : c.seq = 0
            · have e2 : (c.seq == 0) = true := by rw [beq_iff_eq]; exact hs0
              have HV : Hid (formBad c = true) := Lib.hid (by rw [hfb]; simp [hs0])
              clear hfb hc0 hs0
              refine wp_region_kin (by kernel_rfl) (by kernel_rfl) ?_
              repeat (go_big_quiet_step ((first
          | (go_at_call 78; exact Kin.same _ (HW.out _))
          | (go_at_call 79; exact Kin.call _ (named_any c _))
          | (go_at_call 80; exact Kin.call _ (HB.out _)))))
              refine wpQuiet_nil ?_
              intro _ hx
              obtain ⟨xk, rfl⟩ := hx
              (first | go_meet | (go_wp2_with fail; go_meet))
              exact ⟨by rw [HV.out], xk.h⟩
            · have e2 : (c.seq == 0) = false := by rw [beq_eq_false_iff_ne]; exact hs0
              have HV : Hid (formBad c = false) := Lib.hid (by rw [hfb]; simp [hs0, hc0])
              clear hfb hc0 hs0
              refine wp_region_kin (by kernel_rfl) (by kernel_rfl) ?_
              repeat (go_big_quiet_step ((first
          | (go_at_call 78; exact Kin.same _ (HW.out _))
          | (go_at_call 79; exact Kin.call _ (named_any c _))
          | (go_at_call 80; exact Kin.call _ (HB.out _)))))
              refine wpQuiet_nil ?_
              intro _ hx
              obtain ⟨xk, rfl⟩ := hx
              (first | go_meet | (go_wp2_with fail; go_meet))
              exact ⟨by rw [HV.out], xk.h⟩
  case rest =>
    obtain ⟨rfl, hbel⟩ := hcut
    have hwc : Below w.heap.size w wc := ((Below.refl w.heap.size w).alloc (Nat.le_refl _) _).trans (by rw [← HWW.out]; exact hbel.mono (by rw [HWW.out]; simp))
    have hbox : wc.heap[w.heap.size]? = some (.cells (cmdA c) 24 (0, 0)) := (hbel.block _ (M.heap_lt HBX.out)).trans HBX.out
    obtain ⟨⟨d0, d1, d2, d3, d4, d5⟩, _⟩ := box6 hbox
    have HWC := Lib.hid hwc
    have HBO := Lib.hid hbox
    have HT := Lib.hid (hT.next hwc)
    clear hbel hwc hbox k0 k1 k2 k3 k4 k5 hT HBX HWW
    cases hfb : formBad c with
    | true =>
      have HV : Hid (chk c = 4) := Lib.hid (by unfold chk; rw [hfb]; rfl)
      clear hfb
      go_wp2_with fail
      go_ret
      exact ⟨by rw [HV.out]; rfl, HWC.out⟩
    | false =>
      obtain ⟨b1, hb1⟩ : ∃ b1, b1 = !out c.client 1048576 := ⟨_, rfl⟩
      obtain ⟨b2, hb2⟩ : ∃ b2, b2 = !out c.seq 1099511627776 := ⟨_, rfl⟩
      obtain ⟨b3, hb3⟩ : ∃ b3, b3 = !out c.rev 1099511627776 := ⟨_, rfl⟩
      have HW1 := Lib.hid (fun x : World => within_any c.client 1048576 (by decide) x)
      have HW2 := Lib.hid (fun x : World => within_any c.seq 1099511627776 (by decide) x)
      have HW3 := Lib.hid (fun x : World => within_any c.rev 1099511627776 (by decide) x)
      rw [← hb1] at HW1
      rw [← hb2] at HW2
      rw [← hb3] at HW3
      have hrb : rangeBad c = !(b1 && (b2 && b3)) := by
        rw [hb1, hb2, hb3]
        unfold rangeBad
        cases out c.client 1048576 <;> cases out c.seq 1099511627776 <;> cases out c.rev 1099511627776 <;> rfl
      have hch : chk c = if rangeBad c then 6 else if 1024 < c.val.size then 12 else if bare c then 0 else if c.kind = 5 then errV (beginV c.key) else errV (keyV c.key) := by
        unfold chk
        rw [hfb]
        rfl
      clear hb1 hb2 hb3 hfb
      cases b1 with
      | false =>
        have HV : Hid (chk c = 6) := Lib.hid (by rw [hch, hrb]; rfl)
        clear hrb hch
        go_wp2_with (go_at_call 78; refine (HW1.out _).mono ?_; rintro e w' ⟨rfl, rfl⟩)
        go_ret
        exact ⟨by rw [HV.out]; rfl, HWC.out⟩
      | true =>
        cases b2 with
        | false =>
          have HV : Hid (chk c = 6) := Lib.hid (by rw [hch, hrb]; rfl)
          clear hrb hch
          go_wp2_with (first | (go_at_call 78; ((with_reducible refine (HW1.out _).mono ?_); rintro e w' ⟨rfl, rfl⟩)) | (go_at_call 78; ((with_reducible refine (HW2.out _).mono ?_); rintro e w' ⟨rfl, rfl⟩)))
          go_ret
          exact ⟨by rw [HV.out]; rfl, HWC.out⟩
        | true =>
          cases b3 with
          | false =>
            have HV : Hid (chk c = 6) := Lib.hid (by rw [hch, hrb]; rfl)
            clear hrb hch
            go_wp2_with (first | (go_at_call 78; ((with_reducible refine (HW1.out _).mono ?_); rintro e w' ⟨rfl, rfl⟩)) | (go_at_call 78; ((with_reducible refine (HW2.out _).mono ?_); rintro e w' ⟨rfl, rfl⟩)) | (go_at_call 78; ((with_reducible refine (HW3.out _).mono ?_); rintro e w' ⟨rfl, rfl⟩)))
            go_ret
            exact ⟨by rw [HV.out]; rfl, HWC.out⟩
          | true =>
            rw [hrb] at hch
            simp only [Bool.and_self, Bool.not_true, Bool.false_eq_true, if_false] at hch
            clear hrb
            by_cases hv : 1024 < c.val.size
            · have HV : Hid (chk c = 12) := Lib.hid (by rw [hch, if_pos hv])
              have hvi : (1024 : Int) < (c.val.size : Int) := by omega
              clear hch
              go_wp2_with (first | (go_at_call 78; ((with_reducible refine (HW1.out _).mono ?_); rintro e w' ⟨rfl, rfl⟩)) | (go_at_call 78; ((with_reducible refine (HW2.out _).mono ?_); rintro e w' ⟨rfl, rfl⟩)) | (go_at_call 78; ((with_reducible refine (HW3.out _).mono ?_); rintro e w' ⟨rfl, rfl⟩)))
              go_ret
              exact ⟨by rw [HV.out]; rfl, HWC.out⟩
            · rw [if_neg hv] at hch
              have hvi : ¬ (1024 : Int) < (c.val.size : Int) := by omega
              have HBA := Lib.hid (bare_any c wc)
              obtain ⟨bb, hbb⟩ : ∃ bb, bb = bare c := ⟨_, rfl⟩
              rw [← hbb] at HBA hch
              clear hbb hv
              go_upto_region 7 with (first | (go_at_call 78; ((with_reducible refine (HW1.out _).mono ?_); rintro e w' ⟨rfl, rfl⟩)) | (go_at_call 78; ((with_reducible refine (HW2.out _).mono ?_); rintro e w' ⟨rfl, rfl⟩)) | (go_at_call 78; ((with_reducible refine (HW3.out _).mono ?_); rintro e w' ⟨rfl, rfl⟩)))
              go_wp2_with fail
              refine HBA.out.mono ?_
              rintro e w2 ⟨rfl, hb2⟩
              have hbo2 := (hb2.block _ (M.heap_lt HBO.out)).trans HBO.out
              obtain ⟨⟨g0, g1, g2, g3, g4, g5⟩, _⟩ := box6 hbo2
              have HB2 := Lib.hid (HWC.out.trans (hb2.mono HWC.out.size))
              have HT2 := Lib.hid (HT.out.next hb2)
              clear hb2 hbo2 d0 d1 d2 d3 d4 d5 HBA HW1 HW2 HW3
              cases bb with
              | true =>
                have HV : Hid (chk c = 0) := Lib.hid (by rw [hch]; rfl)
                clear hch
                go_wp2_with fail
                go_ret
                exact ⟨by rw [HV.out]; rfl, HB2.out⟩
              | false =>
                by_cases h5 : c.kind = 5
                · have e5 : (c.kind == 5) = true := by rw [beq_iff_eq]; exact h5
                  have HV : Hid (chk c = errV (beginV c.key)) := Lib.hid (by rw [hch]; simp [h5])
                  clear hch h5
                  go_wp2_with fail
                  refine (begin_t c.key w2 hs HT2.out _ rfl).mono ?_
                  rintro e w3 ⟨rfl, hb3, _⟩
                  have HB3 := Lib.hid (HB2.out.trans (hb3.mono HB2.out.size))
                  clear hb3
                  go_wp2_with fail
                  go_ret
                  exact ⟨by rw [HV.out]; rfl, HB3.out⟩
                · have e5 : (c.kind == 5) = false := by rw [beq_eq_false_iff_ne]; exact h5
                  have HV : Hid (chk c = errV (keyV c.key)) := Lib.hid (by rw [hch]; simp [h5])
                  clear hch h5
                  go_wp2_with fail
                  refine (key_t c.key w2 hs HT2.out _ rfl).mono ?_
                  rintro e w3 ⟨rfl, hb3, _⟩
                  have HB3 := Lib.hid (HB2.out.trans (hb3.mono HB2.out.size))
                  clear hb3
                  go_wp2_with fail
                  go_ret
                  exact ⟨by rw [HV.out]; rfl, HB3.out⟩
end Go.Proofs.YtlbkbjeajcadiaaGreatDoor.P
