/- Records: what is right with them: rec.Check. -/
import Derived.Test.YtlbkbjeajcadiaaGreatDoorMrg10
namespace Go.Proofs.YtlbkbjeajcadiaaGreatDoor.O
open Go.RowKit Go.Proofs.YtlbkbjeajcadiaaGreatDoor.M Go.BigFrame Go.Proofs.YtlbkbjeajcadiaaGreatDoor.R
set_option linter.unusedVariables false
set_option linter.unusedSimpArgs false

def headBad (x : Rv) : Bool := !idOk x.id || (decide (x.st < 0) || decide (3 < x.st))
def balBad (x : Rv) : Bool := !balOk x.bal || (!balOk x.took || balLt x.bal x.took)
def restOk (x : Rv) : Bool := if x.st = 0 then bareB x else (P.chk x.cmd == 0) && ((attrChk x.deps x.seq x.tag == 0) && !decide (x.id ∈ x.deps))
def recOk (x : Rv) : Bool := !headBad x && (!balBad x && restOk x)
theorem attrChk_ok {l : List Id} {sq tg : Int} (h : attrChk l sq tg = 0) : setOk l = true := by
  unfold attrChk at h
  split at h
  · cases h
  · split at h
    · cases h
    · split at h
      · assumption
      · cases h
/-- a record's box, and what it hangs on -/
structure Boxed (x : Rv) (b : Nat) (w : World) : Prop where
  box : w.heap[b]? = some (recO x)
  deps : IdsV w x.ao x.cap x.deps
  tab : Tabs w
theorem Boxed.next {x : Rv} {b : Nat} {w w' : World} (h : Boxed x b w) (hb : Below w.heap.size w w') : Boxed x b w' :=
  ⟨(hb.block _ (M.heap_lt h.box)).trans h.box, h.deps.below (B := 0) hb, h.tab.next hb⟩
set_option maxRecDepth 100000 in
set_option maxHeartbeats 4000000 in
theorem reccheck_any (x : Rv) (w : World) (h : RvOk w x) (hT : Tabs w) (hl : x.deps.length ≤ 1000000) (hk : x.cmd.key.size ≤ 1000000) (v : Int) (hv : (if recOk x then (0 : Int) else 4) = v) :
    Calls Tryz.prog 28 #[recV x] w fun e w' => e = .returned (.int .i64 v) ∧ Below w.heap.size w w' := by
  have HV := Lib.hid hv
  have H0 := Lib.hid h
  have HT := Lib.hid hT
  clear hv h hT
  go_enter Tryz.func28, Tryz.ntmps28
  go_upto_region 1 with fail
  obtain ⟨W, hW⟩ : ∃ W, W = w.alloc (recO x) := ⟨_, rfl⟩
  have HG : Hid (Below w.heap.size w W) := Lib.hid (by rw [hW]; exact (Below.refl _ _).alloc (Nat.le_refl _) _)
  have HX : Hid (Boxed x w.heap.size W) := Lib.hid ⟨by rw [hW]; exact heap_alloc_new w _, H0.out.deps.below (B := 0) HG.out, HT.out.next HG.out⟩
  rw [← hW]
  clear hW H0 HT
  obtain ⟨b1, hb1⟩ : ∃ b, idOk x.id = b := ⟨_, rfl⟩
  obtain ⟨b2, hb2⟩ : ∃ b, decide (x.st < 0) = b := ⟨_, rfl⟩
  obtain ⟨b3, hb3⟩ : ∃ b, decide (3 < x.st) = b := ⟨_, rfl⟩
  have HB1 := Lib.hid hb1
  have HH := Lib.hid (show headBad x = (!b1 || (b2 || b3)) by unfold headBad; rw [hb1, hb2, hb3])
  obtain ⟨hd, hhd⟩ : ∃ hd, hd = (!b1 || (b2 || b3)) := ⟨_, rfl⟩
  rw [← hhd] at HH
  have HD := Lib.hid hhd
  clear hb1 hhd
  go_cut [3] (fun u wx => u = .bool hd ∧ Below W.heap.size W wx)
  case first =>
    obtain ⟨c0, c1, c2, c3, c4, c5, c6, c7, c8, c9, c10, c11, c12, c13, c14, c15⟩ := box16 (HX.out).box
    go_wp2_with fail
    refine (right_any x.id W b1 HB1.out).mono ?_
    rintro e w1 ⟨rfl, hg1⟩
    have HBB := Lib.hid hg1.below
    have HX1 := Lib.hid (HX.out.next hg1.below)
    clear hg1
    clear c0 c1 c2 c3 c4 c5 c6 c7 c8 c9 c10 c11 c12 c13 c14 c15
    obtain ⟨c0, c1, c2, c3, c4, c5, c6, c7, c8, c9, c10, c11, c12, c13, c14, c15⟩ := box16 (HX1.out).box
    cases b1 with
    | false =>
      have HE := Lib.hid (show hd = true from HD.out)
      go_wp2_with fail
      go_meet
      case rel => exact ⟨by rw [HE.out], HBB.out⟩
    | true =>
      cases b2 with
      | true =>
        have HE := Lib.hid (show hd = true from HD.out)
        go_wp2_with fail
        go_meet
        case rel => exact ⟨by rw [HE.out], HBB.out⟩
      | false =>
        have HE := Lib.hid (show hd = b3 from HD.out)
        cases b3 with
        | true =>
          go_wp2_with fail
          go_meet
          case rel => exact ⟨by rw [HE.out], HBB.out⟩
        | false =>
          go_wp2_with fail
          go_meet
          case rel => exact ⟨by rw [HE.out], HBB.out⟩
  case rest =>
    obtain ⟨rfl, hbc⟩ := hcut
    obtain ⟨w1, rfl⟩ : ∃ w1, w1 = wc := ⟨_, rfl⟩
    have HG1 := Lib.hid (HG.out.trans (hbc.mono HG.out.size))
    have HX1 := Lib.hid (HX.out.next hbc)
    clear hbc hb2 hb3 HX HG HD HB1
    cases hd with
    | true =>
      have HE := Lib.hid (show v = 4 by rw [← HV.out]; unfold recOk; rw [HH.out]; rfl)
      go_wp2_with fail
      go_ret
      exact ⟨by rw [HE.out]; rfl, HG1.out⟩
    | false =>
      go_upto_region 3 with fail
      obtain ⟨b1, hb1⟩ : ∃ b, balOk x.bal = b := ⟨_, rfl⟩
      obtain ⟨b2, hb2⟩ : ∃ b, balOk x.took = b := ⟨_, rfl⟩
      obtain ⟨b3, hb3⟩ : ∃ b, balLt x.bal x.took = b := ⟨_, rfl⟩
      have HB1 := Lib.hid hb1
      have HB2 := Lib.hid hb2
      have HB3 := Lib.hid hb3
      have HBD := Lib.hid (show balBad x = (!b1 || (!b2 || b3)) by unfold balBad; rw [hb1, hb2, hb3])
      obtain ⟨bd, hbd⟩ : ∃ hd, hd = (!b1 || (!b2 || b3)) := ⟨_, rfl⟩
      rw [← hbd] at HBD
      have HD := Lib.hid hbd
      clear hb1 hb2 hb3 hbd
      go_cut [18] (fun u wx => u = .bool bd ∧ Below w1.heap.size w1 wx)
      case first =>
        obtain ⟨c0, c1, c2, c3, c4, c5, c6, c7, c8, c9, c10, c11, c12, c13, c14, c15⟩ := box16 (HX1.out).box
        have HR := Lib.hid (Below.refl w1.heap.size w1)
        go_wp2_with fail
        refine (balright_any x.bal w1 b1 HB1.out).mono ?_
        rintro e w2 ⟨rfl, hcall⟩
        have HR2 := Lib.hid (HR.out.trans ((hcall).mono HR.out.size))
        have HX2 := Lib.hid (HX1.out.next (hcall))
        clear hcall
        clear c0 c1 c2 c3 c4 c5 c6 c7 c8 c9 c10 c11 c12 c13 c14 c15
        obtain ⟨c0, c1, c2, c3, c4, c5, c6, c7, c8, c9, c10, c11, c12, c13, c14, c15⟩ := box16 (HX2.out).box
        cases b1 with
        | false =>
          have HE := Lib.hid (show bd = true from HD.out)
          go_wp2_with fail
          go_meet
          case rel => exact ⟨by rw [HE.out], HR2.out⟩
        | true =>
          go_wp2_with fail
          refine (balright_any x.took w2 b2 HB2.out).mono ?_
          rintro e w3 ⟨rfl, hcall⟩
          have HR3 := Lib.hid (HR2.out.trans ((hcall).mono HR2.out.size))
          have HX3 := Lib.hid (HX2.out.next (hcall))
          clear hcall
          clear c0 c1 c2 c3 c4 c5 c6 c7 c8 c9 c10 c11 c12 c13 c14 c15
          obtain ⟨c0, c1, c2, c3, c4, c5, c6, c7, c8, c9, c10, c11, c12, c13, c14, c15⟩ := box16 (HX3.out).box
          cases b2 with
          | false =>
            have HE := Lib.hid (show bd = true from HD.out)
            go_wp2_with fail
            go_meet
            case rel => exact ⟨by rw [HE.out], HR3.out⟩
          | true =>
            have HE := Lib.hid (show bd = b3 from HD.out)
            go_wp2_with fail
            refine (balless_any x.bal x.took w3 b3 HB3.out).mono ?_
            rintro e w4 ⟨rfl, hcall⟩
            have HR4 := Lib.hid (HR3.out.trans ((hcall).mono HR3.out.size))
            have HX4 := Lib.hid (HX3.out.next (hcall))
            clear hcall
            clear c0 c1 c2 c3 c4 c5 c6 c7 c8 c9 c10 c11 c12 c13 c14 c15
            obtain ⟨c0, c1, c2, c3, c4, c5, c6, c7, c8, c9, c10, c11, c12, c13, c14, c15⟩ := box16 (HX4.out).box
            go_wp2_with fail
            go_meet
            case rel => exact ⟨by rw [HE.out], HR4.out⟩
      case rest =>
        obtain ⟨rfl, hbc⟩ := hcut
        obtain ⟨w2, rfl⟩ : ∃ w1, w1 = wc := ⟨_, rfl⟩
        have HG2 := Lib.hid (HG1.out.trans (hbc.mono HG1.out.size))
        have HX2 := Lib.hid (HX1.out.next hbc)
        clear hbc HX1 HG1 HD HB1 HB2 HB3
        cases bd with
        | true =>
          have HE := Lib.hid (show v = 4 by rw [← HV.out]; unfold recOk; rw [HH.out, HBD.out]; rfl)
          go_wp2_with fail
          go_ret
          exact ⟨by rw [HE.out]; rfl, HG2.out⟩
        | false =>
          have HQ := Lib.hid (show (if restOk x then (0 : Int) else 4) = v by rw [← HV.out]; unfold recOk; rw [HH.out, HBD.out]; rfl)
          go_upto_region 5 with fail
          obtain ⟨c0, c1, c2, c3, c4, c5, c6, c7, c8, c9, c10, c11, c12, c13, c14, c15⟩ := box16 (HX2.out).box
          cases hz : (x.st == 0) with
          | true =>
            have hz2 : x.st = 0 := by simpa using hz
            obtain ⟨bb, hbb⟩ : ∃ b, bareB x = b := ⟨_, rfl⟩
            have HBR := Lib.hid hbb
            have HE := Lib.hid (show v = if bb then 0 else 4 by rw [← HQ.out, ← hbb]; unfold restOk; rw [if_pos hz2])
            clear hz2 hbb
            go_wp2_with fail
            refine (bare_any x w2 HX2.out.deps hl bb HBR.out).mono ?_
            rintro e w3 ⟨rfl, hcall⟩
            have HG3 := Lib.hid (HG2.out.trans ((hcall).mono HG2.out.size))
            have HX3 := Lib.hid (HX2.out.next (hcall))
            clear hcall
            clear c0 c1 c2 c3 c4 c5 c6 c7 c8 c9 c10 c11 c12 c13 c14 c15
            obtain ⟨c0, c1, c2, c3, c4, c5, c6, c7, c8, c9, c10, c11, c12, c13, c14, c15⟩ := box16 (HX3.out).box
            cases bb with
            | true =>
              go_wp2_with fail
              go_ret
              exact ⟨by rw [HE.out]; rfl, HG3.out⟩
            | false =>
              go_wp2_with fail
              go_ret
              exact ⟨by rw [HE.out]; rfl, HG3.out⟩
          | false =>
            have hz2 : ¬ x.st = 0 := by simpa using hz
            obtain ⟨k1, hk1⟩ : ∃ k, P.chk x.cmd = k := ⟨_, rfl⟩
            obtain ⟨k2, hk2⟩ : ∃ k, attrChk x.deps x.seq x.tag = k := ⟨_, rfl⟩
            obtain ⟨b3, hb3⟩ : ∃ b, decide (x.id ∈ x.deps) = b := ⟨_, rfl⟩
            have HK1 := Lib.hid hk1
            have HK2 := Lib.hid hk2
            have HB3 := Lib.hid hb3
            have HE := Lib.hid (show (if (k1 == 0) && ((k2 == 0) && !b3) then (0 : Int) else 4) = v by rw [← HQ.out, ← hk1, ← hk2, ← hb3]; unfold restOk; rw [if_neg hz2])
            clear hz2 hk1 hk2 hb3
            go_upto_region 9 with fail
            go_wp2_with fail
            refine (P.check_any x.cmd w2 HX2.out.tab hk).mono ?_
            rintro e w3 ⟨rfl, hcall⟩
            have HG3 := Lib.hid (HG2.out.trans ((hcall).mono HG2.out.size))
            have HX3 := Lib.hid (HX2.out.next (hcall))
            clear hcall
            clear c0 c1 c2 c3 c4 c5 c6 c7 c8 c9 c10 c11 c12 c13 c14 c15
            obtain ⟨c0, c1, c2, c3, c4, c5, c6, c7, c8, c9, c10, c11, c12, c13, c14, c15⟩ := box16 (HX3.out).box
            rw [HK1.out]
            cases e1 : (k1 == 0) with
            | false =>
              have HE2 := Lib.hid (show v = 4 by rw [← HE.out, e1]; rfl)
              have e2 : (k1 != 0) = true := by simp only [bne, e1]; rfl
              go_wp2_with fail
              go_ret
              exact ⟨by rw [HE2.out]; rfl, HG3.out⟩
            | true =>
              have e2 : (k1 != 0) = false := by simp only [bne, e1]; rfl
              have HE2 := Lib.hid (show (if ((k2 == 0) && !b3) then (0 : Int) else 4) = v by rw [← HE.out, e1]; rfl)
              go_wp2_with fail
              refine (attrchk_any x.ao x.cap x.deps x.seq x.tag w3 HX3.out.deps hl k2 HK2.out).mono ?_
              rintro e w4 ⟨rfl, hcall⟩
              have HG4 := Lib.hid (HG3.out.trans ((hcall).mono HG3.out.size))
              have HX4 := Lib.hid (HX3.out.next (hcall))
              clear hcall
              clear c0 c1 c2 c3 c4 c5 c6 c7 c8 c9 c10 c11 c12 c13 c14 c15
              obtain ⟨c0, c1, c2, c3, c4, c5, c6, c7, c8, c9, c10, c11, c12, c13, c14, c15⟩ := box16 (HX4.out).box
              cases e3 : (k2 == 0) with
              | false =>
                have HE3 := Lib.hid (show v = 4 by rw [← HE2.out, e3]; rfl)
                have e4 : (k2 != 0) = true := by simp only [bne, e3]; rfl
                go_wp2_with fail
                go_ret
                exact ⟨by rw [HE3.out]; rfl, HG4.out⟩
              | true =>
                have e4 : (k2 != 0) = false := by simp only [bne, e3]; rfl
                have HE3 := Lib.hid (show (if !b3 then (0 : Int) else 4) = v by rw [← HE2.out, e3]; rfl)
                have HPW := Lib.hid (setOk_pw (attrChk_ok (show attrChk x.deps x.seq x.tag = 0 by rw [HK2.out]; simpa using e3)))
                go_wp2_with fail
                refine (has_any x.deps x.ao x.cap x.id w4 HX4.out.deps HPW.out hl b3 HB3.out).mono ?_
                rintro e w5 ⟨rfl, hcall⟩
                have HG5 := Lib.hid (HG4.out.trans ((hcall).mono HG4.out.size))
                have HX5 := Lib.hid (HX4.out.next (hcall))
                clear hcall
                clear c0 c1 c2 c3 c4 c5 c6 c7 c8 c9 c10 c11 c12 c13 c14 c15
                obtain ⟨c0, c1, c2, c3, c4, c5, c6, c7, c8, c9, c10, c11, c12, c13, c14, c15⟩ := box16 (HX5.out).box
                cases b3 with
                | true =>
                  go_wp2_with fail
                  go_ret
                  exact ⟨by rw [← HE3.out]; rfl, HG5.out⟩
                | false =>
                  go_wp2_with fail
                  go_ret
                  exact ⟨by rw [← HE3.out]; rfl, HG5.out⟩
end Go.Proofs.YtlbkbjeajcadiaaGreatDoor.O
