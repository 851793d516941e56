/- Several texts in one. -/
import Derived.Test.YtlbkbjeajcadiaaGreatDoorMrg15
import Derived.Test.YtlbkbjeajcadiaaGreatDoorMrg7

/- Records: what is right with them: rec.Check. -/
namespace Go.Proofs.YtlbkbjeajcadiaaGreatDoor.O
open Go.RowKit Go.Proofs.YtlbkbjeajcadiaaGreatDoor.M Go.BigFrame Go.Proofs.YtlbkbjeajcadiaaGreatDoor.R
set_option linter.unusedVariables false
set_option linter.unusedSimpArgs false

def headBad (x : Rv) : Bool := !idOk x.id || (decide (x.st < 0) || decide (3 < x.st))
def balBad (x : Rv) : Bool := !balOk x.bal || (!balOk x.took || balLt x.bal x.took)
def restOk (x : Rv) : Bool := if x.st = 0 then bareB x else (P.chk x.cmd == 0) && ((attrChk x.deps x.seq x.tag == 0) && !decide (x.id ∈ x.deps))
def recOk (x : Rv) : Bool := !headBad x && (!balBad x && restOk x)
theorem attrChk_ok {l : List Id} {sq tg : Int} (h : attrChk l sq tg = 0) : setOk l = true := by
  unfold attrChk at h
  split at h
  · cases h
  · split at h
    · cases h
    · split at h
      · assumption
      · cases h
/-- a record's box, and what it hangs on -/
structure Boxed (x : Rv) (b : Nat) (w : World) : Prop where
  box : w.heap[b]? = some (recO x)
  deps : IdsV w x.ao x.cap x.deps
  tab : Tabs w
theorem Boxed.next {x : Rv} {b : Nat} {w w' : World} (h : Boxed x b w) (hb : Below w.heap.size w w') : Boxed x b w' :=
  ⟨(hb.block _ (M.heap_lt h.box)).trans h.box, h.deps.below (B := 0) hb, h.tab.next hb⟩
set_option maxRecDepth 100000 in
set_option maxHeartbeats 4000000 in
theorem reccheck_any (x : Rv) (w : World) (h : RvOk w x) (hT : Tabs w) (hl : x.deps.length ≤ 1000000) (hk : x.cmd.key.size ≤ 1000000) (v : Int) (hv : (if recOk x then (0 : Int) else 4) = v) :
    Calls Tryz.prog 28 #[recV x] w fun e w' => e = .returned (.int .i64 v) ∧ Below w.heap.size w w' := by
  have HV := Lib.hid hv
  have H0 := Lib.hid h
  have HT := Lib.hid hT
  clear hv h hT
  go_enter Tryz.func28, Tryz.ntmps28
  go_upto_region 1 with fail
  obtain ⟨W, hW⟩ : ∃ W, W = w.alloc (recO x) := ⟨_, rfl⟩
  have HG : Hid (Below w.heap.size w W) := Lib.hid (by rw [hW]; exact (Below.refl _ _).alloc (Nat.le_refl _) _)
  have HX : Hid (Boxed x w.heap.size W) := Lib.hid ⟨by rw [hW]; exact heap_alloc_new w _, H0.out.deps.below (B := 0) HG.out, HT.out.next HG.out⟩
  rw [← hW]
  clear hW H0 HT
  obtain ⟨b1, hb1⟩ : ∃ b, idOk x.id = b := ⟨_, rfl⟩
  obtain ⟨b2, hb2⟩ : ∃ b, decide (x.st < 0) = b := ⟨_, rfl⟩
  obtain ⟨b3, hb3⟩ : ∃ b, decide (3 < x.st) = b := ⟨_, rfl⟩
  have HB1 := Lib.hid hb1
  have HH := Lib.hid (show headBad x = (!b1 || (b2 || b3)) by unfold headBad; rw [hb1, hb2, hb3])
  obtain ⟨hd, hhd⟩ : ∃ hd, hd = (!b1 || (b2 || b3)) := ⟨_, rfl⟩
  rw [← hhd] at HH
  have HD := Lib.hid hhd
  clear hb1 hhd
  go_cut [3] (fun u wx => u = .bool hd ∧ Below W.heap.size W wx)
  case first =>
    obtain ⟨c0, c1, c2, c3, c4, c5, c6, c7, c8, c9, c10, c11, c12, c13, c14, c15⟩ := box16 (HX.out).box
    go_wp2_with fail
    refine (right_any x.id W b1 HB1.out).mono ?_
    rintro e w1 ⟨rfl, hg1⟩
    have HBB := Lib.hid hg1.below
    have HX1 := Lib.hid (HX.out.next hg1.below)
    clear hg1
    clear c0 c1 c2 c3 c4 c5 c6 c7 c8 c9 c10 c11 c12 c13 c14 c15
    obtain ⟨c0, c1, c2, c3, c4, c5, c6, c7, c8, c9, c10, c11, c12, c13, c14, c15⟩ := box16 (HX1.out).box
    cases b1 with
    | false =>
      have HE := Lib.hid (show hd = true from HD.out)
      go_wp2_with fail
      go_meet
      case rel => exact ⟨by rw [HE.out], HBB.out⟩
    | true =>
      cases b2 with
      | true =>
        have HE := Lib.hid (show hd = true from HD.out)
        go_wp2_with fail
        go_meet
        case rel => exact ⟨by rw [HE.out], HBB.out⟩
      | false =>
        have HE := Lib.hid (show hd = b3 from HD.out)
        cases b3 with
        | true =>
          go_wp2_with fail
          go_meet
          case rel => exact ⟨by rw [HE.out], HBB.out⟩
        | false =>
          go_wp2_with fail
          go_meet
          case rel => exact ⟨by rw [HE.out], HBB.out⟩
  case rest =>
    obtain ⟨rfl, hbc⟩ := hcut
    obtain ⟨w1, rfl⟩ : ∃ w1, w1 = wc := ⟨_, rfl⟩
    have HG1 := Lib.hid (HG.out.trans (hbc.mono HG.out.size))
    have HX1 := Lib.hid (HX.out.next hbc)
    clear hbc hb2 hb3 HX HG HD HB1
    cases hd with
    | true =>
      have HE := Lib.hid (show v = 4 by rw [← HV.out]; unfold recOk; rw [HH.out]; rfl)
      go_wp2_with fail
      go_ret
      exact ⟨by rw [HE.out]; rfl, HG1.out⟩
    | false =>
      go_upto_region 3 with fail
      obtain ⟨b1, hb1⟩ : ∃ b, balOk x.bal = b := ⟨_, rfl⟩
      obtain ⟨b2, hb2⟩ : ∃ b, balOk x.took = b := ⟨_, rfl⟩
      obtain ⟨b3, hb3⟩ : ∃ b, balLt x.bal x.took = b := ⟨_, rfl⟩
      have HB1 := Lib.hid hb1
      have HB2 := Lib.hid hb2
      have HB3 := Lib.hid hb3
      have HBD := Lib.hid (show balBad x = (!b1 || (!b2 || b3)) by unfold balBad; rw [hb1, hb2, hb3])
      obtain ⟨bd, hbd⟩ : ∃ hd, hd = (!b1 || (!b2 || b3)) := ⟨_, rfl⟩
      rw [← hbd] at HBD
      have HD := Lib.hid hbd
      clear hb1 hb2 hb3 hbd
      go_cut [18] (fun u wx => u = .bool bd ∧ Below w1.heap.size w1 wx)
      case first =>
        obtain ⟨c0, c1, c2, c3, c4, c5, c6, c7, c8, c9, c10, c11, c12, c13, c14, c15⟩ := box16 (HX1.out).box
        have HR := Lib.hid (Below.refl w1.heap.size w1)
        go_wp2_with fail
        refine (balright_any x.bal w1 b1 HB1.out).mono ?_
        rintro e w2 ⟨rfl, hcall⟩
        have HR2 := Lib.hid (HR.out.trans ((hcall).mono HR.out.size))
        have HX2 := Lib.hid (HX1.out.next (hcall))
        clear hcall
        clear c0 c1 c2 c3 c4 c5 c6 c7 c8 c9 c10 c11 c12 c13 c14 c15
        obtain ⟨c0, c1, c2, c3, c4, c5, c6, c7, c8, c9, c10, c11, c12, c13, c14, c15⟩ := box16 (HX2.out).box
        cases b1 with
        | false =>
          have HE := Lib.hid (show bd = true from HD.out)
          go_wp2_with fail
          go_meet
          case rel => exact ⟨by rw [HE.out], HR2.out⟩
        | true =>
          go_wp2_with fail
          refine (balright_any x.took w2 b2 HB2.out).mono ?_
          rintro e w3 ⟨rfl, hcall⟩
          have HR3 := Lib.hid (HR2.out.trans ((hcall).mono HR2.out.size))
          have HX3 := Lib.hid (HX2.out.next (hcall))
          clear hcall
          clear c0 c1 c2 c3 c4 c5 c6 c7 c8 c9 c10 c11 c12 c13 c14 c15
          obtain ⟨c0, c1, c2, c3, c4, c5, c6, c7, c8, c9, c10, c11, c12, c13, c14, c15⟩ := box16 (HX3.out).box
          cases b2 with
          | false =>
            have HE := Lib.hid (show bd = true from HD.out)
            go_wp2_with fail
            go_meet
            case rel => exact ⟨by rw [HE.out], HR3.out⟩
          | true =>
            have HE := Lib.hid (show bd = b3 from HD.out)
            go_wp2_with fail
            refine (balless_any x.bal x.took w3 b3 HB3.out).mono ?_
            rintro e w4 ⟨rfl, hcall⟩
            have HR4 := Lib.hid (HR3.out.trans ((hcall).mono HR3.out.size))
            have HX4 := Lib.hid (HX3.out.next (hcall))
            clear hcall
            clear c0 c1 c2 c3 c4 c5 c6 c7 c8 c9 c10 c11 c12 c13 c14 c15
            obtain ⟨c0, c1, c2, c3, c4, c5, c6, c7, c8, c9, c10, c11, c12, c13, c14, c15⟩ := box16 (HX4.out).box
            go_wp2_with fail
            go_meet
            case rel => exact ⟨by rw [HE.out], HR4.out⟩
      case rest =>
        obtain ⟨rfl, hbc⟩ := hcut
        obtain ⟨w2, rfl⟩ : ∃ w1, w1 = wc := ⟨_, rfl⟩
        have HG2 := Lib.hid (HG1.out.trans (hbc.mono HG1.out.size))
        have HX2 := Lib.hid (HX1.out.next hbc)
        clear hbc HX1 HG1 HD HB1 HB2 HB3
        cases bd with
        | true =>
          have HE := Lib.hid (show v = 4 by rw [← HV.out]; unfold recOk; rw [HH.out, HBD.out]; rfl)
          go_wp2_with fail
          go_ret
          exact ⟨by rw [HE.out]; rfl, HG2.out⟩
        | false =>
          have HQ := Lib.hid (show (if restOk x then (0 : Int) else 4) = v by rw [← HV.out]; unfold recOk; rw [HH.out, HBD.out]; rfl)
          go_upto_region 5 with fail
          obtain ⟨c0, c1, c2, c3, c4, c5, c6, c7, c8, c9, c10, c11, c12, c13, c14, c15⟩ := box16 (HX2.out).box
          cases hz : (x.st == 0) with
          | true =>
            have hz2 : x.st = 0 := by simpa using hz
            obtain ⟨bb, hbb⟩ : ∃ b, bareB x = b := ⟨_, rfl⟩
            have HBR := Lib.hid hbb
            have HE := Lib.hid (show v = if bb then 0 else 4 by rw [← HQ.out, ← hbb]; unfold restOk; rw [if_pos hz2])
            clear hz2 hbb
            go_wp2_with fail
            refine (bare_any x w2 HX2.out.deps hl bb HBR.out).mono ?_
            rintro e w3 ⟨rfl, hcall⟩
            have HG3 := Lib.hid (HG2.out.trans ((hcall).mono HG2.out.size))
            have HX3 := Lib.hid (HX2.out.next (hcall))
            clear hcall
            clear c0 c1 c2 c3 c4 c5 c6 c7 c8 c9 c10 c11 c12 c13 c14 c15
            obtain ⟨c0, c1, c2, c3, c4, c5, c6, c7, c8, c9, c10, c11, c12, c13, c14, c15⟩ := box16 (HX3.out).box
            cases bb with
            | true =>
              go_wp2_with fail
              go_ret
              exact ⟨by rw [HE.out]; rfl, HG3.out⟩
            | false =>
              go_wp2_with fail
              go_ret
              exact ⟨by rw [HE.out]; rfl, HG3.out⟩
          | false =>
            have hz2 : ¬ x.st = 0 := by simpa using hz
            obtain ⟨k1, hk1⟩ : ∃ k, P.chk x.cmd = k := ⟨_, rfl⟩
            obtain ⟨k2, hk2⟩ : ∃ k, attrChk x.deps x.seq x.tag = k := ⟨_, rfl⟩
            obtain ⟨b3, hb3⟩ : ∃ b, decide (x.id ∈ x.deps) = b := ⟨_, rfl⟩
            have HK1 := Lib.hid hk1
            have HK2 := Lib.hid hk2
            have HB3 := Lib.hid hb3
            have HE := Lib.hid (show (if (k1 == 0) && ((k2 == 0) && !b3) then (0 : Int) else 4) = v by rw [← HQ.out, ← hk1, ← hk2, ← hb3]; unfold restOk; rw [if_neg hz2])
            clear hz2 hk1 hk2 hb3
            go_upto_region 9 with fail
            go_wp2_with fail
            refine (P.check_any x.cmd w2 HX2.out.tab hk).mono ?_
            rintro e w3 ⟨rfl, hcall⟩
            have HG3 := Lib.hid (HG2.out.trans ((hcall).mono HG2.out.size))
            have HX3 := Lib.hid (HX2.out.next (hcall))
            clear hcall
            clear c0 c1 c2 c3 c4 c5 c6 c7 c8 c9 c10 c11 c12 c13 c14 c15
            obtain ⟨c0, c1, c2, c3, c4, c5, c6, c7, c8, c9, c10, c11, c12, c13, c14, c15⟩ := box16 (HX3.out).box
            rw [HK1.out]
            cases e1 : (k1 == 0) with
            | false =>
              have HE2 := Lib.hid (show v = 4 by rw [← HE.out, e1]; rfl)
              have e2 : (k1 != 0) = true := by simp only [bne, e1]; rfl
              go_wp2_with fail
              go_ret
              exact ⟨by rw [HE2.out]; rfl, HG3.out⟩
            | true =>
              have e2 : (k1 != 0) = false := by simp only [bne, e1]; rfl
              have HE2 := Lib.hid (show (if ((k2 == 0) && !b3) then (0 : Int) else 4) = v by rw [← HE.out, e1]; rfl)
              go_wp2_with fail
              refine (attrchk_any x.ao x.cap x.deps x.seq x.tag w3 HX3.out.deps hl k2 HK2.out).mono ?_
              rintro e w4 ⟨rfl, hcall⟩
              have HG4 := Lib.hid (HG3.out.trans ((hcall).mono HG3.out.size))
              have HX4 := Lib.hid (HX3.out.next (hcall))
              clear hcall
              clear c0 c1 c2 c3 c4 c5 c6 c7 c8 c9 c10 c11 c12 c13 c14 c15
              obtain ⟨c0, c1, c2, c3, c4, c5, c6, c7, c8, c9, c10, c11, c12, c13, c14, c15⟩ := box16 (HX4.out).box
              cases e3 : (k2 == 0) with
              | false =>
                have HE3 := Lib.hid (show v = 4 by rw [← HE2.out, e3]; rfl)
                have e4 : (k2 != 0) = true := by simp only [bne, e3]; rfl
                go_wp2_with fail
                go_ret
                exact ⟨by rw [HE3.out]; rfl, HG4.out⟩
              | true =>
                have e4 : (k2 != 0) = false := by simp only [bne, e3]; rfl
                have HE3 := Lib.hid (show (if !b3 then (0 : Int) else 4) = v by rw [← HE2.out, e3]; rfl)
                have HPW := Lib.hid (setOk_pw (attrChk_ok (show attrChk x.deps x.seq x.tag = 0 by rw [HK2.out]; simpa using e3)))
                go_wp2_with fail
                refine (has_any x.deps x.ao x.cap x.id w4 HX4.out.deps HPW.out hl b3 HB3.out).mono ?_
                rintro e w5 ⟨rfl, hcall⟩
                have HG5 := Lib.hid (HG4.out.trans ((hcall).mono HG4.out.size))
                have HX5 := Lib.hid (HX4.out.next (hcall))
                clear hcall
                clear c0 c1 c2 c3 c4 c5 c6 c7 c8 c9 c10 c11 c12 c13 c14 c15
                obtain ⟨c0, c1, c2, c3, c4, c5, c6, c7, c8, c9, c10, c11, c12, c13, c14, c15⟩ := box16 (HX5.out).box
                cases b3 with
                | true =>
                  go_wp2_with fail
                  go_ret
                  exact ⟨by rw [← HE3.out]; rfl, HG5.out⟩
                | false =>
                  go_wp2_with fail
                  go_ret
                  exact ⟨by rw [← HE3.out]; rfl, HG5.out⟩
end Go.Proofs.YtlbkbjeajcadiaaGreatDoor.O

/- Plain law of the book (no program in sight): records by their ids, what goes on from what, barriers. -/
namespace Go.Proofs.YtlbkbjeajcadiaaGreatDoor.B
open Go.Proofs.YtlbkbjeajcadiaaGreatDoor.O Go.Proofs.YtlbkbjeajcadiaaGreatDoor.P Go.Proofs.YtlbkbjeajcadiaaGreatDoor.Mp
set_option linter.unusedVariables false
set_option linter.unusedSimpArgs false

/-- a record, but for where its ids lie -/
def core (x : Rv) : Rv := { x with ao := none, cap := 0 }
noncomputable instance : DecidableEq Cmd := fun _ _ => Classical.propDecidable _
/-- a command of nothing -/
def zc : Cmd := ⟨0, 0, 0, nul, nul, 0⟩
/-- does one record go on from another one? -/
noncomputable def goesOn (a b : Rv) : Bool :=
  decide (a.id = b.id) && !balLt b.bal a.bal && !balLt b.took a.took && (decide (a.st ≠ 3) || (decide (b.st = 3) && decide (b.cmd = a.cmd) && atSame b.deps b.seq b.tag a.deps a.seq a.tag))
/-- a record that isn't there -/
def rv0 (i : O.Id) : Rv := ⟨i, 0, ⟨0, 0⟩, ⟨0, 0⟩, zc, [], 0, 0, none, 0⟩
/-- what a book has of an id -/
def getR (R : List (O.Id × Rv)) (i : O.Id) : Rv := (findD R i).getD (rv0 i)
/-- is there a barrier, from a state on? -/
def wallB (R : List (O.Id × Rv)) (s : Int) : Bool := R.any fun p => decide (p.2.cmd.kind = 6) && decide (s ≤ p.2.st)
theorem wall_iff {R : List (O.Id × Rv)} {s : Int} : wallB R s = true ↔ ∃ p ∈ R, p.2.cmd.kind = 6 ∧ s ≤ p.2.st := by
  unfold wallB
  simp [List.any_eq_true]
theorem mem_putD {κ ν : Type} [DecidableEq κ] {L : List (κ × ν)} {k : κ} {v : ν} {p : κ × ν} : p ∈ putD L k v ↔ (p ∈ L ∧ p.1 ≠ k) ∨ p = (k, v) := by
  unfold putD
  rw [List.mem_append, mem_delD, List.mem_singleton]
/-- active stays active -/
theorem wall_keep {R : List (O.Id × Rv)} (hn : (R.map Prod.fst).Nodup) {r q : Rv} (hq : core q = core r) (h : wallB R 3 = true) (ho : ∀ p ∈ R, p.2.st ≤ 3) (hg : goesOn (getR R r.id) r = true) : wallB (putD R r.id q) 3 = true := by
  rw [wall_iff] at h ⊢
  obtain ⟨p, hp, h1, h2⟩ := h
  by_cases e : p.1 = r.id
  · have hf : findD R r.id = some p.2 := findD_of hn (by rw [← e]; exact hp)
    have hgr : getR R r.id = p.2 := by unfold getR; rw [hf]; rfl
    rw [hgr] at hg
    have h3 : p.2.st = 3 := by have := ho p hp; omega
    unfold goesOn at hg
    simp only [Bool.and_eq_true, Bool.or_eq_true, decide_eq_true_eq] at hg
    have hgo := hg.2.resolve_left (fun hc => hc h3)
    refine ⟨(r.id, q), mem_putD.2 (.inr rfl), ?_, ?_⟩
    · have hcm : q.cmd = r.cmd := (congrArg Rv.cmd hq : _)
      show q.cmd.kind = 6
      rw [hcm, hgo.1.2]; exact h1
    · have hst : q.st = r.st := (congrArg Rv.st hq : _)
      show 3 ≤ q.st
      rw [hst, hgo.1.1]
      omega
  · exact ⟨p, mem_putD.2 (.inl ⟨hp, e⟩), h1, h2⟩
theorem wall_more {R : List (O.Id × Rv)} (h : wallB R 3 = true) : wallB R 0 = true := by
  rw [wall_iff] at h ⊢
  obtain ⟨p, hp, h1, h2⟩ := h
  exact ⟨p, hp, h1, by omega⟩
theorem wall_put {R : List (O.Id × Rv)} {r q : Rv} {s : Int} (hq : core q = core r) (h1 : r.cmd.kind = 6) (h2 : s ≤ r.st) : wallB (putD R r.id q) s = true := by
  rw [wall_iff]
  have hcm : q.cmd = r.cmd := (congrArg Rv.cmd hq : _)
  have hst : q.st = r.st := (congrArg Rv.st hq : _)
  exact ⟨(r.id, q), mem_putD.2 (.inr rfl), by rw [← h1, ← hcm], by show s ≤ q.st; omega⟩
/-- as what a record stands in the index -/
def asIx (r : Rv) : Option En :=
  if r.st = 0 then none else if r.st ≠ 3 ∧ r.cmd.kind = 0 then some ⟨{ zc with kind := 6 }, r.seq⟩ else some ⟨r.cmd, r.seq⟩
end Go.Proofs.YtlbkbjeajcadiaaGreatDoor.B

/- Plain law of the book: what an instance hangs on, its number, the next number. -/
namespace Go.Proofs.YtlbkbjeajcadiaaGreatDoor.B
open Go.Proofs.YtlbkbjeajcadiaaGreatDoor.O Go.Proofs.YtlbkbjeajcadiaaGreatDoor.P Go.Proofs.YtlbkbjeajcadiaaGreatDoor.Mp
set_option linter.unusedVariables false
set_option linter.unusedSimpArgs false

/-- the index says of each id what its record stands for -/
def BkRel (R : List (O.Id × Rv)) (A : List (O.Id × En)) : Prop := ∀ i, findD A i = (findD R i).bind asIx
theorem BkRel.nil : BkRel [] [] := fun _ => rfl
def noteA (A : List (O.Id × En)) (r : Rv) : List (O.Id × En) := match asIx r with
  | none => delD A r.id
  | some e => putD A r.id e
theorem asIx_core {q r : Rv} (h : core q = core r) : asIx q = asIx r := by
  have h1 : q.cmd = r.cmd := (congrArg Rv.cmd h : _)
  have h2 : q.st = r.st := (congrArg Rv.st h : _)
  have h3 : q.seq = r.seq := (congrArg Rv.seq h : _)
  unfold asIx
  rw [h1, h2, h3]
theorem BkRel.note {R : List (O.Id × Rv)} {A : List (O.Id × En)} (h : BkRel R A) {q r : Rv} (hq : core q = core r) : BkRel (putD R r.id q) (noteA A r) := by
  intro i
  rw [findD_put]
  have e := asIx_core hq
  unfold noteA
  by_cases hi : i = r.id
  · rw [if_pos hi, Option.bind_some, e]
    cases hx : asIx r with
    | none => simp only; rw [findD_del, if_pos hi]
    | some x => simp only; rw [findD_put, if_pos hi]
  · rw [if_neg hi]
    cases hx : asIx r with
    | none => simp only; rw [findD_del, if_neg hi]; exact h i
    | some x => simp only; rw [findD_put, if_neg hi]; exact h i
/-- does a command meet a record's instance? as the statement asks -/
def meetsR (c : Cmd) (r : Rv) : Bool :=
  decide (r.st ≠ 0) && ((decide (r.st ≠ 3) && decide (r.cmd.kind = 0) && decide (c.kind ≠ 0)) || meet c r.cmd)
theorem meets_ix (c : Cmd) (r : Rv) : meetsR c r = ((asIx r).map fun e => meet c e.c).getD false := by
  unfold meetsR asIx
  by_cases h0 : r.st = 0
  · simp [h0]
  · rw [if_neg h0]
    by_cases h1 : r.st ≠ 3 ∧ r.cmd.kind = 0
    · rw [if_pos h1]
      have e1 : meet c r.cmd = false := by unfold meet; simp [h1.2]
      have e2 : meet c ({ zc with kind := 6 } : Cmd) = decide (c.kind ≠ 0) := by
        unfold meet
        by_cases hk : c.kind = 0 <;> simp [hk]
      simp [h0, h1.1, h1.2, e1, e2]
    · rw [if_neg h1]
      have e1 : (decide (r.st ≠ 3) && decide (r.cmd.kind = 0)) = false := by
        rw [Bool.and_eq_false_iff]
        by_cases h2 : r.st = 3
        · left; simp [h2]
        · right; simp; exact fun h3 => h1 ⟨h2, h3⟩
      simp [h0, e1]
      intro h2 h3
      exact absurd ⟨h2, h3⟩ h1
/-- the numbers of those that a command meets -/
def mostN (l : List (O.Id × En)) : Int := l.foldl (fun m p => max m p.2.seq) 0
theorem foldl_max_ge (l : List (O.Id × En)) : ∀ m : Int, m ≤ l.foldl (fun m p => max m p.2.seq) m ∧ ∀ p ∈ l, p.2.seq ≤ l.foldl (fun m p => max m p.2.seq) m := by
  induction l with
  | nil => intro m; exact ⟨Int.le_refl _, fun p h => (by cases h)⟩
  | cons a t ih =>
    intro m
    obtain ⟨h1, h2⟩ := ih (max m a.2.seq)
    refine ⟨by simp only [List.foldl_cons]; omega, fun p hp => ?_⟩
    simp only [List.foldl_cons]
    rcases List.mem_cons.1 hp with rfl | hp
    · omega
    · exact h2 p hp
theorem mostN_ge {l : List (O.Id × En)} {p : O.Id × En} (h : p ∈ l) : p.2.seq ≤ mostN l := (foldl_max_ge l 0).2 p h
/-- an instance that was put is hung on by those that meet it -/
theorem hang_has {R : List (O.Id × Rv)} {A : List (O.Id × En)} (h : BkRel R A) (hn : (A.map Prod.fst).Nodup) {i but : O.Id} {q : Rv} (hf : findD R i = some q) (hb : i ≠ but) (c : Cmd) : (i ∈ (metL A c but).map Prod.fst ↔ meetsR c q = true) ∧ (meetsR c q = true → q.seq ≤ mostN (metL A c but)) := by
  have hA := h i
  rw [hf, Option.bind_some] at hA
  rw [meets_ix]
  constructor
  · constructor
    · intro hm
      obtain ⟨p, hp, rfl⟩ := List.mem_map.1 hm
      unfold metL at hp
      rw [List.mem_filter] at hp
      have h1 := findD_of hn hp.1
      rw [hA] at h1
      rw [h1]
      have h2 := hp.2
      rw [Bool.and_eq_true] at h2
      simpa using h2.2
    · intro hm
      cases hx : asIx q with
      | none => rw [hx] at hm; simp at hm
      | some e =>
        rw [hx] at hm hA
        have h1 := findD_some hA
        refine List.mem_map.2 ⟨(i, e), ?_, rfl⟩
        unfold metL
        rw [List.mem_filter]
        refine ⟨h1, ?_⟩
        rw [Bool.and_eq_true]
        exact ⟨by simpa using hb, by simpa using hm⟩
  · intro hm
    cases hx : asIx q with
    | none => rw [hx] at hm; simp at hm
    | some e =>
      rw [hx] at hm hA
      have h1 := findD_some hA
      have h2 : (i, e) ∈ metL A c but := by
        unfold metL
        rw [List.mem_filter]
        refine ⟨h1, ?_⟩
        rw [Bool.and_eq_true]
        exact ⟨by simpa using hb, by simpa using hm⟩
      have h3 := mostN_ge h2
      have h4 : e.seq = q.seq := by
        unfold asIx at hx
        split at hx
        · cases hx
        · split at hx <;> (cases hx; rfl)
      rw [← h4]
      exact h3
/-- the next number of a replica -/
def nextN (R : List (O.Id × Rv)) (r : Int) : Int := (R.foldl (fun m p => if p.1.r = r then max m p.1.n else m) 0) + 1
theorem nextN_gt {R : List (O.Id × Rv)} {p : O.Id × Rv} (h : p ∈ R) : p.1.n < nextN R p.1.r := by
  have key : ∀ (l : List (O.Id × Rv)) (m : Int), m ≤ l.foldl (fun m q => if q.1.r = p.1.r then max m q.1.n else m) m ∧ (p ∈ l → p.1.n ≤ l.foldl (fun m q => if q.1.r = p.1.r then max m q.1.n else m) m) := by
    intro l
    induction l with
    | nil => intro m; exact ⟨Int.le_refl _, fun h => (by cases h)⟩
    | cons a t ih =>
      intro m
      simp only [List.foldl_cons]
      obtain ⟨h1, h2⟩ := ih (if a.1.r = p.1.r then max m a.1.n else m)
      constructor
      · have h3 : m ≤ (if a.1.r = p.1.r then max m a.1.n else m) := by split <;> omega
        exact Int.le_trans h3 h1
      · intro hp
        rcases List.mem_cons.1 hp with rfl | hp
        · have h3 : p.1.n ≤ (if p.1.r = p.1.r then max m p.1.n else m) := by rw [if_pos rfl]; omega
          exact Int.le_trans h3 h1
        · exact h2 hp
  have := (key R 0).2 h
  unfold nextN
  omega
end Go.Proofs.YtlbkbjeajcadiaaGreatDoor.B
