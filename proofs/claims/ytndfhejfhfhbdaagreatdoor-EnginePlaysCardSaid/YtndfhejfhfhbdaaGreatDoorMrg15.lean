/- Several texts in one. -/
import Derived.Test.YtndfhejfhfhbdaaGreatDoorMrg14

/- Records: what hangs on is the same; nothing but a promise. -/
namespace Go.Proofs.YtndfhejfhfhbdaaGreatDoor.O
open Go.RowKit Go.Proofs.YtndfhejfhfhbdaaGreatDoor.M Go.BigFrame
set_option linter.unusedVariables false
set_option linter.unusedSimpArgs false

def atSame (l : List Id) (sq tg : Int) (m : List Id) (sq2 tg2 : Int) : Bool := (tg == tg2) && (sq == sq2) && decide (l = m)
set_option maxRecDepth 100000 in
set_option maxHeartbeats 4000000 in
theorem asame_any (ao am : Option Addr) (cap cam : Nat) (l m : List Id) (sq tg sq2 tg2 : Int) (w : World) (h : IdsV w ao cap l) (h2 : IdsV w am cam m) (hl : l.length ≤ 1000000) (v : Bool) (hv : atSame l sq tg m sq2 tg2 = v) :
    Calls Tryz.prog 115 #[atV ao cap l sq tg, atV am cam m sq2 tg2] w fun e w' => e = .returned (.bool v) ∧ Below w.heap.size w w' := by
  have HV := Lib.hid hv
  have H0 := Lib.hid h
  have H02 := Lib.hid h2
  clear hv h h2
  go_enter Tryz.func115, Tryz.ntmps115
  go_upto_region 1 with fail
  obtain ⟨W, hW⟩ : ∃ W, W = (w.alloc (atO ao cap l sq tg)).alloc (atO am cam m sq2 tg2) := ⟨_, rfl⟩
  have hba : W.heap[w.heap.size]? = some (atO ao cap l sq tg) := by rw [hW, heap_al, if_neg (by simp), heap_alloc_new]
  have hbb : W.heap[w.heap.size + 1]? = some (atO am cam m sq2 tg2) := by rw [hW, heap_al, if_pos (by simp)]
  have HG : Hid (Below w.heap.size w W) := Lib.hid (by rw [hW]; exact ((Below.refl _ _).alloc (Nat.le_refl _) _).alloc (by simp) _)
  rw [← hW]
  obtain ⟨⟨c0, c1, c2⟩, _⟩ := box3 hba
  obtain ⟨⟨d0, d1, d2⟩, _⟩ := box3 hbb
  have H := Lib.hid (H0.out.below (B := 0) HG.out)
  have H2 := Lib.hid (H02.out.below (B := 0) HG.out)
  clear hW hba hbb H0 H02
  cases e1 : (tg == tg2) with
  | false =>
    have HE := Lib.hid (show v = false by rw [← HV.out]; unfold atSame; rw [e1]; rfl)
    go_wp2_with fail
    go_ret
    exact ⟨by rw [HE.out]; rfl, HG.out⟩
  | true =>
    cases e2 : (sq == sq2) with
    | false =>
      have HE := Lib.hid (show v = false by rw [← HV.out]; unfold atSame; rw [e1, e2]; rfl)
      go_wp2_with fail
      go_ret
      exact ⟨by rw [HE.out]; rfl, HG.out⟩
    | true =>
      have HE := Lib.hid (show decide (l = m) = v by rw [← HV.out]; unfold atSame; rw [e1, e2]; rfl)
      have HC := Lib.hid (equal_any l m ao am cap cam W H.out H2.out v HE.out)
      go_wp2_with fail
      refine HC.out.mono ?_
      rintro e w1 ⟨rfl, hb1⟩
      have HB1 := Lib.hid (HG.out.trans (hb1.mono HG.out.size))
      clear hb1 HC
      go_wp2_with fail
      go_ret
      exact ⟨rfl, HB1.out⟩
abbrev recO (x : Rv) : Obj := .cells (recA x) 38
/-- the cells of a record's box -/
theorem box16 {w : World} {b : Nat} {x : Rv} (h : w.heap[b]? = some (recO x)) : w.cell? ⟨b, 0, none⟩ = some (.int .i64 x.id.r) ∧ w.cell? ⟨b, 1, none⟩ = some (.int .i64 x.id.n) ∧ w.cell? ⟨b, 2, none⟩ = some (.int .i64 x.st) ∧ w.cell? ⟨b, 3, none⟩ = some (.int .i64 x.bal.round) ∧ w.cell? ⟨b, 4, none⟩ = some (.int .i64 x.bal.by_) ∧ w.cell? ⟨b, 5, none⟩ = some (.int .i64 x.took.round) ∧ w.cell? ⟨b, 6, none⟩ = some (.int .i64 x.took.by_) ∧
    w.cell? ⟨b, 7, none⟩ = some (.int .i64 x.cmd.kind) ∧ w.cell? ⟨b, 8, none⟩ = some (.int .i64 x.cmd.client) ∧ w.cell? ⟨b, 9, none⟩ = some (.int .i64 x.cmd.seq) ∧ w.cell? ⟨b, 10, none⟩ = some (.string x.cmd.key) ∧ w.cell? ⟨b, 11, none⟩ = some (.string x.cmd.val) ∧ w.cell? ⟨b, 12, none⟩ = some (.int .i64 x.cmd.rev) ∧ w.cell? ⟨b, 13, none⟩ = some (.slice x.ao x.deps.length x.cap) ∧ w.cell? ⟨b, 14, none⟩ = some (.int .i64 x.seq) ∧ w.cell? ⟨b, 15, none⟩ = some (.int .i64 x.tag) := by
  have hc : ∀ j, w.cell? ⟨b, j, none⟩ = (recA x)[j]? := fun j => cell_of_row w b j _ _ _ h
  exact ⟨hc 0, hc 1, hc 2, hc 3, hc 4, hc 5, hc 6, hc 7, hc 8, hc 9, hc 10, hc 11, hc 12, hc 13, hc 14, hc 15⟩
/-- nothing but a promise -/
def bareB (x : Rv) : Bool := ((x.took.round == 0) && (x.took.by_ == 0)) && ((x.cmd.kind == 0) && ((x.cmd.client == 0) && ((x.cmd.seq == 0) && (decide (x.cmd.key = P.nul) && (decide (x.cmd.val = P.nul) && (x.cmd.rev == 0)))))) && atSame x.deps x.seq x.tag [] 0 0
theorem toList_no {a : ByteArray} (h : a ≠ P.nul) : (a.toList == []) = false := by
  have := P.ba_eq a P.nul
  rw [decide_eq_false h] at this
  have e : P.nul.toList = [] := by rw [ByteArray.toList_eq]; rfl
  rwa [e] at this
theorem bareB_key {x : Rv} (h : x.cmd.key ≠ P.nul) : bareB x = false := by unfold bareB; simp [h]
theorem bareB_val {x : Rv} (h : x.cmd.val ≠ P.nul) : bareB x = false := by unfold bareB; simp [h]
set_option maxRecDepth 100000 in
set_option maxHeartbeats 4000000 in
theorem bare_any (x : Rv) (w : World) (h : IdsV w x.ao x.cap x.deps) (hl : x.deps.length ≤ 1000000) (v : Bool) (hv : bareB x = v) :
    Calls Tryz.prog 96 #[recV x] w fun e w' => e = .returned (.bool v) ∧ Below w.heap.size w w' := by
  have HV := Lib.hid hv
  have H0 := Lib.hid h
  clear hv h
  go_enter Tryz.func96, Tryz.ntmps96
  go_upto_region 1 with fail
  obtain ⟨W, hW⟩ : ∃ W, W = w.alloc (recO x) := ⟨_, rfl⟩
  have hba : W.heap[w.heap.size]? = some (recO x) := by rw [hW]; exact heap_alloc_new w _
  have HG : Hid (Below w.heap.size w W) := Lib.hid (by rw [hW]; exact (Below.refl _ _).alloc (Nat.le_refl _) _)
  rw [← hW]
  obtain ⟨c0, c1, c2, c3, c4, c5, c6, c7, c8, c9, c10, c11, c12, c13, c14, c15⟩ := box16 hba
  have H := Lib.hid (H0.out.below (B := 0) HG.out)
  clear hW hba H0 c0 c1 c2 c3 c4
  obtain ⟨⟨ir, i_n⟩, st, bal, ⟨tr, tb⟩, ⟨kind, client, cseq, key, val, rev⟩, deps, sq, tg, ao, cap⟩ := x
  dsimp only at c5 c6 c7 c8 c9 c10 c11 c12 c13 c14 c15 H hl
  by_cases h0 : tr = 0
  · subst h0
    by_cases h1 : tb = 0
    · subst h1
      by_cases h2 : kind = 0
      · subst h2
        by_cases h3 : client = 0
        · subst h3
          by_cases h4 : cseq = 0
          · subst h4
            by_cases h5 : key = P.nul
            · subst h5
              replace c10 : W.cell? ⟨w.heap.size, 10, none⟩ = some (.string ⟨#[]⟩) := c10
              by_cases h6 : val = P.nul
              · subst h6
                replace c11 : W.cell? ⟨w.heap.size, 11, none⟩ = some (.string ⟨#[]⟩) := c11
                by_cases h7 : rev = 0
                · subst h7
                  have HE := Lib.hid (show v = atSame deps sq tg [] 0 0 by rw [← HV.out]; rfl)
                  have HC := Lib.hid (asame_any ao none cap 0 deps [] sq tg 0 0 W H.out (IdsV.nil W) hl v HE.out.symm)
                  go_wp2_with fail
                  refine HC.out.mono ?_
                  rintro e w1 ⟨rfl, hb1⟩
                  have HB1 := Lib.hid (HG.out.trans (hb1.mono HG.out.size))
                  clear hb1 HC
                  go_wp2_with fail
                  go_ret
                  exact ⟨rfl, HB1.out⟩
                · have HE := Lib.hid (show v = false by rw [← HV.out]; unfold bareB; simp [h7])
                  have e7 : (rev == 0) = false := by rw [beq_eq_false_iff_ne]; exact h7
                  clear h7
                  go_wp2_with fail
                  go_ret
                  exact ⟨by rw [HE.out]; rfl, HG.out⟩
              · have HE := Lib.hid (show v = false by rw [← HV.out]; exact bareB_val h6)
                have e6 : (val.toList == []) = false := toList_no h6
                clear h6
                go_wp2_with fail
                go_ret
                exact ⟨by rw [HE.out]; rfl, HG.out⟩
            · have HE := Lib.hid (show v = false by rw [← HV.out]; exact bareB_key h5)
              have e5 : (key.toList == []) = false := toList_no h5
              clear h5
              go_wp2_with fail
              go_ret
              exact ⟨by rw [HE.out]; rfl, HG.out⟩
          · have HE := Lib.hid (show v = false by rw [← HV.out]; unfold bareB; simp [h4])
            have e4 : (cseq == 0) = false := by rw [beq_eq_false_iff_ne]; exact h4
            clear h4
            go_wp2_with fail
            go_ret
            exact ⟨by rw [HE.out]; rfl, HG.out⟩
        · have HE := Lib.hid (show v = false by rw [← HV.out]; unfold bareB; simp [h3])
          have e3 : (client == 0) = false := by rw [beq_eq_false_iff_ne]; exact h3
          clear h3
          go_wp2_with fail
          go_ret
          exact ⟨by rw [HE.out]; rfl, HG.out⟩
      · have HE := Lib.hid (show v = false by rw [← HV.out]; unfold bareB; simp [h2])
        have e2 : (kind == 0) = false := by rw [beq_eq_false_iff_ne]; exact h2
        clear h2
        go_wp2_with fail
        go_ret
        exact ⟨by rw [HE.out]; rfl, HG.out⟩
    · have HE := Lib.hid (show v = false by rw [← HV.out]; unfold bareB; simp [h1])
      have e1 : (tb == 0) = false := by rw [beq_eq_false_iff_ne]; exact h1
      clear h1
      go_wp2_with fail
      go_ret
      exact ⟨by rw [HE.out]; rfl, HG.out⟩
  · have HE := Lib.hid (show v = false by rw [← HV.out]; unfold bareB; simp [h0])
    have e0 : (tr == 0) = false := by rw [beq_eq_false_iff_ne]; exact h0
    clear h0
    go_wp2_with fail
    go_ret
    exact ⟨by rw [HE.out]; rfl, HG.out⟩
end Go.Proofs.YtndfhejfhfhbdaaGreatDoor.O

/- Records: what is right with them: rec.Check. -/
namespace Go.Proofs.YtndfhejfhfhbdaaGreatDoor.O
open Go.RowKit Go.Proofs.YtndfhejfhfhbdaaGreatDoor.M Go.BigFrame Go.Proofs.YtndfhejfhfhbdaaGreatDoor.R
set_option linter.unusedVariables false
set_option linter.unusedSimpArgs false

def headBad (x : Rv) : Bool := !idOk x.id || (decide (x.st < 0) || decide (3 < x.st))
def balBad (x : Rv) : Bool := !balOk x.bal || (!balOk x.took || balLt x.bal x.took)
def restOk (x : Rv) : Bool := if x.st = 0 then bareB x else (P.chk x.cmd == 0) && ((attrChk x.deps x.seq x.tag == 0) && !decide (x.id ∈ x.deps))
def recOk (x : Rv) : Bool := !headBad x && (!balBad x && restOk x)
theorem attrChk_ok {l : List Id} {sq tg : Int} (h : attrChk l sq tg = 0) : setOk l = true := by
  unfold attrChk at h
  split at h
  · cases h
  · split at h
    · cases h
    · split at h
      · assumption
      · cases h
/-- a record's box, and what it hangs on -/
structure Boxed (x : Rv) (b : Nat) (w : World) : Prop where
  box : w.heap[b]? = some (recO x)
  deps : IdsV w x.ao x.cap x.deps
  tab : Tabs w
theorem Boxed.next {x : Rv} {b : Nat} {w w' : World} (h : Boxed x b w) (hb : Below w.heap.size w w') : Boxed x b w' :=
  ⟨(hb.block _ (M.heap_lt h.box)).trans h.box, h.deps.below (B := 0) hb, h.tab.next hb⟩
set_option maxRecDepth 100000 in
set_option maxHeartbeats 4000000 in
theorem reccheck_any (x : Rv) (w : World) (h : RvOk w x) (hT : Tabs w) (hl : x.deps.length ≤ 1000000) (hk : x.cmd.key.size ≤ 1000000) (v : Int) (hv : (if recOk x then (0 : Int) else 4) = v) :
    Calls Tryz.prog 62 #[recV x] w fun e w' => e = .returned (.int .i64 v) ∧ Below w.heap.size w w' := by
  have HV := Lib.hid hv
  have H0 := Lib.hid h
  have HT := Lib.hid hT
  clear hv h hT
  go_enter Tryz.func62, Tryz.ntmps62
  go_upto_region 1 with fail
  obtain ⟨W, hW⟩ : ∃ W, W = w.alloc (recO x) := ⟨_, rfl⟩
  have HG : Hid (Below w.heap.size w W) := Lib.hid (by rw [hW]; exact (Below.refl _ _).alloc (Nat.le_refl _) _)
  have HX : Hid (Boxed x w.heap.size W) := Lib.hid ⟨by rw [hW]; exact heap_alloc_new w _, H0.out.deps.below (B := 0) HG.out, HT.out.next HG.out⟩
  rw [← hW]
  clear hW H0 HT
  obtain ⟨b1, hb1⟩ : ∃ b, idOk x.id = b := ⟨_, rfl⟩
  obtain ⟨b2, hb2⟩ : ∃ b, decide (x.st < 0) = b := ⟨_, rfl⟩
  obtain ⟨b3, hb3⟩ : ∃ b, decide (3 < x.st) = b := ⟨_, rfl⟩
  have HB1 := Lib.hid hb1
  have HH := Lib.hid (show headBad x = (!b1 || (b2 || b3)) by unfold headBad; rw [hb1, hb2, hb3])
  obtain ⟨hd, hhd⟩ : ∃ hd, hd = (!b1 || (b2 || b3)) := ⟨_, rfl⟩
  rw [← hhd] at HH
  have HD := Lib.hid hhd
  clear hb1 hhd
  go_cut [3] (fun u wx => u = .bool hd ∧ Below W.heap.size W wx)
  case first =>
    obtain ⟨c0, c1, c2, c3, c4, c5, c6, c7, c8, c9, c10, c11, c12, c13, c14, c15⟩ := box16 (HX.out).box
    go_wp2_with fail
    refine (right_any x.id W b1 HB1.out).mono ?_
    rintro e w1 ⟨rfl, hg1⟩
    have HBB := Lib.hid hg1.below
    have HX1 := Lib.hid (HX.out.next hg1.below)
    clear hg1
    clear c0 c1 c2 c3 c4 c5 c6 c7 c8 c9 c10 c11 c12 c13 c14 c15
    obtain ⟨c0, c1, c2, c3, c4, c5, c6, c7, c8, c9, c10, c11, c12, c13, c14, c15⟩ := box16 (HX1.out).box
    cases b1 with
    | false =>
      have HE := Lib.hid (show hd = true from HD.out)
      go_wp2_with fail
      go_meet
      case rel => exact ⟨by rw [HE.out], HBB.out⟩
    | true =>
      cases b2 with
      | true =>
        have HE := Lib.hid (show hd = true from HD.out)
        go_wp2_with fail
        go_meet
        case rel => exact ⟨by rw [HE.out], HBB.out⟩
      | false =>
        have HE := Lib.hid (show hd = b3 from HD.out)
        cases b3 with
        | true =>
          go_wp2_with fail
          go_meet
          case rel => exact ⟨by rw [HE.out], HBB.out⟩
        | false =>
          go_wp2_with fail
          go_meet
          case rel => exact ⟨by rw [HE.out], HBB.out⟩
  case rest =>
    obtain ⟨rfl, hbc⟩ := hcut
    obtain ⟨w1, rfl⟩ : ∃ w1, w1 = wc := ⟨_, rfl⟩
    have HG1 := Lib.hid (HG.out.trans (hbc.mono HG.out.size))
    have HX1 := Lib.hid (HX.out.next hbc)
    clear hbc hb2 hb3 HX HG HD HB1
    cases hd with
    | true =>
      have HE := Lib.hid (show v = 4 by rw [← HV.out]; unfold recOk; rw [HH.out]; rfl)
      go_wp2_with fail
      go_ret
      exact ⟨by rw [HE.out]; rfl, HG1.out⟩
    | false =>
      go_upto_region 3 with fail
      obtain ⟨b1, hb1⟩ : ∃ b, balOk x.bal = b := ⟨_, rfl⟩
      obtain ⟨b2, hb2⟩ : ∃ b, balOk x.took = b := ⟨_, rfl⟩
      obtain ⟨b3, hb3⟩ : ∃ b, balLt x.bal x.took = b := ⟨_, rfl⟩
      have HB1 := Lib.hid hb1
      have HB2 := Lib.hid hb2
      have HB3 := Lib.hid hb3
      have HBD := Lib.hid (show balBad x = (!b1 || (!b2 || b3)) by unfold balBad; rw [hb1, hb2, hb3])
      obtain ⟨bd, hbd⟩ : ∃ hd, hd = (!b1 || (!b2 || b3)) := ⟨_, rfl⟩
      rw [← hbd] at HBD
      have HD := Lib.hid hbd
      clear hb1 hb2 hb3 hbd
      go_cut [18] (fun u wx => u = .bool bd ∧ Below w1.heap.size w1 wx)
      case first =>
        obtain ⟨c0, c1, c2, c3, c4, c5, c6, c7, c8, c9, c10, c11, c12, c13, c14, c15⟩ := box16 (HX1.out).box
        have HR := Lib.hid (Below.refl w1.heap.size w1)
        go_wp2_with fail
        refine (balright_any x.bal w1 b1 HB1.out).mono ?_
        rintro e w2 ⟨rfl, hcall⟩
        have HR2 := Lib.hid (HR.out.trans ((hcall).mono HR.out.size))
        have HX2 := Lib.hid (HX1.out.next (hcall))
        clear hcall
        clear c0 c1 c2 c3 c4 c5 c6 c7 c8 c9 c10 c11 c12 c13 c14 c15
        obtain ⟨c0, c1, c2, c3, c4, c5, c6, c7, c8, c9, c10, c11, c12, c13, c14, c15⟩ := box16 (HX2.out).box
        cases b1 with
        | false =>
          have HE := Lib.hid (show bd = true from HD.out)
          go_wp2_with fail
          go_meet
          case rel => exact ⟨by rw [HE.out], HR2.out⟩
        | true =>
          go_wp2_with fail
          refine (balright_any x.took w2 b2 HB2.out).mono ?_
          rintro e w3 ⟨rfl, hcall⟩
          have HR3 := Lib.hid (HR2.out.trans ((hcall).mono HR2.out.size))
          have HX3 := Lib.hid (HX2.out.next (hcall))
          clear hcall
          clear c0 c1 c2 c3 c4 c5 c6 c7 c8 c9 c10 c11 c12 c13 c14 c15
          obtain ⟨c0, c1, c2, c3, c4, c5, c6, c7, c8, c9, c10, c11, c12, c13, c14, c15⟩ := box16 (HX3.out).box
          cases b2 with
          | false =>
            have HE := Lib.hid (show bd = true from HD.out)
            go_wp2_with fail
            go_meet
            case rel => exact ⟨by rw [HE.out], HR3.out⟩
          | true =>
            have HE := Lib.hid (show bd = b3 from HD.out)
            go_wp2_with fail
            refine (balless_any x.bal x.took w3 b3 HB3.out).mono ?_
            rintro e w4 ⟨rfl, hcall⟩
            have HR4 := Lib.hid (HR3.out.trans ((hcall).mono HR3.out.size))
            have HX4 := Lib.hid (HX3.out.next (hcall))
            clear hcall
            clear c0 c1 c2 c3 c4 c5 c6 c7 c8 c9 c10 c11 c12 c13 c14 c15
            obtain ⟨c0, c1, c2, c3, c4, c5, c6, c7, c8, c9, c10, c11, c12, c13, c14, c15⟩ := box16 (HX4.out).box
            go_wp2_with fail
            go_meet
            case rel => exact ⟨by rw [HE.out], HR4.out⟩
      case rest =>
        obtain ⟨rfl, hbc⟩ := hcut
        obtain ⟨w2, rfl⟩ : ∃ w1, w1 = wc := ⟨_, rfl⟩
        have HG2 := Lib.hid (HG1.out.trans (hbc.mono HG1.out.size))
        have HX2 := Lib.hid (HX1.out.next hbc)
        clear hbc HX1 HG1 HD HB1 HB2 HB3
        cases bd with
        | true =>
          have HE := Lib.hid (show v = 4 by rw [← HV.out]; unfold recOk; rw [HH.out, HBD.out]; rfl)
          go_wp2_with fail
          go_ret
          exact ⟨by rw [HE.out]; rfl, HG2.out⟩
        | false =>
          have HQ := Lib.hid (show (if restOk x then (0 : Int) else 4) = v by rw [← HV.out]; unfold recOk; rw [HH.out, HBD.out]; rfl)
          go_upto_region 5 with fail
          obtain ⟨c0, c1, c2, c3, c4, c5, c6, c7, c8, c9, c10, c11, c12, c13, c14, c15⟩ := box16 (HX2.out).box
          cases hz : (x.st == 0) with
          | true =>
            have hz2 : x.st = 0 := by simpa using hz
            obtain ⟨bb, hbb⟩ : ∃ b, bareB x = b := ⟨_, rfl⟩
            have HBR := Lib.hid hbb
            have HE := Lib.hid (show v = if bb then 0 else 4 by rw [← HQ.out, ← hbb]; unfold restOk; rw [if_pos hz2])
            clear hz2 hbb
            go_wp2_with fail
            refine (bare_any x w2 HX2.out.deps hl bb HBR.out).mono ?_
            rintro e w3 ⟨rfl, hcall⟩
            have HG3 := Lib.hid (HG2.out.trans ((hcall).mono HG2.out.size))
            have HX3 := Lib.hid (HX2.out.next (hcall))
            clear hcall
            clear c0 c1 c2 c3 c4 c5 c6 c7 c8 c9 c10 c11 c12 c13 c14 c15
            obtain ⟨c0, c1, c2, c3, c4, c5, c6, c7, c8, c9, c10, c11, c12, c13, c14, c15⟩ := box16 (HX3.out).box
            cases bb with
            | true =>
              go_wp2_with fail
              go_ret
              exact ⟨by rw [HE.out]; rfl, HG3.out⟩
            | false =>
              go_wp2_with fail
              go_ret
              exact ⟨by rw [HE.out]; rfl, HG3.out⟩
          | false =>
            have hz2 : ¬ x.st = 0 := by simpa using hz
            obtain ⟨k1, hk1⟩ : ∃ k, P.chk x.cmd = k := ⟨_, rfl⟩
            obtain ⟨k2, hk2⟩ : ∃ k, attrChk x.deps x.seq x.tag = k := ⟨_, rfl⟩
            obtain ⟨b3, hb3⟩ : ∃ b, decide (x.id ∈ x.deps) = b := ⟨_, rfl⟩
            have HK1 := Lib.hid hk1
            have HK2 := Lib.hid hk2
            have HB3 := Lib.hid hb3
            have HE := Lib.hid (show (if (k1 == 0) && ((k2 == 0) && !b3) then (0 : Int) else 4) = v by rw [← HQ.out, ← hk1, ← hk2, ← hb3]; unfold restOk; rw [if_neg hz2])
            clear hz2 hk1 hk2 hb3
            go_upto_region 9 with fail
            go_wp2_with fail
            refine (P.check_any x.cmd w2 HX2.out.tab hk).mono ?_
            rintro e w3 ⟨rfl, hcall⟩
            have HG3 := Lib.hid (HG2.out.trans ((hcall).mono HG2.out.size))
            have HX3 := Lib.hid (HX2.out.next (hcall))
            clear hcall
            clear c0 c1 c2 c3 c4 c5 c6 c7 c8 c9 c10 c11 c12 c13 c14 c15
            obtain ⟨c0, c1, c2, c3, c4, c5, c6, c7, c8, c9, c10, c11, c12, c13, c14, c15⟩ := box16 (HX3.out).box
            rw [HK1.out]
            cases e1 : (k1 == 0) with
            | false =>
              have HE2 := Lib.hid (show v = 4 by rw [← HE.out, e1]; rfl)
              have e2 : (k1 != 0) = true := by simp only [bne, e1]; rfl
              go_wp2_with fail
              go_ret
              exact ⟨by rw [HE2.out]; rfl, HG3.out⟩
            | true =>
              have e2 : (k1 != 0) = false := by simp only [bne, e1]; rfl
              have HE2 := Lib.hid (show (if ((k2 == 0) && !b3) then (0 : Int) else 4) = v by rw [← HE.out, e1]; rfl)
              go_wp2_with fail
              refine (attrchk_any x.ao x.cap x.deps x.seq x.tag w3 HX3.out.deps hl k2 HK2.out).mono ?_
              rintro e w4 ⟨rfl, hcall⟩
              have HG4 := Lib.hid (HG3.out.trans ((hcall).mono HG3.out.size))
              have HX4 := Lib.hid (HX3.out.next (hcall))
              clear hcall
              clear c0 c1 c2 c3 c4 c5 c6 c7 c8 c9 c10 c11 c12 c13 c14 c15
              obtain ⟨c0, c1, c2, c3, c4, c5, c6, c7, c8, c9, c10, c11, c12, c13, c14, c15⟩ := box16 (HX4.out).box
              cases e3 : (k2 == 0) with
              | false =>
                have HE3 := Lib.hid (show v = 4 by rw [← HE2.out, e3]; rfl)
                have e4 : (k2 != 0) = true := by simp only [bne, e3]; rfl
                go_wp2_with fail
                go_ret
                exact ⟨by rw [HE3.out]; rfl, HG4.out⟩
              | true =>
                have e4 : (k2 != 0) = false := by simp only [bne, e3]; rfl
                have HE3 := Lib.hid (show (if !b3 then (0 : Int) else 4) = v by rw [← HE2.out, e3]; rfl)
                have HPW := Lib.hid (setOk_pw (attrChk_ok (show attrChk x.deps x.seq x.tag = 0 by rw [HK2.out]; simpa using e3)))
                go_wp2_with fail
                refine (has_any x.deps x.ao x.cap x.id w4 HX4.out.deps HPW.out hl b3 HB3.out).mono ?_
                rintro e w5 ⟨rfl, hcall⟩
                have HG5 := Lib.hid (HG4.out.trans ((hcall).mono HG4.out.size))
                have HX5 := Lib.hid (HX4.out.next (hcall))
                clear hcall
                clear c0 c1 c2 c3 c4 c5 c6 c7 c8 c9 c10 c11 c12 c13 c14 c15
                obtain ⟨c0, c1, c2, c3, c4, c5, c6, c7, c8, c9, c10, c11, c12, c13, c14, c15⟩ := box16 (HX5.out).box
                cases b3 with
                | true =>
                  go_wp2_with fail
                  go_ret
                  exact ⟨by rw [← HE3.out]; rfl, HG5.out⟩
                | false =>
                  go_wp2_with fail
                  go_ret
                  exact ⟨by rw [← HE3.out]; rfl, HG5.out⟩
end Go.Proofs.YtndfhejfhfhbdaaGreatDoor.O

/- Records: the document's Right. -/
namespace Go.Proofs.YtndfhejfhfhbdaaGreatDoor.O
open Go.RowKit Go.Proofs.YtndfhejfhfhbdaaGreatDoor.M Go.BigFrame Go.Proofs.YtndfhejfhfhbdaaGreatDoor.R
set_option linter.unusedVariables false
set_option linter.unusedSimpArgs false

/-- where a record's box stands, and what holds of it -/
structure Box2 (x : Rv) (b : Nat) (w : World) : Prop where
  box : w.heap[b]? = some (recO x)
  deps : IdsV w x.ao x.cap x.deps
theorem Box2.next {x : Rv} {b : Nat} {w w' : World} (h : Box2 x b w) (hb : Below w.heap.size w w') : Box2 x b w' :=
  ⟨(hb.block _ (M.heap_lt h.box)).trans h.box, h.deps.below (B := 0) hb⟩
set_option maxRecDepth 100000 in
set_option maxHeartbeats 4000000 in
theorem refright9_any (x : Rv) (w : World) (h : RvOk w x) (hl : x.deps.length ≤ 1000000) (hk : x.cmd.key.size ≤ 1000000) (v : Bool) (hv : recOk x = v) :
    Calls Tryz.prog 49 #[recV x] w fun e w' => e = .returned (.bool v) ∧ Below w.heap.size w w' := by
  have HV0 := Lib.hid hv
  have H0 := Lib.hid h
  clear hv h
  go_enter Tryz.func49, Tryz.ntmps49
  go_upto_region 1 with fail
  obtain ⟨W0, hW⟩ : ∃ W, W = w.alloc (recO x) := ⟨_, rfl⟩
  have HG0 : Hid (Below w.heap.size w W0) := Lib.hid (by rw [hW]; exact (Below.refl _ _).alloc (Nat.le_refl _) _)
  have HX0 : Hid (Box2 x w.heap.size W0) := Lib.hid ⟨by rw [hW]; exact heap_alloc_new w _, H0.out.deps.below (B := 0) HG0.out⟩
  rw [← hW]
  clear hW H0
  obtain ⟨b1, hb1⟩ : ∃ b, idOk x.id = b := ⟨_, rfl⟩
  obtain ⟨b2, hb2⟩ : ∃ b, decide (x.st < 0) = b := ⟨_, rfl⟩
  obtain ⟨b3, hb3⟩ : ∃ b, decide (3 < x.st) = b := ⟨_, rfl⟩
  obtain ⟨b4, hb4⟩ : ∃ b, balOk x.bal = b := ⟨_, rfl⟩
  obtain ⟨b5, hb5⟩ : ∃ b, balOk x.took = b := ⟨_, rfl⟩
  obtain ⟨b6, hb6⟩ : ∃ b, balLt x.bal x.took = b := ⟨_, rfl⟩
  have HB1 := Lib.hid hb1
  have HB4 := Lib.hid hb4
  have HB5 := Lib.hid hb5
  have HB6 := Lib.hid hb6
  have HH := Lib.hid (show (headBad x || balBad x) = (!b1 || (b2 || b3) || (!b4 || (!b5 || b6))) by unfold headBad balBad; rw [hb1, hb2, hb3, hb4, hb5, hb6])
  obtain ⟨hd, hhd⟩ : ∃ hd, hd = (!b1 || (b2 || b3) || (!b4 || (!b5 || b6))) := ⟨_, rfl⟩
  rw [← hhd] at HH
  have HD := Lib.hid hhd
  clear hb1 hb4 hb5 hb6 hhd
  go_cut [35] (fun u wx => u = .bool hd ∧ Below W0.heap.size W0 wx)
  case first =>
    obtain ⟨c0, c1, c2, c3, c4, c5, c6, c7, c8, c9, c10, c11, c12, c13, c14, c15⟩ := box16 (HX0.out).box
    go_wp2_with fail
    refine (refright_any x.id W0 b1 HB1.out).mono ?_
    rintro e w1 ⟨rfl, hg1⟩
    have HBB := Lib.hid hg1.below
    have HX1 := Lib.hid (HX0.out.next hg1.below)
    clear hg1
    clear c0 c1 c2 c3 c4 c5 c6 c7 c8 c9 c10 c11 c12 c13 c14 c15
    obtain ⟨c0, c1, c2, c3, c4, c5, c6, c7, c8, c9, c10, c11, c12, c13, c14, c15⟩ := box16 (HX1.out).box
    cases b1 with
    | false =>
      have HE := Lib.hid (show hd = true from HD.out)
      go_wp2_with fail
      go_meet
      case rel => exact ⟨by rw [HE.out], HBB.out⟩
    | true =>
      cases b2 with
      | true =>
        have HE := Lib.hid (show hd = true from HD.out)
        go_wp2_with fail
        go_meet
        case rel => exact ⟨by rw [HE.out], HBB.out⟩
      | false =>
        cases b3 with
        | true =>
          have HE := Lib.hid (show hd = true from HD.out)
          go_wp2_with fail
          go_meet
          case rel => exact ⟨by rw [HE.out], HBB.out⟩
        | false =>
          go_wp2_with fail
          refine (refbalright_any x.bal w1 b4 HB4.out).mono ?_
          rintro e w2 ⟨rfl, hcall⟩
          have HR2 := Lib.hid (HBB.out.trans ((hcall).mono HBB.out.size))
          have HX2 := Lib.hid (HX1.out.next (hcall))
          clear hcall
          clear c0 c1 c2 c3 c4 c5 c6 c7 c8 c9 c10 c11 c12 c13 c14 c15
          obtain ⟨c0, c1, c2, c3, c4, c5, c6, c7, c8, c9, c10, c11, c12, c13, c14, c15⟩ := box16 (HX2.out).box
          cases b4 with
          | false =>
            have HE := Lib.hid (show hd = true from HD.out)
            go_wp2_with fail
            go_meet
            case rel => exact ⟨by rw [HE.out], HR2.out⟩
          | true =>
            go_wp2_with fail
            refine (refbalright_any x.took w2 b5 HB5.out).mono ?_
            rintro e w3 ⟨rfl, hcall⟩
            have HR3 := Lib.hid (HR2.out.trans ((hcall).mono HR2.out.size))
            have HX3 := Lib.hid (HX2.out.next (hcall))
            clear hcall
            clear c0 c1 c2 c3 c4 c5 c6 c7 c8 c9 c10 c11 c12 c13 c14 c15
            obtain ⟨c0, c1, c2, c3, c4, c5, c6, c7, c8, c9, c10, c11, c12, c13, c14, c15⟩ := box16 (HX3.out).box
            cases b5 with
            | false =>
              have HE := Lib.hid (show hd = true from HD.out)
              go_wp2_with fail
              go_meet
              case rel => exact ⟨by rw [HE.out], HR3.out⟩
            | true =>
              have HE := Lib.hid (show hd = b6 from HD.out)
              go_wp2_with fail
              refine (refballess_any x.bal x.took w3 b6 HB6.out).mono ?_
              rintro e w4 ⟨rfl, hcall⟩
              have HR4 := Lib.hid (HR3.out.trans ((hcall).mono HR3.out.size))
              have HX4 := Lib.hid (HX3.out.next (hcall))
              clear hcall
              clear c0 c1 c2 c3 c4 c5 c6 c7 c8 c9 c10 c11 c12 c13 c14 c15
              obtain ⟨c0, c1, c2, c3, c4, c5, c6, c7, c8, c9, c10, c11, c12, c13, c14, c15⟩ := box16 (HX4.out).box
              go_wp2_with fail
              go_meet
              case rel => exact ⟨by rw [HE.out], HR4.out⟩
  case rest =>
    obtain ⟨rfl, hbc⟩ := hcut
    obtain ⟨W, rfl⟩ : ∃ w1, w1 = wc := ⟨_, rfl⟩
    have HG := Lib.hid (HG0.out.trans (hbc.mono HG0.out.size))
    have HX := Lib.hid (HX0.out.next hbc)
    clear hbc hb2 hb3 HX0 HG0 HD HB1 HB4 HB5 HB6
    cases hd with
    | true =>
      have HE := Lib.hid (show v = false by
        rw [← HV0.out]
        unfold recOk
        have := HH.out
        cases e1 : headBad x <;> cases e2 : balBad x <;> simp_all)
      go_wp2_with fail
      go_ret
      exact ⟨by rw [HE.out]; rfl, HG.out⟩
    | false =>
      have HQ := Lib.hid (show restOk x = v by
        rw [← HV0.out]
        unfold recOk
        have := HH.out
        cases e1 : headBad x <;> cases e2 : balBad x <;> simp_all)
      clear HH HV0
      go_upto_region 3 with fail
      obtain ⟨c0, c1, c2, c3, c4, c5, c6, c7, c8, c9, c10, c11, c12, c13, c14, c15⟩ := box16 (HX.out).box
      cases hz : (x.st == 0) with
      | false =>
        have hz2 : ¬ x.st = 0 := by simpa using hz
        obtain ⟨k1, hk1⟩ : ∃ k, P.chk x.cmd = k := ⟨_, rfl⟩
        obtain ⟨k2, hk2⟩ : ∃ k, attrChk x.deps x.seq x.tag = k := ⟨_, rfl⟩
        obtain ⟨b3, hb3⟩ : ∃ b, decide (x.id ∈ x.deps) = b := ⟨_, rfl⟩
        have HK1 := Lib.hid hk1
        have HK2 := Lib.hid hk2
        have HB3 := Lib.hid hb3
        have HE := Lib.hid (show ((k1 == 0) && ((k2 == 0) && !b3)) = v by rw [← HQ.out, ← hk1, ← hk2, ← hb3]; unfold restOk; rw [if_neg hz2])
        clear hz2 hk1 hk2 hb3
        go_wp2_with fail
        refine (P.refcheck_any x.cmd W hk).mono ?_
        rintro e w3 ⟨rfl, hcall⟩
        have HG3 := Lib.hid (HG.out.trans ((hcall).mono HG.out.size))
        have HX3 := Lib.hid (HX.out.next (hcall))
        clear hcall
        clear c0 c1 c2 c3 c4 c5 c6 c7 c8 c9 c10 c11 c12 c13 c14 c15
        obtain ⟨c0, c1, c2, c3, c4, c5, c6, c7, c8, c9, c10, c11, c12, c13, c14, c15⟩ := box16 (HX3.out).box
        rw [HK1.out]
        cases e1 : (k1 == 0) with
        | false =>
          have HE2 := Lib.hid (show v = false by rw [← HE.out, e1]; rfl)
          go_wp2_with fail
          go_ret
          exact ⟨by rw [HE2.out]; rfl, HG3.out⟩
        | true =>
          have HE2 := Lib.hid (show ((k2 == 0) && !b3) = v by rw [← HE.out, e1]; rfl)
          go_wp2_with fail
          refine (refattrchk_any x.ao x.cap x.deps x.seq x.tag w3 HX3.out.deps hl k2 HK2.out).mono ?_
          rintro e w4 ⟨rfl, hcall⟩
          have HG4 := Lib.hid (HG3.out.trans ((hcall).mono HG3.out.size))
          have HX4 := Lib.hid (HX3.out.next (hcall))
          clear hcall
          clear c0 c1 c2 c3 c4 c5 c6 c7 c8 c9 c10 c11 c12 c13 c14 c15
          obtain ⟨c0, c1, c2, c3, c4, c5, c6, c7, c8, c9, c10, c11, c12, c13, c14, c15⟩ := box16 (HX4.out).box
          cases e3 : (k2 == 0) with
          | false =>
            have HE3 := Lib.hid (show v = false by rw [← HE2.out, e3]; rfl)
            go_wp2_with fail
            go_ret
            exact ⟨by rw [HE3.out]; rfl, HG4.out⟩
          | true =>
            have HE3 := Lib.hid (show (!b3) = v by rw [← HE2.out, e3]; rfl)
            go_wp2_with fail
            refine (refhas_any x.deps x.ao x.cap x.id w4 HX4.out.deps b3 HB3.out).mono ?_
            rintro e w5 ⟨rfl, hcall⟩
            have HG5 := Lib.hid (HG4.out.trans ((hcall).mono HG4.out.size))
            have HX5 := Lib.hid (HX4.out.next (hcall))
            clear hcall
            clear c0 c1 c2 c3 c4 c5 c6 c7 c8 c9 c10 c11 c12 c13 c14 c15
            obtain ⟨c0, c1, c2, c3, c4, c5, c6, c7, c8, c9, c10, c11, c12, c13, c14, c15⟩ := box16 (HX5.out).box
            go_wp2_with fail
            go_ret
            exact ⟨by rw [← HE3.out]; rfl, HG5.out⟩
      | true =>
        have hz2 : x.st = 0 := by simpa using hz
        have HV := Lib.hid (show bareB x = v by rw [← HQ.out]; unfold restOk; rw [if_pos hz2])
        clear hz2 HQ HX c0 c1 c3 c4
        obtain ⟨⟨ir, i_n⟩, st, bal, ⟨tr, tb⟩, ⟨kind, client, cseq, key, val, rev⟩, deps, sq, tg, ao, cap⟩ := x
        dsimp only at c2 c5 c6 c7 c8 c9 c10 c11 c12 c13 c14 c15 hl hz
        by_cases h0 : tr = 0
        · subst h0
          by_cases h1 : tb = 0
          · subst h1
            by_cases h2 : kind = 0
            · subst h2
              by_cases h3 : client = 0
              · subst h3
                by_cases h4 : cseq = 0
                · subst h4
                  by_cases h5 : key = P.nul
                  · subst h5
                    replace c10 : W.cell? ⟨w.heap.size, 10, none⟩ = some (.string ⟨#[]⟩) := c10
                    by_cases h6 : val = P.nul
                    · subst h6
                      replace c11 : W.cell? ⟨w.heap.size, 11, none⟩ = some (.string ⟨#[]⟩) := c11
                      by_cases h7 : rev = 0
                      · subst h7
                        cases e8 : ((deps.length : Int) == 0) with
                        | false =>
                          have hd : deps ≠ [] := by rintro rfl; simp at e8
                          have HE := Lib.hid (show v = false by rw [← HV.out]; unfold bareB atSame; simp [hd])
                          clear hd
                          go_wp2_with fail
                          go_ret
                          exact ⟨by rw [HE.out]; rfl, HG.out⟩
                        | true =>
                          have hd : deps = [] := by have := List.length_eq_zero_iff.1 (Int.ofNat_inj.1 (by simpa using e8)); exact this
                          cases e9 : (sq == 0) with
                          | false =>
                            have HE := Lib.hid (show v = false by rw [← HV.out]; unfold bareB atSame; simp [e9])
                            clear hd
                            go_wp2_with fail
                            go_ret
                            exact ⟨by rw [HE.out]; rfl, HG.out⟩
                          | true =>
                            cases e10 : (tg == 0) with
                            | false =>
                              have HE := Lib.hid (show v = false by rw [← HV.out]; unfold bareB atSame; simp [e10])
                              clear hd
                              go_wp2_with fail
                              go_ret
                              exact ⟨by rw [HE.out]; rfl, HG.out⟩
                            | true =>
                              have HE := Lib.hid (show v = true by rw [← HV.out]; unfold bareB atSame; simp [e9, e10, hd])
                              clear hd
                              go_wp2_with fail
                              go_ret
                              exact ⟨by rw [HE.out]; rfl, HG.out⟩
                      · have HE := Lib.hid (show v = false by rw [← HV.out]; unfold bareB; simp [h7])
                        have e7 : (rev == 0) = false := by rw [beq_eq_false_iff_ne]; exact h7
                        clear h7
                        go_wp2_with fail
                        go_ret
                        exact ⟨by rw [HE.out]; rfl, HG.out⟩
                    · have HE := Lib.hid (show v = false by rw [← HV.out]; exact bareB_val h6)
                      have e6 : (val.toList == []) = false := toList_no h6
                      clear h6
                      go_wp2_with fail
                      go_ret
                      exact ⟨by rw [HE.out]; rfl, HG.out⟩
                  · have HE := Lib.hid (show v = false by rw [← HV.out]; exact bareB_key h5)
                    have e5 : (key.toList == []) = false := toList_no h5
                    clear h5
                    go_wp2_with fail
                    go_ret
                    exact ⟨by rw [HE.out]; rfl, HG.out⟩
                · have HE := Lib.hid (show v = false by rw [← HV.out]; unfold bareB; simp [h4])
                  have e4 : (cseq == 0) = false := by rw [beq_eq_false_iff_ne]; exact h4
                  clear h4
                  go_wp2_with fail
                  go_ret
                  exact ⟨by rw [HE.out]; rfl, HG.out⟩
              · have HE := Lib.hid (show v = false by rw [← HV.out]; unfold bareB; simp [h3])
                have e3 : (client == 0) = false := by rw [beq_eq_false_iff_ne]; exact h3
                clear h3
                go_wp2_with fail
                go_ret
                exact ⟨by rw [HE.out]; rfl, HG.out⟩
            · have HE := Lib.hid (show v = false by rw [← HV.out]; unfold bareB; simp [h2])
              have e2 : (kind == 0) = false := by rw [beq_eq_false_iff_ne]; exact h2
              clear h2
              go_wp2_with fail
              go_ret
              exact ⟨by rw [HE.out]; rfl, HG.out⟩
          · have HE := Lib.hid (show v = false by rw [← HV.out]; unfold bareB; simp [h1])
            have e1 : (tb == 0) = false := by rw [beq_eq_false_iff_ne]; exact h1
            clear h1
            go_wp2_with fail
            go_ret
            exact ⟨by rw [HE.out]; rfl, HG.out⟩
        · have HE := Lib.hid (show v = false by rw [← HV.out]; unfold bareB; simp [h0])
          have e0 : (tr == 0) = false := by rw [beq_eq_false_iff_ne]; exact h0
          clear h0
          go_wp2_with fail
          go_ret
          exact ⟨by rw [HE.out]; rfl, HG.out⟩
end Go.Proofs.YtndfhejfhfhbdaaGreatDoor.O
