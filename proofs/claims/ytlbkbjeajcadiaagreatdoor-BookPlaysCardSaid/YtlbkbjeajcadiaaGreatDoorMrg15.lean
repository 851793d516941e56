/- Several texts in one. -/
import Derived.Test.YtlbkbjeajcadiaaGreatDoorMrg14
import Derived.Test.YtlbkbjeajcadiaaGreatDoorAppF

/- Ballots, and what instances hang on: what is right with them. -/
namespace Go.Proofs.YtlbkbjeajcadiaaGreatDoor.O
open Go.RowKit Go.Proofs.YtlbkbjeajcadiaaGreatDoor.M Go.BigFrame
set_option linter.unusedVariables false
set_option linter.unusedSimpArgs false

abbrev balA (b : Bal) : Array Value := #[.int .i64 b.round, .int .i64 b.by_]
abbrev balV (b : Bal) : Value := .agg (balA b)
abbrev balO (b : Bal) : Obj := .cells #[.int .i64 b.round, .int .i64 b.by_] 35
def balOk (b : Bal) : Bool := decide (0 ≤ b.round) && decide (b.round ≤ 1099511627776) && decide (0 ≤ b.by_) && decide (b.by_ < 7)
def balLt (a b : Bal) : Bool := decide (a.round < b.round) || (decide (a.round = b.round) && decide (a.by_ < b.by_))
theorem balLt_iff {a b : Bal} : balLt a b = true ↔ a.round < b.round ∨ (a.round = b.round ∧ a.by_ < b.by_) := by
  unfold balLt
  simp only [Bool.or_eq_true, Bool.and_eq_true, decide_eq_true_eq]
theorem balLt_no {a b : Bal} : balLt a b = false ↔ ¬ (a.round < b.round ∨ (a.round = b.round ∧ a.by_ < b.by_)) := by
  rw [← balLt_iff, Bool.not_eq_true]
set_option maxRecDepth 100000 in
set_option maxHeartbeats 4000000 in
theorem balright_any (i : Bal) (w : World) (v : Bool) (hv : balOk i = v) :
    Calls Tryz.prog 48 #[balV i] w fun e w' => e = .returned (.bool v) ∧ Below w.heap.size w w' := by
  have HV := Lib.hid hv
  clear hv
  go_enter Tryz.func48, Tryz.ntmps48
  go_upto_region 1 with fail
  obtain ⟨W, hW⟩ : ∃ W, W = w.alloc (balO i) := ⟨_, rfl⟩
  have hb : W.heap[w.heap.size]? = some (balO i) := by rw [hW]; exact heap_alloc_new w _
  have HG : Hid (Below w.heap.size w W) := Lib.hid (by rw [hW]; exact (Below.refl _ _).alloc (Nat.le_refl _) _)
  rw [← hW]
  obtain ⟨⟨c0, c1⟩, _⟩ := box2 hb
  clear hW hb
  cases h1 : decide (0 ≤ i.round) <;> cases h2 : decide (i.round ≤ 1099511627776) <;> cases h3 : decide (0 ≤ i.by_) <;> cases h4 : decide (i.by_ < 7)
  all_goals
    have HE := Lib.hid (show v = (decide (0 ≤ i.round) && decide (i.round ≤ 1099511627776) && decide (0 ≤ i.by_) && decide (i.by_ < 7)) by
      rw [← HV.out]; unfold balOk; rw [show decide (i.by_ < 7) = decide (i.by_ < 7) from decide_eq_decide.2 (by omega)])
    rw [h1, h2, h3, h4] at HE
    go_wp2_with fail
    go_ret
    exact ⟨by rw [HE.out]; rfl, HG.out⟩
set_option maxRecDepth 100000 in
set_option maxHeartbeats 4000000 in
theorem refbalright_any (i : Bal) (w : World) (v : Bool) (hv : balOk i = v) :
    Calls Tryz.prog 66 #[balV i] w fun e w' => e = .returned (.bool v) ∧ Below w.heap.size w w' := by
  have HV := Lib.hid hv
  clear hv
  go_enter Tryz.func66, Tryz.ntmps66
  go_upto_region 1 with fail
  obtain ⟨W, hW⟩ : ∃ W, W = w.alloc (balO i) := ⟨_, rfl⟩
  have hb : W.heap[w.heap.size]? = some (balO i) := by rw [hW]; exact heap_alloc_new w _
  have HG : Hid (Below w.heap.size w W) := Lib.hid (by rw [hW]; exact (Below.refl _ _).alloc (Nat.le_refl _) _)
  rw [← hW]
  obtain ⟨⟨c0, c1⟩, _⟩ := box2 hb
  clear hW hb
  cases h1 : decide (0 ≤ i.round) <;> cases h2 : decide (i.round ≤ 1099511627776) <;> cases h3 : decide (0 ≤ i.by_) <;> cases h4 : decide (i.by_ ≤ 6)
  all_goals
    have HE := Lib.hid (show v = (decide (0 ≤ i.round) && decide (i.round ≤ 1099511627776) && decide (0 ≤ i.by_) && decide (i.by_ ≤ 6)) by
      rw [← HV.out]; unfold balOk; rw [show decide (i.by_ < 7) = decide (i.by_ ≤ 6) from decide_eq_decide.2 (by omega)])
    rw [h1, h2, h3, h4] at HE
    go_wp2_with fail
    go_ret
    exact ⟨by rw [HE.out]; rfl, HG.out⟩
set_option maxRecDepth 100000 in
set_option maxHeartbeats 4000000 in
theorem balless_any (a b : Bal) (w : World) (v : Bool) (hv : balLt a b = v) :
    Calls Tryz.prog 49 #[balV a, balV b] w fun e w' => e = .returned (.bool v) ∧ Below w.heap.size w w' := by
  have HV := Lib.hid hv
  clear hv
  go_enter Tryz.func49, Tryz.ntmps49
  go_upto_region 1 with fail
  obtain ⟨W, hW⟩ : ∃ W, W = (w.alloc (balO a)).alloc (balO b) := ⟨_, rfl⟩
  have hba : W.heap[w.heap.size]? = some (balO a) := by rw [hW, heap_al, if_neg (by simp), heap_alloc_new]
  have hbb : W.heap[w.heap.size + 1]? = some (balO b) := by rw [hW, heap_al, if_pos (by simp)]
  have HG : Hid (Below w.heap.size w W) := Lib.hid (by rw [hW]; exact ((Below.refl _ _).alloc (Nat.le_refl _) _).alloc (by simp) _)
  rw [← hW]
  obtain ⟨⟨c0, c1⟩, _⟩ := box2 hba
  obtain ⟨⟨d0, d1⟩, _⟩ := box2 hbb
  clear hW hba hbb
  cases e : (a.round != b.round) with
  | true =>
    have hne : a.round ≠ b.round := by simpa using e
    have HE := Lib.hid (show v = decide (a.round < b.round) by
      rw [← HV.out, Bool.eq_iff_iff, balLt_iff, decide_eq_true_eq]; omega)
    clear hne
    go_wp2_with fail
    go_ret
    exact ⟨by rw [HE.out]; rfl, HG.out⟩
  | false =>
    have hne : a.round = b.round := by simpa using e
    have HE := Lib.hid (show v = decide (a.by_ < b.by_) by
      rw [← HV.out, Bool.eq_iff_iff, balLt_iff, decide_eq_true_eq]; omega)
    clear hne
    go_wp2_with fail
    go_ret
    exact ⟨by rw [HE.out]; rfl, HG.out⟩
set_option maxRecDepth 100000 in
set_option maxHeartbeats 4000000 in
theorem refballess_any (a b : Bal) (w : World) (v : Bool) (hv : balLt a b = v) :
    Calls Tryz.prog 67 #[balV a, balV b] w fun e w' => e = .returned (.bool v) ∧ Below w.heap.size w w' := by
  have HV := Lib.hid hv
  clear hv
  go_enter Tryz.func67, Tryz.ntmps67
  go_upto_region 1 with fail
  obtain ⟨W, hW⟩ : ∃ W, W = (w.alloc (balO a)).alloc (balO b) := ⟨_, rfl⟩
  have hba : W.heap[w.heap.size]? = some (balO a) := by rw [hW, heap_al, if_neg (by simp), heap_alloc_new]
  have hbb : W.heap[w.heap.size + 1]? = some (balO b) := by rw [hW, heap_al, if_pos (by simp)]
  have HG : Hid (Below w.heap.size w W) := Lib.hid (by rw [hW]; exact ((Below.refl _ _).alloc (Nat.le_refl _) _).alloc (by simp) _)
  rw [← hW]
  obtain ⟨⟨c0, c1⟩, _⟩ := box2 hba
  obtain ⟨⟨d0, d1⟩, _⟩ := box2 hbb
  clear hW hba hbb
  cases h1 : decide (a.round < b.round) <;> cases h2 : (a.round == b.round) <;> cases h3 : decide (a.by_ < b.by_)
  all_goals
    have HE := Lib.hid (show v = (decide (a.round < b.round) || ((a.round == b.round) && decide (a.by_ < b.by_))) by
      rw [← HV.out]; unfold balLt; rw [show decide (a.round = b.round) = (a.round == b.round) by rw [Bool.eq_iff_iff, decide_eq_true_eq, beq_iff_eq]])
    rw [h1, h2, h3] at HE
    go_wp2_with fail
    go_ret
    exact ⟨by rw [HE.out]; rfl, HG.out⟩
abbrev atA (ao : Option Addr) (cap : Nat) (l : List Id) (sq tg : Int) : Array Value := #[.slice ao l.length cap, .int .i64 sq, .int .i64 tg]
abbrev atV (ao : Option Addr) (cap : Nat) (l : List Id) (sq tg : Int) : Value := .agg (atA ao cap l sq tg)
abbrev atO (ao : Option Addr) (cap : Nat) (l : List Id) (sq tg : Int) : Obj := .cells #[.slice ao l.length cap, .int .i64 sq, .int .i64 tg] 38
def tagBad (tg : Int) : Bool := (tg != 1) && (tg != 2)
def seqBad (sq tg : Int) : Bool := ((tg == 1) && (decide (sq < 1) || decide (1099511627776 < sq))) || ((tg == 2) && (sq != 0))
def attrChk (l : List Id) (sq tg : Int) : Int := if tagBad tg then 17 else if seqBad sq tg then 6 else if setOk l then 0 else 4
set_option maxRecDepth 100000 in
set_option maxHeartbeats 4000000 in
theorem attrchk_any (ao : Option Addr) (cap : Nat) (l : List Id) (sq tg : Int) (w : World) (h : IdsV w ao cap l) (hl : l.length ≤ 1000000) (v : Int) (hv : attrChk l sq tg = v) :
    Calls Tryz.prog 52 #[atV ao cap l sq tg] w fun e w' => e = .returned (.int .i64 v) ∧ Below w.heap.size w w' := by
  have HV := Lib.hid hv
  have H0 := Lib.hid h
  clear hv h
  go_enter Tryz.func52, Tryz.ntmps52
  go_upto_region 1 with fail
  obtain ⟨W, hW⟩ : ∃ W, W = w.alloc (atO ao cap l sq tg) := ⟨_, rfl⟩
  have hb : W.heap[w.heap.size]? = some (atO ao cap l sq tg) := by rw [hW]; exact heap_alloc_new w _
  have HG : Hid (Below w.heap.size w W) := Lib.hid (by rw [hW]; exact (Below.refl _ _).alloc (Nat.le_refl _) _)
  rw [← hW]
  obtain ⟨⟨c0, c1, c2⟩, _⟩ := box3 hb
  have H := Lib.hid (H0.out.below (B := 0) HG.out)
  clear hW hb H0
  cases h1 : (tg == 1) with
  | true =>
    have ht : tg = 1 := by simpa using h1
    subst ht
    clear h1
    cases h2 : decide (sq < 1) with
    | true =>
      have HE := Lib.hid (show v = 6 by rw [← HV.out]; unfold attrChk tagBad seqBad; rw [h2]; rfl)
      go_wp2_with fail
      go_ret
      exact ⟨by rw [HE.out]; rfl, HG.out⟩
    | false =>
      cases h3 : decide (1099511627776 < sq) with
      | true =>
        have HE := Lib.hid (show v = 6 by rw [← HV.out]; unfold attrChk tagBad seqBad; rw [h2, h3]; rfl)
        go_wp2_with fail
        go_ret
        exact ⟨by rw [HE.out]; rfl, HG.out⟩
      | false =>
        obtain ⟨bs, hbs⟩ : ∃ bs, setOk l = bs := ⟨_, rfl⟩
        have HE := Lib.hid (show v = if bs then 0 else 4 by rw [← HV.out, ← hbs]; unfold attrChk tagBad seqBad; rw [h2, h3]; rfl)
        have HC := Lib.hid (checkI_any l ao cap W H.out hl bs hbs)
        clear hbs
        go_wp2_with fail
        refine HC.out.mono ?_
        rintro e w1 ⟨rfl, hb1⟩
        have HB1 := Lib.hid (HG.out.trans (hb1.mono HG.out.size))
        clear hb1 HC
        cases bs with
        | true =>
          go_wp2_with fail
          go_ret
          exact ⟨by rw [HE.out]; rfl, HB1.out⟩
        | false =>
          go_wp2_with fail
          go_ret
          exact ⟨by rw [HE.out]; rfl, HB1.out⟩
  | false =>
    cases h2 : (tg == 2) with
    | false =>
      have HE := Lib.hid (show v = 17 by rw [← HV.out]; unfold attrChk tagBad; simp only [bne, h1, h2]; rfl)
      have e1 : (tg != 1) = true := by simp only [bne, h1]; rfl
      have e2 : (tg != 2) = true := by simp only [bne, h2]; rfl
      clear h1 h2
      go_wp2_with fail
      go_ret
      exact ⟨by rw [HE.out]; rfl, HG.out⟩
    | true =>
      have ht : tg = 2 := by simpa using h2
      subst ht
      clear h1 h2
      cases h3 : (sq != 0) with
      | true =>
        have HE := Lib.hid (show v = 6 by rw [← HV.out]; unfold attrChk tagBad seqBad; rw [h3]; rfl)
        go_wp2_with fail
        go_ret
        exact ⟨by rw [HE.out]; rfl, HG.out⟩
      | false =>
        obtain ⟨bs, hbs⟩ : ∃ bs, setOk l = bs := ⟨_, rfl⟩
        have HE := Lib.hid (show v = if bs then 0 else 4 by rw [← HV.out, ← hbs]; unfold attrChk tagBad seqBad; rw [h3]; rfl)
        have HC := Lib.hid (checkI_any l ao cap W H.out hl bs hbs)
        clear hbs
        go_wp2_with fail
        refine HC.out.mono ?_
        rintro e w1 ⟨rfl, hb1⟩
        have HB1 := Lib.hid (HG.out.trans (hb1.mono HG.out.size))
        clear hb1 HC
        cases bs with
        | true =>
          go_wp2_with fail
          go_ret
          exact ⟨by rw [HE.out]; rfl, HB1.out⟩
        | false =>
          go_wp2_with fail
          go_ret
          exact ⟨by rw [HE.out]; rfl, HB1.out⟩
set_option maxRecDepth 100000 in
set_option maxHeartbeats 4000000 in
theorem refattrchk_any (ao : Option Addr) (cap : Nat) (l : List Id) (sq tg : Int) (w : World) (h : IdsV w ao cap l) (hl : l.length ≤ 1000000) (v : Int) (hv : attrChk l sq tg = v) :
    Calls Tryz.prog 69 #[atV ao cap l sq tg] w fun e w' => e = .returned (.int .i64 v) ∧ Below w.heap.size w w' := by
  have HV := Lib.hid hv
  have H0 := Lib.hid h
  clear hv h
  go_enter Tryz.func69, Tryz.ntmps69
  go_upto_region 1 with fail
  obtain ⟨W, hW⟩ : ∃ W, W = w.alloc (atO ao cap l sq tg) := ⟨_, rfl⟩
  have hb : W.heap[w.heap.size]? = some (atO ao cap l sq tg) := by rw [hW]; exact heap_alloc_new w _
  have HG : Hid (Below w.heap.size w W) := Lib.hid (by rw [hW]; exact (Below.refl _ _).alloc (Nat.le_refl _) _)
  rw [← hW]
  obtain ⟨⟨c0, c1, c2⟩, _⟩ := box3 hb
  have H := Lib.hid (H0.out.below (B := 0) HG.out)
  clear hW hb H0
  cases h1 : (tg == 1) with
  | true =>
    have ht : tg = 1 := by simpa using h1
    subst ht
    clear h1
    cases h2 : decide (sq < 1) with
    | true =>
      have HE := Lib.hid (show v = 6 by rw [← HV.out]; unfold attrChk tagBad seqBad; rw [h2]; rfl)
      go_wp2_with fail
      go_ret
      exact ⟨by rw [HE.out]; rfl, HG.out⟩
    | false =>
      cases h3 : decide (1099511627776 < sq) with
      | true =>
        have HE := Lib.hid (show v = 6 by rw [← HV.out]; unfold attrChk tagBad seqBad; rw [h2, h3]; rfl)
        go_wp2_with fail
        go_ret
        exact ⟨by rw [HE.out]; rfl, HG.out⟩
      | false =>
        obtain ⟨bs, hbs⟩ : ∃ bs, setOk l = bs := ⟨_, rfl⟩
        have HE := Lib.hid (show v = if bs then 0 else 4 by rw [← HV.out, ← hbs]; unfold attrChk tagBad seqBad; rw [h2, h3]; rfl)
        have HC := Lib.hid (refcheckI_any l ao cap W H.out hl bs hbs)
        clear hbs
        go_wp2_with fail
        refine HC.out.mono ?_
        rintro e w1 ⟨rfl, hb1⟩
        have HB1 := Lib.hid (HG.out.trans (hb1.mono HG.out.size))
        clear hb1 HC
        cases bs with
        | true =>
          go_wp2_with fail
          go_ret
          exact ⟨by rw [HE.out]; rfl, HB1.out⟩
        | false =>
          go_wp2_with fail
          go_ret
          exact ⟨by rw [HE.out]; rfl, HB1.out⟩
  | false =>
    cases h2 : (tg == 2) with
    | false =>
      have HE := Lib.hid (show v = 17 by rw [← HV.out]; unfold attrChk tagBad; simp only [bne, h1, h2]; rfl)
      have e1 : (tg != 1) = true := by simp only [bne, h1]; rfl
      have e2 : (tg != 2) = true := by simp only [bne, h2]; rfl
      clear h1 h2
      go_wp2_with fail
      go_ret
      exact ⟨by rw [HE.out]; rfl, HG.out⟩
    | true =>
      have ht : tg = 2 := by simpa using h2
      subst ht
      clear h1 h2
      cases h3 : (sq != 0) with
      | true =>
        have HE := Lib.hid (show v = 6 by rw [← HV.out]; unfold attrChk tagBad seqBad; rw [h3]; rfl)
        go_wp2_with fail
        go_ret
        exact ⟨by rw [HE.out]; rfl, HG.out⟩
      | false =>
        obtain ⟨bs, hbs⟩ : ∃ bs, setOk l = bs := ⟨_, rfl⟩
        have HE := Lib.hid (show v = if bs then 0 else 4 by rw [← HV.out, ← hbs]; unfold attrChk tagBad seqBad; rw [h3]; rfl)
        have HC := Lib.hid (refcheckI_any l ao cap W H.out hl bs hbs)
        clear hbs
        go_wp2_with fail
        refine HC.out.mono ?_
        rintro e w1 ⟨rfl, hb1⟩
        have HB1 := Lib.hid (HG.out.trans (hb1.mono HG.out.size))
        clear hb1 HC
        cases bs with
        | true =>
          go_wp2_with fail
          go_ret
          exact ⟨by rw [HE.out]; rfl, HB1.out⟩
        | false =>
          go_wp2_with fail
          go_ret
          exact ⟨by rw [HE.out]; rfl, HB1.out⟩
end Go.Proofs.YtlbkbjeajcadiaaGreatDoor.O

/- Records: what hangs on is the same; nothing but a promise. -/
namespace Go.Proofs.YtlbkbjeajcadiaaGreatDoor.O
open Go.RowKit Go.Proofs.YtlbkbjeajcadiaaGreatDoor.M Go.BigFrame
set_option linter.unusedVariables false
set_option linter.unusedSimpArgs false

def atSame (l : List Id) (sq tg : Int) (m : List Id) (sq2 tg2 : Int) : Bool := (tg == tg2) && (sq == sq2) && decide (l = m)
set_option maxRecDepth 100000 in
set_option maxHeartbeats 4000000 in
theorem asame_any (ao am : Option Addr) (cap cam : Nat) (l m : List Id) (sq tg sq2 tg2 : Int) (w : World) (h : IdsV w ao cap l) (h2 : IdsV w am cam m) (hl : l.length ≤ 1000000) (v : Bool) (hv : atSame l sq tg m sq2 tg2 = v) :
    Calls Tryz.prog 56 #[atV ao cap l sq tg, atV am cam m sq2 tg2] w fun e w' => e = .returned (.bool v) ∧ Below w.heap.size w w' := by
  have HV := Lib.hid hv
  have H0 := Lib.hid h
  have H02 := Lib.hid h2
  clear hv h h2
  go_enter Tryz.func56, Tryz.ntmps56
  go_upto_region 1 with fail
  obtain ⟨W, hW⟩ : ∃ W, W = (w.alloc (atO ao cap l sq tg)).alloc (atO am cam m sq2 tg2) := ⟨_, rfl⟩
  have hba : W.heap[w.heap.size]? = some (atO ao cap l sq tg) := by rw [hW, heap_al, if_neg (by simp), heap_alloc_new]
  have hbb : W.heap[w.heap.size + 1]? = some (atO am cam m sq2 tg2) := by rw [hW, heap_al, if_pos (by simp)]
  have HG : Hid (Below w.heap.size w W) := Lib.hid (by rw [hW]; exact ((Below.refl _ _).alloc (Nat.le_refl _) _).alloc (by simp) _)
  rw [← hW]
  obtain ⟨⟨c0, c1, c2⟩, _⟩ := box3 hba
  obtain ⟨⟨d0, d1, d2⟩, _⟩ := box3 hbb
  have H := Lib.hid (H0.out.below (B := 0) HG.out)
  have H2 := Lib.hid (H02.out.below (B := 0) HG.out)
  clear hW hba hbb H0 H02
  cases e1 : (tg == tg2) with
  | false =>
    have HE := Lib.hid (show v = false by rw [← HV.out]; unfold atSame; rw [e1]; rfl)
    go_wp2_with fail
    go_ret
    exact ⟨by rw [HE.out]; rfl, HG.out⟩
  | true =>
    cases e2 : (sq == sq2) with
    | false =>
      have HE := Lib.hid (show v = false by rw [← HV.out]; unfold atSame; rw [e1, e2]; rfl)
      go_wp2_with fail
      go_ret
      exact ⟨by rw [HE.out]; rfl, HG.out⟩
    | true =>
      have HE := Lib.hid (show decide (l = m) = v by rw [← HV.out]; unfold atSame; rw [e1, e2]; rfl)
      have HC := Lib.hid (equal_any l m ao am cap cam W H.out H2.out v HE.out)
      go_wp2_with fail
      refine HC.out.mono ?_
      rintro e w1 ⟨rfl, hb1⟩
      have HB1 := Lib.hid (HG.out.trans (hb1.mono HG.out.size))
      clear hb1 HC
      go_wp2_with fail
      go_ret
      exact ⟨rfl, HB1.out⟩
set_option maxRecDepth 100000 in
set_option maxHeartbeats 4000000 in
theorem refasame_any (ao am : Option Addr) (cap cam : Nat) (l m : List Id) (sq tg sq2 tg2 : Int) (w : World) (h : IdsV w ao cap l) (h2 : IdsV w am cam m) (hl : l.length ≤ 1000000) (v : Bool) (hv : atSame l sq tg m sq2 tg2 = v) :
    Calls Tryz.prog 22 #[atV ao cap l sq tg, atV am cam m sq2 tg2] w fun e w' => e = .returned (.bool v) ∧ Below w.heap.size w w' := by
  have HV := Lib.hid hv
  have H0 := Lib.hid h
  have H02 := Lib.hid h2
  clear hv h h2
  go_enter Tryz.func22, Tryz.ntmps22
  go_upto_region 1 with fail
  obtain ⟨W, hW⟩ : ∃ W, W = (w.alloc (atO ao cap l sq tg)).alloc (atO am cam m sq2 tg2) := ⟨_, rfl⟩
  have hba : W.heap[w.heap.size]? = some (atO ao cap l sq tg) := by rw [hW, heap_al, if_neg (by simp), heap_alloc_new]
  have hbb : W.heap[w.heap.size + 1]? = some (atO am cam m sq2 tg2) := by rw [hW, heap_al, if_pos (by simp)]
  have HG : Hid (Below w.heap.size w W) := Lib.hid (by rw [hW]; exact ((Below.refl _ _).alloc (Nat.le_refl _) _).alloc (by simp) _)
  rw [← hW]
  obtain ⟨⟨c0, c1, c2⟩, _⟩ := box3 hba
  obtain ⟨⟨d0, d1, d2⟩, _⟩ := box3 hbb
  have H := Lib.hid (H0.out.below (B := 0) HG.out)
  have H2 := Lib.hid (H02.out.below (B := 0) HG.out)
  clear hW hba hbb H0 H02
  cases e1 : (tg == tg2) with
  | false =>
    have HE := Lib.hid (show v = false by rw [← HV.out]; unfold atSame; rw [e1]; rfl)
    go_wp2_with fail
    go_ret
    exact ⟨by rw [HE.out]; rfl, HG.out⟩
  | true =>
    cases e2 : (sq == sq2) with
    | false =>
      have HE := Lib.hid (show v = false by rw [← HV.out]; unfold atSame; rw [e1, e2]; rfl)
      go_wp2_with fail
      go_ret
      exact ⟨by rw [HE.out]; rfl, HG.out⟩
    | true =>
      have HE := Lib.hid (show decide (l = m) = v by rw [← HV.out]; unfold atSame; rw [e1, e2]; rfl)
      have HC := Lib.hid (refequal_any l m ao am cap cam W H.out H2.out v HE.out)
      go_wp2_with fail
      refine HC.out.mono ?_
      rintro e w1 ⟨rfl, hb1⟩
      have HB1 := Lib.hid (HG.out.trans (hb1.mono HG.out.size))
      clear hb1 HC
      go_wp2_with fail
      go_ret
      exact ⟨rfl, HB1.out⟩
abbrev recO (x : Rv) : Obj := .cells (recA x) 40
/-- the cells of a record's box -/
theorem box16 {w : World} {b : Nat} {x : Rv} (h : w.heap[b]? = some (recO x)) : w.cell? ⟨b, 0, none⟩ = some (.int .i64 x.id.r) ∧ w.cell? ⟨b, 1, none⟩ = some (.int .i64 x.id.n) ∧ w.cell? ⟨b, 2, none⟩ = some (.int .i64 x.st) ∧ w.cell? ⟨b, 3, none⟩ = some (.int .i64 x.bal.round) ∧ w.cell? ⟨b, 4, none⟩ = some (.int .i64 x.bal.by_) ∧ w.cell? ⟨b, 5, none⟩ = some (.int .i64 x.took.round) ∧ w.cell? ⟨b, 6, none⟩ = some (.int .i64 x.took.by_) ∧
    w.cell? ⟨b, 7, none⟩ = some (.int .i64 x.cmd.kind) ∧ w.cell? ⟨b, 8, none⟩ = some (.int .i64 x.cmd.client) ∧ w.cell? ⟨b, 9, none⟩ = some (.int .i64 x.cmd.seq) ∧ w.cell? ⟨b, 10, none⟩ = some (.string x.cmd.key) ∧ w.cell? ⟨b, 11, none⟩ = some (.string x.cmd.val) ∧ w.cell? ⟨b, 12, none⟩ = some (.int .i64 x.cmd.rev) ∧ w.cell? ⟨b, 13, none⟩ = some (.slice x.ao x.deps.length x.cap) ∧ w.cell? ⟨b, 14, none⟩ = some (.int .i64 x.seq) ∧ w.cell? ⟨b, 15, none⟩ = some (.int .i64 x.tag) := by
  have hc : ∀ j, w.cell? ⟨b, j, none⟩ = (recA x)[j]? := fun j => cell_of_row w b j _ _ _ h
  exact ⟨hc 0, hc 1, hc 2, hc 3, hc 4, hc 5, hc 6, hc 7, hc 8, hc 9, hc 10, hc 11, hc 12, hc 13, hc 14, hc 15⟩
/-- nothing but a promise -/
def bareB (x : Rv) : Bool := ((x.took.round == 0) && (x.took.by_ == 0)) && ((x.cmd.kind == 0) && ((x.cmd.client == 0) && ((x.cmd.seq == 0) && (decide (x.cmd.key = P.nul) && (decide (x.cmd.val = P.nul) && (x.cmd.rev == 0)))))) && atSame x.deps x.seq x.tag [] 0 0
theorem toList_no {a : ByteArray} (h : a ≠ P.nul) : (a.toList == []) = false := by
  have := P.ba_eq a P.nul
  rw [decide_eq_false h] at this
  have e : P.nul.toList = [] := by rw [ByteArray.toList_eq]; rfl
  rwa [e] at this
theorem bareB_key {x : Rv} (h : x.cmd.key ≠ P.nul) : bareB x = false := by unfold bareB; simp [h]
theorem bareB_val {x : Rv} (h : x.cmd.val ≠ P.nul) : bareB x = false := by unfold bareB; simp [h]
set_option maxRecDepth 100000 in
set_option maxHeartbeats 4000000 in
theorem bare_any (x : Rv) (w : World) (h : IdsV w x.ao x.cap x.deps) (hl : x.deps.length ≤ 1000000) (v : Bool) (hv : bareB x = v) :
    Calls Tryz.prog 50 #[recV x] w fun e w' => e = .returned (.bool v) ∧ Below w.heap.size w w' := by
  have HV := Lib.hid hv
  have H0 := Lib.hid h
  clear hv h
  go_enter Tryz.func50, Tryz.ntmps50
  go_upto_region 1 with fail
  obtain ⟨W, hW⟩ : ∃ W, W = w.alloc (recO x) := ⟨_, rfl⟩
  have hba : W.heap[w.heap.size]? = some (recO x) := by rw [hW]; exact heap_alloc_new w _
  have HG : Hid (Below w.heap.size w W) := Lib.hid (by rw [hW]; exact (Below.refl _ _).alloc (Nat.le_refl _) _)
  rw [← hW]
  obtain ⟨c0, c1, c2, c3, c4, c5, c6, c7, c8, c9, c10, c11, c12, c13, c14, c15⟩ := box16 hba
  have H := Lib.hid (H0.out.below (B := 0) HG.out)
  clear hW hba H0 c0 c1 c2 c3 c4
  obtain ⟨⟨ir, i_n⟩, st, bal, ⟨tr, tb⟩, ⟨kind, client, cseq, key, val, rev⟩, deps, sq, tg, ao, cap⟩ := x
  dsimp only at c5 c6 c7 c8 c9 c10 c11 c12 c13 c14 c15 H hl
  by_cases h0 : tr = 0
  · subst h0
    by_cases h1 : tb = 0
    · subst h1
      by_cases h2 : kind = 0
      · subst h2
        by_cases h3 : client = 0
        · subst h3
          by_cases h4 : cseq = 0
          · subst h4
            by_cases h5 : key = P.nul
            · subst h5
              replace c10 : W.cell? ⟨w.heap.size, 10, none⟩ = some (.string ⟨#[]⟩) := c10
              by_cases h6 : val = P.nul
              · subst h6
                replace c11 : W.cell? ⟨w.heap.size, 11, none⟩ = some (.string ⟨#[]⟩) := c11
                by_cases h7 : rev = 0
                · subst h7
                  have HE := Lib.hid (show v = atSame deps sq tg [] 0 0 by rw [← HV.out]; rfl)
                  have HC := Lib.hid (asame_any ao none cap 0 deps [] sq tg 0 0 W H.out (IdsV.nil W) hl v HE.out.symm)
                  go_wp2_with fail
                  refine HC.out.mono ?_
                  rintro e w1 ⟨rfl, hb1⟩
                  have HB1 := Lib.hid (HG.out.trans (hb1.mono HG.out.size))
                  clear hb1 HC
                  go_wp2_with fail
                  go_ret
                  exact ⟨rfl, HB1.out⟩
                · have HE := Lib.hid (show v = false by rw [← HV.out]; unfold bareB; simp [h7])
                  have e7 : (rev == 0) = false := by rw [beq_eq_false_iff_ne]; exact h7
                  clear h7
                  go_wp2_with fail
                  go_ret
                  exact ⟨by rw [HE.out]; rfl, HG.out⟩
              · have HE := Lib.hid (show v = false by rw [← HV.out]; exact bareB_val h6)
                have e6 : (val.toList == []) = false := toList_no h6
                clear h6
                go_wp2_with fail
                go_ret
                exact ⟨by rw [HE.out]; rfl, HG.out⟩
            · have HE := Lib.hid (show v = false by rw [← HV.out]; exact bareB_key h5)
              have e5 : (key.toList == []) = false := toList_no h5
              clear h5
              go_wp2_with fail
              go_ret
              exact ⟨by rw [HE.out]; rfl, HG.out⟩
          · have HE := Lib.hid (show v = false by rw [← HV.out]; unfold bareB; simp [h4])
            have e4 : (cseq == 0) = false := by rw [beq_eq_false_iff_ne]; exact h4
            clear h4
            go_wp2_with fail
            go_ret
            exact ⟨by rw [HE.out]; rfl, HG.out⟩
        · have HE := Lib.hid (show v = false by rw [← HV.out]; unfold bareB; simp [h3])
          have e3 : (client == 0) = false := by rw [beq_eq_false_iff_ne]; exact h3
          clear h3
          go_wp2_with fail
          go_ret
          exact ⟨by rw [HE.out]; rfl, HG.out⟩
      · have HE := Lib.hid (show v = false by rw [← HV.out]; unfold bareB; simp [h2])
        have e2 : (kind == 0) = false := by rw [beq_eq_false_iff_ne]; exact h2
        clear h2
        go_wp2_with fail
        go_ret
        exact ⟨by rw [HE.out]; rfl, HG.out⟩
    · have HE := Lib.hid (show v = false by rw [← HV.out]; unfold bareB; simp [h1])
      have e1 : (tb == 0) = false := by rw [beq_eq_false_iff_ne]; exact h1
      clear h1
      go_wp2_with fail
      go_ret
      exact ⟨by rw [HE.out]; rfl, HG.out⟩
  · have HE := Lib.hid (show v = false by rw [← HV.out]; unfold bareB; simp [h0])
    have e0 : (tr == 0) = false := by rw [beq_eq_false_iff_ne]; exact h0
    clear h0
    go_wp2_with fail
    go_ret
    exact ⟨by rw [HE.out]; rfl, HG.out⟩
end Go.Proofs.YtlbkbjeajcadiaaGreatDoor.O
