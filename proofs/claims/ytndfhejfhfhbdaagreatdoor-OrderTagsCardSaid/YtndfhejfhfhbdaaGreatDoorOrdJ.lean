/- Ballots, and what instances hang on: what is right with them. -/
import Derived.Test.YtndfhejfhfhbdaaGreatDoorMrg18
import Derived.Test.YtndfhejfhfhbdaaGreatDoorAppF
namespace Go.Proofs.YtndfhejfhfhbdaaGreatDoor.O
open Go.RowKit Go.Proofs.YtndfhejfhfhbdaaGreatDoor.M Go.BigFrame
set_option linter.unusedVariables false
set_option linter.unusedSimpArgs false

abbrev balA (b : Bal) : Array Value := #[.int .i64 b.round, .int .i64 b.by_]
abbrev balV (b : Bal) : Value := .agg (balA b)
abbrev balO (b : Bal) : Obj := .cells #[.int .i64 b.round, .int .i64 b.by_] 34
def balOk (b : Bal) : Bool := decide (0 ≤ b.round) && decide (b.round ≤ 1099511627776) && decide (0 ≤ b.by_) && decide (b.by_ < 7)
def balLt (a b : Bal) : Bool := decide (a.round < b.round) || (decide (a.round = b.round) && decide (a.by_ < b.by_))
theorem balLt_iff {a b : Bal} : balLt a b = true ↔ a.round < b.round ∨ (a.round = b.round ∧ a.by_ < b.by_) := by
  unfold balLt
  simp only [Bool.or_eq_true, Bool.and_eq_true, decide_eq_true_eq]
theorem balLt_no {a b : Bal} : balLt a b = false ↔ ¬ (a.round < b.round ∨ (a.round = b.round ∧ a.by_ < b.by_)) := by
  rw [← balLt_iff, Bool.not_eq_true]
set_option maxRecDepth 100000 in
set_option maxHeartbeats 4000000 in
theorem balright_any (i : Bal) (w : World) (v : Bool) (hv : balOk i = v) :
    Calls Tryz.prog 94 #[balV i] w fun e w' => e = .returned (.bool v) ∧ Below w.heap.size w w' := by
  have HV := Lib.hid hv
  clear hv
  go_enter Tryz.func94, Tryz.ntmps94
  go_upto_region 1 with fail
  obtain ⟨W, hW⟩ : ∃ W, W = w.alloc (balO i) := ⟨_, rfl⟩
  have hb : W.heap[w.heap.size]? = some (balO i) := by rw [hW]; exact heap_alloc_new w _
  have HG : Hid (Below w.heap.size w W) := Lib.hid (by rw [hW]; exact (Below.refl _ _).alloc (Nat.le_refl _) _)
  rw [← hW]
  obtain ⟨⟨c0, c1⟩, _⟩ := box2 hb
  clear hW hb
  cases h1 : decide (0 ≤ i.round) <;> cases h2 : decide (i.round ≤ 1099511627776) <;> cases h3 : decide (0 ≤ i.by_) <;> cases h4 : decide (i.by_ < 7)
  all_goals
    have HE := Lib.hid (show v = (decide (0 ≤ i.round) && decide (i.round ≤ 1099511627776) && decide (0 ≤ i.by_) && decide (i.by_ < 7)) by
      rw [← HV.out]; unfold balOk; rw [show decide (i.by_ < 7) = decide (i.by_ < 7) from decide_eq_decide.2 (by omega)])
    rw [h1, h2, h3, h4] at HE
    go_wp2_with fail
    go_ret
    exact ⟨by rw [HE.out]; rfl, HG.out⟩
set_option maxRecDepth 100000 in
set_option maxHeartbeats 4000000 in
theorem refbalright_any (i : Bal) (w : World) (v : Bool) (hv : balOk i = v) :
    Calls Tryz.prog 79 #[balV i] w fun e w' => e = .returned (.bool v) ∧ Below w.heap.size w w' := by
  have HV := Lib.hid hv
  clear hv
  go_enter Tryz.func79, Tryz.ntmps79
  go_upto_region 1 with fail
  obtain ⟨W, hW⟩ : ∃ W, W = w.alloc (balO i) := ⟨_, rfl⟩
  have hb : W.heap[w.heap.size]? = some (balO i) := by rw [hW]; exact heap_alloc_new w _
  have HG : Hid (Below w.heap.size w W) := Lib.hid (by rw [hW]; exact (Below.refl _ _).alloc (Nat.le_refl _) _)
  rw [← hW]
  obtain ⟨⟨c0, c1⟩, _⟩ := box2 hb
  clear hW hb
  cases h1 : decide (0 ≤ i.round) <;> cases h2 : decide (i.round ≤ 1099511627776) <;> cases h3 : decide (0 ≤ i.by_) <;> cases h4 : decide (i.by_ ≤ 6)
  all_goals
    have HE := Lib.hid (show v = (decide (0 ≤ i.round) && decide (i.round ≤ 1099511627776) && decide (0 ≤ i.by_) && decide (i.by_ ≤ 6)) by
      rw [← HV.out]; unfold balOk; rw [show decide (i.by_ < 7) = decide (i.by_ ≤ 6) from decide_eq_decide.2 (by omega)])
    rw [h1, h2, h3, h4] at HE
    go_wp2_with fail
    go_ret
    exact ⟨by rw [HE.out]; rfl, HG.out⟩
set_option maxRecDepth 100000 in
set_option maxHeartbeats 4000000 in
theorem balless_any (a b : Bal) (w : World) (v : Bool) (hv : balLt a b = v) :
    Calls Tryz.prog 95 #[balV a, balV b] w fun e w' => e = .returned (.bool v) ∧ Below w.heap.size w w' := by
  have HV := Lib.hid hv
  clear hv
  go_enter Tryz.func95, Tryz.ntmps95
  go_upto_region 1 with fail
  obtain ⟨W, hW⟩ : ∃ W, W = (w.alloc (balO a)).alloc (balO b) := ⟨_, rfl⟩
  have hba : W.heap[w.heap.size]? = some (balO a) := by rw [hW, heap_al, if_neg (by simp), heap_alloc_new]
  have hbb : W.heap[w.heap.size + 1]? = some (balO b) := by rw [hW, heap_al, if_pos (by simp)]
  have HG : Hid (Below w.heap.size w W) := Lib.hid (by rw [hW]; exact ((Below.refl _ _).alloc (Nat.le_refl _) _).alloc (by simp) _)
  rw [← hW]
  obtain ⟨⟨c0, c1⟩, _⟩ := box2 hba
  obtain ⟨⟨d0, d1⟩, _⟩ := box2 hbb
  clear hW hba hbb
  cases e : (a.round != b.round) with
  | true =>
    have hne : a.round ≠ b.round := by simpa using e
    have HE := Lib.hid (show v = decide (a.round < b.round) by
      rw [← HV.out, Bool.eq_iff_iff, balLt_iff, decide_eq_true_eq]; omega)
    clear hne
    go_wp2_with fail
    go_ret
    exact ⟨by rw [HE.out]; rfl, HG.out⟩
  | false =>
    have hne : a.round = b.round := by simpa using e
    have HE := Lib.hid (show v = decide (a.by_ < b.by_) by
      rw [← HV.out, Bool.eq_iff_iff, balLt_iff, decide_eq_true_eq]; omega)
    clear hne
    go_wp2_with fail
    go_ret
    exact ⟨by rw [HE.out]; rfl, HG.out⟩
set_option maxRecDepth 100000 in
set_option maxHeartbeats 4000000 in
theorem refballess_any (a b : Bal) (w : World) (v : Bool) (hv : balLt a b = v) :
    Calls Tryz.prog 80 #[balV a, balV b] w fun e w' => e = .returned (.bool v) ∧ Below w.heap.size w w' := by
  have HV := Lib.hid hv
  clear hv
  go_enter Tryz.func80, Tryz.ntmps80
  go_upto_region 1 with fail
  obtain ⟨W, hW⟩ : ∃ W, W = (w.alloc (balO a)).alloc (balO b) := ⟨_, rfl⟩
  have hba : W.heap[w.heap.size]? = some (balO a) := by rw [hW, heap_al, if_neg (by simp), heap_alloc_new]
  have hbb : W.heap[w.heap.size + 1]? = some (balO b) := by rw [hW, heap_al, if_pos (by simp)]
  have HG : Hid (Below w.heap.size w W) := Lib.hid (by rw [hW]; exact ((Below.refl _ _).alloc (Nat.le_refl _) _).alloc (by simp) _)
  rw [← hW]
  obtain ⟨⟨c0, c1⟩, _⟩ := box2 hba
  obtain ⟨⟨d0, d1⟩, _⟩ := box2 hbb
  clear hW hba hbb
  cases h1 : decide (a.round < b.round) <;> cases h2 : (a.round == b.round) <;> cases h3 : decide (a.by_ < b.by_)
  all_goals
    have HE := Lib.hid (show v = (decide (a.round < b.round) || ((a.round == b.round) && decide (a.by_ < b.by_))) by
      rw [← HV.out]; unfold balLt; rw [show decide (a.round = b.round) = (a.round == b.round) by rw [Bool.eq_iff_iff, decide_eq_true_eq, beq_iff_eq]])
    rw [h1, h2, h3] at HE
    go_wp2_with fail
    go_ret
    exact ⟨by rw [HE.out]; rfl, HG.out⟩
abbrev atA (ao : Option Addr) (cap : Nat) (l : List Id) (sq tg : Int) : Array Value := #[.slice ao l.length cap, .int .i64 sq, .int .i64 tg]
abbrev atV (ao : Option Addr) (cap : Nat) (l : List Id) (sq tg : Int) : Value := .agg (atA ao cap l sq tg)
abbrev atO (ao : Option Addr) (cap : Nat) (l : List Id) (sq tg : Int) : Obj := .cells #[.slice ao l.length cap, .int .i64 sq, .int .i64 tg] 32
def tagBad (tg : Int) : Bool := (tg != 1) && (tg != 2)
def seqBad (sq tg : Int) : Bool := ((tg == 1) && (decide (sq < 1) || decide (1099511627776 < sq))) || ((tg == 2) && (sq != 0))
def attrChk (l : List Id) (sq tg : Int) : Int := if tagBad tg then 17 else if seqBad sq tg then 6 else if setOk l then 0 else 4
set_option maxRecDepth 100000 in
set_option maxHeartbeats 4000000 in
theorem attrchk_any (ao : Option Addr) (cap : Nat) (l : List Id) (sq tg : Int) (w : World) (h : IdsV w ao cap l) (hl : l.length ≤ 1000000) (v : Int) (hv : attrChk l sq tg = v) :
    Calls Tryz.prog 98 #[atV ao cap l sq tg] w fun e w' => e = .returned (.int .i64 v) ∧ Below w.heap.size w w' := by
  have HV := Lib.hid hv
  have H0 := Lib.hid h
  clear hv h
  go_enter Tryz.func98, Tryz.ntmps98
  go_upto_region 1 with fail
  obtain ⟨W, hW⟩ : ∃ W, W = w.alloc (atO ao cap l sq tg) := ⟨_, rfl⟩
  have hb : W.heap[w.heap.size]? = some (atO ao cap l sq tg) := by rw [hW]; exact heap_alloc_new w _
  have HG : Hid (Below w.heap.size w W) := Lib.hid (by rw [hW]; exact (Below.refl _ _).alloc (Nat.le_refl _) _)
  rw [← hW]
  obtain ⟨⟨c0, c1, c2⟩, _⟩ := box3 hb
  have H := Lib.hid (H0.out.below (B := 0) HG.out)
  clear hW hb H0
  cases h1 : (tg == 1) with
  | true =>
    have ht : tg = 1 := by simpa using h1
    subst ht
    clear h1
    cases h2 : decide (sq < 1) with
    | true =>
      have HE := Lib.hid (show v = 6 by rw [← HV.out]; unfold attrChk tagBad seqBad; rw [h2]; rfl)
      go_wp2_with fail
      go_ret
      exact ⟨by rw [HE.out]; rfl, HG.out⟩
    | false =>
      cases h3 : decide (1099511627776 < sq) with
      | true =>
        have HE := Lib.hid (show v = 6 by rw [← HV.out]; unfold attrChk tagBad seqBad; rw [h2, h3]; rfl)
        go_wp2_with fail
        go_ret
        exact ⟨by rw [HE.out]; rfl, HG.out⟩
      | false =>
        obtain ⟨bs, hbs⟩ : ∃ bs, setOk l = bs := ⟨_, rfl⟩
        have HE := Lib.hid (show v = if bs then 0 else 4 by rw [← HV.out, ← hbs]; unfold attrChk tagBad seqBad; rw [h2, h3]; rfl)
        have HC := Lib.hid (checkI_any l ao cap W H.out hl bs hbs)
        clear hbs
        go_wp2_with fail
        refine HC.out.mono ?_
        rintro e w1 ⟨rfl, hb1⟩
        have HB1 := Lib.hid (HG.out.trans (hb1.mono HG.out.size))
        clear hb1 HC
        cases bs with
        | true =>
          go_wp2_with fail
          go_ret
          exact ⟨by rw [HE.out]; rfl, HB1.out⟩
        | false =>
          go_wp2_with fail
          go_ret
          exact ⟨by rw [HE.out]; rfl, HB1.out⟩
  | false =>
    cases h2 : (tg == 2) with
    | false =>
      have HE := Lib.hid (show v = 17 by rw [← HV.out]; unfold attrChk tagBad; simp only [bne, h1, h2]; rfl)
      have e1 : (tg != 1) = true := by simp only [bne, h1]; rfl
      have e2 : (tg != 2) = true := by simp only [bne, h2]; rfl
      clear h1 h2
      go_wp2_with fail
      go_ret
      exact ⟨by rw [HE.out]; rfl, HG.out⟩
    | true =>
      have ht : tg = 2 := by simpa using h2
      subst ht
      clear h1 h2
      cases h3 : (sq != 0) with
      | true =>
        have HE := Lib.hid (show v = 6 by rw [← HV.out]; unfold attrChk tagBad seqBad; rw [h3]; rfl)
        go_wp2_with fail
        go_ret
        exact ⟨by rw [HE.out]; rfl, HG.out⟩
      | false =>
        obtain ⟨bs, hbs⟩ : ∃ bs, setOk l = bs := ⟨_, rfl⟩
        have HE := Lib.hid (show v = if bs then 0 else 4 by rw [← HV.out, ← hbs]; unfold attrChk tagBad seqBad; rw [h3]; rfl)
        have HC := Lib.hid (checkI_any l ao cap W H.out hl bs hbs)
        clear hbs
        go_wp2_with fail
        refine HC.out.mono ?_
        rintro e w1 ⟨rfl, hb1⟩
        have HB1 := Lib.hid (HG.out.trans (hb1.mono HG.out.size))
        clear hb1 HC
        cases bs with
        | true =>
          go_wp2_with fail
          go_ret
          exact ⟨by rw [HE.out]; rfl, HB1.out⟩
        | false =>
          go_wp2_with fail
          go_ret
          exact ⟨by rw [HE.out]; rfl, HB1.out⟩
set_option maxRecDepth 100000 in
set_option maxHeartbeats 4000000 in
theorem refattrchk_any (ao : Option Addr) (cap : Nat) (l : List Id) (sq tg : Int) (w : World) (h : IdsV w ao cap l) (hl : l.length ≤ 1000000) (v : Int) (hv : attrChk l sq tg = v) :
    Calls Tryz.prog 82 #[atV ao cap l sq tg] w fun e w' => e = .returned (.int .i64 v) ∧ Below w.heap.size w w' := by
  have HV := Lib.hid hv
  have H0 := Lib.hid h
  clear hv h
  go_enter Tryz.func82, Tryz.ntmps82
  go_upto_region 1 with fail
  obtain ⟨W, hW⟩ : ∃ W, W = w.alloc (atO ao cap l sq tg) := ⟨_, rfl⟩
  have hb : W.heap[w.heap.size]? = some (atO ao cap l sq tg) := by rw [hW]; exact heap_alloc_new w _
  have HG : Hid (Below w.heap.size w W) := Lib.hid (by rw [hW]; exact (Below.refl _ _).alloc (Nat.le_refl _) _)
  rw [← hW]
  obtain ⟨⟨c0, c1, c2⟩, _⟩ := box3 hb
  have H := Lib.hid (H0.out.below (B := 0) HG.out)
  clear hW hb H0
  cases h1 : (tg == 1) with
  | true =>
    have ht : tg = 1 := by simpa using h1
    subst ht
    clear h1
    cases h2 : decide (sq < 1) with
    | true =>
      have HE := Lib.hid (show v = 6 by rw [← HV.out]; unfold attrChk tagBad seqBad; rw [h2]; rfl)
      go_wp2_with fail
      go_ret
      exact ⟨by rw [HE.out]; rfl, HG.out⟩
    | false =>
      cases h3 : decide (1099511627776 < sq) with
      | true =>
        have HE := Lib.hid (show v = 6 by rw [← HV.out]; unfold attrChk tagBad seqBad; rw [h2, h3]; rfl)
        go_wp2_with fail
        go_ret
        exact ⟨by rw [HE.out]; rfl, HG.out⟩
      | false =>
        obtain ⟨bs, hbs⟩ : ∃ bs, setOk l = bs := ⟨_, rfl⟩
        have HE := Lib.hid (show v = if bs then 0 else 4 by rw [← HV.out, ← hbs]; unfold attrChk tagBad seqBad; rw [h2, h3]; rfl)
        have HC := Lib.hid (refcheckI_any l ao cap W H.out hl bs hbs)
        clear hbs
        go_wp2_with fail
        refine HC.out.mono ?_
        rintro e w1 ⟨rfl, hb1⟩
        have HB1 := Lib.hid (HG.out.trans (hb1.mono HG.out.size))
        clear hb1 HC
        cases bs with
        | true =>
          go_wp2_with fail
          go_ret
          exact ⟨by rw [HE.out]; rfl, HB1.out⟩
        | false =>
          go_wp2_with fail
          go_ret
          exact ⟨by rw [HE.out]; rfl, HB1.out⟩
  | false =>
    cases h2 : (tg == 2) with
    | false =>
      have HE := Lib.hid (show v = 17 by rw [← HV.out]; unfold attrChk tagBad; simp only [bne, h1, h2]; rfl)
      have e1 : (tg != 1) = true := by simp only [bne, h1]; rfl
      have e2 : (tg != 2) = true := by simp only [bne, h2]; rfl
      clear h1 h2
      go_wp2_with fail
      go_ret
      exact ⟨by rw [HE.out]; rfl, HG.out⟩
    | true =>
      have ht : tg = 2 := by simpa using h2
      subst ht
      clear h1 h2
      cases h3 : (sq != 0) with
      | true =>
        have HE := Lib.hid (show v = 6 by rw [← HV.out]; unfold attrChk tagBad seqBad; rw [h3]; rfl)
        go_wp2_with fail
        go_ret
        exact ⟨by rw [HE.out]; rfl, HG.out⟩
      | false =>
        obtain ⟨bs, hbs⟩ : ∃ bs, setOk l = bs := ⟨_, rfl⟩
        have HE := Lib.hid (show v = if bs then 0 else 4 by rw [← HV.out, ← hbs]; unfold attrChk tagBad seqBad; rw [h3]; rfl)
        have HC := Lib.hid (refcheckI_any l ao cap W H.out hl bs hbs)
        clear hbs
        go_wp2_with fail
        refine HC.out.mono ?_
        rintro e w1 ⟨rfl, hb1⟩
        have HB1 := Lib.hid (HG.out.trans (hb1.mono HG.out.size))
        clear hb1 HC
        cases bs with
        | true =>
          go_wp2_with fail
          go_ret
          exact ⟨by rw [HE.out]; rfl, HB1.out⟩
        | false =>
          go_wp2_with fail
          go_ret
          exact ⟨by rw [HE.out]; rfl, HB1.out⟩
end Go.Proofs.YtndfhejfhfhbdaaGreatDoor.O
