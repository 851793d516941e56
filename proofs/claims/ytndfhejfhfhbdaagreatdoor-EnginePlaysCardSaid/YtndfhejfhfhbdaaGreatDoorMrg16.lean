/- Several texts in one. -/
import Derived.Test.YtndfhejfhfhbdaaGreatDoorMrg15

/- Records: order.byId, order.within. -/
namespace Go.Proofs.YtndfhejfhfhbdaaGreatDoor.O
open Go.RowKit Go.Proofs.YtndfhejfhfhbdaaGreatDoor.M Go.BigFrame Go.Proofs.YtndfhejfhfhbdaaGreatDoor.R
set_option linter.unusedVariables false
set_option linter.unusedSimpArgs false

theorem two_recs (x y : Rv) (w : World) : (((w.alloc (recO x)).alloc (recO y)).heap[w.heap.size]? = some (recO x)) ∧ (((w.alloc (recO x)).alloc (recO y)).heap[w.heap.size + 1]? = some (recO y)) ∧ Grew w ((w.alloc (recO x)).alloc (recO y)) :=
  ⟨by rw [heap_al, if_neg (by simp), heap_alloc_new], by rw [heap_al, if_pos (by simp)], (Grew.alloc _ _).trans (Grew.alloc _ _)⟩
set_option maxRecDepth 100000 in
set_option maxHeartbeats 4000000 in
theorem byid_any (x y : Rv) (w : World) (v : Int) (hv : ico x.id y.id = v) :
    Calls Tryz.prog 46 #[recV x, recV y] w fun e w' => e = .returned (.int .i64 v) ∧ Grew w w' := by
  have HV := Lib.hid hv
  clear hv
  go_enter Tryz.func46, Tryz.ntmps46
  go_upto_region 1 with fail
  obtain ⟨hba, hbb, hg⟩ := two_recs x y w
  obtain ⟨W, hW⟩ : ∃ W, W = (w.alloc (recO x)).alloc (recO y) := ⟨_, rfl⟩
  rw [← hW] at hba hbb hg ⊢
  have HG := Lib.hid hg
  have HBA := Lib.hid hba
  have HBB := Lib.hid hbb
  clear hW hg hba hbb
  obtain ⟨c0, c1, c2, c3, c4, c5, c6, c7, c8, c9, c10, c11, c12, c13, c14, c15⟩ := box16 (HBA.out)
  obtain ⟨d0, d1, d2, d3, d4, d5, d6, d7, d8, d9, d10, d11, d12, d13, d14, d15⟩ := box16 (HBB.out)
  cases e1 : (x.id.r == y.id.r) with
  | true =>
    cases e2 : (x.id.n == y.id.n) with
    | true =>
      have HE := Lib.hid (show v = 0 by rw [← HV.out, ico_zero]; exact Id.eq_of (by simpa using e1) (by simpa using e2))
      go_wp2_with fail
      go_ret
      exact ⟨by rw [HE.out]; rfl, HG.out⟩
    | false =>
      have HNE := Lib.hid (show ¬ x.id = y.id from fun e => by rw [e] at e2; simp at e2)
      obtain ⟨bl, hbl⟩ : ∃ b, ilt x.id y.id = b := ⟨_, rfl⟩
      have HBL := Lib.hid hbl
      have HE := Lib.hid (show v = if bl then -1 else 1 by rw [← HV.out, ← hbl]; unfold ico; rw [if_neg HNE.out])
      clear hbl
      go_wp2_with fail
      refine (less_any x.id y.id W bl HBL.out).mono ?_
      rintro e w1 ⟨rfl, hg1⟩
      have HG1 := Lib.hid (HG.out.trans hg1)
      clear hg1
      clear c0 c1 c2 c3 c4 c5 c6 c7 c8 c9 c10 c11 c12 c13 c14 c15 d0 d1 d2 d3 d4 d5 d6 d7 d8 d9 d10 d11 d12 d13 d14 d15
      cases bl with
      | true =>
        go_wp2_with fail
        go_ret
        exact ⟨by rw [HE.out]; rfl, HG1.out⟩
      | false =>
        go_wp2_with fail
        go_ret
        exact ⟨by rw [HE.out]; rfl, HG1.out⟩
  | false =>
    have HNE := Lib.hid (show ¬ x.id = y.id from fun e => by rw [e] at e1; simp at e1)
    obtain ⟨bl, hbl⟩ : ∃ b, ilt x.id y.id = b := ⟨_, rfl⟩
    have HBL := Lib.hid hbl
    have HE := Lib.hid (show v = if bl then -1 else 1 by rw [← HV.out, ← hbl]; unfold ico; rw [if_neg HNE.out])
    clear hbl
    go_wp2_with fail
    refine (less_any x.id y.id W bl HBL.out).mono ?_
    rintro e w1 ⟨rfl, hg1⟩
    have HG1 := Lib.hid (HG.out.trans hg1)
    clear hg1
    clear c0 c1 c2 c3 c4 c5 c6 c7 c8 c9 c10 c11 c12 c13 c14 c15 d0 d1 d2 d3 d4 d5 d6 d7 d8 d9 d10 d11 d12 d13 d14 d15
    cases bl with
    | true =>
      go_wp2_with fail
      go_ret
      exact ⟨by rw [HE.out]; rfl, HG1.out⟩
    | false =>
      go_wp2_with fail
      go_ret
      exact ⟨by rw [HE.out]; rfl, HG1.out⟩
/-- what order.within says -/
def wco (x y : Rv) : Int := orI (if x.tag = y.tag ∧ x.tag = 1 then cmpI x.seq y.seq else cmpI x.tag y.tag) (ico x.id y.id)
theorem cmpI_neg {a b : Int} : cmpI a b < 0 ↔ a < b := by
  unfold cmpI
  by_cases h : a < b
  · rw [if_pos h]; simp [h]
  · rw [if_neg h]
    by_cases h2 : b < a
    · rw [if_pos h2]; simp [h]
    · rw [if_neg h2]; simp [h]
theorem cmpI_zero {a b : Int} : cmpI a b = 0 ↔ a = b := by
  unfold cmpI
  by_cases h : a < b
  · rw [if_pos h]; simp; omega
  · rw [if_neg h]
    by_cases h2 : b < a
    · rw [if_pos h2]; simp; omega
    · rw [if_neg h2]; simp; omega
theorem wco_neg {x y : Rv} : wco x y < 0 ↔ wlt x.nd y.nd = true := by
  rw [wlt_iff]
  show wco x y < 0 ↔ x.tag < y.tag ∨ (x.tag = y.tag ∧ ((x.tag = 1 ∧ x.seq < y.seq) ∨ ((x.tag ≠ 1 ∨ x.seq = y.seq) ∧ ilt x.id y.id = true)))
  unfold wco
  by_cases h1 : x.tag = y.tag
  · by_cases h2 : x.tag = 1
    · rw [show (if x.tag = y.tag ∧ x.tag = 1 then cmpI x.seq y.seq else cmpI x.tag y.tag) = cmpI x.seq y.seq from if_pos ⟨h1, h2⟩]
      unfold orI
      by_cases h3 : x.seq = y.seq
      · rw [if_pos (cmpI_zero.2 h3), ico_neg]
        constructor
        · intro h; exact .inr ⟨h1, .inr ⟨.inr h3, h⟩⟩
        · rintro (h | ⟨_, ⟨_, h⟩ | ⟨_, h⟩⟩)
          · omega
          · omega
          · exact h
      · rw [if_neg (fun e => h3 (cmpI_zero.1 e)), cmpI_neg]
        constructor
        · intro h; exact .inr ⟨h1, .inl ⟨h2, h⟩⟩
        · rintro (h | ⟨_, ⟨_, h⟩ | ⟨h | h, _⟩⟩)
          · omega
          · exact h
          · exact absurd h2 h
          · exact absurd h h3
    · rw [show (if x.tag = y.tag ∧ x.tag = 1 then cmpI x.seq y.seq else cmpI x.tag y.tag) = cmpI x.tag y.tag from if_neg (fun e => h2 e.2)]
      unfold orI
      rw [if_pos (cmpI_zero.2 h1), ico_neg]
      constructor
      · intro h; exact .inr ⟨h1, .inr ⟨.inl h2, h⟩⟩
      · rintro (h | ⟨_, ⟨h, _⟩ | ⟨_, h⟩⟩)
        · omega
        · exact absurd h h2
        · exact h
  · rw [show (if x.tag = y.tag ∧ x.tag = 1 then cmpI x.seq y.seq else cmpI x.tag y.tag) = cmpI x.tag y.tag from if_neg (fun e => h1 e.1)]
    unfold orI
    rw [if_neg (fun e => h1 (cmpI_zero.1 e)), cmpI_neg]
    constructor
    · intro h; exact .inl h
    · rintro (h | ⟨h, _⟩)
      · exact h
      · exact absurd h h1
set_option maxRecDepth 100000 in
set_option maxHeartbeats 4000000 in
theorem within_any (x y : Rv) (w : World) (v : Int) (hv : wco x y = v) :
    Calls Tryz.prog 60 #[recV x, recV y] w fun e w' => e = .returned (.int .i64 v) ∧ Grew w w' := by
  have HV := Lib.hid (show orI (if x.tag = y.tag ∧ x.tag = 1 then cmpI x.seq y.seq else cmpI x.tag y.tag) (ico x.id y.id) = v from hv)
  clear hv
  go_enter Tryz.func60, Tryz.ntmps60
  go_upto_region 1 with fail
  obtain ⟨hba, hbb, hg⟩ := two_recs x y w
  obtain ⟨W, hW⟩ : ∃ W, W = (w.alloc (recO x)).alloc (recO y) := ⟨_, rfl⟩
  rw [← hW] at hba hbb hg ⊢
  have HG := Lib.hid hg
  have HBA := Lib.hid hba
  have HBB := Lib.hid hbb
  clear hW hg hba hbb
  obtain ⟨c0, c1, c2, c3, c4, c5, c6, c7, c8, c9, c10, c11, c12, c13, c14, c15⟩ := box16 (HBA.out)
  obtain ⟨d0, d1, d2, d3, d4, d5, d6, d7, d8, d9, d10, d11, d12, d13, d14, d15⟩ := box16 (HBB.out)
  obtain ⟨k1, hk1⟩ : ∃ k, cmpI x.tag y.tag = k := ⟨_, rfl⟩
  have HK1 := Lib.hid hk1
  have hz : k1 = 0 ↔ x.tag = y.tag := by rw [← hk1]; exact cmpI_zero
  clear hk1
  go_wp2_with fail
  refine (compare_any x.tag y.tag W k1 HK1.out).mono ?_
  rintro e w1 ⟨rfl, rfl⟩
  cases e1 : (k1 == 0) with
  | false =>
    have hne : ¬ x.tag = y.tag := fun e => by rw [← hz] at e; rw [e] at e1; simp at e1
    have HE := Lib.hid (show orI k1 (ico x.id y.id) = v by rw [← HV.out, if_neg (fun e => hne e.1), HK1.out])
    clear hz hne
    obtain ⟨kb, hkb⟩ : ∃ k, ico x.id y.id = k := ⟨_, rfl⟩
    have HKB := Lib.hid hkb
    have HQ := Lib.hid (show orI k1 kb = v by rw [← HE.out, hkb])
    clear hkb
    go_wp2_with fail
    refine (byid_any x y W kb HKB.out).mono ?_
    rintro e w1 ⟨rfl, hg1⟩
    have HG1 := Lib.hid (HG.out.trans hg1)
    clear hg1
    clear c0 c1 c2 c3 c4 c5 c6 c7 c8 c9 c10 c11 c12 c13 c14 c15 d0 d1 d2 d3 d4 d5 d6 d7 d8 d9 d10 d11 d12 d13 d14 d15
    go_wp2_with fail
    obtain ⟨w2, hw2⟩ : ∃ x, x = w1.alloc (.cells #[.int .i64 k1, .int .i64 kb] 3) := ⟨_, rfl⟩
    obtain ⟨⟨f0, f1⟩, _⟩ := box2 (heap_alloc_new w1 (.cells #[.int .i64 k1, .int .i64 kb] 3))
    have HG2 := Lib.hid (show Grew w w2 by rw [hw2]; exact HG1.out.trans (.alloc _ _))
    rw [← hw2] at f0 f1 ⊢
    clear hw2
    refine (or2_any w1.heap.size k1 kb w2 f0 f1 v HQ.out).mono ?_
    rintro e w3 ⟨rfl, rfl⟩
    clear f0 f1
    go_wp2_with fail
    go_ret
    exact ⟨rfl, HG2.out⟩
  | true =>
    have hk0 : k1 = 0 := by simpa using e1
    have heq := hz.1 hk0
    cases e2 : (x.tag == 1) with
    | false =>
      have hne : ¬ x.tag = 1 := by simpa using e2
      have HE := Lib.hid (show orI k1 (ico x.id y.id) = v by rw [← HV.out, if_neg (fun e => hne e.2), HK1.out])
      clear hz hne heq hk0
      obtain ⟨kb, hkb⟩ : ∃ k, ico x.id y.id = k := ⟨_, rfl⟩
      have HKB := Lib.hid hkb
      have HQ := Lib.hid (show orI k1 kb = v by rw [← HE.out, hkb])
      clear hkb
      go_wp2_with fail
      refine (byid_any x y W kb HKB.out).mono ?_
      rintro e w1 ⟨rfl, hg1⟩
      have HG1 := Lib.hid (HG.out.trans hg1)
      clear hg1
      clear c0 c1 c2 c3 c4 c5 c6 c7 c8 c9 c10 c11 c12 c13 c14 c15 d0 d1 d2 d3 d4 d5 d6 d7 d8 d9 d10 d11 d12 d13 d14 d15
      go_wp2_with fail
      obtain ⟨w2, hw2⟩ : ∃ x, x = w1.alloc (.cells #[.int .i64 k1, .int .i64 kb] 3) := ⟨_, rfl⟩
      obtain ⟨⟨f0, f1⟩, _⟩ := box2 (heap_alloc_new w1 (.cells #[.int .i64 k1, .int .i64 kb] 3))
      have HG2 := Lib.hid (show Grew w w2 by rw [hw2]; exact HG1.out.trans (.alloc _ _))
      rw [← hw2] at f0 f1 ⊢
      clear hw2
      refine (or2_any w1.heap.size k1 kb w2 f0 f1 v HQ.out).mono ?_
      rintro e w3 ⟨rfl, rfl⟩
      clear f0 f1
      go_wp2_with fail
      go_ret
      exact ⟨rfl, HG2.out⟩
    | true =>
      have h1 : x.tag = 1 := by simpa using e2
      obtain ⟨k2, hk2⟩ : ∃ k, cmpI x.seq y.seq = k := ⟨_, rfl⟩
      have HK2 := Lib.hid hk2
      have HE := Lib.hid (show orI k2 (ico x.id y.id) = v by rw [← HV.out, if_pos ⟨heq, h1⟩, hk2])
      clear hz h1 heq hk0 hk2
      go_wp2_with fail
      refine (compare_any x.seq y.seq W k2 HK2.out).mono ?_
      rintro e w1 ⟨rfl, rfl⟩
      obtain ⟨kb, hkb⟩ : ∃ k, ico x.id y.id = k := ⟨_, rfl⟩
      have HKB := Lib.hid hkb
      have HQ := Lib.hid (show orI k2 kb = v by rw [← HE.out, hkb])
      clear hkb
      go_wp2_with fail
      refine (byid_any x y W kb HKB.out).mono ?_
      rintro e w1 ⟨rfl, hg1⟩
      have HG1 := Lib.hid (HG.out.trans hg1)
      clear hg1
      clear c0 c1 c2 c3 c4 c5 c6 c7 c8 c9 c10 c11 c12 c13 c14 c15 d0 d1 d2 d3 d4 d5 d6 d7 d8 d9 d10 d11 d12 d13 d14 d15
      go_wp2_with fail
      obtain ⟨w2, hw2⟩ : ∃ x, x = w1.alloc (.cells #[.int .i64 k2, .int .i64 kb] 3) := ⟨_, rfl⟩
      obtain ⟨⟨f0, f1⟩, _⟩ := box2 (heap_alloc_new w1 (.cells #[.int .i64 k2, .int .i64 kb] 3))
      have HG2 := Lib.hid (show Grew w w2 by rw [hw2]; exact HG1.out.trans (.alloc _ _))
      rw [← hw2] at f0 f1 ⊢
      clear hw2
      refine (or2_any w1.heap.size k2 kb w2 f0 f1 v HQ.out).mono ?_
      rintro e w3 ⟨rfl, rfl⟩
      clear f0 f1
      go_wp2_with fail
      go_ret
      exact ⟨rfl, HG2.out⟩
end Go.Proofs.YtndfhejfhfhbdaaGreatDoor.O

/- Records sorted by their ids (slices.SortFunc), and within a component (slices.SortStableFunc). -/
namespace Go.Proofs.YtndfhejfhfhbdaaGreatDoor.O
open Go.RowKit Go.Proofs.YtndfhejfhfhbdaaGreatDoor.M Go.BigFrame Go.Sort
set_option linter.unusedVariables false
set_option linter.unusedSimpArgs false

set_option maxRecDepth 100000 in
set_option maxHeartbeats 1000000 in
theorem sortR_ins (p : Option Addr) (cap : Nat) (fv : Value) (w : World) :
    Calls Tryz.prog 126 #[.slice p 0 cap, .int .i64 0, .int .i64 0, fv] w fun e w' => e = .returned (.tuple #[]) ∧ w = w' := by
  go_enter Tryz.func126, Tryz.ntmps126
  go_wp2_with fail
  refine wp_loop_rounds 1 ?_
  rw [rounds_succ]
  go_wp2_with fail
  go_end0
  exact ⟨rfl, rfl⟩
set_option maxRecDepth 100000 in
set_option maxHeartbeats 1000000 in
theorem sortR_pdq (p : Option Addr) (cap : Nat) (lim : Int) (fv : Value) (w : World) :
    Calls Tryz.prog 104 #[.slice p 0 cap, .int .i64 0, .int .i64 0, .int .i64 lim, fv] w fun e w' => e = .returned (.tuple #[]) ∧ w = w' := by
  have hi := Lib.hid (fun W => sortR_ins p cap fv W)
  go_enter Tryz.func104, Tryz.ntmps104
  go_wp2_with fail
  refine wp_loop_rounds 1 ?_
  rw [rounds_succ]
  go_wp2_with (go_at_call 126; refine (hi.out _).mono ?_; rintro e w' ⟨rfl, rfl⟩)
  (try simp only [Exit.inBlock, Exit.then])
  refine bodyPost_ret (v := .tuple #[]) (results_none rfl _ _ _) rfl ?_
  exact ⟨rfl, rfl⟩
set_option maxRecDepth 100000 in
set_option maxHeartbeats 1000000 in
theorem sortR_zero (p : Option Addr) (cap : Nat) (fv : Value) (w : World) :
    Calls Tryz.prog 67 #[.slice p 0 cap, fv] w fun e w' => e = .returned (.tuple #[]) ∧ w = w' := by
  have hp := Lib.hid (fun lim W => sortR_pdq p cap lim fv W)
  have hl := Lib.hid K.len_zero
  go_enter Tryz.func67, Tryz.ntmps67
  go_wp2_with (first | (go_at_call 105; refine (hl.out _).mono ?_; rintro e w' ⟨⟨l, rfl⟩, rfl⟩) | (go_at_call 104; refine (hp.out _ _).mono ?_; rintro e w' ⟨rfl, rfl⟩))
  go_end0
  exact ⟨rfl, rfl⟩
theorem recC_one (x : Rv) : ∀ v ∈ recC x, v.oneCell' = true := by
  intro v hv
  simp only [recC, recA, List.mem_cons, List.not_mem_nil, or_false] at hv
  rcases hv with rfl | rfl | rfl | rfl | rfl | rfl | rfl | rfl | rfl | rfl | rfl | rfl | rfl | rfl | rfl | rfl <;> rfl
/-- by ids -/
def bco (x y : Rv) : Int := ico x.id y.id
theorem bco_lt (a b : Rv) : ltOf bco a b = ilt a.id b.id := ico_lt a.id b.id
theorem bco_swo : SWO (ltOf bco) where
  irrefl x := by rw [bco_lt]; exact ilt_irr _
  trans x y z h1 h2 := by rw [bco_lt] at *; exact ilt_trans h1 h2
  ntrans x y z h1 h2 := by
    rw [bco_lt] at *
    rw [ilt_no] at *
    omega
theorem wco_lt (a b : Rv) : ltOf wco a b = wlt a.nd b.nd := by
  unfold ltOf
  rw [Bool.eq_iff_iff, decide_eq_true_eq]
  exact wco_neg
theorem wlt_ints {a b : Nd} : wlt a b = true ↔ a.tag < b.tag ∨ (a.tag = b.tag ∧ ((a.tag = 1 ∧ a.seq < b.seq) ∨ ((a.tag ≠ 1 ∨ a.seq = b.seq) ∧ (a.id.n < b.id.n ∨ (a.id.n = b.id.n ∧ a.id.r < b.id.r))))) := by
  rw [wlt_iff, ilt_iff]
theorem wlt_ntrans {a b c : Nd} (h1 : wlt a b = false) (h2 : wlt b c = false) : wlt a c = false := by
  rw [← Bool.not_eq_true, wlt_ints] at *
  omega
theorem wco_swo : SWO (ltOf wco) where
  irrefl x := by rw [wco_lt]; exact wlt_irr _
  trans x y z h1 h2 := by rw [wco_lt] at *; exact wlt_trans h1 h2
  ntrans x y z h1 h2 := by rw [wco_lt] at *; exact wlt_ntrans h1 h2
abbrev OwnR (w : World) (B : Nat) (oo : Option Addr) (oc : Nat) (X : List Rv) : Prop := w.ownsRow B 38 16 (.slice oo X.length oc) X.length (X.flatMap recC)
theorem eg_byid : ∀ args w, (callFunc 46 args).run Tryz.prog w = .ok (.enter 46 args) w := enters_of Tryz.func46 (by kernel_rfl) rfl
theorem eg_within : ∀ args w, (callFunc 60 args).run Tryz.prog w = .ok (.enter 60 args) w := enters_of Tryz.func60 (by kernel_rfl) rfl
/-- a row of records, sorted by their ids -/
theorem sortR_any (B : Nat) (w : World) (ao : Option Addr) (cap : Nat) (X : List Rv) (h : OwnR w B ao cap X) (hl : X.length ≤ 1000000) :
    Calls Tryz.prog 67 #[.slice ao X.length cap, .func (.func 46) #[] #[]] w fun e w' => e = .returned (.tuple #[]) ∧
      ∃ m : List Rv, (m.Perm X ∧ m.Pairwise (fun a b => ilt b.id a.id = false) ∧ m.length = X.length ∧ OwnR w' B ao cap m ∧ Mods (fun j => ∃ a, ao = some a ∧ j = a.block) w w') := by
  obtain ⟨ao', cap', e0, h1, h2, h3, h4⟩ := own_view h
  cases e0
  cases ao with
  | none =>
    have h0 := (h3 rfl).1
    have hl0 : X = [] := List.length_eq_zero_iff.1 h0
    subst hl0
    exact (sortR_zero _ _ _ _).mono fun e w' ⟨he, hw⟩ => ⟨he, [], .refl _, .nil, rfl, hw ▸ h, hw ▸ Mods.refl _ _⟩
  | some a =>
    obtain ⟨g, cur, rfl, hB, hg, _, _⟩ := h4 a rfl
    have hd : X.toArray.size = X.length := by simp
    have hown : w.ownsRow B 38 16 (.slice (some ⟨g, 0, none⟩) X.length cap) X.length (X.toArray.toList.flatMap recC) := h
    have hH := own_holdsK recC 16 (fun _ => rfl) (by decide) hown hd
    have hcmp : CmpLays Tryz.prog 46 #[] recC 16 bco g 0 X.toArray.size w := by
      intro m os dk hs x y
      exact (byid_any x y _ _ rfl).mono fun e w' ⟨he, q, os', hw⟩ => ⟨he, q, os', hw⟩
    have hc := AnyQ.slices_SortFunc Tryz.sortC67 16 Tryz.isAgg38 Tryz.sizeOf38 recC (fun _ => rfl) recC_one bco bco_swo 46 #[] g 0 cap X.toArray w eg_byid hcmp hH (heap_lt hg) (by rw [hd]; omega)
    rw [hd] at hc
    refine hc.mono ?_
    rintro e w' ⟨rfl, d', m, os, ⟨hp1, _, hp3⟩, hs, rfl⟩
    rw [hd] at hp1
    rw [K.extract_all d' _ hp1, K.extract_all X.toArray _ hd] at hp3
    obtain ⟨ho, hm⟩ := own_sorted recC 16 (fun _ => rfl) (by decide) (m := m) (os := os) hown hp1
    have hdl : d'.toList.length = X.length := by simpa using hp1
    refine ⟨rfl, d'.toList, hp3, ?_, hdl, ?_, hm.mono fun k _ h => ⟨_, rfl, h⟩⟩
    · rw [List.pairwise_iff_getElem]
      intro i j hi hj hij
      have hi' : i < d'.size := by simpa using hi
      have hj' : j < d'.size := by simpa using hj
      have := hs i j (Nat.zero_le _) hij (by omega)
      rw [bco_lt] at this
      simpa [hi', hj'] using this
    · unfold OwnR
      rw [hdl]
      exact ho
/-- a part of a row of records, sorted in place -/
theorem insR_any (B : Nat) (w : World) (g cap : Nat) (X : List Rv) (a b : Nat) (h : OwnR w B (some ⟨g, 0, none⟩) cap X) (hab : a ≤ b) (hb : b ≤ X.length) (hl : X.length ≤ 1000000) :
    Calls Tryz.prog 126 #[.slice (some ⟨g, 0, none⟩) X.length cap, .int .i64 a, .int .i64 b, .func (.func 60) #[] #[]] w fun e w' => e = .returned (.tuple #[]) ∧
      ∃ m : List Rv, (m.toArray = Sort.insertionSort (ltOf wco) X.toArray a b ∧ m.length = X.length ∧ OwnR w' B (some ⟨g, 0, none⟩) cap m ∧ Mods (fun j => j = g) w w') := by
  have hd : X.toArray.size = X.length := by simp
  have hown : w.ownsRow B 38 16 (.slice (some ⟨g, 0, none⟩) X.length cap) X.length (X.toArray.toList.flatMap recC) := h
  have hH := own_holdsK recC 16 (fun _ => rfl) (by decide) hown hd
  have hg := (h.lt g rfl).2
  have hcmp : CmpLays Tryz.prog 60 #[] recC 16 wco g 0 X.toArray.size w := by
    intro m os dk hs x y
    exact (within_any x y _ _ rfl).mono fun e w' ⟨he, q, os', hw⟩ => ⟨he, q, os', hw⟩
  have hc := AnyQ.insertionSortCmpFunc (P := Tryz.prog) (ρ := Tryz.sortC67_ren) { Tryz.sortC67 with } 16 Tryz.isAgg38 Tryz.sizeOf38 recC (fun _ => rfl) recC_one wco 60 #[] g 0 cap a b X.toArray w eg_within hcmp hH hg hab (by rw [hd]; exact hb) (by rw [hd]; omega)
  rw [hd] at hc
  refine hc.mono ?_
  rintro e w' ⟨rfl, m, os, rfl⟩
  have hp := (insertionSort_holds wco_swo X.toArray a b hab (by rw [hd]; exact hb)).1.1
  rw [hd] at hp
  obtain ⟨ho, hm⟩ := own_sorted recC 16 (fun _ => rfl) (by decide) (m := m) (os := os) hown hp
  have hdl : (Sort.insertionSort (ltOf wco) X.toArray a b).toList.length = X.length := by simpa using hp
  refine ⟨rfl, (Sort.insertionSort (ltOf wco) X.toArray a b).toList, by simp, hdl, ?_, hm⟩
  unfold OwnR
  rw [hdl]
  exact ho
set_option maxRecDepth 100000 in
set_option maxHeartbeats 400000 in
theorem stableR_any (B : Nat) (w : World) (ao : Option Addr) (cap : Nat) (X : List Rv) (h : OwnR w B ao cap X) (hl : X.length ≤ 20) :
    Calls Tryz.prog 113 #[.slice ao X.length cap, .int .i64 X.length, .func (.func 60) #[] #[]] w fun e w' => e = .returned (.tuple #[]) ∧
      ∃ m : List Rv, (m.Perm X ∧ m.Pairwise (fun a b => wlt b.nd a.nd = false) ∧ m.length = X.length ∧ OwnR w' B ao cap m ∧ Mods (fun j => ∃ a, ao = some a ∧ j = a.block) w w') := by
  have HO := Lib.hid h
  obtain ⟨ao', cap', e0, h1, h2, h3, h4⟩ := own_view h
  cases e0
  unfold maxLen at h2
  cases ao with
  | none =>
    have h0 := (h3 rfl).1
    have hl0 : X = [] := List.length_eq_zero_iff.1 h0
    subst hl0
    clear h h3 h4 h1 h2 hl h0
    have hz := Lib.hid (fun W => sortR_ins none cap (.func (.func 60) #[] #[]) W)
    show Calls Tryz.prog 113 #[.slice none 0 cap, .int .i64 0, .func (.func 60) #[] #[]] w _
    go_enter Tryz.func113, Tryz.ntmps113
    go_wp2_with fail
    refine wp_loop_rounds 1 ?_
    rw [rounds_succ]
    go_wp2_with (go_at_call 126; refine (hz.out _).mono ?_; rintro e w' ⟨rfl, rfl⟩)
    refine wp_loop_rounds 1 ?_
    rw [rounds_succ]
    go_wp2_with fail
    go_end0
    exact ⟨rfl, [], .refl _, .nil, rfl, HO.out, Mods.refl _ _⟩
  | some a =>
    obtain ⟨g, cur, rfl, hB, hg, _, _⟩ := h4 a rfl
    clear h3 h4 hg
    have hd : X.toArray.size = X.length := by simp
    have HPW := Lib.hid (show ∀ m : List Rv, m.toArray = Sort.insertionSort (ltOf wco) X.toArray 0 X.length → m.Perm X ∧ m.Pairwise (fun a b => wlt b.nd a.nd = false) from fun m hm => by
      obtain ⟨⟨p1, _, p3⟩, hs⟩ := insertionSort_holds wco_swo X.toArray 0 X.length (Nat.zero_le _) (by rw [hd]; exact Nat.le_refl _)
      rw [← hm] at p1 p3 hs
      rw [K.extract_all m.toArray X.length (by rw [p1, hd]), K.extract_all X.toArray _ hd] at p3
      refine ⟨p3, ?_⟩
      rw [List.pairwise_iff_getElem]
      intro i j hi hj hij
      have := hs i j (Nat.zero_le _) hij (by rw [← hd, ← p1]; simpa using hj)
      rw [wco_lt] at this
      simpa [hi, hj] using this)
    by_cases h20 : X.length = 20
    · have hc := insR_any B w g cap X 0 20 h (by omega) (by omega) (by omega)
      rw [show ((20 : Nat) : Int) = (20 : Int) from rfl, show ((0 : Nat) : Int) = (0 : Int) from rfl] at hc
      have HC := Lib.hid hc
      clear hc
      have hle : (20 : Int) ≤ (X.length : Int) := by omega
      have hle2 : ¬ (40 : Int) ≤ (X.length : Int) := by omega
      have hlt2 : ¬ (20 : Int) < (X.length : Int) := by omega
      have H20 := Lib.hid h20
      clear h h20 hl hd
      go_enter Tryz.func113, Tryz.ntmps113
      go_wp2_with fail
      refine wp_loop_rounds 2 ?_
      rw [rounds_succ]
      go_wp2_with fail
      refine HC.out.mono ?_
      rintro e w1 ⟨rfl, m, hm, hml, hom, hmod⟩
      have HM := Lib.hid (HPW.out m (by rw [H20.out]; exact hm))
      have HOM := Lib.hid hom
      have HMD := Lib.hid hmod
      clear hm hom hmod HC HPW
      go_wp2_with fail
      rw [rounds_succ]
      have hc2 := insR_any B w1 g cap m 20 m.length HOM.out (by have := H20.out; omega) (Nat.le_refl _) (by have := H20.out; omega)
      rw [hml, show ((20 : Nat) : Int) = (20 : Int) from rfl] at hc2
      have HC2 := Lib.hid hc2
      clear hc2
      go_wp2_with fail
      refine HC2.out.mono ?_
      rintro e w2 ⟨rfl, m2, hm2, hml2, hom2, hmod2⟩
      have hid2 : m2 = m := by
        rw [H20.out] at hm2
        unfold Sort.insertionSort at hm2
        rw [Sort.insOuter, if_neg (by omega)] at hm2
        exact List.toArray_inj hm2
      have HOM2 := Lib.hid (show OwnR w2 B (some ⟨g, 0, none⟩) cap m by rw [← hid2]; exact hom2)
      have HMD2 := Lib.hid (HMD.out.trans hmod2)
      clear hm2 hid2 hom2 hmod2 HC2
      go_wp2_with fail
      refine wp_loop_rounds 1 ?_
      rw [rounds_succ]
      go_wp2_with fail
      go_end0
      exact ⟨rfl, m, HM.out.1, HM.out.2, hml, HOM2.out, HMD2.out.mono fun k _ h => ⟨_, rfl, h⟩⟩
    · have hlt : ¬ (20 : Int) ≤ (X.length : Int) := by omega
      have hlt2 : ¬ (20 : Int) < (X.length : Int) := by omega
      have hc := insR_any B w g cap X 0 X.length h (Nat.zero_le _) (Nat.le_refl _) (by omega)
      rw [show ((0 : Nat) : Int) = (0 : Int) from rfl] at hc
      have HC := Lib.hid hc
      clear hc
      clear h
      go_enter Tryz.func113, Tryz.ntmps113
      go_wp2_with fail
      refine wp_loop_rounds 1 ?_
      rw [rounds_succ]
      go_wp2_with fail
      refine HC.out.mono ?_
      rintro e w1 ⟨rfl, m, hm, hml, hom, hmod⟩
      have HM := Lib.hid (HPW.out m hm)
      have HOM := Lib.hid hom
      have HMD := Lib.hid hmod
      clear hm hom hmod HC HPW
      go_wp2_with fail
      refine wp_loop_rounds 1 ?_
      rw [rounds_succ]
      go_wp2_with fail
      go_end0
      exact ⟨rfl, m, HM.out.1, HM.out.2, hml, HOM.out, HMD.out.mono fun k _ h => ⟨_, rfl, h⟩⟩
set_option maxRecDepth 100000 in
set_option maxHeartbeats 400000 in
theorem sortStable_any (B : Nat) (w : World) (ao : Option Addr) (cap : Nat) (X : List Rv) (h : OwnR w B ao cap X) (hl : X.length ≤ 20) :
    Calls Tryz.prog 90 #[.slice ao X.length cap, .func (.func 60) #[] #[]] w fun e w' => e = .returned (.tuple #[]) ∧
      ∃ m : List Rv, (m.Perm X ∧ m.Pairwise (fun a b => wlt b.nd a.nd = false) ∧ m.length = X.length ∧ OwnR w' B ao cap m ∧ Mods (fun j => ∃ a, ao = some a ∧ j = a.block) w w') := by
  have HC := Lib.hid (stableR_any B w ao cap X h hl)
  clear h hl
  go_enter Tryz.func90, Tryz.ntmps90
  go_wp2_with fail
  refine HC.out.mono ?_
  rintro e w1 ⟨rfl, m, hp, hs, hml, hom, hmod⟩
  have HM := Lib.hid (And.intro hp (And.intro hs (And.intro hml (And.intro hom hmod))))
  clear hp hs hml hom hmod HC
  go_wp2_with fail
  go_end0
  exact ⟨rfl, m, HM.out⟩
end Go.Proofs.YtndfhejfhfhbdaaGreatDoor.O
