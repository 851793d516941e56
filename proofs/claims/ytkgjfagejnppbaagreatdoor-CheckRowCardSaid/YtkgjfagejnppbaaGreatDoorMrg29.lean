/- Several texts in one. -/
import Derived.Test.YtkgjfagejnppbaaGreatDoorMrg26
import Derived.Test.YtkgjfagejnppbaaGreatDoorMrg28
import Derived.Test.YtkgjfagejnppbaaGreatDoorMrg20

/- What the App laws call beside: Great, Writes, keys, Meet. -/
namespace Go.Proofs.YtkgjfagejnppbaaGreatDoor.P
open Go.RowKit Go.Proofs.YtkgjfagejnppbaaGreatDoor.R Go.Proofs.YtkgjfagejnppbaaGreatDoor.M Go.BigFrame
set_option linter.unusedVariables false
set_option linter.unusedSimpArgs false

theorem dec_beq (a b : Int) : decide (a = b) = (a == b) := by rw [Bool.eq_iff_iff, decide_eq_true_eq, beq_iff_eq]
set_option maxRecDepth 100000 in
set_option maxHeartbeats 2000000 in
theorem writes_any (c : Cmd) (w : World) (v : Bool) (hv : writes c = v) : Calls Tryz.prog 49 #[cmdV c] w fun e w' => e = .returned (.bool v) ∧ Below w.heap.size w w' := by
  subst hv
  have HB : Hid (Below w.heap.size w (w.alloc (.cells #[.int .i64 c.kind, .int .i64 c.client, .int .i64 c.seq, .string c.key, .string c.val, .int .i64 c.rev] 30))) := Lib.hid ((Below.refl _ _).alloc (Nat.le_refl _) _)
  have hw : writes c = ((c.kind == 2) || (c.kind == 3) || (c.kind == 4)) := by unfold writes; rw [dec_beq, dec_beq, dec_beq]
  obtain ⟨b2, h2⟩ : ∃ b, b = (c.kind == 2) := ⟨_, rfl⟩
  obtain ⟨b3, h3⟩ : ∃ b, b = (c.kind == 3) := ⟨_, rfl⟩
  obtain ⟨b4, h4⟩ : ∃ b, b = (c.kind == 4) := ⟨_, rfl⟩
  rw [← h2, ← h3, ← h4] at hw
  have HV := Lib.hid hw
  have e2 := h2.symm
  have e3 := h3.symm
  have e4 := h4.symm
  clear h2 h3 h4 hw
  cases b2 <;> cases b3
  all_goals
    go_enter Tryz.func49, Tryz.ntmps49
    go_wp2_with fail
    go_ret
    exact ⟨by rw [HV.out]; rfl, HB.out⟩
/-- two commands in their boxes -/
structure PairAt (a b : Cmd) (w wx : World) : Prop where
  bel : Below w.heap.size w wx
  ba : wx.heap[w.heap.size]? = some (.cells (cmdA a) 30 (0, 0))
  bb : wx.heap[w.heap.size + 1]? = some (.cells (cmdA b) 30 (0, 0))
theorem PairAt.next {a b : Cmd} {w w1 w2 : World} (h : PairAt a b w w1) (hb : Below w1.heap.size w1 w2) : PairAt a b w w2 :=
  ⟨h.bel.trans (hb.mono h.bel.size), (hb.block _ (M.heap_lt h.ba)).trans h.ba, (hb.block _ (M.heap_lt h.bb)).trans h.bb⟩
theorem pair_start (a b : Cmd) (w : World) : PairAt a b w ((w.alloc (.cells (cmdA a) 30)).alloc (.cells (cmdA b) 30)) := by
  refine ⟨((Below.refl _ _).alloc (Nat.le_refl _) _).alloc (by simp) _, ?_, ?_⟩
  · rw [heap_al, if_neg (by simp), heap_alloc_new]
  · rw [heap_al, if_pos (by simp)]
set_option maxRecDepth 100000 in
set_option maxHeartbeats 2000000 in
theorem keys_meet (a b : Cmd) (w : World) (v : Bool) (hv : keysMeet a b = v) : Calls Tryz.prog 50 #[cmdV a, cmdV b] w fun e w' => e = .returned (.bool v) ∧ Below w.heap.size w w' := by
  subst hv
  have hw : keysMeet a b = ((a.key.toList == b.key.toList) || ((a.kind == 5) && begs b.key a.key) || ((b.kind == 5) && begs a.key b.key)) := by unfold keysMeet; rw [ba_eq, dec_beq, dec_beq]
  obtain ⟨x, hx⟩ : ∃ x, x = (a.key.toList == b.key.toList) := ⟨_, rfl⟩
  obtain ⟨a5, ha5⟩ : ∃ x, x = (a.kind == 5) := ⟨_, rfl⟩
  obtain ⟨b5, hb5⟩ : ∃ x, x = (b.kind == 5) := ⟨_, rfl⟩
  obtain ⟨u, hu⟩ : ∃ x, begs b.key a.key = x := ⟨_, rfl⟩
  obtain ⟨t, ht⟩ : ∃ x, begs a.key b.key = x := ⟨_, rfl⟩
  rw [← hx, ← ha5, ← hb5, hu, ht] at hw
  have HV := Lib.hid hw
  have HU := Lib.hid (fun W => begins_t b.key a.key W u hu)
  have HT := Lib.hid (fun W => begins_t a.key b.key W t ht)
  have e1 := hx.symm
  have e2 := ha5.symm
  have e3 := hb5.symm
  clear hx ha5 hb5 hu ht hw
  go_enter Tryz.func50, Tryz.ntmps50
  go_upto_region 1 with fail
  obtain ⟨W, hW⟩ : ∃ W, W = (w.alloc (.cells (cmdA a) 30)).alloc (.cells (cmdA b) 30) := ⟨_, rfl⟩
  rw [← hW]
  have HP : Hid (PairAt a b w W) := Lib.hid (by rw [hW]; exact pair_start a b w)
  clear hW
  obtain ⟨⟨c0, _, _, c3, _, _⟩, _⟩ := box6 HP.out.ba
  obtain ⟨⟨d0, _, _, d3, _, _⟩, _⟩ := box6 HP.out.bb
  cases x with
  | true =>
    go_wp2_with fail
    go_ret
    exact ⟨by rw [HV.out]; rfl, HP.out.bel⟩
  | false =>
    cases a5 with
    | true =>
      go_wp2_with fail
      refine (HU.out _).mono ?_
      rintro e w1 ⟨rfl, rfl⟩
      cases u with
      | true =>
        go_wp2_with fail
        go_ret
        exact ⟨by rw [HV.out]; rfl, HP.out.bel⟩
      | false =>
        cases b5 with
        | true =>
          go_wp2_with fail
          refine (HT.out _).mono ?_
          rintro e w1 ⟨rfl, rfl⟩
          go_wp2_with fail
          go_ret
          exact ⟨by rw [HV.out]; rfl, HP.out.bel⟩
        | false =>
          go_wp2_with fail
          go_ret
          exact ⟨by rw [HV.out]; rfl, HP.out.bel⟩
    | false =>
      cases b5 with
      | true =>
        go_wp2_with fail
        refine (HT.out _).mono ?_
        rintro e w1 ⟨rfl, rfl⟩
        go_wp2_with fail
        go_ret
        exact ⟨by rw [HV.out]; rfl, HP.out.bel⟩
      | false =>
        go_wp2_with fail
        go_ret
        exact ⟨by rw [HV.out]; rfl, HP.out.bel⟩
set_option maxRecDepth 100000 in
set_option maxHeartbeats 4000000 in
theorem meet_any (a b : Cmd) (w : World) (v : Bool) (hv : meet a b = v) : Calls Tryz.prog 35 #[cmdV a, cmdV b] w fun e w' => e = .returned (.bool v) ∧ Below w.heap.size w w' := by
  subst hv
  have hw : meet a b = (if ((a.kind == 0) || (b.kind == 0)) = true then false else if (((a.kind == 6) || (b.kind == 6)) || (a.client == b.client)) = true then true else (writes a || writes b) && keysMeet a b) := by
    unfold meet; rw [dec_beq, dec_beq, dec_beq, dec_beq, dec_beq]
  obtain ⟨a0, ha0⟩ : ∃ x, x = (a.kind == 0) := ⟨_, rfl⟩
  obtain ⟨b0, hb0⟩ : ∃ x, x = (b.kind == 0) := ⟨_, rfl⟩
  obtain ⟨a6, ha6⟩ : ∃ x, x = (a.kind == 6) := ⟨_, rfl⟩
  obtain ⟨b6, hb6⟩ : ∃ x, x = (b.kind == 6) := ⟨_, rfl⟩
  obtain ⟨cc, hcc⟩ : ∃ x, x = (a.client == b.client) := ⟨_, rfl⟩
  obtain ⟨u, hu⟩ : ∃ x, writes a = x := ⟨_, rfl⟩
  obtain ⟨t, ht⟩ : ∃ x, writes b = x := ⟨_, rfl⟩
  obtain ⟨k, hk⟩ : ∃ x, keysMeet a b = x := ⟨_, rfl⟩
  rw [← ha0, ← hb0, ← ha6, ← hb6, ← hcc, hu, ht, hk] at hw
  have HV := Lib.hid hw
  have HU := Lib.hid (fun W => writes_any a W u hu)
  have HT := Lib.hid (fun W => writes_any b W t ht)
  have HK := Lib.hid (fun W => keys_meet a b W k hk)
  have e1 := ha0.symm
  have e2 := hb0.symm
  have e3 := ha6.symm
  have e4 := hb6.symm
  have e5 := hcc.symm
  clear ha0 hb0 ha6 hb6 hcc hu ht hk hw
  go_enter Tryz.func35, Tryz.ntmps35
  go_upto_region 1 with fail
  obtain ⟨W, hW⟩ : ∃ W, W = (w.alloc (.cells (cmdA a) 30)).alloc (.cells (cmdA b) 30) := ⟨_, rfl⟩
  rw [← hW]
  have HP : Hid (PairAt a b w W) := Lib.hid (by rw [hW]; exact pair_start a b w)
  clear hW
  obtain ⟨⟨c0, c1, c2, c3, c4, c5⟩, _⟩ := box6 HP.out.ba
  obtain ⟨⟨d0, d1, d2, d3, d4, d5⟩, _⟩ := box6 HP.out.bb
  have key : (a0 = true) ∨ (a0 = false ∧ b0 = true) ∨ (a0 = false ∧ b0 = false ∧ a6 = true) ∨ (a0 = false ∧ b0 = false ∧ a6 = false ∧ b6 = true) ∨ (a0 = false ∧ b0 = false ∧ a6 = false ∧ b6 = false ∧ cc = true) ∨ (a0 = false ∧ b0 = false ∧ a6 = false ∧ b6 = false ∧ cc = false) := by
    cases a0 <;> cases b0 <;> cases a6 <;> cases b6 <;> cases cc <;> simp
  rcases key with rfl | ⟨rfl, rfl⟩ | ⟨rfl, rfl, rfl⟩ | ⟨rfl, rfl, rfl, rfl⟩ | ⟨rfl, rfl, rfl, rfl, rfl⟩ | ⟨rfl, rfl, rfl, rfl, rfl⟩
  case inr.inr.inr.inr.inr =>
    go_wp2_with fail
    refine (HU.out _).mono ?_
    rintro e w1 ⟨rfl, hb1⟩
    have HP1 := Lib.hid (HP.out.next hb1)
    clear c0 c1 c2 c3 c4 c5 d0 d1 d2 d3 d4 d5 hb1
    obtain ⟨⟨c0, c1, c2, c3, c4, c5⟩, _⟩ := box6 HP1.out.ba
    obtain ⟨⟨d0, d1, d2, d3, d4, d5⟩, _⟩ := box6 HP1.out.bb
    cases u with
    | true =>
      go_wp2_with fail
      refine (HK.out _).mono ?_
      rintro e w2 ⟨rfl, hb2⟩
      have HP2 := Lib.hid (HP1.out.next hb2)
      go_wp2_with fail
      go_ret
      exact ⟨by rw [HV.out]; rfl, HP2.out.bel⟩
    | false =>
      go_wp2_with fail
      refine (HT.out _).mono ?_
      rintro e w2 ⟨rfl, hb2⟩
      have HP2 := Lib.hid (HP1.out.next hb2)
      clear c0 c1 c2 c3 c4 c5 d0 d1 d2 d3 d4 d5 hb2
      obtain ⟨⟨c0, c1, c2, c3, c4, c5⟩, _⟩ := box6 HP2.out.ba
      obtain ⟨⟨d0, d1, d2, d3, d4, d5⟩, _⟩ := box6 HP2.out.bb
      cases t with
      | true =>
        go_wp2_with fail
        refine (HK.out _).mono ?_
        rintro e w3 ⟨rfl, hb3⟩
        have HP3 := Lib.hid (HP2.out.next hb3)
        go_wp2_with fail
        go_ret
        exact ⟨by rw [HV.out]; rfl, HP3.out.bel⟩
      | false =>
        go_wp2_with fail
        go_ret
        exact ⟨by rw [HV.out]; rfl, HP2.out.bel⟩
  all_goals
    go_wp2_with fail
    go_ret
    exact ⟨by rw [HV.out]; rfl, HP.out.bel⟩
end Go.Proofs.YtkgjfagejnppbaaGreatDoor.P

/- The App laws' beginnings: settings of the call's own while commands are done; sameKeys; the document's example. -/
namespace Go.Proofs.YtkgjfagejnppbaaGreatDoor.P
open Go.RowKit Go.Proofs.YtkgjfagejnppbaaGreatDoor.R Go.Proofs.YtkgjfagejnppbaaGreatDoor.M Go.BigFrame
set_option linter.unusedVariables false
set_option linter.unusedSimpArgs false

/-- settings that this call made, behind some commands -/
structure RunAt (w wx : World) (p b n : Nat) (A : List Ent) : Prop where
  bel : Below w.heap.size w wx
  app : AppAt wx p b n A
  pge : w.heap.size ≤ p
  bge : w.heap.size ≤ b
theorem RunAt.next {w w1 w2 : World} {p b n : Nat} {A : List Ent} (h : RunAt w w1 p b n A) (hb : Below w1.heap.size w1 w2) : RunAt w w2 p b n A :=
  ⟨h.bel.trans (hb.mono h.bel.size), h.app.below hb, h.pge, h.bge⟩
theorem RunAt.step {w w1 w2 : World} {p b n m : Nat} {A B : List Ent} (h : RunAt w w1 p b n A) (hm : Mods (fun k => k = b) w1 w2) (ha : AppAt w2 p b m B) : RunAt w w2 p b m B :=
  ⟨h.bel.trans (hm.below (B := w.heap.size) (fun k hk => by rw [hk]; exact h.bge) h.bel.size), ha, h.pge, h.bge⟩
/-- other settings were worked on -/
theorem RunAt.apart {w w1 w2 : World} {p b n b2 : Nat} {A : List Ent} (h : RunAt w w1 p b n A) (hm : Mods (fun k => k = b2) w1 w2) (hb2 : w.heap.size ≤ b2) (h1 : p ≠ b2) (h2 : b ≠ b2) : RunAt w w2 p b n A :=
  ⟨h.bel.trans (hm.below (B := w.heap.size) (fun k hk => by rw [hk]; exact hb2) h.bel.size), h.app.keep hm h1 h2, h.pge, h.bge⟩
theorem RunAt.drop {w0 w wx : World} {p b n : Nat} {A : List Ent} (h : RunAt w wx p b n A) (h0 : Below w0.heap.size w0 w) : RunAt w0 wx p b n A :=
  ⟨h0.trans (h.bel.mono h0.size), h.app, Nat.le_trans h0.size h.pge, Nat.le_trans h0.size h.bge⟩
end Go.Proofs.YtkgjfagejnppbaaGreatDoor.P

/- The App laws' beginnings: Great at their bounds; a row of commands, one more. -/
namespace Go.Proofs.YtkgjfagejnppbaaGreatDoor.P
open Go.RowKit Go.Proofs.YtkgjfagejnppbaaGreatDoor.R Go.Proofs.YtkgjfagejnppbaaGreatDoor.M Go.BigFrame
set_option linter.unusedVariables false
set_option linter.unusedSimpArgs false

abbrev cmdA2 (c d : Cmd) : Array Value := #[.int .i64 c.kind, .int .i64 c.client, .int .i64 c.seq, .string c.key, .string c.val, .int .i64 c.rev, .int .i64 d.kind, .int .i64 d.client, .int .i64 d.seq, .string d.key, .string d.val, .int .i64 d.rev]
abbrev repO (R : Rep) : Obj := .cells #[.int .i64 R.code, .string R.val, .int .i64 R.rev] 33
abbrev askO (k : Int) (key : ByteArray) : Obj := .cells #[.int .i64 k, .int .i64 1, .int .i64 1, .string key, .string ⟨#[]⟩, .int .i64 0] 30
abbrev cmdO (c : Cmd) : Obj := .cells (cmdA c) 30
/-- boxes of the call's own, none of them the map at b -/
def Boxed (w : World) (b : Nat) (l : List (Nat × Obj)) : Prop := ∀ x ∈ l, w.heap[x.1]? = some x.2 ∧ x.1 ≠ b
theorem Boxed.at {w : World} {b g : Nat} {o : Obj} {l : List (Nat × Obj)} (h : Boxed w b l) (hx : (g, o) ∈ l) : w.heap[g]? = some o := (h _ hx).1
theorem Boxed.none (w : World) (b : Nat) : Boxed w b [] := fun x h => by cases h
theorem Boxed.mods {w w1 : World} {b : Nat} {l : List (Nat × Obj)} (h : Boxed w b l) (hm : Mods (fun k => k = b) w w1) : Boxed w1 b l := fun x hx => ⟨hm.heap (h x hx).1 (h x hx).2, (h x hx).2⟩
theorem Boxed.below {w w1 : World} {b : Nat} {l : List (Nat × Obj)} (h : Boxed w b l) (hb : Below w.heap.size w w1) : Boxed w1 b l := fun x hx => ⟨(hb.block _ (M.heap_lt (h x hx).1)).trans (h x hx).1, (h x hx).2⟩
theorem Boxed.alloc {w : World} {b : Nat} {l : List (Nat × Obj)} (h : Boxed w b l) (hb : b < w.heap.size) (o : Obj) : Boxed (w.alloc o) b ((w.heap.size, o) :: l) := fun x hx => by
  rcases List.mem_cons.1 hx with rfl | hx
  · exact ⟨heap_alloc_new w o, by simp only; omega⟩
  · exact h.below ((Below.refl _ _).alloc (Nat.le_refl _) _) x hx
theorem Boxed.set {w w1 : World} {b g : Nat} {o o1 : Obj} {l : List (Nat × Obj)} (h : Boxed w b ((g, o) :: l)) (hm : Mods (fun k => k = g) w w1) (hn : ∀ x ∈ l, x.1 ≠ g) (h1 : w1.heap[g]? = some o1) : Boxed w1 b ((g, o1) :: l) := fun x hx => by
  rcases List.mem_cons.1 hx with rfl | hx
  · exact ⟨h1, (h (g, o) (List.mem_cons_self)).2⟩
  · have := h x (List.mem_cons_of_mem _ hx)
    exact ⟨hm.heap this.1 (hn x hx), this.2⟩
theorem Boxed.swap {w : World} {b : Nat} {x y : Nat × Obj} {l : List (Nat × Obj)} (h : Boxed w b (x :: y :: l)) : Boxed w b (y :: x :: l) := fun z hz => h z (by simp only [List.mem_cons] at hz ⊢; rcases hz with e | e | e <;> simp [e])
theorem mods_set {w : World} {g i : Nat} {u : Value} : Mods (fun k => k = g) w (w.setCell ⟨g, i, none⟩ u) := (Mods.refl (fun k => k = g) w).setCell (p := ⟨g, i, none⟩) (fun _ => rfl) u
end Go.Proofs.YtkgjfagejnppbaaGreatDoor.P

/- Sessions in memory: the map of clients; New, App, Copy. -/
namespace Go.Proofs.YtkgjfagejnppbaaGreatDoor.P
open Go.RowKit Go.Proofs.YtkgjfagejnppbaaGreatDoor.R Go.Proofs.YtkgjfagejnppbaaGreatDoor.M Go.BigFrame Go.Maps
set_option linter.unusedVariables false
set_option linter.unusedSimpArgs false

theorem wf_of {n : Int} (h : InI n) : (Lit.int .i64 n).wf = true := by
  simp only [Lit.wf, Bool.and_eq_true, decide_eq_true_eq]
  exact h
def lastV (s : Int) (r : Rep) : Value := .agg #[.int .i64 s, .int .i64 r.code, .string r.val, .int .i64 r.rev]
def lastD (s : Int) (r : Rep) : DataW Unit := .agg [.lit (.int .i64 s), .lit (.int .i64 r.code), .lit (.string r.val.data.toList), .lit (.int .i64 r.rev)]
def lastL : List Value → Option (DataW Unit × List MemPlace)
  | [.int .i64 s, .int .i64 c, .string v, .int .i64 r] => some (lastD s ⟨c, v, r⟩, [])
  | _ => none
def lastR : Value → Option (DataW Unit × List MemPlace)
  | .agg cs => lastL cs.toList
  | _ => none
theorem lastR_mk (s : Int) (r : Rep) : lastR (lastV s r) = some (lastD s r, []) := rfl
theorem lastD_inj {s s2 : Int} {r r2 : Rep} (h : lastD s r = lastD s2 r2) : s = s2 ∧ r = r2 := by
  unfold lastD at h
  simp only [DataW.agg.injEq, List.cons.injEq, DataW.lit.injEq, Lit.string.injEq, Lit.int.injEq, and_true, true_and] at h
  obtain ⟨h1, h2, h3, h4⟩ := h
  cases r; cases r2
  simp only at h2 h3 h4
  have h3 := ba_ext h3
  subst h1 h2 h3 h4
  exact ⟨rfl, rfl⟩
theorem lastR_inv {x : Value} {s : Int} {r : Rep} {ps : List MemPlace} (h : lastR x = some (lastD s r, ps)) : x = lastV s r := by
  cases x with
  | agg cs =>
    have h : lastL cs.toList = _ := h
    obtain ⟨l⟩ := cs
    simp only at h
    unfold lastL at h
    split at h
    · simp only [Option.some.injEq, Prod.mk.injEq] at h
      obtain ⟨rfl, rfl⟩ := lastD_inj h.1
      rfl
    · cases h
  | _ => cases h
def ki (k : Int) : Lit := .int .i64 k
theorem ki_inj {a b : Int} (h : ki a = ki b) : a = b := by unfold ki at h; simpa using h
theorem ki_key (k : Int) : WideAt.IsKeyLit (ki k) := by unfold ki WideAt.IsKeyLit; trivial
def zL : DataW Unit := lastD 0 Rep.zero
/-- a map that reads as clients -/
structure LRel (D : DataW Unit) (C : List Lst) : Prop where
  has : ∀ k, Maps.has D (ki k) = (lookC C k).isSome
  at_ : ∀ k, D.atKey (ki k) zL = lastD (seqL (lookC C k)) (repL (lookC C k))
theorem LRel.nil : LRel (.map []) [] := ⟨fun k => rfl, fun k => rfl⟩
theorem lookC_put (C : List Lst) (j : Int) (s : Int) (r : Rep) (k : Int) : lookC (dropC C j ++ [⟨j, s, r⟩]) k = if j = k then some ⟨j, s, r⟩ else lookC C k := by
  rw [lookC_app, lookC_drop]
  by_cases h : j = k
  · rw [if_pos h, if_pos h]
    unfold lookC
    rw [List.find?_cons, decide_eq_true (show (⟨j, s, r⟩ : Lst).client = k from h)]
    rfl
  · rw [if_neg h, if_neg h]
    have : lookC [⟨j, s, r⟩] k = none := by
      unfold lookC
      rw [List.find?_cons, decide_eq_false (show ¬ (⟨j, s, r⟩ : Lst).client = k from h)]
      rfl
    rw [this, Option.or_none]
theorem LRel.put {D : DataW Unit} {C : List Lst} {j s : Int} {r : Rep} (h : LRel D C) (hm : IsMap D) : LRel (D.put (ki j) (lastD s r)) (dropC C j ++ [⟨j, s, r⟩]) := by
  constructor
  · intro k
    rw [lookC_put]
    by_cases hk : j = k
    · subst hk
      rw [has_put_same hm (ki_key _), if_pos rfl]; rfl
    · rw [has_put_other (fun e2 => hk (ki_inj e2).symm), if_neg hk]
      exact h.has k
  · intro k
    rw [lookC_put]
    by_cases hk : j = k
    · subst hk
      rw [atKey_put_same hm (ki_key _), if_pos rfl]; rfl
    · rw [atKey_put_other (fun e2 => hk (ki_inj e2).symm), if_neg hk]
      exact h.at_ k
abbrev tInt : TypeId := 3
abbrev tLast : TypeId := 59
abbrev tMapC : TypeId := 54
theorem keyedI : Keyed Tryz.prog tInt := int_keyed Tryz.underlying3
theorem key_ki {k : Int} (h : InI k) : keyOf Tryz.prog tInt (.int .i64 k) = some (ki k) := keyOf_int_mk Tryz.underlying3 (wf_of h)
/-- block q is a map of at most n entries that reads as the clients C -/
def MapC (w : World) (q n : Nat) (C : List Lst) : Prop := ∃ D, w.ownsMap Tryz.prog tInt lastR q n D ∧ LRel D C
theorem MapC.lt {w : World} {q n : Nat} {C : List Lst} (h : MapC w q n C) : q < w.heap.size := by
  obtain ⟨D, h1, _⟩ := h
  exact h1.lt
theorem MapC.mono {w : World} {q n m : Nat} {C : List Lst} (h : MapC w q n C) (hm : n ≤ m) : MapC w q m C := by
  obtain ⟨D, h1, h2⟩ := h
  exact ⟨D, h1.mono hm, h2⟩
theorem MapC.keep {w w1 : World} {q n : Nat} {C : List Lst} {S : Nat → Prop} (h : MapC w q n C) (hm : Mods S w w1) (hn : ¬ S q) : MapC w1 q n C := by
  have hlt := h.lt
  obtain ⟨D, ⟨es, clock, hb, r⟩, h2⟩ := h
  exact ⟨D, ⟨es, clock, (hm.block q hlt hn).trans hb, r⟩, h2⟩
theorem MapC.below {w w1 : World} {q n : Nat} {C : List Lst} (h : MapC w q n C) (hm : Below w.heap.size w w1) : MapC w1 q n C :=
  h.keep (S := fun _ => False) (Mods.of_below hm) (fun h => h)
theorem MapC.made (w : World) : MapC (w.alloc (.map #[] 0)) w.heap.size 0 [] := ⟨.map [], World.ownsMap_made _ _ _ _, LRel.nil⟩
theorem MapC.look {w : World} {q n : Nat} {C : List Lst} (h : MapC w q n C) {k : Int} (hk : InI k) :
    (Instr.lookup tMapC (.map (some q)) (.int .i64 k) false).run Tryz.prog w = .ok (lastV (seqL (lookC C k)) (repL (lookC C k))) w := by
  obtain ⟨D, h1, h2⟩ := h
  obtain ⟨v, ps, hrun, hv⟩ := h1.lookup keyedI Tryz.underlying54 (Tryz.zeroValue59 w) (lastR_mk 0 Rep.zero) (key_ki hk)
  rw [show lastD 0 Rep.zero = zL from rfl, h2.at_ k] at hv
  rw [hrun, lastR_inv hv]
theorem MapC.look_ok {w : World} {q n : Nat} {C : List Lst} (h : MapC w q n C) {k : Int} (hk : InI k) :
    (Instr.lookup tMapC (.map (some q)) (.int .i64 k) true).run Tryz.prog w = .ok (.tuple #[lastV (seqL (lookC C k)) (repL (lookC C k)), .bool (lookC C k).isSome]) w := by
  obtain ⟨D, h1, h2⟩ := h
  obtain ⟨v, ps, hrun, hv⟩ := h1.look_ok keyedI Tryz.underlying54 (Tryz.zeroValue59 w) (lastR_mk 0 Rep.zero) (key_ki hk)
  rw [show lastD 0 Rep.zero = zL from rfl, h2.at_ k] at hv
  rw [hrun, lastR_inv hv, h2.has k]
theorem MapC.put {w : World} {q n : Nat} {C : List Lst} (h : MapC w q n C) (hn : n < maxLen) (k s : Int) (r : Rep) (hk : InI k) :
    ∃ w1, (Instr.mapUpdate tMapC (.map (some q)) (.int .i64 k) (lastV s r)).run Tryz.prog w = .ok () w1 ∧ MapC w1 q (n + 1) (dropC C k ++ [⟨k, s, r⟩]) ∧ Mods (fun k => k = q) w w1 := by
  obtain ⟨D, h1, h2⟩ := h
  obtain ⟨w1, hrun, r1, r2⟩ := h1.store keyedI Tryz.underlying54 hn (key_ki hk) (lastR_mk s r)
  exact ⟨w1, hrun, ⟨_, r1, h2.put h1.isMap⟩, mods_turned r2⟩
theorem wpList_put_last {ops : Array Oper} {rest : List Oper} {o : Oper} {a : Act} {Q : Exit → Act → World → Prop} {w : World} {q n : Nat} {C : List Lst} (h : MapC w q n C) (hn : n < maxLen) (k s : Int) (r : Rep) (hk : InI k)
    (hg : o.guard = none) (m x v : Operand) (hop : o.op = Op.mapUpdate tMapC m x v) (hm : a.eval m = .map (some q)) (hx : a.eval x = .int .i64 k) (hv : a.eval v = .agg #[.int .i64 s, .int .i64 r.code, .string r.val, .int .i64 r.rev])
    (hK : ∀ w', MapC w' q (n + 1) (dropC C k ++ [⟨k, s, r⟩]) → Mods (fun k => k = q) w w' → wpList Tryz.prog ops Q rest (a.put o.dst undef) w') : wpList Tryz.prog ops Q (o :: rest) a w := by
  refine wpList_plain hg fun K' hK' => ?_
  obtain ⟨w', hrun, r1, r2⟩ := h.put hn k s r hk
  unfold Oper.wp
  have hrun : (Instr.mapUpdate tMapC (.map (some q)) (.int .i64 k) (.agg #[.int .i64 s, .int .i64 r.code, .string r.val, .int .i64 r.rev])).run Tryz.prog w = .ok () w' := hrun
  simp [execOp, hop, hm, hx, hv, hrun, Result.andThen]
  exact hK' _ _ (hK w' r1 r2)
/-- sessions at s: their settings at p (the map at b), their clients' map at q -/
structure SesAt (w : World) (s p b q n : Nat) (S : Ses) : Prop where
  box : w.heap[s]? = some (.cells #[.pointer (some ⟨p, 0, none⟩), .map (some q)] 56 (0, 0))
  app : AppAt w p b n S.A
  map : MapC w q n S.C
  bq : b ≠ q
section
variable {w w1 : World} {s p b q n : Nat} {S : Ses}
theorem SesAt.sb (h : SesAt w s p b q n S) : s ≠ b := by
  rintro rfl
  obtain ⟨D, ⟨es, clock, hb, _⟩, _⟩ := h.app.map
  rw [h.box] at hb
  cases hb
theorem SesAt.sq (h : SesAt w s p b q n S) : s ≠ q := by
  rintro rfl
  obtain ⟨D, ⟨es, clock, hb, _⟩, _⟩ := h.map
  rw [h.box] at hb
  cases hb
theorem SesAt.pq (h : SesAt w s p b q n S) : p ≠ q := by
  rintro rfl
  obtain ⟨D, ⟨es, clock, hb, _⟩, _⟩ := h.map
  rw [h.app.box] at hb
  cases hb
theorem SesAt.keep {T : Nat → Prop} (h : SesAt w s p b q n S) (hm : Mods T w w1) (h1 : ¬ T s) (h2 : ¬ T p) (h3 : ¬ T b) (h4 : ¬ T q) : SesAt w1 s p b q n S :=
  ⟨hm.heap h.box h1, h.app.keep hm h2 h3, h.map.keep hm h4, h.bq⟩
theorem SesAt.below (h : SesAt w s p b q n S) (hm : Below w.heap.size w w1) : SesAt w1 s p b q n S :=
  h.keep (T := fun _ => False) (Mods.of_below hm) (fun h => h) (fun h => h) (fun h => h) (fun h => h)
theorem SesAt.mono {m : Nat} (h : SesAt w s p b q n S) (hm : n ≤ m) : SesAt w s p b q m S := ⟨h.box, h.app.mono hm, h.map.mono hm, h.bq⟩
theorem SesAt.slt (h : SesAt w s p b q n S) : s < w.heap.size := M.heap_lt h.box
theorem SesAt.qlt (h : SesAt w s p b q n S) : q < w.heap.size := h.map.lt
end
theorem boxS {w : World} {s : Nat} {u0 u1 : Value} {T : TypeId} (h : w.heap[s]? = some (.cells #[u0, u1] T (0, 0))) : w.cell? ⟨s, 0, none⟩ = some u0 ∧ w.cell? ⟨s, 1, none⟩ = some u1 :=
  ⟨cell_of_row w s 0 _ _ _ h, cell_of_row w s 1 _ _ _ h⟩
set_option maxRecDepth 100000 in
set_option maxHeartbeats 2000000 in
theorem snew_any (w : World) :
    Calls Tryz.prog 7 #[] w fun e w' => ∃ s p b q, e = .returned (.pointer (some ⟨s, 0, none⟩)) ∧ (SesAt w' s p b q 0 ⟨[], []⟩ ∧ w.heap.size ≤ s ∧ w.heap.size ≤ p ∧ w.heap.size ≤ b ∧ w.heap.size ≤ q ∧ Below w.heap.size w w') := by
  have hmm := @run_makeMap Tryz.prog
  go_enter Tryz.func7, Tryz.ntmps7
  go_wp2_with fail
  refine (new_any w).mono ?_
  rintro e w1 ⟨p, b, rfl, ha, hp, hb, hbel⟩
  have HA := Lib.hid ha
  have HB := Lib.hid hbel
  have hsz := hbel.size
  have hbl := ha.blt
  clear ha hbel
  go_wp2_with fail
  go_ret
  have b1 : Below w1.heap.size w1 (w1.alloc (.map #[] 0)) := (Below.refl _ _).alloc (Nat.le_refl _) _
  have b2 : Below (w1.alloc (.map #[] 0)).heap.size (w1.alloc (.map #[] 0)) ((w1.alloc (.map #[] 0)).alloc (.cells #[.pointer (some ⟨p, 0, none⟩), .map (some w1.heap.size)] 56)) := (Below.refl _ _).alloc (Nat.le_refl _) _
  have b3 := b1.trans (b2.mono b1.size)
  refine ⟨w1.heap.size + 1, p, b, w1.heap.size, rfl, ⟨?_, HA.out.below b3, (MapC.made w1).below b2, by omega⟩, by omega, hp, hb, hsz, HB.out.trans (b3.mono hsz)⟩
  rw [heap_al, if_pos (by simp)]
end Go.Proofs.YtkgjfagejnppbaaGreatDoor.P
