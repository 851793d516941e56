/- Several texts in one. -/
import Derived.Test.YtpeiamllkddhiaaGreatDoorMrg7
import Derived.Test.YtpeiamllkddhiaaGreatDoorAppV

/- What the App laws call beside: Great, Writes, keys, Meet. -/
namespace Go.Proofs.YtpeiamllkddhiaaGreatDoor.P
open Go.RowKit Go.Proofs.YtpeiamllkddhiaaGreatDoor.R Go.Proofs.YtpeiamllkddhiaaGreatDoor.M Go.BigFrame
set_option linter.unusedVariables false
set_option linter.unusedSimpArgs false

set_option maxRecDepth 100000 in
set_option maxHeartbeats 2000000 in
theorem great_any (B : Nat) (L : List Cmd) (m : Nat) (ao : Option Addr) (cap : Nat) (w : World) (h : CmdsV B w ao cap L) (hm : m ≤ 100) :
    Calls Tryz.prog 4 #[.slice ao L.length cap, .int .i64 m] w fun e w' => e = .returned (.bool (greatB L m)) ∧ w = w' := by
  obtain ⟨hc1, hc2⟩ := h.le
  unfold maxLen at hc2
  have H := Lib.hid h
  clear h
  go_enter Tryz.func4, Tryz.ntmps4
  go_wp2_with fail
  have HGE := Lib.hid (fun (i : Nat) (h1 : i = L.length ∨ i = m) (h2 : ∀ j x, j < i → L[j]? = some x → big x = false) => great_end h1 h2)
  have HGY := Lib.hid (fun (i : Nat) (c : Cmd) (h1 : i < m) (h2 : L[i]? = some c) (h3 : big c = true) => great_yes h1 h2 h3)
  go_loopw [5] (fun iv wr => ∃ i : Nat, iv = .int .i64 i ∧ i ≤ L.length ∧ i ≤ m ∧ w = wr ∧ (∀ j x, j < i → L[j]? = some x → big x = false)) (fun iv _ => L.length - (intOf iv).toNat)
  case atStart => exact ⟨0, rfl, Nat.zero_le _, Nat.zero_le _, rfl, fun _ _ h => absurd h (by omega)⟩
  case round =>
    obtain ⟨i, rfl, hi, him, rfl, hno⟩ := hrel
    have HNO := Lib.hid hno
    clear hno
    by_cases hlt : i < L.length
    · have e1 : (i : Int) < (L.length : Int) := by omega
      by_cases hlm : i < m
      · have e2 : (i : Int) < (m : Int) := by omega
        obtain ⟨c, hx⟩ : ∃ c, L[i]? = some c := ⟨_, List.getElem?_eq_getElem hlt⟩
        obtain ⟨b, off, rfl, hl, hc⟩ := H.out.row i c hx
        have c3 := hc.c3
        have c4 := hc.c4
        have hok := H.out.ok c (List.mem_of_getElem? hx)
        have hk1 := hok.key
        have hk2 := hok.val
        unfold maxLen at hk1 hk2
        have HX := Lib.hid hx
        clear hx hc hok
        by_cases g1 : 100 < c.key.size
        · have e3 : (100 : Int) < (c.key.size : Int) := by omega
          have HB := Lib.hid (HGY.out _ _ hlm HX.out (by unfold big; rw [decide_eq_true g1]; rfl))
          go_wp2_with fail
          go_ret
          exact ⟨by rw [HB.out]; rfl, rfl⟩
        · have e3 : ¬ (100 : Int) < (c.key.size : Int) := by omega
          by_cases g2 : 1100 < c.val.size
          · have e4 : (1100 : Int) < (c.val.size : Int) := by omega
            have HB := Lib.hid (HGY.out _ _ hlm HX.out (by unfold big; rw [decide_eq_true g2, Bool.or_true]))
            go_wp2_with fail
            go_ret
            exact ⟨by rw [HB.out]; rfl, rfl⟩
          · have e4 : ¬ (1100 : Int) < (c.val.size : Int) := by omega
            have HB := Lib.hid (show big c = false by unfold big; rw [decide_eq_false g1, decide_eq_false g2]; rfl)
            go_wp2_with fail
            go_roundw
            case rel =>
              refine ⟨i + 1, by go_num, by omega, by omega, by trivial, fun j x hj hjx => ?_⟩
              by_cases e : j = i
              · subst e
                have := HX.out.symm.trans hjx
                cases this
                exact HB.out
              · exact HNO.out j x (by omega) hjx
            case measure => simp [intOf]; omega
      · have e2 : ¬ (i : Int) < (m : Int) := by omega
        obtain rfl : i = m := by omega
        have HE := Lib.hid (HGE.out _ (.inr rfl) HNO.out)
        have e3 : (i : Int) < (L.length : Int) := by omega
        have HD := Lib.hid (decide_eq_true hlt)
        go_wp2_with fail
        go_ret
        exact ⟨by rw [HE.out, HD.out]; rfl, rfl⟩
    · have e1 : ¬ (i : Int) < (L.length : Int) := by omega
      obtain rfl : i = L.length := by omega
      have HE := Lib.hid (HGE.out _ (.inl rfl) HNO.out)
      have e2 : ¬ (m : Int) < (L.length : Int) := by omega
      have HD := Lib.hid (decide_eq_false (show ¬ m < L.length by omega))
      go_wp2_with fail
      go_ret
      exact ⟨by rw [HE.out, HD.out]; rfl, rfl⟩
theorem dec_beq (a b : Int) : decide (a = b) = (a == b) := by rw [Bool.eq_iff_iff, decide_eq_true_eq, beq_iff_eq]
/-- two commands in their boxes -/
structure PairAt (a b : Cmd) (w wx : World) : Prop where
  bel : Below w.heap.size w wx
  ba : wx.heap[w.heap.size]? = some (.cells (cmdA a) 38 (0, 0))
  bb : wx.heap[w.heap.size + 1]? = some (.cells (cmdA b) 38 (0, 0))
theorem PairAt.next {a b : Cmd} {w w1 w2 : World} (h : PairAt a b w w1) (hb : Below w1.heap.size w1 w2) : PairAt a b w w2 :=
  ⟨h.bel.trans (hb.mono h.bel.size), (hb.block _ (M.heap_lt h.ba)).trans h.ba, (hb.block _ (M.heap_lt h.bb)).trans h.bb⟩
theorem pair_start (a b : Cmd) (w : World) : PairAt a b w ((w.alloc (.cells (cmdA a) 38)).alloc (.cells (cmdA b) 38)) := by
  refine ⟨((Below.refl _ _).alloc (Nat.le_refl _) _).alloc (by simp) _, ?_, ?_⟩
  · rw [heap_al, if_neg (by simp), heap_alloc_new]
  · rw [heap_al, if_pos (by simp)]
end Go.Proofs.YtpeiamllkddhiaaGreatDoor.P

/- The App laws' beginnings: settings of the call's own while commands are done; sameKeys; the document's example. -/
namespace Go.Proofs.YtpeiamllkddhiaaGreatDoor.P
open Go.RowKit Go.Proofs.YtpeiamllkddhiaaGreatDoor.R Go.Proofs.YtpeiamllkddhiaaGreatDoor.M Go.BigFrame
set_option linter.unusedVariables false
set_option linter.unusedSimpArgs false

/-- settings that this call made, behind some commands -/
structure RunAt (w wx : World) (p b n : Nat) (A : List Ent) : Prop where
  bel : Below w.heap.size w wx
  app : AppAt wx p b n A
  pge : w.heap.size ≤ p
  bge : w.heap.size ≤ b
theorem RunAt.next {w w1 w2 : World} {p b n : Nat} {A : List Ent} (h : RunAt w w1 p b n A) (hb : Below w1.heap.size w1 w2) : RunAt w w2 p b n A :=
  ⟨h.bel.trans (hb.mono h.bel.size), h.app.below hb, h.pge, h.bge⟩
theorem RunAt.step {w w1 w2 : World} {p b n m : Nat} {A B : List Ent} (h : RunAt w w1 p b n A) (hm : Mods (fun k => k = b) w1 w2) (ha : AppAt w2 p b m B) : RunAt w w2 p b m B :=
  ⟨h.bel.trans (hm.below (B := w.heap.size) (fun k hk => by rw [hk]; exact h.bge) h.bel.size), ha, h.pge, h.bge⟩
/-- other settings were worked on -/
theorem RunAt.apart {w w1 w2 : World} {p b n b2 : Nat} {A : List Ent} (h : RunAt w w1 p b n A) (hm : Mods (fun k => k = b2) w1 w2) (hb2 : w.heap.size ≤ b2) (h1 : p ≠ b2) (h2 : b ≠ b2) : RunAt w w2 p b n A :=
  ⟨h.bel.trans (hm.below (B := w.heap.size) (fun k hk => by rw [hk]; exact hb2) h.bel.size), h.app.keep hm h1 h2, h.pge, h.bge⟩
theorem RunAt.drop {w0 w wx : World} {p b n : Nat} {A : List Ent} (h : RunAt w wx p b n A) (h0 : Below w0.heap.size w0 w) : RunAt w0 wx p b n A :=
  ⟨h0.trans (h.bel.mono h0.size), h.app, Nat.le_trans h0.size h.pge, Nat.le_trans h0.size h.bge⟩
theorem new_run (w : World) : Calls Tryz.prog 16 #[] w fun e w' => ∃ p b, e = .returned (.pointer (some ⟨p, 0, none⟩)) ∧ RunAt w w' p b 0 [] :=
  (new_any w).mono fun e w' ⟨p, b, he, ha, hp, hb, hbel⟩ => ⟨p, b, he, hbel, ha, hp, hb⟩
theorem do_run {w wx : World} {p b n : Nat} {A : List Ent} (h : RunAt w wx p b n A) (hG : Good n A) (hn : n ≤ 90000) (hT : TabsI w) (c : Cmd) (hs : c.key.size ≤ 1000000) (B : List Ent) (R : Rep) (hd : appDo A c = (B, R)) :
    Calls Tryz.prog 15 #[.pointer (some ⟨p, 0, none⟩), cmdV c] wx fun e w' => e = .returned (repV R) ∧ (RunAt w w' p b (n + 1) B ∧ Mods (fun k => k = b) wx w') := by
  have := do_any p b n A c wx h.app hG hn (hT.next h.bel) hs
  rw [hd] at this
  exact this.mono fun e w' hh => ⟨hh.1, h.step hh.2.2 hh.2.1, hh.2.2⟩
theorem copy_run {w wx : World} {p b n : Nat} {A : List Ent} (h : RunAt w wx p b n A) :
    Calls Tryz.prog 17 #[.pointer (some ⟨p, 0, none⟩)] wx fun e w' => ∃ p2 b2, e = .returned (.pointer (some ⟨p2, 0, none⟩)) ∧ (RunAt w w' p2 b2 n A ∧ RunAt w w' p b n A ∧ Below wx.heap.size wx w' ∧ wx.heap.size ≤ p2 ∧ wx.heap.size ≤ b2) :=
  (copy_any p b n A wx h.app).mono fun e w' ⟨p2, b2, he, ha, hp, hb, hbel⟩ => ⟨p2, b2, he, ⟨h.bel.trans (hbel.mono h.bel.size), ha, Nat.le_trans h.bel.size hp, Nat.le_trans h.bel.size hb⟩, h.next hbel, hbel, hp, hb⟩
/-- all settings are asked for -/
theorem all_run {w wx : World} {p b n : Nat} {A : List Ent} (h : RunAt w wx p b n A) (hG : Good n A) (hn : n ≤ 90000) (hT : TabsI w) (R : Rep) (hR : findR A nul = R) :
    Calls Tryz.prog 15 #[.pointer (some ⟨p, 0, none⟩), .agg #[.int .i64 5, .int .i64 1, .int .i64 1, .string ⟨#[]⟩, .string ⟨#[]⟩, .int .i64 0]] wx fun e w' => e = .returned (repV R) ∧ (RunAt w w' p b (n + 1) A ∧ Mods (fun k => k = b) wx w') :=
  do_run h hG hn hT allC (by decide) A R (by rw [do_all, hR])
theorem get_run {w wx : World} {p b n : Nat} {A : List Ent} (h : RunAt w wx p b n A) (hG : Good n A) (hn : n ≤ 90000) (hT : TabsI w) (k : ByteArray) (hs : k.size ≤ 1000000) (R : Rep) (hR : appDo A (getC k) = (A, R)) :
    Calls Tryz.prog 15 #[.pointer (some ⟨p, 0, none⟩), .agg #[.int .i64 1, .int .i64 1, .int .i64 1, .string k, .string ⟨#[]⟩, .int .i64 0]] wx fun e w' => e = .returned (repV R) ∧ (RunAt w w' p b (n + 1) A ∧ Mods (fun k => k = b) wx w') :=
  do_run h hG hn hT (getC k) hs A R hR
theorem find_run {w wx : World} {p b n : Nat} {A : List Ent} (h : RunAt w wx p b n A) (hG : Good n A) (hn : n ≤ 90000) (hT : TabsI w) (k : ByteArray) (hs : k.size ≤ 1000000) (R : Rep) (hR : (appDo A (findC k)).2 = R) :
    Calls Tryz.prog 15 #[.pointer (some ⟨p, 0, none⟩), .agg #[.int .i64 5, .int .i64 1, .int .i64 1, .string k, .string ⟨#[]⟩, .int .i64 0]] wx fun e w' => e = .returned (repV R) ∧ (RunAt w w' p b (n + 1) A ∧ Mods (fun k => k = b) wx w') :=
  do_run h hG hn hT (findC k) hs A R (Prod.ext (find_state A k) hR)
theorem rep_same (k : Int) (s : ByteArray) (r : Int) (w : World) : (binOp .eql 33 (.agg #[.int .i64 k, .string s, .int .i64 r]) (.agg #[.int .i64 k, .string s, .int .i64 r])).run Tryz.prog w = .ok (.bool true) w :=
  (run_rep_eql ⟨k, s, r⟩ ⟨k, s, r⟩ w).trans (by rw [repEq_same])
theorem rep_same_not (k : Int) (s : ByteArray) (r : Int) (w : World) : (binOp .neq 33 (.agg #[.int .i64 k, .string s, .int .i64 r]) (.agg #[.int .i64 k, .string s, .int .i64 r])).run Tryz.prog w = .ok (.bool false) w :=
  (run_rep_neq ⟨k, s, r⟩ ⟨k, s, r⟩ w).trans (by rw [repEq_same]; rfl)
theorem box_rep {w : World} {g : Nat} {R : Rep} (h : w.heap[g]? = some (.cells #[.int .i64 R.code, .string R.val, .int .i64 R.rev] 33 (0, 0))) :
    w.cell? ⟨g, 0, none⟩ = some (.int .i64 R.code) ∧ w.cell? ⟨g, 1, none⟩ = some (.string R.val) ∧ w.cell? ⟨g, 2, none⟩ = some (.int .i64 R.rev) := (box3 h).1
end Go.Proofs.YtpeiamllkddhiaaGreatDoor.P

/- The App laws' beginnings: Great at their bounds; a row of commands, one more. -/
namespace Go.Proofs.YtpeiamllkddhiaaGreatDoor.P
open Go.RowKit Go.Proofs.YtpeiamllkddhiaaGreatDoor.R Go.Proofs.YtpeiamllkddhiaaGreatDoor.M Go.BigFrame
set_option linter.unusedVariables false
set_option linter.unusedSimpArgs false

theorem run_take (A : List Ent) (l : List Cmd) (i : Nat) (c : Cmd) (h : l[i]? = some c) : run A (l.take (i + 1)) = (appDo (run A (l.take i)) c).1 := by
  rw [List.take_add_one, h, Option.toList_some, run_snoc]
theorem great60 (B : Nat) (L : List Cmd) (ao : Option Addr) (cap : Nat) (w : World) (h : CmdsV B w ao cap L) :
    Calls Tryz.prog 4 #[.slice ao L.length cap, .int .i64 60] w fun e w' => e = .returned (.bool (greatB L 60)) ∧ w = w' := great_any B L 60 ao cap w h (by decide)
theorem great_cells {w : World} {g : Nat} {c : Cmd} {T : TypeId} (h : w.heap[g]? = some (.cells (cmdA c) T (0, 0))) (hc : CmdOk c) : CmdsV (g + 1) w (some ⟨g, 0, none⟩) 1 [c] := by
  obtain ⟨⟨c0, c1, c2, c3, c4, c5⟩, _⟩ := box6 h
  refine ⟨⟨Nat.le_refl _, by unfold maxLen; decide⟩, fun i x hi => ?_, fun x hx => ?_⟩
  · have : i = 0 := by have := (List.getElem?_eq_some_iff.1 hi).1; simp at this; exact this
    subst this
    cases hi
    exact ⟨g, 0, rfl, by omega, c0, c1, c2, c3, c4, c5⟩
  · obtain rfl := List.mem_singleton.1 hx
    exact hc
theorem great_one {w : World} {g : Nat} {c : Cmd} {T : TypeId} (h : w.heap[g]? = some (.cells (cmdA c) T (0, 0))) (hc : CmdOk c) (v : Bool) (hv : greatB [c] 1 = v) :
    Calls Tryz.prog 4 #[.slice (some ⟨g, 0, none⟩) 1 1, .int .i64 1] w fun e w' => e = .returned (.bool v) ∧ w = w' := by
  subst hv
  exact great_any (g + 1) [c] 1 _ 1 w (great_cells h hc) (by decide)
abbrev cmdA2 (c d : Cmd) : Array Value := #[.int .i64 c.kind, .int .i64 c.client, .int .i64 c.seq, .string c.key, .string c.val, .int .i64 c.rev, .int .i64 d.kind, .int .i64 d.client, .int .i64 d.seq, .string d.key, .string d.val, .int .i64 d.rev]
theorem great_cells2 {w : World} {g : Nat} {c d : Cmd} {T : TypeId} (h : w.heap[g]? = some (.cells (cmdA2 c d) T (0, 0))) (hc : CmdOk c) (hd : CmdOk d) : CmdsV (g + 1) w (some ⟨g, 0, none⟩) 2 [c, d] := by
  have cell : ∀ j v, (cmdA2 c d)[j]? = some v → w.cell? ⟨g, j, none⟩ = some v := fun j v hv => (cell_of_row w g j _ _ _ h).trans hv
  refine ⟨⟨Nat.le_refl _, by unfold maxLen; decide⟩, fun i x hi => ?_, fun x hx => ?_⟩
  · have hi2 : i = 0 ∨ i = 1 := by have := (List.getElem?_eq_some_iff.1 hi).1; simp at this; omega
    rcases hi2 with rfl | rfl
    · cases hi
      exact ⟨g, 0, rfl, by omega, cell 0 _ rfl, cell 1 _ rfl, cell 2 _ rfl, cell 3 _ rfl, cell 4 _ rfl, cell 5 _ rfl⟩
    · cases hi
      exact ⟨g, 0, rfl, by omega, cell 6 _ rfl, cell 7 _ rfl, cell 8 _ rfl, cell 9 _ rfl, cell 10 _ rfl, cell 11 _ rfl⟩
  · rcases List.mem_cons.1 hx with rfl | hx
    · exact hc
    · obtain rfl := List.mem_singleton.1 hx
      exact hd
theorem great_two {w : World} {g : Nat} {c d : Cmd} {T : TypeId} (h : w.heap[g]? = some (.cells (cmdA2 c d) T (0, 0))) (hc : CmdOk c) (hd : CmdOk d) (v : Bool) (hv : greatB [c, d] 2 = v) :
    Calls Tryz.prog 4 #[.slice (some ⟨g, 0, none⟩) 2 2, .int .i64 2] w fun e w' => e = .returned (.bool v) ∧ w = w' := by
  subst hv
  exact great_any (g + 1) [c, d] 2 _ 2 w (great_cells2 h hc hd) (by decide)
theorem great_ones {L : List Cmd} {m : Nat} (h : greatB L m = false) {c : Cmd} (hc : c ∈ L) : c.key.size ≤ 1000000 := by
  have := (great_no h).2 c hc
  omega
abbrev repO (R : Rep) : Obj := .cells #[.int .i64 R.code, .string R.val, .int .i64 R.rev] 33
abbrev askO (k : Int) (key : ByteArray) : Obj := .cells #[.int .i64 k, .int .i64 1, .int .i64 1, .string key, .string ⟨#[]⟩, .int .i64 0] 38
abbrev cmdO (c : Cmd) : Obj := .cells (cmdA c) 38
/-- boxes of the call's own, none of them the map at b -/
def Boxed (w : World) (b : Nat) (l : List (Nat × Obj)) : Prop := ∀ x ∈ l, w.heap[x.1]? = some x.2 ∧ x.1 ≠ b
theorem Boxed.at {w : World} {b g : Nat} {o : Obj} {l : List (Nat × Obj)} (h : Boxed w b l) (hx : (g, o) ∈ l) : w.heap[g]? = some o := (h _ hx).1
theorem Boxed.none (w : World) (b : Nat) : Boxed w b [] := fun x h => by cases h
theorem Boxed.mods {w w1 : World} {b : Nat} {l : List (Nat × Obj)} (h : Boxed w b l) (hm : Mods (fun k => k = b) w w1) : Boxed w1 b l := fun x hx => ⟨hm.heap (h x hx).1 (h x hx).2, (h x hx).2⟩
theorem Boxed.below {w w1 : World} {b : Nat} {l : List (Nat × Obj)} (h : Boxed w b l) (hb : Below w.heap.size w w1) : Boxed w1 b l := fun x hx => ⟨(hb.block _ (M.heap_lt (h x hx).1)).trans (h x hx).1, (h x hx).2⟩
theorem Boxed.alloc {w : World} {b : Nat} {l : List (Nat × Obj)} (h : Boxed w b l) (hb : b < w.heap.size) (o : Obj) : Boxed (w.alloc o) b ((w.heap.size, o) :: l) := fun x hx => by
  rcases List.mem_cons.1 hx with rfl | hx
  · exact ⟨heap_alloc_new w o, by simp only; omega⟩
  · exact h.below ((Below.refl _ _).alloc (Nat.le_refl _) _) x hx
theorem Boxed.set {w w1 : World} {b g : Nat} {o o1 : Obj} {l : List (Nat × Obj)} (h : Boxed w b ((g, o) :: l)) (hm : Mods (fun k => k = g) w w1) (hn : ∀ x ∈ l, x.1 ≠ g) (h1 : w1.heap[g]? = some o1) : Boxed w1 b ((g, o1) :: l) := fun x hx => by
  rcases List.mem_cons.1 hx with rfl | hx
  · exact ⟨h1, (h (g, o) (List.mem_cons_self)).2⟩
  · have := h x (List.mem_cons_of_mem _ hx)
    exact ⟨hm.heap this.1 (hn x hx), this.2⟩
theorem Boxed.swap {w : World} {b : Nat} {x y : Nat × Obj} {l : List (Nat × Obj)} (h : Boxed w b (x :: y :: l)) : Boxed w b (y :: x :: l) := fun z hz => h z (by simp only [List.mem_cons] at hz ⊢; rcases hz with e | e | e <;> simp [e])
theorem Boxed.turn {w : World} {b : Nat} {x y z : Nat × Obj} {l : List (Nat × Obj)} (h : Boxed w b (x :: y :: z :: l)) : Boxed w b (z :: x :: y :: l) := fun u hu => h u (by simp only [List.mem_cons] at hu ⊢; rcases hu with e | e | e | e <;> simp [e])
theorem RunAt.turned {w w1 w2 : World} {p b n : Nat} {A : List Ent} {g : Nat} (h : RunAt w w1 p b n A) (hm : Mods (fun k => k = g) w1 w2) (hg : w.heap.size ≤ g) (h1 : p ≠ g) (h2 : b ≠ g) : RunAt w w2 p b n A := h.apart hm hg h1 h2
theorem mods_set {w : World} {g i : Nat} {u : Value} : Mods (fun k => k = g) w (w.setCell ⟨g, i, none⟩ u) := (Mods.refl (fun k => k = g) w).setCell (p := ⟨g, i, none⟩) (fun _ => rfl) u
end Go.Proofs.YtpeiamllkddhiaaGreatDoor.P
