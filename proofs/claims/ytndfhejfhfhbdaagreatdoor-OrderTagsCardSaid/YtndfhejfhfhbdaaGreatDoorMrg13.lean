/- Several texts in one. -/
import Derived.Test.YtndfhejfhfhbdaaGreatDoorMrg12
import Derived.Test.YtndfhejfhfhbdaaGreatDoorShelf
import Derived.Sort.OwnSortedInts

/- Contracts of the library, at rows of numbers of one's own: Sort, Clone, Index. -/
namespace Go.Proofs.YtndfhejfhfhbdaaGreatDoor.K
open Go.RowKit M T
set_option linter.unusedVariables false
set_option linter.unusedSimpArgs false

theorem iv_int (l : List Nat) : iv l = (l.map fun (x : Nat) => (x : Int)).map (Value.int .i64) := by simp [iv]
/-- sorted -/
theorem sort_own (B : Nat) (w : World) (g cap : Nat) (l : List Nat) (h : w.ownsRow B 3 1 (.slice (some ⟨g, 0, none⟩) l.length cap) l.length (iv l)) (hl : l.length ≤ 1000000) :
    Calls Tryz.prog 85 #[.slice (some ⟨g, 0, none⟩) l.length cap] w fun e w' => e = .returned (.tuple #[]) ∧ ∃ l', (l'.Perm l ∧ l'.Pairwise (· ≤ ·) ∧ l'.length = l.length ∧ w'.ownsRow B 3 1 (.slice (some ⟨g, 0, none⟩) l.length cap) l.length (iv l') ∧ Mods (fun k => k = g) w w') := by
  obtain ⟨zs, hzs⟩ : ∃ zs : List Int, zs = l.map fun (x : Nat) => (x : Int) := ⟨_, rfl⟩
  have hzl : zs.length = l.length := by rw [hzs, List.length_map]
  obtain ⟨hx, h2⟩ := h
  rcases h2 with ⟨h0, _⟩ | ⟨g', c', cur, e0, hB, hg, hnc, hm, hcs, htk⟩
  · cases h0
  cases e0
  rw [iv_int, ← hzs] at htk
  have hH := holds_of_blockI (ss := zs) hg (by rw [hzl]; rw [Nat.mul_one] at htk; exact htk)
  have hc := Tryz.slices_Sort_int g 0 cap zs w hH (heap_lt hg) (by omega)
  rw [hzl] at hc
  refine hc.mono ?_
  rintro e w' ⟨he, n, os, rfl⟩
  refine ⟨he, (zs.mergeSort fun x y => decide (x ≤ y)).map Int.toNat, ?_⟩
  have hperm : (zs.mergeSort fun x y => decide (x ≤ y)).Perm zs := List.mergeSort_perm _ _
  have hpw : (zs.mergeSort fun x y => decide (x ≤ y)).Pairwise (fun x y => x ≤ y) := by
    have := List.pairwise_mergeSort (le := fun x y : Int => decide (x ≤ y)) (fun a b c h1 h2 => by simp at *; omega) (fun a b => by simp; omega) zs
    exact this.imp (fun h => by simpa using h)
  have hback : ((zs.mergeSort fun x y => decide (x ≤ y)).map Int.toNat).map (fun (x : Nat) => (x : Int)) = zs.mergeSort fun x y => decide (x ≤ y) := by
    rw [List.map_map]
    refine (List.map_congr_left fun x hx => ?_).trans (List.map_id _)
    have hx2 := hperm.mem_iff.1 hx
    rw [hzs] at hx2
    obtain ⟨y, _, rfl⟩ := List.mem_map.1 hx2
    simp
  have hlen : (zs.mergeSort fun x y => decide (x ≤ y)).length = zs.length := hperm.length_eq
  refine ⟨?_, ?_, by rw [List.length_map, hlen, hzl], ?_, Mods.of_grown (grownBy_sortedI _) |>.mono (fun k _ h => (Option.some.inj h).symm)⟩
  · have := hperm.map Int.toNat
    rw [hzs, List.map_map] at this
    rw [hzs]
    refine this.trans (List.Perm.of_eq ?_)
    exact (List.map_congr_left fun x hx => by simp).trans (List.map_id _)
  · exact List.Pairwise.map _ (fun a b hab => by omega) hpw
  · rw [iv_int, hback]
    have := ownsRow_sortedI (n := n) (os := os) (ts := zs.mergeSort fun x y => decide (x ≤ y)) hlen hB hg (by omega) hm hcs
    rwa [hzl] at this
/-- a copy -/
theorem clone_own (B : Nat) (w : World) (g off cap : Nat) (l : List Nat) (hc : ∀ (j x : Nat), l[j]? = some x → w.cell? ⟨g, off + j, none⟩ = some (.int .i64 (x : Int))) (hl : l.length ≤ 1000000) (hl0 : 0 < l.length) :
    Calls Tryz.prog 76 #[.slice (some ⟨g, off, none⟩) l.length cap] w fun e w' => ∃ g' cap', e = .returned (.slice (some ⟨g', 0, none⟩) l.length cap') ∧ (w.heap.size ≤ g' ∧ w'.ownsRow w.heap.size 3 1 (.slice (some ⟨g', 0, none⟩) l.length cap') l.length (iv l) ∧ Below w.heap.size w w') := by
  have hzl : (l.map fun (x : Nat) => (x : Int)).length = l.length := by simp
  refine (Tryz.slices_Clone_int g off l.length cap (l.map fun (x : Nat) => (x : Int)) w (by omega) (by omega) (fun j hj => ?_)).mono ?_
  · rw [hzl] at hj
    obtain ⟨x, hx⟩ : ∃ x, l[j]? = some x := ⟨_, List.getElem?_eq_getElem hj⟩
    rw [hc j x hx]
    simp [List.getD, hx]
  · rintro e w' ⟨v', he, hown, _, hb⟩
    obtain ⟨ao, cap', rfl, _, _, h3, h4⟩ := own_view hown
    cases ao with
    | none => have := (h3 rfl).1; omega
    | some a =>
      obtain ⟨g', cur, rfl, hB, _⟩ := h4 a rfl
      refine ⟨g', cap', he, hB, ?_, hb⟩
      rw [iv_int]
      have e2 : (l.map fun (x : Nat) => (x : Int)).take l.length = l.map fun (x : Nat) => (x : Int) := List.take_of_length_le (by omega)
      rwa [e2] at hown

set_option maxRecDepth 100000 in
set_option maxHeartbeats 400000 in
/-- where a number stands first -/
theorem index_own (w : World) (g cap : Nat) (l : List Nat) (v i : Nat) (hc : ∀ (j x : Nat), l[j]? = some x → w.cell? ⟨g, j, none⟩ = some (.int .i64 (x : Int))) (hl : l.length ≤ 1000000) (hi : l[i]? = some v) (hno : ∀ (j x : Nat), j < i → l[j]? = some x → x ≠ v) :
    Calls Tryz.prog 173 #[.slice (some ⟨g, 0, none⟩) l.length cap, .int .i64 v] w fun e w' => e = .returned (.int .i64 i) ∧ w = w' := by
  have hil : i < l.length := (List.getElem?_eq_some_iff.1 hi).1
  have HC := Lib.hid hc
  have HI := Lib.hid hi
  have HNO := Lib.hid hno
  clear hc hi hno
  go_enter Tryz.func173, Tryz.ntmps173
  go_wp2_with fail
  go_loopw [8] (fun iv wr => ∃ k : Nat, iv = .int .i64 k ∧ k ≤ i ∧ wr = w) (fun iv _ => i - (intOf iv).toNat)
  case atStart => exact ⟨0, rfl, Nat.zero_le _, rfl⟩
  case round =>
    obtain ⟨k, rfl, hk, rfl⟩ := hrel
    by_cases hlt : k < i
    · obtain ⟨x, hx⟩ : ∃ x, l[k]? = some x := ⟨_, List.getElem?_eq_getElem (by omega)⟩
      have c0 := HC.out k x hx
      have hkl : (k : Int) < (l.length : Int) := by omega
      have e1 : ((v : Int) == (x : Int)) = false := by rw [beq_eq_false_iff_ne]; have := HNO.out k x hlt hx; omega
      clear hx
      go_wp2_with fail
      go_roundw
      case rel => exact ⟨k + 1, by go_num, by omega, by trivial⟩
      case measure => simp [intOf]; omega
    · obtain rfl : k = i := by omega
      have c0 := HC.out k v HI.out
      have hkl : (k : Int) < (l.length : Int) := by omega
      have e1 : ((v : Int) == (v : Int)) = true := by simp
      go_wp2_with fail
      go_ret
      exact ⟨rfl, rfl⟩
end Go.Proofs.YtndfhejfhfhbdaaGreatDoor.K

/- The contract of enter. -/
namespace Go.Proofs.YtndfhejfhfhbdaaGreatDoor.K
open Go.RowKit M T
set_option linter.unusedVariables false
set_option linter.unusedSimpArgs false

theorem info_int : (Tryz.prog.info? 3).map (fun i => (i.zero, i.size, i.bytes)) = some (some (.int .i64 0), 1, 8) := by kernel_rfl

theorem build_frame (x y : Int) (w : World) : (Instr.build 151 #[(0, .int .i64 x), (1, .int .i64 y)]).run Tryz.prog w = .ok (.agg #[.int .i64 x, .int .i64 y]) w := by kernel_rfl

set_option maxRecDepth 100000 in
set_option maxHeartbeats 1000000 in
theorem enter_any (B n : Nat) (w : World) (b : Nat) (m : Lay) (s : St) (o : Nat → Int) (h : FM B n w b m s o) (v : Nat) (hv : v < n) (hB : B ≤ w.heap.size) (hn : s.next ≤ 1000000) (hs : s.stack.length ≤ 1000000) :
    Calls Tryz.prog 136 #[.pointer (some ⟨b, 0, none⟩), .int .i64 v] w fun e w' => e = .returned (.agg #[.int .i64 v, .int .i64 0]) ∧ ∃ gg cg, (FM B n w' b { m with so := some ⟨gg, 0, none⟩, sc := cg } (s.enter v) o ∧ ((∃ a, m.so = some a ∧ gg = a.block) ∨ w.heap.size ≤ gg) ∧ Mods (Foot m b) w w') := by
  obtain ⟨i0, hi, hz0, hz1, hz2⟩ := info_parts info_int
  obtain ⟨c0, c1, c2, c3, c4, c5, c6, cf⟩ := h.cells
  have hbd := build_frame
  have hb := heap_lt h.blk
  have HF := Lib.hid h
  have HL := Lib.hid h.lt
  clear h
  go_enter Tryz.func136, Tryz.ntmps136
  go_wp2_with fail
  obtain ⟨W1, hW1⟩ : ∃ W1, W1 = (w.setCell ⟨b, 5, none⟩ (.int .i64 ((s.next : Int) + 1))).alloc (.cells #[.int .i64 0, .int .i64 0] 151) := ⟨_, rfl⟩
  have h1 : FM B n W1 b m { s with next := s.next + 1 } o := by
    rw [hW1]
    have h := HF.out.set_next (s.next + 1)
    rw [show (((s.next + 1 : Nat)) : Int) = (s.next : Int) + 1 by omega] at h
    exact h.below ((Below.refl _ _).alloc (Nat.le_refl _) _)
  have hM1 : Mods (Foot m b) w W1 := by rw [hW1]; exact ((Mods.refl (Foot m b) w).setCell (p := ⟨b, 5, none⟩) (fun _ => .inl rfl) _).alloc _
  have hbx : W1.heap[w.heap.size]? = some (.cells #[.int .i64 0, .int .i64 0] 151 (0, 0)) := by
    rw [hW1]
    have := heap_alloc_new (w.setCell ⟨b, 5, none⟩ (.int .i64 ((s.next : Int) + 1))) (.cells #[.int .i64 0, .int .i64 0] 151)
    simpa [World.setCell] using this
  rw [← hW1]
  clear hW1 c0 c1 c2 c3 c4 c5 c6 cf
  have hN : w.heap.size ≠ m.gN ∧ w.heap.size ≠ m.gL ∧ w.heap.size ≠ b := by
    have a1 := (HL.out m.gN (.inr (.inl rfl))).2
    have a2 := (HL.out m.gL (.inr (.inr (.inl rfl)))).2
    omega
  have HA : Hid (FM B n (((W1.setCell ⟨m.gN, v, none⟩ (.int .i64 ((s.next : Int) + 1))).setCell ⟨m.gL, v, none⟩ (.int .i64 ((s.next : Int) + 1))).drew) b m { s with num := upd s.num v (s.next + 1), low := upd s.low v (s.next + 1), next := s.next + 1 } o ∧ Mods (Foot m b) w (((W1.setCell ⟨m.gN, v, none⟩ (.int .i64 ((s.next : Int) + 1))).setCell ⟨m.gL, v, none⟩ (.int .i64 ((s.next : Int) + 1))).drew) ∧ (((W1.setCell ⟨m.gN, v, none⟩ (.int .i64 ((s.next : Int) + 1))).setCell ⟨m.gL, v, none⟩ (.int .i64 ((s.next : Int) + 1))).drew).heap[w.heap.size]? = some (.cells #[.int .i64 0, .int .i64 0] 151 (0, 0))) := by
    refine Lib.hid ⟨?_, ((hM1.setCell (p := ⟨m.gN, v, none⟩) (fun _ => .inr (.inl rfl)) _).setCell (p := ⟨m.gL, v, none⟩) (fun _ => .inr (.inr (.inl rfl))) _).drew, ?_⟩
    · have h := (h1.set_num v (s.next + 1)).set_low v (s.next + 1)
      rw [show (((s.next + 1 : Nat)) : Int) = (s.next : Int) + 1 by omega] at h
      exact h.below (Below.refl _ _).drew
    · show ((W1.setCell _ _).setCell _ _).heap[_]? = _
      rw [Below.heap_setCell _ _ _ _ hN.2.1, Below.heap_setCell _ _ _ _ hN.1]
      exact hbx
  have HB : Hid (FM B n (((W1.setCell ⟨m.gL, v, none⟩ (.int .i64 ((s.next : Int) + 1))).setCell ⟨m.gN, v, none⟩ (.int .i64 ((s.next : Int) + 1))).drew) b m { s with num := upd s.num v (s.next + 1), low := upd s.low v (s.next + 1), next := s.next + 1 } o ∧ Mods (Foot m b) w (((W1.setCell ⟨m.gL, v, none⟩ (.int .i64 ((s.next : Int) + 1))).setCell ⟨m.gN, v, none⟩ (.int .i64 ((s.next : Int) + 1))).drew) ∧ (((W1.setCell ⟨m.gL, v, none⟩ (.int .i64 ((s.next : Int) + 1))).setCell ⟨m.gN, v, none⟩ (.int .i64 ((s.next : Int) + 1))).drew).heap[w.heap.size]? = some (.cells #[.int .i64 0, .int .i64 0] 151 (0, 0))) := by
    refine Lib.hid ⟨?_, ((hM1.setCell (p := ⟨m.gL, v, none⟩) (fun _ => .inr (.inr (.inl rfl))) _).setCell (p := ⟨m.gN, v, none⟩) (fun _ => .inr (.inl rfl)) _).drew, ?_⟩
    · have h := (h1.set_low v (s.next + 1)).set_num v (s.next + 1)
      rw [show (((s.next + 1 : Nat)) : Int) = (s.next : Int) + 1 by omega] at h
      exact h.below (Below.refl _ _).drew
    · show ((W1.setCell _ _).setCell _ _).heap[_]? = _
      rw [Below.heap_setCell _ _ _ _ hN.1, Below.heap_setCell _ _ _ _ hN.2.1]
      exact hbx
  obtain ⟨d0, d1, d2, d3, d4, d5, d6, df⟩ := h1.cells
  have d5 : W1.cell? ⟨b, 5, none⟩ = some (.int .i64 ((s.next : Int) + 1)) := d5
  obtain ⟨k0, f0⟩ := row_cell h1.hn v hv
  obtain ⟨k1, f1⟩ := row_cell h1.hl v hv
  have hne := h1.ne.1
  have hne' : ¬ m.gL = m.gN := fun e => hne e.symm
  have hvn : (v : Int) < (n : Int) := by omega
  clear h1 hM1 hbx
  go_upto_region 2 with fail
  go_cut [12] (fun _ wx => FM B n wx b m { s with num := upd s.num v (s.next + 1), low := upd s.low v (s.next + 1), next := s.next + 1 } o ∧ Mods (Foot m b) w wx ∧ wx.heap[w.heap.size]? = some (.cells #[.int .i64 0, .int .i64 0] 151 (0, 0)))
  case first =>
    go_region
    all_goals
      (first | go_meet | (go_wp2_with fail; go_meet))
    all_goals (first | exact HA.out | exact HB.out)
  case rest =>
    clear HA HB d0 d1 d2 d3 d4 d5 d6 df k0 k1 f0 f1
    obtain ⟨h2, hM2, hbx2⟩ := hcut
    revert h2 hM2 hbx2
    obtain ⟨w2, hw2⟩ : ∃ w2, w2 = wc := ⟨_, rfl⟩
    rw [← hw2]
    intro h2 hM2 hbx2
    clear hw2
    have x4 := h2.cells.2.2.2.2.1
    have H2 := Lib.hid h2
    have HM2 := Lib.hid hM2
    have HBX2 := Lib.hid hbx2
    have HO2 := Lib.hid h2.stk
    have hsz2 : w.heap.size < w2.heap.size := heap_lt hbx2
    have hb2 : b < w2.heap.size := heap_lt h2.blk
    have HSO := Lib.hid (show some b ≠ (Value.slice m.so s.stack.length m.sc).ownBlock from fun e => by
      cases hso : m.so with
      | none => rw [hso] at e; cases e
      | some a => rw [hso] at e; exact h2.bne.2.2.2.1 a hso (Option.some.inj e).symm)
    have HSX := Lib.hid (show some w.heap.size ≠ (Value.slice m.so s.stack.length m.sc).ownBlock from fun e => by
      cases hso : m.so with
      | none => rw [hso] at e; cases e
      | some a => rw [hso] at e; have := (HL.out a.block (.inr (.inr (.inr (.inr (.inl ⟨a, hso, rfl⟩)))))).2; have e2 := Option.some.inj e; omega)
    clear h2 hM2 hbx2
    go_wp2_with (refine wpList_append_lies _ (by rfl) (.tmp 36) (.tmp 38) 79 (by rfl) B 3 i0 _ 1 8 Tryz.underlying79 hi hz0 hz1 hz2 rfl (by decide) (.slice m.so s.stack.length m.sc) s.stack.length (iv s.stack) (by rfl) (by exact HO2.out.alloc _) ⟨w2.heap.size, 0, none⟩ 1 1 [.int .i64 (v : Int)] (by rfl) (by rfl) (World.news_of_block (cs := #[.int .i64 (v : Int)]) (t := 3) (fr := (0, 0)) (heap_alloc_new w2 _)) (by simp [Value.oneCell']) (by omega) (by unfold maxLen; omega) (by omega) (by simp; omega) (w2.heap.size + 1) (by simp) ?_; intro gg cg w3 hown hgrow hat hlt; have HG := Lib.hid (And.intro hown (And.intro hgrow hat)); have y4 := (hgrow.cell_far ⟨b, 4, none⟩ (by simp; omega) (HSO.out)).trans ((World.cell?_alloc_some _ _ _ (by rw [x4]; rfl)).trans x4); have z4 := (hgrow.frozen_far ⟨b, 4, none⟩ (by simp; omega) (HSO.out)).trans (bcell ((Below.refl _ _).alloc (Nat.le_refl _) _) |>.2 b 4 hb2 |>.trans (H2.out.cells.2.2.2.2.2.2.2 4)); have bx3 : w3.heap[w.heap.size]? = some (.cells #[.int .i64 0, .int .i64 0] 151 (0, 0)) := (hgrow.block _ (by simp; omega) HSX.out).trans ((Below.heap_alloc _ _ _ hsz2).trans HBX2.out); have HB3 := Lib.hid bx3; have q0 := (box2 bx3).1.1; have q1 := (box2 bx3).1.2; have qf := (box2 bx3).2.1; clear hown hgrow hat bx3)
    have hcg := H2.out.set_stack (v := v) HG.out.1 HG.out.2.1 HG.out.2.2 (by omega)
    obtain ⟨h3, hgg, hM3⟩ := hcg
    have hgn : gg ≠ w.heap.size := by
      rcases HG.out.2.2 with e | e
      · intro e2; exact HSX.out (by rw [e, e2])
      · omega
    have hMx : Mods (fun k => k = w.heap.size) (w3.setCell ⟨b, 4, none⟩ (.slice (some ⟨gg, 0, none⟩) (s.stack.length + 1) cg)) (((w3.setCell ⟨b, 4, none⟩ (.slice (some ⟨gg, 0, none⟩) (s.stack.length + 1) cg)).setCell ⟨w.heap.size, 0, none⟩ (.int .i64 v)).setCell ⟨w.heap.size, 1, none⟩ (.int .i64 0)) :=
      ((Mods.refl (fun k => k = w.heap.size) _).setCell (p := ⟨w.heap.size, 0, none⟩) (fun _ => rfl) _).setCell (p := ⟨w.heap.size, 1, none⟩) (fun _ => rfl) _
    have h4 := h3.keep hMx (fun k hk hF => by
      have hk : k = w.heap.size := hk
      subst hk
      rcases hF with e | e | e | e | ⟨a, ha, e⟩ | ⟨a, ha, e⟩
      · exact hN.2.2 e
      · exact hN.1 e
      · exact hN.2.1 e
      · have := (HL.out m.gO (.inr (.inr (.inr (.inl rfl))))).2; exact absurd e (show w.heap.size ≠ m.gO by omega)
      · obtain rfl := Option.some.inj ha
        exact hgn e.symm
      · have := (HL.out a.block (.inr (.inr (.inr (.inr (.inr ⟨a, ha, rfl⟩)))))).2; omega) (fun k hk hR => by
      have hk : k = w.heap.size := hk
      have := HF.out.rows_lt k hR
      omega)
    refine ret_box w.heap.size #[.int .i64 v, .int .i64 0] 151 (.agg #[.int .i64 v, .int .i64 0]) ?_ (fun W' h => ?_) rfl ?_
    · have a1 := (Below.heap_setCell w3 ⟨b, 4, none⟩ (.slice (some ⟨gg, 0, none⟩) (s.stack.length + 1) cg) w.heap.size hN.2.2).trans HB3.out
      have a2 := heap_set _ _ 0 (.int .i64 v) w.heap.size _ _ _ a1
      rw [if_pos rfl] at a2
      have a3 := heap_set _ _ 1 (.int .i64 0) w.heap.size _ _ _ a2
      rw [if_pos rfl] at a3
      exact a3
    · obtain ⟨⟨r0, r1⟩, _, _⟩ := box2 h
      simp [results, Tryz.results136, go_sem, r0, r1]
    · refine ⟨rfl, gg, ⟨cg, h4⟩, ?_, ?_⟩
      · rcases hgg with e | e
        · exact .inl e
        · exact .inr (by omega)
      · exact (HM2.out.then hM3 (fun k hk hF => hF)).then hMx (fun k hk e => by omega)
end Go.Proofs.YtndfhejfhfhbdaaGreatDoor.K
