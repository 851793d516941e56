/- Several texts in one. -/
import Derived.Test.YtkgjfagejnppbaaGreatDoorMrg7
import Derived.Deep.LoopGhost

/- A finder whose stack is cut, whose components grow; the contracts of leave. -/
namespace Go.Proofs.YtkgjfagejnppbaaGreatDoor.K
open Go.RowKit M T
set_option linter.unusedVariables false
set_option linter.unusedSimpArgs false

theorem below_dn (B : Nat) (w : World) (k : Nat) : Below B w (w.drewN k) := ⟨rfl, rfl, rfl, Nat.le_refl _, fun _ _ => rfl⟩
theorem iv_take (l : List Nat) (i : Nat) : iv (l.take i) = (iv l).take i := by simp [iv, List.map_take]
theorem own_cut {w : World} {B n cap : Nat} {e : TypeId} {ao : Option Addr} {xs : List Value} (h : w.ownsRow B e 1 (.slice ao n cap) n xs) (i : Nat) (hi : i ≤ n) (ha : ao ≠ none) : w.ownsRow B e 1 (.slice ao i cap) i (xs.take i) := by
  refine ⟨by rw [List.length_take, h.1]; omega, ?_⟩
  rcases h.2 with ⟨h0, _⟩ | ⟨g, c, cur, e0, hb, hg, hnc, hm, hs, ht⟩
  · cases h0; exact absurd rfl ha
  · cases e0
    refine .inr ⟨g, cap, cur, rfl, hb, hg, by omega, hm, hs, ?_⟩
    rw [← ht, List.take_take, Nat.mul_one, Nat.mul_one, Nat.min_eq_left hi]
theorem rowcell {w : World} {B n : Nat} {e : TypeId} {size : Nat} {ao : Option Addr} {cap : Nat} {xs : List Value} (h : w.ownsRow B e size (.slice ao n cap) n xs) (hn : 0 < n) :
    ∃ g, ao = some ⟨g, 0, none⟩ ∧ g < w.heap.size ∧ n ≤ cap ∧ cap ≤ maxLen ∧ ∀ j u, xs[j]? = some u → w.cell? ⟨g, j, none⟩ = some u ∧ w.frozen? ⟨g, j, none⟩ = false := by
  rcases h.2 with ⟨_, h0⟩ | ⟨g, c, cur, e0, hb, hg, hnc, hm, hs, ht⟩
  · omega
  · cases e0
    refine ⟨g, rfl, (Array.getElem?_eq_some_iff.1 hg).1, hnc, hm, fun j u hu => ⟨?_, by simp [World.frozen?, hg]⟩⟩
    rw [cell_of_row w g j cur e (0, 0) hg, ← Array.getElem?_toList]
    rw [← ht, List.getElem?_take] at hu
    split at hu
    · exact hu
    · cases hu
theorem FM.ofc {B n : Nat} {w : World} {b : Nat} {m : Lay} {s : St} {o : Nat → Int} (h : FM B n w b m s o) (f : Nat → Option Nat) : FM B n w b m { s with ofc := f } o :=
  ⟨h.lo, h.blk, h.hn, h.hl, h.ho, h.stk, h.cmp, h.rl, h.row, h.ne, h.sne, h.rne⟩
section
variable {B n : Nat} {w w1 : World} {b : Nat} {m : Lay} {s : St} {o : Nat → Int}
theorem FM.set_cut (h : FM B n w b m s o) (i : Nat) (hi : i ≤ s.stack.length) (ha : m.so ≠ none) : FM B n (w.setCell ⟨b, 4, none⟩ (.slice m.so i m.sc)) b m { s with stack := s.stack.take i } o := by
  have hm : Mods (fun k => k = b) w (w.setCell ⟨b, 4, none⟩ (.slice m.so i m.sc)) := (Mods.refl (fun k => k = b) w).setCell (p := ⟨b, 4, none⟩) (fun _ => rfl) _
  obtain ⟨n1, n2, n3, n4, n5⟩ := h.bne
  have hlen : (s.stack.take i).length = i := by rw [List.length_take]; omega
  refine ⟨h.lo, ?_, hm.heap h.hn (fun e => n1 e.symm), hm.heap h.hl (fun e => n2 e.symm), hm.heap h.ho (fun e => n3 e.symm), ?_, h.cmp_kept hm (fun a ha e => (n5 a ha).1 e), h.rl, h.other hm (fun k hk hr => (h.rows_ne k hr).1 hk), h.ne, h.sne, h.rne⟩
  · have := heap_set w b 4 (.slice m.so i m.sc) b _ _ _ h.blk
    rw [if_pos rfl] at this
    rw [this]
    show some (Obj.cells _ _ _) = some (.cells #[_, _, _, _, .slice m.so (s.stack.take i).length m.sc, _, _] _ _)
    rw [hlen]; rfl
  · show World.ownsRow _ B _ 1 (.slice m.so (s.stack.take i).length m.sc) (s.stack.take i).length (iv (s.stack.take i))
    rw [hlen, iv_take]
    exact own_cut (h.stk_kept hm (fun a ha e => n4 a ha e)) i hi ha
theorem hdrs_append {R : List (Option Addr × Nat)} {C : List (List Nat)} (h : R.length = C.length) (r : Option Addr × Nat) (c : List Nat) : hdrs (R ++ [r]) (C ++ [c]) = hdrs R C ++ [.slice r.1 c.length r.2] := by
  unfold hdrs
  rw [List.zipWith_append h]
  rfl
theorem FM.set_comps (h : FM B n w b m s o) {w2 : World} {gg cg gc cc : Nat} {c : List Nat} {bx : Obj} (hrow : w.ownsRow B 3 1 (.slice (some ⟨gc, 0, none⟩) c.length cc) c.length (iv c)) (hc1 : gc ≠ m.gN ∧ gc ≠ m.gL ∧ gc ≠ m.gO) (hc2 : ∀ a, m.so = some a → gc ≠ a.block)
    (ho : w2.ownsRow B 87 1 (.slice (some ⟨gg, 0, none⟩) (s.comps.length + 1) cg) (s.comps.length + 1) (hdrs m.R s.comps ++ [.slice (some ⟨gc, 0, none⟩) c.length cc]))
    (hg : (w.alloc bx).grownBy w2 (Value.slice m.co s.comps.length m.cc).ownBlock) (hat : (Value.slice m.co s.comps.length m.cc).ownBlock = some gg ∨ gg = w.heap.size + 1) :
    FM B n (w2.setCell ⟨b, 6, none⟩ (.slice (some ⟨gg, 0, none⟩) (s.comps.length + 1) cg)) b { m with co := some ⟨gg, 0, none⟩, cc := cg, R := m.R ++ [(some ⟨gc, 0, none⟩, cc)] } { s with comps := s.comps ++ [c] } o ∧
      ((∃ a, m.co = some a ∧ gg = a.block) ∨ w.heap.size ≤ gg) ∧ Mods (Foot m b) w (w2.setCell ⟨b, 6, none⟩ (.slice (some ⟨gg, 0, none⟩) (s.comps.length + 1) cg)) := by
  have hM : Mods (fun k => ∃ a, m.co = some a ∧ k = a.block) w w2 := ((Mods.refl _ w).alloc bx).grown hg (fun k hk _ => by
    cases hso : m.co with
    | none => rw [hso] at hk; cases hk
    | some a => rw [hso] at hk; exact ⟨a, rfl, (Option.some.inj hk).symm⟩)
  have hgg : (∃ a, m.co = some a ∧ gg = a.block) ∨ gg = w.heap.size + 1 := by
    rcases hat with h1 | h1
    · cases hso : m.co with
      | none => rw [hso] at h1; cases h1
      | some a => rw [hso] at h1; exact .inl ⟨a, rfl, (Option.some.inj h1).symm⟩
    · exact .inr h1
  obtain ⟨n1, n2, n3, n4, n5⟩ := h.bne
  have hblk2 := hM.heap h.blk (fun ⟨a, ha, e⟩ => (n5 a ha).1 e.symm)
  have hm2 : Mods (fun k => k = b) w2 (w2.setCell ⟨b, 6, none⟩ (.slice (some ⟨gg, 0, none⟩) (s.comps.length + 1) cg)) := (Mods.refl (fun k => k = b) w2).setCell (p := ⟨b, 6, none⟩) (fun _ => rfl) _
  have hMM : Mods (fun k => k = b ∨ ∃ a, m.co = some a ∧ k = a.block) w (w2.setCell ⟨b, 6, none⟩ (.slice (some ⟨gg, 0, none⟩) (s.comps.length + 1) cg)) := (hM.mono (fun _ _ h => .inr h)).then hm2 (fun _ _ h => .inl h)
  have hgb : gg ≠ b := by
    rcases hgg with ⟨a, ha, e⟩ | e
    · rw [e]; exact (n5 a ha).1
    · have := heap_lt h.blk; omega
  obtain ⟨curc, hgc, hBc⟩ := own_heap hrow _ rfl
  have hgc : w.heap[gc]? = some (.cells curc 3 (0, 0)) := hgc
  have hgcb : gc ≠ b := fun e => by rw [e, h.blk] at hgc; simp at hgc
  have hgco : ∀ a, m.co = some a → gc ≠ a.block := fun a ha e => by
    obtain ⟨cur, hh, _⟩ := own_heap h.cmp a ha
    rw [← e, hgc] at hh; simp at hh
  refine ⟨⟨h.lo, ?_, hMM.heap h.hn ?_, hMM.heap h.hl ?_, hMM.heap h.ho ?_, h.stk_kept hMM (fun a ha => ?_), ?_, ?_, fun i c' r hc' hr => ?_, h.ne, h.sne, fun r hr a ha => ?_⟩, ?_, hMM.mono (fun k _ hk => ?_)⟩
  · have := heap_set w2 b 6 (.slice (some ⟨gg, 0, none⟩) (s.comps.length + 1) cg) b _ _ _ hblk2
    rw [if_pos rfl] at this
    rw [this]
    simp
  · rintro (e | ⟨a, ha, e⟩)
    · exact n1 e.symm
    · exact (n5 a ha).2.1 e.symm
  · rintro (e | ⟨a, ha, e⟩)
    · exact n2 e.symm
    · exact (n5 a ha).2.2.1 e.symm
  · rintro (e | ⟨a, ha, e⟩)
    · exact n3 e.symm
    · exact (n5 a ha).2.2.2.1 e.symm
  · rintro (e | ⟨a', ha', e⟩)
    · exact n4 a ha e
    · exact (n5 a' ha').2.2.2.2 a ha e.symm
  · show World.ownsRow _ B _ 1 (.slice (some ⟨gg, 0, none⟩) (s.comps ++ [c]).length cg) (s.comps ++ [c]).length (hdrs (m.R ++ [(some ⟨gc, 0, none⟩, cc)]) (s.comps ++ [c]))
    rw [List.length_append, hdrs_append h.rl]
    exact own_kept ho hm2 (fun k hk e => hgb ((Option.some.inj hk).trans e))
  · show (m.R ++ [_]).length = (s.comps ++ [c]).length
    rw [List.length_append, List.length_append, h.rl]; rfl
  · have hc2 : (s.comps ++ [c])[i]? = some c' := hc'
    have hr2 : (m.R ++ [(some ⟨gc, 0, none⟩, cc)])[i]? = some r := hr
    rcases Nat.lt_or_ge i s.comps.length with h1 | h1
    · rw [List.getElem?_append_left h1] at hc2
      rw [List.getElem?_append_left (by rw [h.rl]; exact h1)] at hr2
      exact h.other hMM (fun k hk hR => by
        obtain ⟨h1, _, _, _, _, h6⟩ := h.rows_ne k hR
        rcases hk with e | ⟨a', ha', e⟩
        · exact h1 e
        · exact h6 a' ha' e) i c' r hc2 hr2
    · rw [List.getElem?_append_right h1] at hc2
      rw [List.getElem?_append_right (by rw [h.rl]; exact h1), h.rl] at hr2
      have hi0 : i - s.comps.length = 0 := by have := (List.getElem?_eq_some_iff.1 hc2).1; simp at this; omega
      rw [hi0] at hc2 hr2
      obtain rfl : c = c' := by simpa using hc2
      obtain rfl : (some ⟨gc, 0, none⟩, cc) = r := by simpa using hr2
      refine own_kept hrow hMM (fun k hk => ?_)
      obtain rfl : gc = k := Option.some.inj hk
      rintro (e | ⟨a', ha', e⟩)
      · exact hgcb e
      · exact hgco a' ha' e
  · rcases List.mem_append.1 (show r ∈ m.R ++ [(some ⟨gc, 0, none⟩, cc)] from hr) with h1 | h1
    · exact h.rne r h1 a ha
    · obtain rfl := List.mem_singleton.1 h1
      obtain rfl := Option.some.inj ha
      exact ⟨hc1.1, hc1.2.1, hc1.2.2, hc2⟩
  · rcases hgg with h1 | h1
    · exact .inl h1
    · exact .inr (by omega)
  · rcases hk with e | e
    · exact .inl e
    · exact .inr (.inr (.inr (.inr (.inr e))))
end

set_option maxRecDepth 100000 in
set_option maxHeartbeats 400000 in
theorem leave_stay (B n : Nat) (w : World) (b : Nat) (m : Lay) (s : St) (o : Nat → Int) (h : FM B n w b m s o) (v : Nat) (hv : v < n) (hne : s.low v ≠ s.num v) :
    Calls Tryz.prog 113 #[.pointer (some ⟨b, 0, none⟩), .int .i64 v] w fun e w' => e = .returned (.tuple #[]) ∧ Below w.heap.size w w' := by
  obtain ⟨c0, c1, c2, c3, c4, c5, c6, cf⟩ := h.cells
  obtain ⟨k0, f0⟩ := row_cell h.hn v hv
  obtain ⟨k1, f1⟩ := row_cell h.hl v hv
  have hvn : (v : Int) < (n : Int) := by omega
  have e1 : ((s.low v : Int) != (s.num v : Int)) = true := by rw [bne_iff_ne]; omega
  clear h hne
  go_enter Tryz.func113, Tryz.ntmps113
  go_wp2_with fail
  go_quiet (fail)
  go_wp2_with fail
  exact bodyPost_ret (v := .tuple #[]) (by simp [results, Tryz.results113, go_sem]) rfl ⟨rfl, below_dn _ _ _⟩
end Go.Proofs.YtkgjfagejnppbaaGreatDoor.K

/- The contract of leave where a component is taken off. -/
namespace Go.Proofs.YtkgjfagejnppbaaGreatDoor.K
open Go.RowKit M T
set_option linter.unusedVariables false
set_option linter.unusedSimpArgs false

theorem info_ints : (Tryz.prog.info? 87).map (fun i => (i.zero, i.size, i.bytes)) = some (some (.slice none 0 0), 1, 24) := by kernel_rfl
def ofUp (o : Nat → Int) (c : List Nat) (x : Int) : Nat → Int := fun y => if y ∈ c then x else o y
theorem ofUp_step (o : Nat → Int) (c : List Nat) (k v : Nat) (x : Int) (h : c[k]? = some v) : upd (ofUp o (c.take k) x) v x = ofUp o (c.take (k + 1)) x := by
  funext y
  rw [List.take_add_one, h]
  simp only [upd, ofUp, List.mem_append, Option.toList, List.mem_singleton]
  by_cases e : y = v
  · simp [e]
  · simp [e]

set_option maxRecDepth 100000 in
set_option maxHeartbeats 1000000 in
theorem leave_pop (B n : Nat) (w : World) (b : Nat) (m : Lay) (s : St) (o : Nat → Int) (h : FM B n w b m s o) (v : Nat) (hv : v < n) (he : s.low v = s.num v) (hB : B ≤ w.heap.size) (i : Nat) (hi : s.stack[i]? = some v) (hno : ∀ (j x : Nat), j < i → s.stack[j]? = some x → x ≠ v)
    (hs : s.stack.length ≤ 1000000) (hcl : s.comps.length ≤ 1000000) (hsn : ∀ y ∈ s.stack, y < n) :
    Calls Tryz.prog 113 #[.pointer (some ⟨b, 0, none⟩), .int .i64 v] w fun e w' => e = .returned (.tuple #[]) ∧ ∃ c gg cg r, (c.Perm (s.stack.drop i) ∧ c.Pairwise (· ≤ ·) ∧ FM B n w' b { m with co := some ⟨gg, 0, none⟩, cc := cg, R := m.R ++ [r] } (s.pop v c (s.stack.take i)) (ofUp o c (s.comps.length : Int)) ∧ ((∃ a, m.co = some a ∧ gg = a.block) ∨ w.heap.size ≤ gg) ∧ Mods (Foot m b) w w') := by
  obtain ⟨i0, hii, hz0, hz1, hz2⟩ := info_parts info_ints
  obtain ⟨c0, c1, c2, c3, c4, c5, c6, cf⟩ := h.cells
  obtain ⟨k0, f0⟩ := row_cell h.hn v hv
  obtain ⟨k1, f1⟩ := row_cell h.hl v hv
  have hvn : (v : Int) < (n : Int) := by omega
  have e1 : ((s.low v : Int) != (s.num v : Int)) = false := by rw [bne_eq_false_iff_eq]; omega
  have hil : i < s.stack.length := (List.getElem?_eq_some_iff.1 hi).1
  have HF := Lib.hid h
  have HI := Lib.hid hi
  have HNO := Lib.hid hno
  have HSN := Lib.hid hsn
  clear h hi hno hsn he
  go_enter Tryz.func113, Tryz.ntmps113
  go_wp2_with fail
  go_quiet (fail)
  obtain ⟨w1, hw1⟩ : ∃ w1, w1 = w.drewN nq := ⟨_, rfl⟩
  have h1 : FM B n w1 b m s o := by rw [hw1]; exact HF.out.below (below_dn _ _ _)
  have hb1 : Below w.heap.size w w1 := by rw [hw1]; exact below_dn _ _ _
  rw [← hw1]
  clear hw1 c0 c1 c2 c3 c4 c5 c6 cf k0 k1 f0 f1
  obtain ⟨c0, c1, c2, c3, c4, c5, c6, cf⟩ := h1.cells
  obtain ⟨gs, hso, hgs, hsl, hsm, hcell⟩ := rowcell h1.stk (by omega)
  rw [hso] at c4
  have hcell' : ∀ (j x : Nat), s.stack[j]? = some x → w1.cell? ⟨gs, j, none⟩ = some (.int .i64 (x : Int)) := fun j x hj => (hcell j _ (iv_get _ _ _ hj)).1
  have hic : i ≤ m.sc := by omega
  have hii2 : i ≤ s.stack.length := by omega
  have hsc : ¬ m.sc = i := by omega
  have hsc0 : ¬ m.sc = 0 := by omega
  have hsm' : (m.sc : Int) ≤ 9223372036854775807 := by unfold maxLen at hsm; omega
  have HCL := Lib.hid hcell'
  have HSO := Lib.hid hso
  have H1 := Lib.hid h1
  have HB1 := Lib.hid hb1
  have hbw1 := heap_lt h1.blk
  clear h1 hb1 hcell hcell' hso
  go_wp2_with fail
  refine Calls.mono (index_own w1 gs m.sc s.stack v i HCL.out hs HI.out HNO.out) ?_
  rintro e w2 ⟨rfl, rfl⟩
  go_wp2_with fail
  have hcl2 := clone_own B w1 gs i (m.sc - i) (s.stack.drop i) (fun j x hj => HCL.out (i + j) x (by rw [List.getElem?_drop] at hj; exact hj)) (by rw [List.length_drop]; omega) (by rw [List.length_drop]; omega)
  rw [List.length_drop] at hcl2
  refine Calls.mono hcl2 ?_
  rintro e w2 ⟨gc, cc, rfl, hgc, hown2, b2⟩
  clear hcl2
  have h2 := H1.out.below b2
  have c0' := h2.cells
  obtain ⟨d0, d1, d2, d3, d4, d5, d6, df⟩ := h2.cells
  rw [HSO.out] at d4
  have hzb := b2.size
  have HF2 := Lib.hid h2
  have HO2 := Lib.hid hown2
  have HB2 := Lib.hid b2
  have hbw2 : b < w2.heap.size := by omega
  clear h2 hown2 b2 c0' c0 c1 c2 c3 c4 c5 c6 cf
  go_upto_region 4 with fail
  obtain ⟨w3, hw3⟩ : ∃ w3, w3 = w2.setCell ⟨b, 4, none⟩ (.slice (some ⟨gs, 0, none⟩) i m.sc) := ⟨_, rfl⟩
  have h3 : FM B n w3 b m { s with stack := s.stack.take i } o := by
    have h := HF2.out.set_cut i hii2 (by rw [HSO.out]; exact fun e => by cases e)
    rw [HSO.out] at h
    rw [hw3]; exact h
  have hm3 : Mods (fun k => k = b) w2 w3 := by rw [hw3]; exact (Mods.refl (fun k => k = b) w2).setCell (p := ⟨b, 4, none⟩) (fun _ => rfl) _
  have hown3 := own_kept HO2.out hm3 (fun k hk e => by have := Option.some.inj hk; simp only at this; have e : k = b := e; omega)
  rw [← hw3]
  clear hw3
  have HF3 := Lib.hid h3
  have HM3 := Lib.hid hm3
  have HO3 := Lib.hid hown3
  clear h3 hm3 hown3 d0 d1 d2 d3 d4 d5 d6 df
  go_wp2_with fail
  have hsrt := sort_own w1.heap.size w3 gc cc (s.stack.drop i) (by rw [List.length_drop]; exact HO3.out) (by rw [List.length_drop]; omega)
  rw [List.length_drop] at hsrt
  refine Calls.mono hsrt ?_
  rintro e w4 ⟨rfl, c, hperm, hpw, hlen, hown4, hm4⟩
  clear hsrt
  have hgcF : ¬ Foot m b gc := fun hF => by have := (H1.out.lt gc hF).2; omega
  have hgcR : ¬ Rows m gc := fun hR => by have := H1.out.rows_lt gc hR; omega
  have h4 := HF3.out.keep hm4 (fun k hk hF => by obtain rfl : k = gc := hk; exact hgcF hF) (fun k hk hR => by obtain rfl : k = gc := hk; exact hgcR hR)
  have HF4 := Lib.hid h4
  have HM4 := Lib.hid hm4
  have HO4 := Lib.hid hown4
  have HPE := Lib.hid hperm
  have HPW := Lib.hid hpw
  have HLE := Lib.hid hlen
  have HGC := Lib.hid (And.intro hgcF hgcR)
  obtain ⟨L, hL⟩ : ∃ L, s.stack.length - i = L := ⟨_, rfl⟩
  have hcL : c.length = L := by omega
  have HST := Lib.hid (show ofUp o (c.take 0) (s.comps.length : Int) = o from by funext y; simp [ofUp])
  have hLl : L ≤ 1000000 := by omega
  rw [hL] at HO4 ⊢
  clear h4 hm4 hown4 hperm hpw hlen hgcF hgcR
  go_wp2_with fail
  go_loopw [49] (fun iv wr => ∃ k : Nat, iv = .int .i64 k ∧ k ≤ L ∧ FM B n wr b m { s with stack := s.stack.take i } (ofUp o (c.take k) (s.comps.length : Int)) ∧ Mods (fun k => k = m.gO) w4 wr) (fun iv _ => L - (intOf iv).toNat)
  case atStart => exact ⟨0, rfl, Nat.zero_le _, by rw [HST.out]; exact HF4.out, Mods.refl _ _⟩
  case round =>
    obtain ⟨k, rfl, hk, hfr, hmr⟩ := hrel
    have HFR := Lib.hid hfr
    have HMR := Lib.hid hmr
    have HOR := Lib.hid (own_kept HO4.out hmr (fun k hk e => by
      obtain rfl : gc = k := Option.some.inj hk
      exact HGC.out.1 (.inr (.inr (.inr (.inl e))))))
    obtain ⟨d0, d1, d2, d3, d4, d5, d6, df⟩ := hfr.cells
    by_cases hlt : k < L
    · obtain ⟨x, hx⟩ : ∃ x, c[k]? = some x := ⟨_, List.getElem?_eq_getElem (by omega)⟩
      have hxn : x < n := HSN.out x (List.mem_of_mem_drop ((HPE.out.mem_iff).1 (List.mem_of_getElem? hx)))
      obtain ⟨g', eg, _, _, _, hcx⟩ := rowcell HOR.out (by omega)
      obtain rfl : gc = g' := by simpa using eg
      have x0 := (hcx k _ (iv_get c k x hx)).1
      obtain ⟨k0, f0⟩ := row_cell hfr.ho x hxn
      have hkl : (k : Int) < (L : Int) := by omega
      have hxi : (x : Int) < (n : Int) := by omega
      have HX := Lib.hid hx
      clear hfr hmr hcx eg hx
      go_wp2_with fail
      go_still_tail 11, (by kernel_rfl)
      go_wp2_with fail
      go_roundw
      case rel => exact ⟨k + 1, by go_num, by omega, by
        have h := HFR.out.set_of x (s.comps.length : Int)
        rw [ofUp_step o c k x _ HX.out] at h
        exact h.below (Below.refl _ _).drew, (HMR.out.setCell (p := ⟨m.gO, x, none⟩) (fun _ => rfl) _).drew⟩
      case measure => simp [intOf]; omega
    · obtain rfl : k = L := by omega
      have hkl : ¬ ((k : Nat) : Int) < (k : Int) := by omega
      have hct : c.take k = c := List.take_of_length_le (by omega)
      rw [hct] at HFR
      have hrow0 := HOR.out
      obtain rfl : c.length = k := by omega
      have hBg : B ≤ gc := by have := HB1.out.size; omega
      have hrow1 : wr.ownsRow B 3 1 (.slice (some ⟨gc, 0, none⟩) c.length cc) c.length (iv c) := own_base hrow0 (fun k hk => by have := Option.some.inj hk; simp only at this; omega)
      have HROW := Lib.hid hrow1
      have HCO := Lib.hid HFR.out.cmp
      have hbwr := heap_lt HFR.out.blk
      have HSX := Lib.hid (show some b ≠ (Value.slice m.co s.comps.length m.cc).ownBlock from fun e => by
        cases hso : m.co with
        | none => rw [hso] at e; cases e
        | some a => rw [hso] at e; exact (HFR.out.bne.2.2.2.2 a hso).1 (Option.some.inj e).symm)
      have hBw : B ≤ wr.heap.size := by have := HMR.out.size; have := HM4.out.size; have := HM3.out.size; have := HB1.out.size; omega
      clear hfr hmr hrow0 hrow1
      go_wp2_with (refine wpList_append_lies _ (by rfl) (.tmp 69) (.tmp 71) 90 (by rfl) B 87 i0 _ 1 24 Tryz.underlying90 hii hz0 hz1 hz2 rfl (by decide) (.slice m.co s.comps.length m.cc) s.comps.length (hdrs m.R s.comps) (by rfl) (by exact HCO.out.alloc _) ⟨wr.heap.size, 0, none⟩ 1 1 [.slice (some ⟨gc, 0, none⟩) c.length cc] (by rfl) (by rfl) (World.news_of_block (cs := #[.slice (some ⟨gc, 0, none⟩) c.length cc]) (t := 87) (fr := (0, 0)) (heap_alloc_new wr _)) (by simp [Value.oneCell']) (by omega) (by unfold maxLen; omega) (by omega) (by simp; omega) (wr.heap.size + 1) (by simp) ?_; intro gg cg w6 hown hgrow hat hlt6; have HG := Lib.hid (And.intro hown (And.intro hgrow hat)); have y6 := (hgrow.cell_far ⟨b, 6, none⟩ (by simp; omega) (HSX.out)).trans ((World.cell?_alloc_some _ _ _ (by rw [d6]; rfl)).trans d6); have z6 := (hgrow.frozen_far ⟨b, 6, none⟩ (by simp; omega) (HSX.out)).trans (bcell ((Below.refl _ _).alloc (Nat.le_refl _) _) |>.2 b 6 hbwr |>.trans (HFR.out.cells.2.2.2.2.2.2.2 6)); clear hown hgrow hat)
      have hend := HFR.out.set_comps (c := c) HROW.out (by
        refine ⟨fun e => HGC.out.1 (.inr (.inl e)), fun e => HGC.out.1 (.inr (.inr (.inl e))), fun e => HGC.out.1 (.inr (.inr (.inr (.inl e))))⟩) (fun a ha e => HGC.out.1 (.inr (.inr (.inr (.inr (.inl ⟨a, ha, e⟩)))))) HG.out.1 HG.out.2.1 HG.out.2.2
      obtain ⟨h7, hgg7, hm7⟩ := hend
      have hx4 := HM4.out.size
      have hx3 := HM3.out.size
      have hx1 := HB1.out.size
      have hxr := HMR.out.size
      go_end0
      refine ⟨rfl, c, HPE.out, HPW.out, gg, ⟨cg, some ⟨gc, 0, none⟩, cc, h7.ofc _⟩, ?_, ?_⟩
      · rcases hgg7 with e | e
        · exact .inl e
        · exact .inr (by omega)
      · refine (((((Mods.of_below (S := Foot m b) HB1.out).then (Mods.of_below (S := fun _ => False) HB2.out) (fun _ _ h => h.elim)).then HM3.out (fun _ _ e => .inl e)).then HM4.out (fun k hk e => ?_)).then HMR.out (fun _ _ e => .inr (.inr (.inr (.inl e))))).then hm7 (fun _ _ h => h)
        have e : k = gc := e
        omega
end Go.Proofs.YtkgjfagejnppbaaGreatDoor.K

/- What holds while a graph is gone through. -/
namespace Go.Proofs.YtkgjfagejnppbaaGreatDoor.K
open Go.RowKit M T
set_option linter.unusedVariables false
set_option linter.unusedSimpArgs false

/-- how many have no number yet -/
def unv : Nat → (Nat → Nat) → Nat
  | 0, _ => 0
  | n + 1, f => unv n f + if f n = 0 then 1 else 0
theorem unv_upd (n : Nat) (f : Nat → Nat) (w x : Nat) (hw : w < n) (h0 : f w = 0) (hx : x ≠ 0) : unv n (upd f w x) + 1 = unv n f := by
  have aux : ∀ k, k ≤ w → unv k (upd f w x) = unv k f := by
    intro k
    induction k with
    | zero => intro _; rfl
    | succ k ih =>
      intro hk
      simp only [unv]
      rw [ih (by omega), upd_other f x (show k ≠ w by omega)]
  induction n with
  | zero => omega
  | succ n ih =>
    simp only [unv]
    by_cases e : n = w
    · subst e
      rw [aux n (Nat.le_refl _), upd_same, h0, if_neg hx, if_pos rfl]
    · rw [upd_other f x e]
      have := ih (by omega)
      omega
theorem unv_zero (n : Nat) : unv n (fun _ => 0) = n := by
  induction n with
  | zero => rfl
  | succ n ih => simp [unv, ih]

/-- edges in memory, below B -/
structure EdAt (B : Nat) (w : World) (eo : Option Addr) (n ec : Nat) (E : Nat → List Int) : Prop where
  le : n ≤ ec ∧ ec ≤ maxLen
  row : ∀ i, i < n → ∃ g off ro rc, eo = some ⟨g, off, none⟩ ∧ g < B ∧ w.cell? ⟨g, off + i, none⟩ = some (.slice ro (E i).length rc) ∧ (E i).length ≤ rc ∧ rc ≤ maxLen ∧
    ∀ j x, (E i)[j]? = some x → ∃ p po, ro = some ⟨p, po, none⟩ ∧ p < B ∧ w.cell? ⟨p, po + j, none⟩ = some (.int .i64 x)
theorem EdAt.below {B : Nat} {w w1 : World} {eo : Option Addr} {n ec : Nat} {E : Nat → List Int} (h : EdAt B w eo n ec E) (hb : Below B w w1) : EdAt B w1 eo n ec E := by
  refine ⟨h.le, fun i hi => ?_⟩
  obtain ⟨g, off, ro, rc, e, hg, hc, h1, h2, hx⟩ := h.row i hi
  refine ⟨g, off, ro, rc, e, hg, (hb.cell (p := ⟨g, off + i, none⟩) hg).trans hc, h1, h2, fun j x hj => ?_⟩
  obtain ⟨p, po, e2, hp, hc2⟩ := hx j x hj
  exact ⟨p, po, e2, hp, (hb.cell (p := ⟨p, po + j, none⟩) hp).trans hc2⟩

def ofI (s : St) : Nat → Int := fun v => match s.ofc v with
  | none => -1
  | some i => (i : Int)
theorem ofI_pop (s : St) (v : Nat) (c st : List Nat) : ofUp (ofI s) c (s.comps.length : Int) = ofI (s.pop v c st) := by
  funext y
  show ofUp (ofI s) c (s.comps.length : Int) y = match (if y ∈ c then some s.comps.length else s.ofc y) with
    | none => -1
    | some i => (i : Int)
  unfold ofUp
  by_cases h : y ∈ c
  · rw [if_pos h, if_pos h]
  · rw [if_neg h, if_neg h]; rfl
theorem ofI_some {s : St} {v i : Nat} (h : s.ofc v = some i) : ofI s v = (i : Int) := by unfold ofI; rw [h]
theorem ofI_none {s : St} {v : Nat} (h : s.ofc v = none) : ofI s v = -1 := by unfold ofI; rw [h]

def cellsF (l : List (Nat × Nat)) : List Value := l.flatMap fun f => [.int .i64 (f.1 : Int), .int .i64 (f.2 : Int)]
theorem cellsF_append (l m : List (Nat × Nat)) : cellsF (l ++ m) = cellsF l ++ cellsF m := by simp [cellsF]
theorem cellsF_take (l : List (Nat × Nat)) (i : Nat) : cellsF (l.take i) = (cellsF l).take (i * 2) := by
  induction l generalizing i with
  | nil => simp [cellsF]
  | cons x l ih =>
    cases i with
    | zero => simp [cellsF]
    | succ i =>
      have := ih i
      simp only [cellsF, List.take_succ_cons, List.flatMap_cons] at this ⊢
      rw [this, show (i + 1) * 2 = i * 2 + 2 by omega]
      rfl
theorem cellsF_get (l : List (Nat × Nat)) (i : Nat) (f : Nat × Nat) (h : l[i]? = some f) : (cellsF l)[i * 2]? = some (.int .i64 (f.1 : Int)) ∧ (cellsF l)[i * 2 + 1]? = some (.int .i64 (f.2 : Int)) := by
  induction l generalizing i with
  | nil => simp at h
  | cons y l ih =>
    cases i with
    | zero => simp at h; subst h; exact ⟨rfl, rfl⟩
    | succ i =>
      have := ih i (by simpa using h)
      rw [show (i + 1) * 2 = i * 2 + 2 by omega]
      exact this
theorem cellsF_set (l : List (Nat × Nat)) (i v a : Nat) (h : l[i]? = some (v, a)) (x : Nat) : (cellsF l).set (i * 2 + 1) (.int .i64 (x : Int)) = cellsF (l.set i (v, x)) := by
  induction l generalizing i with
  | nil => simp at h
  | cons y l ih =>
    cases i with
    | zero => simp at h; subst h; rfl
    | succ i =>
      have := ih i (by simpa using h)
      rw [show (i + 1) * 2 + 1 = (i * 2 + 1) + 2 by omega]
      show y.1 |> fun _ => ([Value.int .i64 (y.1 : Int), .int .i64 (y.2 : Int)] ++ cellsF l).set (i * 2 + 1 + 2) _ = [Value.int .i64 (y.1 : Int), .int .i64 (y.2 : Int)] ++ cellsF (l.set i (v, x))
      rw [← this]
      rfl
theorem own_setcell {w : World} {B : Nat} {e : TypeId} {size g n cap : Nat} {xs : List Value} (h : w.ownsRow B e size (.slice (some ⟨g, 0, none⟩) n cap) n xs) (j : Nat) (u : Value) :
    (w.setCell ⟨g, j, none⟩ u).ownsRow B e size (.slice (some ⟨g, 0, none⟩) n cap) n (xs.set j u) := by
  refine ⟨by rw [List.length_set]; exact h.1, ?_⟩
  rcases h.2 with ⟨h0, _⟩ | ⟨g', c, cur, e0, hb, hg, hnc, hm, hs, ht⟩
  · cases h0
  · cases e0
    refine .inr ⟨g, cap, cur.setIfInBounds j u, rfl, hb, ?_, hnc, hm, ?_, ?_⟩
    · have := heap_set w g j u g _ _ _ hg
      rwa [if_pos rfl] at this
    · simpa using hs
    · rw [← ht, Array.toList_setIfInBounds, List.take_set]

/-- all that holds at the head of a round; fr: the last one first -/
structure WK (E : Nat → List Int) (n B : Nat) (W0 : World) (s0 : St) (eo : Option Addr) (ec : Nat) (w : World) (b : Nat) (m : Lay) (s : St) (fr : List (Nat × Nat)) (fo : Option Addr) (fc : Nat) : Prop where
  fm : FM B n w b m s (ofI s)
  inv : Inv E n s fr
  he : m.eo = eo ∧ m.ec = ec
  fown : w.ownsRow B 179 2 (.slice fo fr.length fc) fr.length (cellsF fr.reverse)
  cnt : s.comps.length + s.stack.length ≤ s.next ∧ s.next + unv n s.num = n ∧ fr.length + unv n s.num ≤ n
  bel : Below B W0 w
  mono : ∀ v, s0.num v ≠ 0 → s.num v ≠ 0
section
variable {E : Nat → List Int} {n B : Nat} {W0 w w1 : World} {s0 s : St} {eo : Option Addr} {ec b : Nat} {m : Lay} {fr : List (Nat × Nat)} {fo : Option Addr} {fc : Nat}
/-- frames lie apart -/
theorem frame_apart {w : World} {B n : Nat} {b : Nat} {m : Lay} {s : St} {o : Nat → Int} (h : FM B n w b m s o) {g : Nat} {cur : Array Value} {fr : Nat × Nat} (hg : w.heap[g]? = some (.cells cur 179 fr)) : ¬ Foot m b g ∧ ¬ Rows m g := by
  refine ⟨?_, ?_⟩
  · rintro (e | e | e | e | ⟨a, ha, e⟩ | ⟨a, ha, e⟩)
    · rw [e, h.blk] at hg; simp at hg
    · rw [e, h.hn] at hg; simp at hg
    · rw [e, h.hl] at hg; simp at hg
    · rw [e, h.ho] at hg; simp at hg
    · obtain ⟨cur', hh, _⟩ := own_heap h.stk a ha; rw [e, hh] at hg; simp at hg
    · obtain ⟨cur', hh, _⟩ := own_heap h.cmp a ha; rw [e, hh] at hg; simp at hg
  · rintro ⟨r, hr, a, ha, e⟩
    obtain ⟨i, hi⟩ := List.mem_iff_getElem?.1 hr
    have hil : i < s.comps.length := by have := (List.getElem?_eq_some_iff.1 hi).1; rw [← h.rl]; exact this
    obtain ⟨c, hc⟩ : ∃ c, s.comps[i]? = some c := ⟨_, List.getElem?_eq_getElem hil⟩
    obtain ⟨cur', hh, _⟩ := own_heap (h.row i c r hc hi) a ha
    rw [e, hh] at hg; simp at hg
theorem WK.fapart (h : WK E n B W0 s0 eo ec w b m s fr fo fc) : ∀ a, fo = some a → ¬ Foot m b a.block ∧ ¬ Rows m a.block := fun a ha => by
  obtain ⟨cur, hg, _⟩ := own_heap h.fown a ha
  exact frame_apart h.fm hg
theorem WK.below (h : WK E n B W0 s0 eo ec w b m s fr fo fc) (hb : Below w.heap.size w w1) : WK E n B W0 s0 eo ec w1 b m s fr fo fc := by
  have hB := (h.fm.lt b (.inl rfl))
  exact ⟨h.fm.below hb, h.inv, h.he, own_kept h.fown (Mods.of_below (S := fun _ => False) hb) (fun _ _ h => h), h.cnt, h.bel.trans (hb.mono (by omega)), h.mono⟩
end
/-- the stack, at one of its nodes -/
theorem split_at {E : Nat → List Int} {n : Nat} {s : St} {gr : List Nat} (h : I0 E n s gr) {i v : Nat} (hi : s.stack[i]? = some v) :
    (∀ y, y ∈ s.stack.drop i ↔ y ∈ s.stack ∧ s.num v ≤ s.num y) ∧ (∀ y, y ∈ s.stack.take i ↔ y ∈ s.stack ∧ s.num y < s.num v) ∧ ((s.stack.take i).Pairwise fun a b => s.num a < s.num b) ∧ (s.stack.drop i).Nodup ∧ ∀ (j x : Nat), j < i → s.stack[j]? = some x → x ≠ v := by
  have hil := (List.getElem?_eq_some_iff.1 hi).1
  have hsp : s.stack.take i ++ s.stack.drop i = s.stack := List.take_append_drop _ _
  have hdr : s.stack.drop i = v :: s.stack.drop (i + 1) := by rw [List.drop_eq_getElem_cons hil, (List.getElem?_eq_some_iff.1 hi).2]
  have hpw := h.pw
  rw [← hsp] at hpw
  obtain ⟨p1, p2, p3⟩ := List.pairwise_append.1 hpw
  have hv : v ∈ s.stack.drop i := by rw [hdr]; exact List.mem_cons_self
  have hlow : ∀ y ∈ s.stack.take i, s.num y < s.num v := fun y hy => p3 y hy v hv
  have hhigh : ∀ y ∈ s.stack.drop i, s.num v ≤ s.num y := fun y hy => by
    rw [hdr] at hy p2
    rcases List.mem_cons.1 hy with rfl | hy
    · exact Nat.le_refl _
    · exact Nat.le_of_lt ((List.pairwise_cons.1 p2).1 y hy)
  have hmem : ∀ y ∈ s.stack, y ∈ s.stack.take i ∨ y ∈ s.stack.drop i := fun y hy => List.mem_append.1 (by rw [hsp]; exact hy)
  refine ⟨fun y => ⟨fun hy => ⟨List.mem_of_mem_drop hy, hhigh y hy⟩, fun ⟨hy, hle⟩ => ?_⟩, fun y => ⟨fun hy => ⟨List.mem_of_mem_take hy, hlow y hy⟩, fun ⟨hy, hlt⟩ => ?_⟩, p1, ?_, fun j x hj hx e => ?_⟩
  · rcases hmem y hy with h1 | h1
    · have := hlow y h1; omega
    · exact h1
  · rcases hmem y hy with h1 | h1
    · exact h1
    · have := hhigh y h1; omega
  · exact p2.imp (fun {a b} hab e => by rw [e] at hab; omega)
  · have h1 : x ∈ s.stack.take i := by
      have : (s.stack.take i)[j]? = some x := by rw [List.getElem?_take, if_pos hj]; exact hx
      exact List.mem_of_getElem? this
    have := hlow x h1
    rw [e] at this
    omega
theorem strict_of {l l' : List Nat} (hp : l'.Perm l) (hn : l.Nodup) (hle : l'.Pairwise (· ≤ ·)) : l'.Pairwise (· < ·) := by
  have hn' : l'.Nodup := hp.nodup_iff.2 hn
  exact (hle.and hn').imp (fun {a b} h => by omega)
theorem own_cutN {w : World} {B n cap size : Nat} {e : TypeId} {ao : Option Addr} {xs : List Value} (h : w.ownsRow B e size (.slice ao n cap) n xs) (i : Nat) (hi : i ≤ n) (ha : ao ≠ none) : w.ownsRow B e size (.slice ao i cap) i (xs.take (i * size)) := by
  have hle : i * size ≤ n * size := Nat.mul_le_mul_right _ hi
  refine ⟨by rw [List.length_take, h.1]; omega, ?_⟩
  rcases h.2 with ⟨h0, _⟩ | ⟨g, c, cur, e0, hb, hg, hnc, hm, hs, ht⟩
  · cases h0; exact absurd rfl ha
  · cases e0
    refine .inr ⟨g, cap, cur, rfl, hb, hg, by omega, hm, hs, ?_⟩
    rw [← ht, List.take_take, Nat.min_eq_left hle]
theorem rev_take (f : Nat × Nat) (rest : List (Nat × Nat)) : (f :: rest).reverse.take rest.length = rest.reverse := by
  rw [List.reverse_cons, List.take_left' (by simp)]
theorem upd_self {α : Type} (f : Nat → α) (i : Nat) : upd f i (f i) = f := by
  funext j
  by_cases e : j = i
  · subst e; exact upd_same _ _ _
  · exact upd_other _ _ e
end Go.Proofs.YtkgjfagejnppbaaGreatDoor.K
