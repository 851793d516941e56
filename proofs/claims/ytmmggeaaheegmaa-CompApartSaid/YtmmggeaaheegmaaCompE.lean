/- A finder whose stack is cut, whose components grow; the contracts of leave. -/
import Derived.Test.YtmmggeaaheegmaaCompD
import Derived.Test.YtmmggeaaheegmaaCompC
namespace Go.Proofs.Ytmmggeaaheegmaa.K
open Go.RowKit M T
set_option linter.unusedVariables false
set_option linter.unusedSimpArgs false

theorem below_dn (B : Nat) (w : World) (k : Nat) : Below B w (w.drewN k) := ⟨rfl, rfl, rfl, Nat.le_refl _, fun _ _ => rfl⟩
theorem iv_take (l : List Nat) (i : Nat) : iv (l.take i) = (iv l).take i := by simp [iv, List.map_take]
theorem own_cut {w : World} {B n cap : Nat} {e : TypeId} {ao : Option Addr} {xs : List Value} (h : w.ownsRow B e 1 (.slice ao n cap) n xs) (i : Nat) (hi : i ≤ n) (ha : ao ≠ none) : w.ownsRow B e 1 (.slice ao i cap) i (xs.take i) := by
  refine ⟨by rw [List.length_take, h.1]; omega, ?_⟩
  rcases h.2 with ⟨h0, _⟩ | ⟨g, c, cur, e0, hb, hg, hnc, hm, hs, ht⟩
  · cases h0; exact absurd rfl ha
  · cases e0
    refine .inr ⟨g, cap, cur, rfl, hb, hg, by omega, hm, hs, ?_⟩
    rw [← ht, List.take_take, Nat.mul_one, Nat.mul_one, Nat.min_eq_left hi]
theorem rowcell {w : World} {B n : Nat} {e : TypeId} {size : Nat} {ao : Option Addr} {cap : Nat} {xs : List Value} (h : w.ownsRow B e size (.slice ao n cap) n xs) (hn : 0 < n) :
    ∃ g, ao = some ⟨g, 0, none⟩ ∧ g < w.heap.size ∧ n ≤ cap ∧ cap ≤ maxLen ∧ ∀ j u, xs[j]? = some u → w.cell? ⟨g, j, none⟩ = some u ∧ w.frozen? ⟨g, j, none⟩ = false := by
  rcases h.2 with ⟨_, h0⟩ | ⟨g, c, cur, e0, hb, hg, hnc, hm, hs, ht⟩
  · omega
  · cases e0
    refine ⟨g, rfl, (Array.getElem?_eq_some_iff.1 hg).1, hnc, hm, fun j u hu => ⟨?_, by simp [World.frozen?, hg]⟩⟩
    rw [cell_of_row w g j cur e (0, 0) hg, ← Array.getElem?_toList]
    rw [← ht, List.getElem?_take] at hu
    split at hu
    · exact hu
    · cases hu
theorem FM.ofc {B n : Nat} {w : World} {b : Nat} {m : Lay} {s : St} {o : Nat → Int} (h : FM B n w b m s o) (f : Nat → Option Nat) : FM B n w b m { s with ofc := f } o :=
  ⟨h.lo, h.blk, h.hn, h.hl, h.ho, h.stk, h.cmp, h.rl, h.row, h.ne, h.sne, h.rne⟩
section
variable {B n : Nat} {w w1 : World} {b : Nat} {m : Lay} {s : St} {o : Nat → Int}
theorem FM.set_cut (h : FM B n w b m s o) (i : Nat) (hi : i ≤ s.stack.length) (ha : m.so ≠ none) : FM B n (w.setCell ⟨b, 4, none⟩ (.slice m.so i m.sc)) b m { s with stack := s.stack.take i } o := by
  have hm : Mods (fun k => k = b) w (w.setCell ⟨b, 4, none⟩ (.slice m.so i m.sc)) := (Mods.refl (fun k => k = b) w).setCell (p := ⟨b, 4, none⟩) (fun _ => rfl) _
  obtain ⟨n1, n2, n3, n4, n5⟩ := h.bne
  have hlen : (s.stack.take i).length = i := by rw [List.length_take]; omega
  refine ⟨h.lo, ?_, hm.heap h.hn (fun e => n1 e.symm), hm.heap h.hl (fun e => n2 e.symm), hm.heap h.ho (fun e => n3 e.symm), ?_, h.cmp_kept hm (fun a ha e => (n5 a ha).1 e), h.rl, h.other hm (fun k hk hr => (h.rows_ne k hr).1 hk), h.ne, h.sne, h.rne⟩
  · have := heap_set w b 4 (.slice m.so i m.sc) b _ _ _ h.blk
    rw [if_pos rfl] at this
    rw [this]
    show some (Obj.cells _ _ _) = some (.cells #[_, _, _, _, .slice m.so (s.stack.take i).length m.sc, _, _] _ _)
    rw [hlen]; rfl
  · show World.ownsRow _ B _ 1 (.slice m.so (s.stack.take i).length m.sc) (s.stack.take i).length (iv (s.stack.take i))
    rw [hlen, iv_take]
    exact own_cut (h.stk_kept hm (fun a ha e => n4 a ha e)) i hi ha
theorem hdrs_append {R : List (Option Addr × Nat)} {C : List (List Nat)} (h : R.length = C.length) (r : Option Addr × Nat) (c : List Nat) : hdrs (R ++ [r]) (C ++ [c]) = hdrs R C ++ [.slice r.1 c.length r.2] := by
  unfold hdrs
  rw [List.zipWith_append h]
  rfl
theorem FM.set_comps (h : FM B n w b m s o) {w2 : World} {gg cg gc cc : Nat} {c : List Nat} {bx : Obj} (hrow : w.ownsRow B 3 1 (.slice (some ⟨gc, 0, none⟩) c.length cc) c.length (iv c)) (hc1 : gc ≠ m.gN ∧ gc ≠ m.gL ∧ gc ≠ m.gO) (hc2 : ∀ a, m.so = some a → gc ≠ a.block)
    (ho : w2.ownsRow B 26 1 (.slice (some ⟨gg, 0, none⟩) (s.comps.length + 1) cg) (s.comps.length + 1) (hdrs m.R s.comps ++ [.slice (some ⟨gc, 0, none⟩) c.length cc]))
    (hg : (w.alloc bx).grownBy w2 (Value.slice m.co s.comps.length m.cc).ownBlock) (hat : (Value.slice m.co s.comps.length m.cc).ownBlock = some gg ∨ gg = w.heap.size + 1) :
    FM B n (w2.setCell ⟨b, 6, none⟩ (.slice (some ⟨gg, 0, none⟩) (s.comps.length + 1) cg)) b { m with co := some ⟨gg, 0, none⟩, cc := cg, R := m.R ++ [(some ⟨gc, 0, none⟩, cc)] } { s with comps := s.comps ++ [c] } o ∧
      ((∃ a, m.co = some a ∧ gg = a.block) ∨ w.heap.size ≤ gg) ∧ Mods (Foot m b) w (w2.setCell ⟨b, 6, none⟩ (.slice (some ⟨gg, 0, none⟩) (s.comps.length + 1) cg)) := by
  have hM : Mods (fun k => ∃ a, m.co = some a ∧ k = a.block) w w2 := ((Mods.refl _ w).alloc bx).grown hg (fun k hk _ => by
    cases hso : m.co with
    | none => rw [hso] at hk; cases hk
    | some a => rw [hso] at hk; exact ⟨a, rfl, (Option.some.inj hk).symm⟩)
  have hgg : (∃ a, m.co = some a ∧ gg = a.block) ∨ gg = w.heap.size + 1 := by
    rcases hat with h1 | h1
    · cases hso : m.co with
      | none => rw [hso] at h1; cases h1
      | some a => rw [hso] at h1; exact .inl ⟨a, rfl, (Option.some.inj h1).symm⟩
    · exact .inr h1
  obtain ⟨n1, n2, n3, n4, n5⟩ := h.bne
  have hblk2 := hM.heap h.blk (fun ⟨a, ha, e⟩ => (n5 a ha).1 e.symm)
  have hm2 : Mods (fun k => k = b) w2 (w2.setCell ⟨b, 6, none⟩ (.slice (some ⟨gg, 0, none⟩) (s.comps.length + 1) cg)) := (Mods.refl (fun k => k = b) w2).setCell (p := ⟨b, 6, none⟩) (fun _ => rfl) _
  have hMM : Mods (fun k => k = b ∨ ∃ a, m.co = some a ∧ k = a.block) w (w2.setCell ⟨b, 6, none⟩ (.slice (some ⟨gg, 0, none⟩) (s.comps.length + 1) cg)) := (hM.mono (fun _ _ h => .inr h)).then hm2 (fun _ _ h => .inl h)
  have hgb : gg ≠ b := by
    rcases hgg with ⟨a, ha, e⟩ | e
    · rw [e]; exact (n5 a ha).1
    · have := heap_lt h.blk; omega
  obtain ⟨curc, hgc, hBc⟩ := own_heap hrow _ rfl
  have hgc : w.heap[gc]? = some (.cells curc 3 (0, 0)) := hgc
  have hgcb : gc ≠ b := fun e => by rw [e, h.blk] at hgc; simp at hgc
  have hgco : ∀ a, m.co = some a → gc ≠ a.block := fun a ha e => by
    obtain ⟨cur, hh, _⟩ := own_heap h.cmp a ha
    rw [← e, hgc] at hh; simp at hh
  refine ⟨⟨h.lo, ?_, hMM.heap h.hn ?_, hMM.heap h.hl ?_, hMM.heap h.ho ?_, h.stk_kept hMM (fun a ha => ?_), ?_, ?_, fun i c' r hc' hr => ?_, h.ne, h.sne, fun r hr a ha => ?_⟩, ?_, hMM.mono (fun k _ hk => ?_)⟩
  · have := heap_set w2 b 6 (.slice (some ⟨gg, 0, none⟩) (s.comps.length + 1) cg) b _ _ _ hblk2
    rw [if_pos rfl] at this
    rw [this]
    simp
  · rintro (e | ⟨a, ha, e⟩)
    · exact n1 e.symm
    · exact (n5 a ha).2.1 e.symm
  · rintro (e | ⟨a, ha, e⟩)
    · exact n2 e.symm
    · exact (n5 a ha).2.2.1 e.symm
  · rintro (e | ⟨a, ha, e⟩)
    · exact n3 e.symm
    · exact (n5 a ha).2.2.2.1 e.symm
  · rintro (e | ⟨a', ha', e⟩)
    · exact n4 a ha e
    · exact (n5 a' ha').2.2.2.2 a ha e.symm
  · show World.ownsRow _ B _ 1 (.slice (some ⟨gg, 0, none⟩) (s.comps ++ [c]).length cg) (s.comps ++ [c]).length (hdrs (m.R ++ [(some ⟨gc, 0, none⟩, cc)]) (s.comps ++ [c]))
    rw [List.length_append, hdrs_append h.rl]
    exact own_kept ho hm2 (fun k hk e => hgb ((Option.some.inj hk).trans e))
  · show (m.R ++ [_]).length = (s.comps ++ [c]).length
    rw [List.length_append, List.length_append, h.rl]; rfl
  · have hc2 : (s.comps ++ [c])[i]? = some c' := hc'
    have hr2 : (m.R ++ [(some ⟨gc, 0, none⟩, cc)])[i]? = some r := hr
    rcases Nat.lt_or_ge i s.comps.length with h1 | h1
    · rw [List.getElem?_append_left h1] at hc2
      rw [List.getElem?_append_left (by rw [h.rl]; exact h1)] at hr2
      exact h.other hMM (fun k hk hR => by
        obtain ⟨h1, _, _, _, _, h6⟩ := h.rows_ne k hR
        rcases hk with e | ⟨a', ha', e⟩
        · exact h1 e
        · exact h6 a' ha' e) i c' r hc2 hr2
    · rw [List.getElem?_append_right h1] at hc2
      rw [List.getElem?_append_right (by rw [h.rl]; exact h1), h.rl] at hr2
      have hi0 : i - s.comps.length = 0 := by have := (List.getElem?_eq_some_iff.1 hc2).1; simp at this; omega
      rw [hi0] at hc2 hr2
      obtain rfl : c = c' := by simpa using hc2
      obtain rfl : (some ⟨gc, 0, none⟩, cc) = r := by simpa using hr2
      refine own_kept hrow hMM (fun k hk => ?_)
      obtain rfl : gc = k := Option.some.inj hk
      rintro (e | ⟨a', ha', e⟩)
      · exact hgcb e
      · exact hgco a' ha' e
  · rcases List.mem_append.1 (show r ∈ m.R ++ [(some ⟨gc, 0, none⟩, cc)] from hr) with h1 | h1
    · exact h.rne r h1 a ha
    · obtain rfl := List.mem_singleton.1 h1
      obtain rfl := Option.some.inj ha
      exact ⟨hc1.1, hc1.2.1, hc1.2.2, hc2⟩
  · rcases hgg with h1 | h1
    · exact .inl h1
    · exact .inr (by omega)
  · rcases hk with e | e
    · exact .inl e
    · exact .inr (.inr (.inr (.inr (.inr e))))
end

set_option maxRecDepth 100000 in
set_option maxHeartbeats 400000 in
theorem leave_stay (B n : Nat) (w : World) (b : Nat) (m : Lay) (s : St) (o : Nat → Int) (h : FM B n w b m s o) (v : Nat) (hv : v < n) (hne : s.low v ≠ s.num v) :
    Calls Try.prog 30 #[.pointer (some ⟨b, 0, none⟩), .int .i64 v] w fun e w' => e = .returned (.tuple #[]) ∧ Below w.heap.size w w' := by
  obtain ⟨c0, c1, c2, c3, c4, c5, c6, cf⟩ := h.cells
  obtain ⟨k0, f0⟩ := row_cell h.hn v hv
  obtain ⟨k1, f1⟩ := row_cell h.hl v hv
  have hvn : (v : Int) < (n : Int) := by omega
  have e1 : ((s.low v : Int) != (s.num v : Int)) = true := by rw [bne_iff_ne]; omega
  clear h hne
  go_enter Try.func30, Try.ntmps30
  go_wp2_with fail
  go_quiet (fail)
  go_wp2_with fail
  exact bodyPost_ret (v := .tuple #[]) (by simp [results, Try.results30, go_sem]) rfl ⟨rfl, below_dn _ _ _⟩
end Go.Proofs.Ytmmggeaaheegmaa.K
