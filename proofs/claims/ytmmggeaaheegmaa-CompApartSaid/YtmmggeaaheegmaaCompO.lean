/- What Comps has in memory while it goes on. -/
import Derived.Test.YtmmggeaaheegmaaCompM
import Derived.Test.YtmmggeaaheegmaaCompN
namespace Go.Proofs.Ytmmggeaaheegmaa.K
open Go.RowKit M T Go.Sort
set_option linter.unusedVariables false
set_option linter.unusedSimpArgs false

/-- rows of numbers that came out -/
structure OutAt (B : Nat) (w : World) (oo : Option Addr) (oc : Nat) (R : List (Option Addr × Nat)) (L : List (List Nat)) : Prop where
  top : w.ownsRow B 26 1 (.slice oo L.length oc) L.length (hdrs R L)
  rl : R.length = L.length
  row : ∀ (i : Nat) c r, L[i]? = some c → R[i]? = some r → w.ownsRow B 3 1 (.slice r.1 c.length r.2) c.length (iv c)
theorem OutAt.nil (B : Nat) (w : World) : OutAt B w none 0 [] [] := ⟨World.ownsRow_nil _ _ _ _, rfl, fun i c r h => by simp at h⟩
theorem OutAt.lt {B : Nat} {w : World} {oo : Option Addr} {oc : Nat} {R : List (Option Addr × Nat)} {L : List (List Nat)} (h : OutAt B w oo oc R L) : (∀ a, oo = some a → ∃ cur, w.heap[a.block]? = some (.cells cur 26 (0, 0)) ∧ B ≤ a.block) ∧ ∀ r ∈ R, ∀ a, r.1 = some a → ∃ cur, w.heap[a.block]? = some (.cells cur 3 (0, 0)) ∧ B ≤ a.block := by
  refine ⟨own_heap h.top, fun r hr a ha => ?_⟩
  obtain ⟨i, hi⟩ := List.mem_iff_getElem?.1 hr
  have hil := (List.getElem?_eq_some_iff.1 hi).1
  obtain ⟨c, hc⟩ : ∃ c, L[i]? = some c := ⟨_, List.getElem?_eq_getElem (by rw [← h.rl]; exact hil)⟩
  exact own_heap (h.row i c r hc hi) a ha
theorem OutAt.keep {B : Nat} {w w1 : World} {oo : Option Addr} {oc : Nat} {R : List (Option Addr × Nat)} {L : List (List Nat)} {S : Nat → Prop} (h : OutAt B w oo oc R L) (hm : Mods S w w1) (h1 : ∀ a, oo = some a → ¬ S a.block) (h2 : ∀ r ∈ R, ∀ a, r.1 = some a → ¬ S a.block) : OutAt B w1 oo oc R L := by
  refine ⟨own_kept h.top hm (fun k hk => ?_), h.rl, fun i c r hc hr => own_kept (h.row i c r hc hr) hm (fun k hk => ?_)⟩
  · cases oo with
    | none => cases hk
    | some a => obtain rfl := Option.some.inj hk; exact h1 a rfl
  · obtain ⟨r1, r2⟩ := r
    cases r1 with
    | none => cases hk
    | some a => obtain rfl := Option.some.inj hk; exact h2 _ (List.mem_of_getElem? hr) a rfl
theorem OutAt.below {B : Nat} {w w1 : World} {oo : Option Addr} {oc : Nat} {R : List (Option Addr × Nat)} {L : List (List Nat)} (h : OutAt B w oo oc R L) (hb : Below w.heap.size w w1) : OutAt B w1 oo oc R L :=
  h.keep (Mods.of_below (S := fun _ => False) hb) (fun _ _ h => h.elim) (fun _ _ _ _ h => h.elim)
/-- one more row -/
theorem OutAt.more {B : Nat} {w w2 : World} {oo : Option Addr} {oc : Nat} {R : List (Option Addr × Nat)} {L : List (List Nat)} (h : OutAt B w oo oc R L) {gg cg gc cc : Nat} {c : List Nat} {bx : Obj}
    (hrow : w.ownsRow B 3 1 (.slice (some ⟨gc, 0, none⟩) c.length cc) c.length (iv c))
    (ho : w2.ownsRow B 26 1 (.slice (some ⟨gg, 0, none⟩) (L.length + 1) cg) (L.length + 1) (hdrs R L ++ [.slice (some ⟨gc, 0, none⟩) c.length cc]))
    (hg : (w.alloc bx).grownBy w2 (Value.slice oo L.length oc).ownBlock) :
    OutAt B w2 (some ⟨gg, 0, none⟩) cg (R ++ [(some ⟨gc, 0, none⟩, cc)]) (L ++ [c]) ∧ Mods (fun k => ∃ a, oo = some a ∧ k = a.block) w w2 := by
  have hM : Mods (fun k => ∃ a, oo = some a ∧ k = a.block) w w2 := ((Mods.refl _ w).alloc bx).grown hg (fun k hk _ => by
    cases oo with
    | none => cases hk
    | some a => exact ⟨a, rfl, (Option.some.inj hk).symm⟩)
  have hne : ∀ k cur, w.heap[k]? = some (.cells cur 3 (0, 0)) → ¬ ∃ a, oo = some a ∧ k = a.block := by
    rintro k cur hk ⟨a, ha, rfl⟩
    obtain ⟨cur', hh, _⟩ := h.lt.1 a ha
    rw [hk] at hh
    simp at hh
  refine ⟨⟨?_, by simp [h.rl], fun i c' r hc hr => ?_⟩, hM⟩
  · rw [List.length_append, hdrs_append h.rl]
    exact ho
  · rcases Nat.lt_or_ge i L.length with h1 | h1
    · rw [List.getElem?_append_left h1] at hc
      rw [List.getElem?_append_left (by rw [h.rl]; exact h1)] at hr
      refine own_kept (h.row i c' r hc hr) hM (fun k hk => ?_)
      obtain ⟨r1, r2⟩ := r
      cases r1 with
      | none => cases hk
      | some a =>
        obtain rfl := Option.some.inj hk
        obtain ⟨cur, hh, _⟩ := h.lt.2 _ (List.mem_of_getElem? hr) a rfl
        exact hne _ _ hh
    · rw [List.getElem?_append_right h1] at hc
      rw [List.getElem?_append_right (by rw [h.rl]; exact h1), h.rl] at hr
      have hi0 : i - L.length = 0 := by have := (List.getElem?_eq_some_iff.1 hc).1; simp at this; omega
      rw [hi0] at hc hr
      obtain rfl : c = c' := by simpa using hc
      obtain rfl : (some ⟨gc, 0, none⟩, cc) = r := by simpa using hr
      refine own_kept hrow hM (fun k hk => ?_)
      obtain rfl : gc = k := Option.some.inj hk
      obtain ⟨cur, hh, _⟩ := own_heap hrow _ rfl
      exact hne _ _ hh

structure CS (w1 : World) (k : Nat) (w : World) (g cap gB bc : Nat) (l : List Nat) (oo : Option Addr) (oc : Nat) (R : List (Option Addr × Nat)) (L : List (List Nat)) (cm : Nat → Bool) : Prop where
  bel : Below w1.heap.size w1 w
  lo : w1.heap.size ≤ g ∧ w1.heap.size ≤ gB ∧ w1.heap.size ≤ bc
  left : w.ownsRow w1.heap.size 3 1 (.slice (some ⟨g, 0, none⟩) l.length cap) l.length (iv l)
  come : w.heap[gB]? = some (.cells (tabB k cm) 4 (0, 0))
  cbox : w.heap[bc]? = some (.cells #[.slice (some ⟨gB, 0, none⟩) k k] 40 (0, 0))
  out : OutAt w1.heap.size w oo oc R L
  rne : ∀ r ∈ R, ∀ a, r.1 = some a → a.block ≠ g
section
variable {w1 w w2 : World} {k g cap gB bc : Nat} {l : List Nat} {oo : Option Addr} {oc : Nat} {R : List (Option Addr × Nat)} {L : List (List Nat)} {cm : Nat → Bool}
theorem CS.lt (h : CS w1 k w g cap gB bc l oo oc R L cm) : (∃ cur, w.heap[g]? = some (.cells cur 3 (0, 0))) ∧ g < w.heap.size ∧ gB < w.heap.size ∧ bc < w.heap.size := by
  obtain ⟨cur, hg, _⟩ := own_heap h.left _ rfl
  exact ⟨⟨cur, hg⟩, heap_lt hg, heap_lt h.come, heap_lt h.cbox⟩
theorem CS.ne (h : CS w1 k w g cap gB bc l oo oc R L cm) : gB ≠ bc ∧ gB ≠ g ∧ bc ≠ g ∧ (∀ a, oo = some a → a.block ≠ g ∧ a.block ≠ gB ∧ a.block ≠ bc) ∧ ∀ r ∈ R, ∀ a, r.1 = some a → a.block ≠ gB ∧ a.block ≠ bc := by
  obtain ⟨⟨cur, hg⟩, _⟩ := h.lt
  have hB := h.come
  have hb := h.cbox
  refine ⟨fun e => ?_, fun e => ?_, fun e => ?_, fun a ha => ?_, fun r hr a ha => ?_⟩
  · rw [e, hb] at hB; simp at hB
  · rw [e, hg] at hB; simp at hB
  · rw [e, hg] at hb; simp at hb
  · obtain ⟨cur', hh, _⟩ := h.out.lt.1 a ha
    refine ⟨fun e => ?_, fun e => ?_, fun e => ?_⟩
    · rw [e, hg] at hh; simp at hh
    · rw [e, hB] at hh; simp at hh
    · rw [e, hb] at hh; simp at hh
  · obtain ⟨cur', hh, _⟩ := h.out.lt.2 r hr a ha
    refine ⟨fun e => ?_, fun e => ?_⟩
    · rw [e, hB] at hh; simp at hh
    · rw [e, hb] at hh; simp at hh
theorem CS.below (h : CS w1 k w g cap gB bc l oo oc R L cm) (hb : Below w.heap.size w w2) : CS w1 k w2 g cap gB bc l oo oc R L cm := by
  have hm : Mods (fun _ => False) w w2 := Mods.of_below hb
  exact ⟨h.bel.trans (hm.below (fun _ h => h.elim) h.bel.size), h.lo, own_kept h.left hm (fun _ _ h => h), hm.heap h.come (fun h => h), hm.heap h.cbox (fun h => h), h.out.below hb, h.rne⟩
theorem CS.set_come (h : CS w1 k w g cap gB bc l oo oc R L cm) (x : Nat) : CS w1 k (w.setCell ⟨gB, x, none⟩ (.bool true)) g cap gB bc l oo oc R L (upd cm x true) := by
  have hm : Mods (fun k => k = gB) w (w.setCell ⟨gB, x, none⟩ (.bool true)) := (Mods.refl (fun k => k = gB) w).setCell (p := ⟨gB, x, none⟩) (fun _ => rfl) _
  obtain ⟨n1, n2, n3, n4, n5⟩ := h.ne
  refine ⟨h.bel.trans (hm.below (fun k hk => by rw [show k = gB from hk]; exact h.lo.2.1) h.bel.size), h.lo, own_kept h.left hm (fun k hk e => n2 (by rw [← show k = gB from e]; exact (Option.some.inj hk).symm)), ?_, hm.heap h.cbox (fun e => n1 (show bc = gB from e).symm), h.out.keep hm (fun a ha => (n4 a ha).2.1) (fun r hr a ha => (n5 r hr a ha).1), h.rne⟩
  have := heap_set w gB x (.bool true) gB _ _ _ h.come
  rw [if_pos rfl, tabB_set] at this
  exact this
theorem CS.more (h : CS w1 k w g cap gB bc l oo oc R L cm) {gg cg gc cc : Nat} {c : List Nat} {bx : Obj}
    (hrow : w.ownsRow w1.heap.size 3 1 (.slice (some ⟨gc, 0, none⟩) c.length cc) c.length (iv c)) (hgc : gc ≠ g)
    (ho : w2.ownsRow w1.heap.size 26 1 (.slice (some ⟨gg, 0, none⟩) (L.length + 1) cg) (L.length + 1) (hdrs R L ++ [.slice (some ⟨gc, 0, none⟩) c.length cc]))
    (hg : (w.alloc bx).grownBy w2 (Value.slice oo L.length oc).ownBlock) :
    CS w1 k w2 g cap gB bc l (some ⟨gg, 0, none⟩) cg (R ++ [(some ⟨gc, 0, none⟩, cc)]) (L ++ [c]) cm := by
  obtain ⟨h2, hm⟩ := h.out.more hrow ho hg
  obtain ⟨n1, n2, n3, n4, n5⟩ := h.ne
  refine ⟨h.bel.trans (hm.below (fun k hk => ?_) h.bel.size), h.lo, own_kept h.left hm (fun k hk => ?_), hm.heap h.come ?_, hm.heap h.cbox ?_, h2, fun r hr a ha => ?_⟩
  · obtain ⟨a, ha, rfl⟩ := hk
    obtain ⟨_, _, hB⟩ := h.out.lt.1 a ha
    exact hB
  · rintro ⟨a, ha, rfl⟩
    exact (n4 a ha).1 (Option.some.inj hk).symm
  · rintro ⟨a, ha, e⟩
    exact (n4 a ha).2.1 e.symm
  · rintro ⟨a, ha, e⟩
    exact (n4 a ha).2.2 e.symm
  · rcases List.mem_append.1 hr with h1 | h1
    · exact h.rne r h1 a ha
    · obtain rfl := List.mem_singleton.1 h1
      obtain rfl := Option.some.inj ha
      exact hgc
theorem CS.set_left (h : CS w1 k w g cap gB bc l oo oc R L cm) {l' : List Nat} (hm : Mods (fun k => k = g) w w2) (hl : w2.ownsRow w1.heap.size 3 1 (.slice (some ⟨g, 0, none⟩) l'.length cap) l'.length (iv l')) : CS w1 k w2 g cap gB bc l' oo oc R L cm := by
  obtain ⟨n1, n2, n3, n4, n5⟩ := h.ne
  exact ⟨h.bel.trans (hm.below (fun k hk => by rw [show k = g from hk]; exact h.lo.1) h.bel.size), h.lo, hl, hm.heap h.come (fun e => n2 e), hm.heap h.cbox (fun e => n3 e), h.out.keep hm (fun a ha => (n4 a ha).1) (fun r hr a ha => h.rne r hr a ha), h.rne⟩
end
theorem made_tabB (n : Nat) : madeCells (Value.bool false).cells n = tabB n fun _ => false := by
  apply Array.ext_getElem?
  intro j
  by_cases hj : j < n
  · rw [tabB_get n _ j hj]
    simp [madeCells, Value.cells, hj, Nat.mod_one]
  · have h2 : (tabB n fun _ => false)[j]? = none := by rw [Array.getElem?_eq_none_iff, tabB_size]; omega
    rw [h2, Array.getElem?_eq_none_iff]
    simp [madeCells]; omega
theorem info_bool : (Try.prog.info? 4).map (fun i => (i.zero, i.size, i.bytes)) = some (some (.bool false), 1, 1) := by kernel_rfl
theorem make_bools (n : Nat) (hn : n ≤ 10000) (w : World) : (Instr.makeSlice 40 (.int .i64 (n : Int)) (.int .i64 (n : Int))).run Try.prog w = .ok (.slice (some ⟨w.heap.size, 0, none⟩) n n) (w.alloc (.cells (tabB n fun _ => false) 4)) := by
  obtain ⟨i0, hi, hz0, hz1, hz2⟩ := info_parts info_bool
  have h := run_make (P := Try.prog) w 40 4 i0 _ Try.underlying40 hi hz0 .i64 .i64 (n : Int) (n : Int) (by omega) (Int.le_refl _) (by rw [hz2]; omega) (by omega)
  simp only [Int.toNat_natCast, hz1, Nat.mul_one] at h
  rw [made_tabB] at h
  exact h
/-- one number taken out -/
theorem delete_own (B : Nat) (w : World) (g cap : Nat) (l : List Nat) (i : Nat) (h : w.ownsRow B 3 1 (.slice (some ⟨g, 0, none⟩) l.length cap) l.length (iv l)) (hi : i < l.length) :
    Calls Try.prog 22 #[.slice (some ⟨g, 0, none⟩) l.length cap, .int .i64 i, .int .i64 ((i : Int) + 1)] w fun e w' => e = .returned (.slice (some ⟨g, 0, none⟩) (l.eraseIdx i).length cap) ∧ (w'.ownsRow B 3 1 (.slice (some ⟨g, 0, none⟩) (l.eraseIdx i).length cap) (l.eraseIdx i).length (iv (l.eraseIdx i)) ∧ Mods (fun k => k = g) w w') := by
  obtain ⟨zs, hzs⟩ : ∃ zs : List Int, zs = l.map fun (x : Nat) => (x : Int) := ⟨_, rfl⟩
  have hzl : zs.length = l.length := by rw [hzs, List.length_map]
  obtain ⟨hx, h2⟩ := h
  rcases h2 with ⟨h0, _⟩ | ⟨g', c', cur, e0, hB, hg, hnc, hm, hcs, htk⟩
  · cases h0
  cases e0
  rw [iv_int, ← hzs] at htk
  have hH := holds_of_blockI (ss := zs) hg (by rw [hzl]; rw [Nat.mul_one] at htk; exact htk)
  have hc := Try.slices_Delete_int g 0 cap i (i + 1) zs w hH (by omega) (by unfold maxLen at hm; omega) (by omega) (by omega)
  rw [hzl] at hc
  have hel : (l.eraseIdx i).length = l.length - (i + 1 - i) := by rw [List.length_eraseIdx_of_lt hi]; omega
  have harg : (((i + 1 : Nat) : Int)) = (i : Int) + 1 := by omega
  rw [harg] at hc
  refine hc.mono ?_
  rintro e w' ⟨he, n, rfl⟩
  obtain ⟨d, hd⟩ : ∃ d : List Int, d = zs.take i ++ zs.drop (i + 1) ++ List.replicate (i + 1 - i) 0 := ⟨_, rfl⟩
  rw [← hd]
  have hdl : d.length = l.length := by rw [hd]; simp; omega
  have hsw : putRow (Value.int .i64) (Sort.ahead w n) g 0 d.toArray = sortWorld (Value.int .i64) w g 0 n d.toArray #[] := (grow_empty _).symm
  rw [hsw]
  have htake : (d.map (Value.int .i64)).take (l.eraseIdx i).length = iv (l.eraseIdx i) := by
    have e2 : l.eraseIdx i = l.take i ++ l.drop (i + 1) := List.eraseIdx_eq_take_drop_succ ..
    rw [← List.map_take, hd, hzs, List.take_append_of_le_length (by simp; omega), List.take_of_length_le (by simp; omega), e2, iv_int]; simp only [List.map_append, List.map_take, List.map_drop]
  refine ⟨by rw [he, hel], ⟨by simp [iv], .inr ⟨g, cap, _, rfl, hB, sorted_heap _ _ hg, by omega, hm, by simp [putCells, hcs], ?_⟩⟩, (Mods.of_grown (sorted_grown _ _)).mono (fun k _ h => (Option.some.inj h).symm)⟩
  rw [Nat.mul_one, ← htake]
  have ht := sorted_take (Value.int .i64) cur d.toArray (by simp; omega)
  rw [show d.toArray.size = d.length by simp] at ht
  have ht2 : d.map (Value.int .i64) = (putCells (Value.int .i64) 0 d.toArray cur).toList.take d.length := ht.symm
  rw [ht2, List.take_take, Nat.min_eq_left (by omega)]
end Go.Proofs.Ytmmggeaaheegmaa.K
