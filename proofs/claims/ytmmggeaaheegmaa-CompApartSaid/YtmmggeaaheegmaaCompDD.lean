/- CompLong: a row of nodes, a ring of nodes. -/
import Derived.Test.YtmmggeaaheegmaaCompCC
namespace Go.Proofs.Ytmmggeaaheegmaa.K
open Go.RowKit M T
set_option linter.unusedVariables false
set_option linter.unusedSimpArgs false

def rowE (k i : Nat) : List Int := if i + 1 < k then [((i + 1 : Nat) : Int)] else []
def ringE (k i : Nat) : List Int := if i + 1 < k then [((i + 1 : Nat) : Int)] else [0]
def rowL (k : Nat) : List (List Nat) := (List.range k).map fun i => [k - 1 - i]
theorem rowL_len (k : Nat) : (rowL k).length = k := by simp [rowL]
theorem rowL_get {k i : Nat} (h : i < k) : (rowL k)[i]? = some [k - 1 - i] := by simp [rowL, h]
theorem row_edge {k u v : Nat} (h : T.Edge (rowE k) k u v) : u + 1 < k ∧ v = u + 1 := by
  obtain ⟨h1, h2, h3⟩ := h
  unfold rowE at h3
  by_cases e : u + 1 < k
  · rw [if_pos e, List.mem_singleton] at h3
    exact ⟨e, by omega⟩
  · rw [if_neg e] at h3; cases h3
theorem row_edge_mk {k u : Nat} (h : u + 1 < k) : T.Edge (rowE k) k u (u + 1) := ⟨by omega, h, by unfold rowE; rw [if_pos h]; simp⟩
theorem rowL_head {k i : Nat} (h : i < k) : headOf (rowL k) i = k - 1 - i := by unfold headOf; simp [List.getD, rowL_get h]
theorem row_order (k : Nat) : InOrder (rowE k) k (rowL k) (fun v => k - 1 - v) := by
  refine ⟨⟨fun v hv => ⟨[k - 1 - (k - 1 - v)], rowL_get (by omega), by rw [List.mem_singleton]; omega⟩, fun i c v hc hv => ?_, fun c hc => ?_, fun u w he => ?_, fun u w hu hw e => ?_⟩, fun p p' hp hp' hlt => ?_⟩
  · have hi := (List.getElem?_eq_some_iff.1 hc).1
    rw [rowL_len] at hi
    rw [rowL_get hi] at hc
    obtain rfl := Option.some.inj hc
    rw [List.mem_singleton] at hv
    exact ⟨by omega, by show k - 1 - v = i; omega⟩
  · obtain ⟨i, _, rfl⟩ := List.mem_map.1 hc
    simp
  · have := (row_edge he).2
    show k - 1 - w ≤ k - 1 - u
    omega
  · have e : k - 1 - u = k - 1 - w := e
    obtain rfl : u = w := by omega
    exact .refl u
  · rw [rowL_len] at hp'
    have he : T.Edge (rowE k) k (k - 1 - p') (k - 1 - p' + 1) := row_edge_mk (by omega)
    exact ⟨k - 1 - p', k - 1 - p' + 1, by show k - 1 - (k - 1 - p') = p'; omega, he, by show p ≤ k - 1 - (k - 1 - p' + 1); omega, by show ¬ k - 1 - (k - 1 - p' + 1) = p'; omega⟩
theorem ring_up {k : Nat} : ∀ (d u : Nat), u + d < k → Path (ringE k) k u (u + d)
  | 0, u, _ => .refl u
  | d + 1, u, h => by
    have he : T.Edge (ringE k) k u (u + 1) := ⟨by omega, by omega, by unfold ringE; rw [if_pos (by omega)]; simp⟩
    have := ring_up (k := k) d (u + 1) (by omega)
    rw [show u + 1 + d = u + (d + 1) by omega] at this
    exact .step he this
theorem ring_path {k u w : Nat} (hu : u < k) (hw : w < k) : Path (ringE k) k u w := by
  have h1 := ring_up (k := k) (k - 1 - u) u (by omega)
  rw [show u + (k - 1 - u) = k - 1 by omega] at h1
  have he : T.Edge (ringE k) k (k - 1) 0 := ⟨by omega, by omega, by unfold ringE; rw [if_neg (by omega)]; simp⟩
  have h2 := ring_up (k := k) w 0 (by omega)
  rw [Nat.zero_add] at h2
  exact h1.trans (.step he h2)
theorem ring_order {k : Nat} (hk : 0 < k) : InOrder (ringE k) k [List.range k] (fun _ => 0) := by
  refine ⟨⟨fun v hv => ⟨List.range k, rfl, List.mem_range.2 hv⟩, fun i c v hc hv => ?_, fun c hc => ?_, fun u w he => Nat.le_refl _, fun u w hu hw e => ring_path hu hw⟩, fun p p' hp hp' hlt => ?_⟩
  · have hi := (List.getElem?_eq_some_iff.1 hc).1
    obtain rfl : i = 0 := by simp at hi; omega
    obtain rfl := Option.some.inj hc
    exact ⟨List.mem_range.1 hv, rfl⟩
  · obtain rfl := List.mem_singleton.1 hc
    exact ⟨List.pairwise_lt_range, fun e => by have := congrArg List.length e; rw [List.length_range] at this; simp at this; omega⟩
  · simp at hp'; omega

/-- a row of values -/
def tabV (n : Nat) (f : Nat → Value) : Array Value := ((List.range n).map f).toArray
theorem tabV_size (n : Nat) (f : Nat → Value) : (tabV n f).size = n := by simp [tabV]
theorem tabV_get (n : Nat) (f : Nat → Value) (v : Nat) (h : v < n) : (tabV n f)[v]? = some (f v) := by simp [tabV, h]
theorem tabV_set (n : Nat) (f : Nat → Value) (v : Nat) (x : Value) : (tabV n f).setIfInBounds v x = tabV n (upd f v x) := by
  apply Array.ext_getElem?
  intro j
  rw [Array.getElem?_setIfInBounds]
  by_cases hj : j < n
  · rw [tabV_get n _ j hj, tabV_get n _ j hj, tabV_size]
    by_cases e : v = j
    · subst e; simp [upd_same, hj]
    · rw [if_neg e, upd_other f x (fun e2 => e e2.symm)]
  · have h1 : (tabV n f)[j]? = none := by rw [Array.getElem?_eq_none_iff, tabV_size]; omega
    have h2 : (tabV n (upd f v x))[j]? = none := by rw [Array.getElem?_eq_none_iff, tabV_size]; omega
    rw [h1, h2, tabV_size]
    by_cases e : v = j
    · subst e; simp [hj]
    · rw [if_neg e]
theorem made_tabV (n : Nat) : madeCells (Value.slice none 0 0).cells n = tabV n fun _ => .slice none 0 0 := by
  apply Array.ext_getElem?
  intro j
  by_cases hj : j < n
  · rw [tabV_get n _ j hj]
    simp [madeCells, Value.cells, hj, Nat.mod_one]
  · have h2 : (tabV n fun _ => .slice none 0 0)[j]? = none := by rw [Array.getElem?_eq_none_iff, tabV_size]; omega
    rw [h2, Array.getElem?_eq_none_iff]
    simp [madeCells]; omega
theorem make_rows (n : Nat) (hn : n ≤ 10000) (w : World) : (Instr.makeSlice 22 (.int .i64 (n : Int)) (.int .i64 (n : Int))).run Try.prog w = .ok (.slice (some ⟨w.heap.size, 0, none⟩) n n) (w.alloc (.cells (tabV n fun _ => .slice none 0 0) 26)) := by
  obtain ⟨i0, hi, hz0, hz1, hz2⟩ := info_parts info_ints
  have h := run_make (P := Try.prog) w 22 26 i0 _ Try.underlying22 hi hz0 .i64 .i64 (n : Int) (n : Int) (by omega) (Int.le_refl _) (by rw [hz2]; omega) (by omega)
  simp only [Int.toNat_natCast, hz1, Nat.mul_one] at h
  rw [made_tabV] at h
  exact h
/-- edges that the call lays itself, none of them or one a node -/
structure GL (B : Nat) (W0 w : World) (ge k : Nat) (E : Nat → List Int) : Prop where
  bel : Below B W0 w
  hB : B ≤ ge
  tb : ∃ f, w.heap[ge]? = some (.cells (tabV k f) 26 (0, 0)) ∧ ∀ i, i < k → (E i = [] ∧ f i = .slice none 0 0) ∨ ∃ g x, E i = [x] ∧ f i = .slice (some ⟨g, 0, none⟩) 1 1 ∧ w.heap[g]? = some (.cells #[.int .i64 x] 3 (0, 0))
theorem GL.ed {B : Nat} {W0 w : World} {ge k : Nat} {E : Nat → List Int} (h : GL B W0 w ge k E) (hk : k ≤ 10000) : EdAt w.heap.size w (some ⟨ge, 0, none⟩) k k E := by
  obtain ⟨f, hf, hr⟩ := h.tb
  refine edAt_lit hf k E hk fun i hi => ?_
  rw [tabV_get k f i hi]
  rcases hr i hi with ⟨e1, e2⟩ | ⟨g, x, e1, e2, hg⟩
  · exact .inl ⟨e1, by rw [e2]⟩
  · refine .inr ⟨g, by rw [e2, e1]; rfl, ?_, by rw [e1]; simp⟩
    rw [e1]; exact hg
theorem GL.below {B : Nat} {W0 w w1 : World} {ge k : Nat} {E : Nat → List Int} (h : GL B W0 w ge k E) (hb : Below w.heap.size w w1) (hB : B ≤ w.heap.size) : GL B W0 w1 ge k E := by
  obtain ⟨f, hf, hr⟩ := h.tb
  have hm : Mods (fun _ => False) w w1 := Mods.of_below hb
  refine ⟨h.bel.trans (hb.mono hB), h.hB, f, hm.heap hf (fun h => h), fun i hi => ?_⟩
  rcases hr i hi with e | ⟨g, x, e1, e2, hg⟩
  · exact .inl e
  · exact .inr ⟨g, x, e1, e2, hm.heap hg (fun h => h)⟩
theorem GL.cell {B : Nat} {W0 w : World} {ge k : Nat} {E : Nat → List Int} (h : GL B W0 w ge k E) (i : Nat) (hi : i < k) : (∃ v, w.cell? ⟨ge, i, none⟩ = some v) ∧ w.frozen? ⟨ge, i, none⟩ = false ∧ ge < w.heap.size := by
  obtain ⟨f, hf, _⟩ := h.tb
  exact ⟨⟨f i, (cell_of_row w ge i _ _ (0, 0) hf).trans (tabV_get k f i hi)⟩, by simp [World.frozen?, hf], heap_lt hf⟩
/-- one edge more: a new row, and its header -/
theorem GL.set {B : Nat} {W0 w : World} {ge k : Nat} {E : Nat → List Int} (h : GL B W0 w ge k E) (i : Nat) (x : Int) : GL B W0 ((w.alloc (.cells #[.int .i64 x] 3)).setCell ⟨ge, i, none⟩ (.slice (some ⟨w.heap.size, 0, none⟩) 1 1)) ge k (upd E i [x]) := by
  obtain ⟨f, hf, hr⟩ := h.tb
  have hge := heap_lt hf
  have hB : B ≤ w.heap.size := Nat.le_trans h.hB (Nat.le_of_lt hge)
  have h1 : (w.alloc (.cells #[.int .i64 x] 3)).heap[ge]? = some (.cells (tabV k f) 26 (0, 0)) := by rw [heap_al, if_neg (by omega)]; exact hf
  have hs := fun j => heap_set (w.alloc (.cells #[.int .i64 x] 3)) ge i (.slice (some ⟨w.heap.size, 0, none⟩) 1 1) j _ _ _ h1
  refine ⟨(h.bel.alloc hB _).setCell (p := ⟨ge, i, none⟩) h.hB _, h.hB, upd f i (.slice (some ⟨w.heap.size, 0, none⟩) 1 1), ?_, fun j hj => ?_⟩
  · rw [hs ge, if_pos rfl, tabV_set]
  · unfold upd
    by_cases e : j = i
    · rw [if_pos e, if_pos e]
      refine .inr ⟨w.heap.size, x, rfl, rfl, ?_⟩
      rw [hs, if_neg (by omega), heap_al, if_pos rfl]
    · rw [if_neg e, if_neg e]
      rcases hr j hj with e1 | ⟨g, y, e1, e2, hg⟩
      · exact .inl e1
      · refine .inr ⟨g, y, e1, e2, ?_⟩
        have hgl := heap_lt hg
        rw [hs, if_neg (fun e => by rw [e, hf] at hg; simp at hg), heap_al, if_neg (by omega)]
        exact hg
theorem GL.set2 {B : Nat} {W0 w : World} {ge k : Nat} {E : Nat → List Int} (h : GL B W0 w ge k E) (i : Nat) (x : Int) : GL B W0 ((w.setCell ⟨ge, i, none⟩ (.slice (some ⟨w.heap.size, 0, none⟩) 1 1)).alloc (.cells #[.int .i64 x] 3)) ge k (upd E i [x]) := by
  have hge : ge < w.heap.size := by obtain ⟨f, hf, _⟩ := h.tb; exact heap_lt hf
  have := h.set i x
  rwa [World.setCell_alloc_past _ _ _ _ hge] at this
theorem GL.congr {B : Nat} {W0 w : World} {ge k : Nat} {E E' : Nat → List Int} (h : GL B W0 w ge k E) (e : ∀ i, i < k → E i = E' i) : GL B W0 w ge k E' := by
  obtain ⟨f, hf, hr⟩ := h.tb
  exact ⟨h.bel, h.hB, f, hf, fun i hi => by rw [← e i hi]; exact hr i hi⟩
/-- the row, as far as it is laid -/
def partE (i j : Nat) : List Int := if j < i then [((j + 1 : Nat) : Int)] else []
theorem part_step (i : Nat) : upd (partE i) i [(i : Int) + 1] = partE (i + 1) := by
  funext j
  unfold upd partE
  by_cases e : j = i
  · subst e; rw [if_pos rfl, if_pos (by omega)]; simp
  · rw [if_neg e]
    by_cases e2 : j < i
    · rw [if_pos e2, if_pos (by omega)]
    · rw [if_neg e2, if_neg (by omega)]
theorem part_row (k : Nat) (hk : 1 ≤ k) : partE (k - 1) = rowE k := by
  funext j
  unfold partE rowE
  by_cases e : j < k - 1
  · rw [if_pos e, if_pos (by omega)]
  · rw [if_neg e, if_neg (by omega)]
theorem row_ring (k : Nat) (hk : 1 ≤ k) (i : Nat) (hi : i < k) : upd (rowE k) (k - 1) [0] i = ringE k i := by
  unfold upd rowE ringE
  by_cases e : i = k - 1
  · rw [if_pos e, if_neg (by omega)]
  · rw [if_neg e, if_pos (by omega), if_pos (by omega)]
end Go.Proofs.Ytmmggeaaheegmaa.K
