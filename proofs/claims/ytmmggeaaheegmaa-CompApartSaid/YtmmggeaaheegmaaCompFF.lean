/- CompApart: two graphs side by side; what lies in memory. -/
import Derived.Test.YtmmggeaaheegmaaCompEE
namespace Go.Proofs.Ytmmggeaaheegmaa.K
open Go.RowKit M T
set_option linter.unusedVariables false
set_option linter.unusedSimpArgs false

def low (n : Nat) (l : List Int) : List Int := l.filter fun x => decide (x < (n : Int))
def E2 (n : Nat) (E : Nat → List Int) (i : Nat) : List Int := if i < n then low n (E i) else []
section
variable {E : Nat → List Int} {n m : Nat} {L : List (List Nat)} {q : Nat → Nat}
theorem e2_edge {u v : Nat} : T.Edge (E2 n E) (n + m) u v ↔ T.Edge E n u v := by
  unfold T.Edge E2 low
  constructor
  · rintro ⟨h1, h2, h3⟩
    by_cases e : u < n
    · rw [if_pos e, List.mem_filter, decide_eq_true_eq] at h3
      exact ⟨e, by omega, h3.1⟩
    · rw [if_neg e] at h3; cases h3
  · rintro ⟨h1, h2, h3⟩
    refine ⟨by omega, by omega, ?_⟩
    rw [if_pos h1, List.mem_filter, decide_eq_true_eq]
    exact ⟨h3, by omega⟩
theorem e2_path {u v : Nat} (h : Path E n u v) : Path (E2 n E) (n + m) u v := by
  induction h with
  | refl u => exact .refl u
  | step e _ ih => exact .step (e2_edge.2 e) ih
def L2 (n m : Nat) (L : List (List Nat)) : List (List Nat) := L ++ (List.range m).map fun i => [n + i]
theorem L2_len : (L2 n m L).length = L.length + m := by simp [L2]
theorem L2_left {i : Nat} {c : List Nat} (h : L[i]? = some c) : (L2 n m L)[i]? = some c := by
  unfold L2
  rw [List.getElem?_append_left (List.getElem?_eq_some_iff.1 h).1]
  exact h
theorem L2_right {i : Nat} (h : i < m) : (L2 n m L)[L.length + i]? = some [n + i] := by
  unfold L2
  rw [List.getElem?_append_right (by omega), Nat.add_sub_cancel_left, List.getElem?_map, List.getElem?_range h]
  rfl
theorem apart_order (h : InOrder E n L q) : InOrder (E2 n E) (n + m) (L2 n m L) (fun v => if v < n then q v else L.length + (v - n)) := by
  have hq : ∀ v, v < n → q v < L.length := fun v hv => by obtain ⟨c, hc, _⟩ := h.co.d1 v hv; exact (List.getElem?_eq_some_iff.1 hc).1
  have hget : ∀ (i : Nat) c, (L2 n m L)[i]? = some c → L[i]? = some c ∨ ∃ j, j < m ∧ i = L.length + j ∧ c = [n + j] := by
    intro i c hc
    by_cases e : i < L.length
    · left
      obtain ⟨c', hc'⟩ : ∃ c', L[i]? = some c' := ⟨_, List.getElem?_eq_getElem e⟩
      rw [L2_left hc'] at hc
      rw [hc', hc]
    · right
      have hl := (List.getElem?_eq_some_iff.1 hc).1
      rw [L2_len] at hl
      have e2 : i = L.length + (i - L.length) := by omega
      rw [e2, L2_right (by omega)] at hc
      exact ⟨i - L.length, by omega, e2, (Option.some.inj hc).symm⟩
  refine ⟨⟨fun v hv => ?_, fun i c v hc hv => ?_, fun c hc => ?_, fun u w he => ?_, fun u w hu hw e => ?_⟩, fun p p' hp hp' hlt => ?_⟩
  · by_cases e : v < n
    · obtain ⟨c, hc, hm⟩ := h.co.d1 v e
      exact ⟨c, by simp only [if_pos e]; exact L2_left hc, hm⟩
    · refine ⟨[n + (v - n)], by simp only [if_neg e]; exact L2_right (by omega), ?_⟩
      rw [List.mem_singleton]; omega
  · rcases hget i c hc with h1 | ⟨j, hj, rfl, rfl⟩
    · have := h.co.d2 i c v h1 hv
      exact ⟨by omega, by simp only [if_pos this.1]; exact this.2⟩
    · rw [List.mem_singleton] at hv
      subst hv
      exact ⟨by omega, by rw [if_neg (by omega)]; omega⟩
  · obtain ⟨i, hi⟩ := List.mem_iff_getElem?.1 hc
    rcases hget i c hi with h1 | ⟨j, hj, rfl, rfl⟩
    · exact h.co.d3 c (List.mem_of_getElem? h1)
    · simp
  · have he := e2_edge.1 he
    show (if w < n then q w else L.length + (w - n)) ≤ (if u < n then q u else L.length + (u - n))
    rw [if_pos he.1, if_pos he.2.1]
    exact h.co.d4 u w he
  · have e : (if u < n then q u else L.length + (u - n)) = (if w < n then q w else L.length + (w - n)) := e
    by_cases h1 : u < n
    · by_cases h2 : w < n
      · rw [if_pos h1, if_pos h2] at e
        exact e2_path (h.co.d5 u w h1 h2 e)
      · rw [if_pos h1, if_neg h2] at e
        have := hq u h1
        omega
    · by_cases h2 : w < n
      · rw [if_neg h1, if_pos h2] at e
        have := hq w h2
        omega
      · rw [if_neg h1, if_neg h2] at e
        obtain rfl : u = w := by omega
        exact .refl u
  · have hhead : ∀ i, i < L.length → headOf (L2 n m L) i = headOf L i := fun i hi => by
      obtain ⟨c', hc'⟩ : ∃ c', L[i]? = some c' := ⟨_, List.getElem?_eq_getElem hi⟩
      unfold headOf
      simp [List.getD, hc', L2_left hc']
    have hhead2 : ∀ j, j < m → headOf (L2 n m L) (L.length + j) = n + j := fun j hj => by
      unfold headOf
      simp [List.getD, L2_right hj]
    have hheadn : ∀ i, i < L.length → headOf L i < n := fun i hi => by
      obtain ⟨c', hc'⟩ : ∃ c', L[i]? = some c' := ⟨_, List.getElem?_eq_getElem hi⟩
      have := comp_head h.co hc'
      omega
    rw [L2_len] at hp'
    by_cases e' : p' < L.length
    · rw [hhead p' e', hhead p (by omega)] at hlt
      obtain ⟨u, v, h1, h2, h3, h4⟩ := h.le p p' hp e' hlt
      exact ⟨u, v, by simp only [if_pos h2.1]; exact h1, e2_edge.2 h2, by simp only [if_pos h2.2.1]; exact h3, by simp only [if_pos h2.2.1]; exact h4⟩
    · exfalso
      have e2 : p' = L.length + (p' - L.length) := by omega
      rw [e2, hhead2 _ (by omega)] at hlt
      by_cases e : p < L.length
      · rw [hhead p e] at hlt
        have := hheadn p e
        omega
      · have e3 : p = L.length + (p - L.length) := by omega
        rw [e3, hhead2 _ (by omega)] at hlt
        omega
end
theorem low_yes {n k : Nat} {l : List Int} {x : Int} (hk : l[k]? = some x) (h : x < n) : low n (l.take (k + 1)) = low n (l.take k) ++ [x] := by
  unfold low; rw [List.take_add_one, hk, List.filter_append]; simp [h]
theorem low_no {n k : Nat} {l : List Int} {x : Int} (hk : l[k]? = some x) (h : ¬ x < n) : low n (l.take (k + 1)) = low n (l.take k) := by
  unfold low; rw [List.take_add_one, hk, List.filter_append]; simp [h]
theorem low_len (n k : Nat) (l : List Int) : (low n (l.take k)).length ≤ k := by
  have h1 := List.length_filter_le (fun x => decide (x < (n : Int))) (l.take k)
  have h2 := List.length_take_le k l
  unfold low
  omega
def zv (l : List Int) : List Value := l.map (Value.int .i64)
theorem zv_one (l : List Int) : ∀ u ∈ zv l, u.oneCell' = true := by
  intro u hu
  obtain ⟨x, _, rfl⟩ := List.mem_map.1 hu
  rfl
/-- a row of edges: one that came in, or one's own -/
def RowAt (B : Nat) (w : World) (v : Value) (l : List Int) : Prop :=
  ∃ a c, v = .slice a l.length c ∧ l.length ≤ c ∧ c ≤ maxLen ∧ ((∀ k x, l[k]? = some x → ∃ p po, a = some ⟨p, po, none⟩ ∧ p < B ∧ w.cell? ⟨p, po + k, none⟩ = some (.int .i64 x)) ∨ w.ownsRow B 3 1 v l.length (zv l))
theorem RowAt.keep {B : Nat} {w w1 : World} {v : Value} {l : List Int} {S : Nat → Prop} (h : RowAt B w v l) (hm : Mods S w w1) (hB : B ≤ w.heap.size) (hS : ∀ k, S k → B ≤ k ∧ ∀ cur, w.heap[k]? ≠ some (.cells cur 3 (0, 0))) : RowAt B w1 v l := by
  obtain ⟨a, c, rfl, h1, h2, h3⟩ := h
  refine ⟨a, c, rfl, h1, h2, ?_⟩
  rcases h3 with h3 | h3
  · left
    intro k x hk
    obtain ⟨p, po, e, hp, hc⟩ := h3 k x hk
    exact ⟨p, po, e, hp, (hm.cell (p := ⟨p, po + k, none⟩) (by show p < _; omega) (fun hs => by have := (hS _ hs).1; simp only at this; omega)).trans hc⟩
  · right
    refine own_kept h3 hm fun k hk hs => ?_
    cases a with
    | none => cases hk
    | some a =>
      obtain ⟨cur, hc, _⟩ := own_heap h3 a rfl
      obtain rfl := Option.some.inj hk
      exact (hS _ hs).2 cur hc
theorem RowAt.nil (B : Nat) (w : World) : RowAt B w (.slice none 0 0) [] := ⟨none, 0, rfl, Nat.le_refl _, Nat.zero_le _, .inl fun k x h => by simp at h⟩
theorem RowAt.look {B : Nat} {w : World} {v : Value} {l : List Int} (h : RowAt B w v l) (hB : B ≤ w.heap.size) : ∃ a c, v = .slice a l.length c ∧ l.length ≤ c ∧ c ≤ maxLen ∧ ∀ k x, l[k]? = some x → ∃ p po, a = some ⟨p, po, none⟩ ∧ p < w.heap.size ∧ w.cell? ⟨p, po + k, none⟩ = some (.int .i64 x) := by
  obtain ⟨a, c, rfl, h1, h2, h3⟩ := h
  refine ⟨a, c, rfl, h1, h2, fun k x hk => ?_⟩
  rcases h3 with h3 | h3
  · obtain ⟨p, po, e, hp, hc⟩ := h3 k x hk
    exact ⟨p, po, e, by omega, hc⟩
  · obtain ⟨g, e, hg, _, _, hc⟩ := rowcell h3 (by have := (List.getElem?_eq_some_iff.1 hk).1; omega)
    exact ⟨g, 0, e, hg, by rw [Nat.zero_add]; exact (hc k (.int .i64 x) (by simp [zv, hk])).1⟩
/-- rows of edges of one's own -/
structure AP (B : Nat) (W0 w : World) (ao : Option Addr) (cap N : Nat) (F : Nat → Value) (E : Nat → List Int) : Prop where
  bel : Below B W0 w
  hB : B ≤ w.heap.size
  top : w.ownsRow B 26 1 (.slice ao N cap) N ((List.range N).map F)
  row : ∀ j, j < N → RowAt B w (F j) (E j)
section
variable {B cap N : Nat} {W0 w w1 : World} {ao : Option Addr} {F : Nat → Value} {E : Nat → List Int}
theorem AP.topS (h : AP B W0 w ao cap N F E) {S : Nat → Prop} (hS : ∀ k, S k → ∃ a, ao = some a ∧ k = a.block) : ∀ k, S k → B ≤ k ∧ ∀ cur, w.heap[k]? ≠ some (.cells cur 3 (0, 0)) := by
  intro k hk
  obtain ⟨a, ha, rfl⟩ := hS k hk
  obtain ⟨cur, hc, hb⟩ := own_heap h.top a ha
  exact ⟨hb, fun cur' e => by rw [hc] at e; simp at e⟩
theorem AP.below (h : AP B W0 w ao cap N F E) (hb : Below w.heap.size w w1) : AP B W0 w1 ao cap N F E :=
  ⟨h.bel.trans (hb.mono h.hB), Nat.le_trans h.hB hb.size, own_kept h.top (Mods.of_below (S := fun _ => False) hb) (fun _ _ h => h), fun j hj => (h.row j hj).keep (Mods.of_below (S := fun _ => False) hb) h.hB (fun _ h => h.elim)⟩
theorem listV_set (N : Nat) (F : Nat → Value) (j : Nat) (u : Value) : ((List.range N).map F).set j u = (List.range N).map (upd F j u) := by
  apply List.ext_getElem?
  intro i
  rw [List.getElem?_set, List.getElem?_map, List.getElem?_map, List.length_map, List.length_range]
  by_cases hi : i < N
  · rw [List.getElem?_range hi]
    by_cases e : j = i
    · subst e; simp [upd, hi]
    · rw [if_neg e]
      simp [upd]
      intro e2
      exact absurd e2.symm e
  · rw [List.getElem?_eq_none (by rw [List.length_range]; omega)]
    by_cases e : j = i
    · subst e; simp [hi]
    · rw [if_neg e]; rfl
theorem AP.set {g : Nat} (h : AP B W0 w (some ⟨g, 0, none⟩) cap N F E) (j : Nat) (hj : j < N) (v : Value) (l : List Int) (hv : RowAt B w v l) : AP B W0 (w.setCell ⟨g, j, none⟩ v) (some ⟨g, 0, none⟩) cap N (upd F j v) (upd E j l) := by
  have hm : Mods (fun k => k = g) w (w.setCell ⟨g, j, none⟩ v) := (Mods.refl (fun k => k = g) w).setCell (p := ⟨g, j, none⟩) (fun _ => rfl) _
  have hS := h.topS (S := fun k => k = g) (fun k hk => ⟨_, rfl, hk⟩)
  refine ⟨h.bel.trans (hm.below (fun k hk => (hS k hk).1) h.hB), Nat.le_trans h.hB hm.size, ?_, fun i hi => ?_⟩
  · rw [← listV_set]; exact own_setcell h.top j v
  · unfold upd
    by_cases e : i = j
    · rw [if_pos e, if_pos e]; exact hv.keep hm h.hB hS
    · rw [if_neg e, if_neg e]; exact (h.row i hi).keep hm h.hB hS
theorem AP.more (h : AP B W0 w ao cap N F E) {gg cg : Nat} {bx : Obj} (hF : F N = .slice none 0 0) (hE : E N = [])
    (ho : w1.ownsRow B 26 1 (.slice (some ⟨gg, 0, none⟩) (N + 1) cg) (N + 1) ((List.range N).map F ++ [.slice none 0 0]))
    (hg : (w.alloc bx).grownBy w1 (Value.slice ao N cap).ownBlock) : AP B W0 w1 (some ⟨gg, 0, none⟩) cg (N + 1) F E := by
  have hM : Mods (fun k => ∃ a, ao = some a ∧ k = a.block) w w1 := ((Mods.refl _ w).alloc bx).grown hg (fun k hk _ => by
    cases ao with
    | none => cases hk
    | some a => exact ⟨a, rfl, (Option.some.inj hk).symm⟩)
  have hS := h.topS (S := fun k => ∃ a, ao = some a ∧ k = a.block) (fun k hk => hk)
  refine ⟨h.bel.trans (hM.below (fun k hk => (hS k hk).1) h.hB), Nat.le_trans h.hB hM.size, ?_, fun i hi => ?_⟩
  · rw [List.range_succ, List.map_append, List.map_singleton, hF]; exact ho
  · by_cases e : i < N
    · exact (h.row i e).keep hM h.hB hS
    · obtain rfl : i = N := by omega
      rw [hF, hE]; exact RowAt.nil _ _
theorem AP.capLe (h : AP B W0 w ao cap N F E) : N ≤ cap ∧ cap ≤ maxLen := by
  obtain ⟨_, _, e, h1, h2, _⟩ := own_view h.top
  cases e
  exact ⟨h1, h2⟩
theorem AP.cell (h : AP B W0 w ao cap N F E) {j : Nat} (hj : j < N) : ∃ g, ao = some ⟨g, 0, none⟩ ∧ B ≤ g ∧ g < w.heap.size ∧ w.cell? ⟨g, j, none⟩ = some (F j) ∧ w.frozen? ⟨g, j, none⟩ = false := by
  obtain ⟨g, e, hg, _, _, hc⟩ := rowcell h.top (by omega)
  have := hc j (F j) (by rw [List.getElem?_map, List.getElem?_range hj]; rfl)
  obtain ⟨_, _, hb⟩ := own_heap h.top _ e
  exact ⟨g, e, hb, hg, this.1, this.2⟩
theorem AP.ed (h : AP B W0 w ao cap N F E) : EdAt w.heap.size w ao N cap E := by
  refine ⟨h.capLe, fun i hi => ?_⟩
  obtain ⟨g, e, _, hg, hc, _⟩ := h.cell hi
  obtain ⟨a, c, hv, h1, h2, h3⟩ := (h.row i hi).look h.hB
  refine ⟨g, 0, a, c, e, hg, by rw [Nat.zero_add, hc, hv], h1, h2, h3⟩
theorem AP.congr {E' : Nat → List Int} (h : AP B W0 w ao cap N F E) (e : ∀ i, i < N → E i = E' i) : AP B W0 w ao cap N F E' := ⟨h.bel, h.hB, h.top, fun j hj => by rw [← e j hj]; exact h.row j hj⟩
theorem AP.congrF {F' : Nat → Value} (h : AP B W0 w ao cap N F E) (e : ∀ i, i < N → F i = F' i) : AP B W0 w ao cap N F' E := ⟨h.bel, h.hB, by
  rw [← List.map_congr_left (fun v hv => e v (List.mem_range.1 hv))]; exact h.top, fun j hj => by rw [← e j hj]; exact h.row j hj⟩
end
/-- the rows while they are cut down -/
def midE (n : Nat) (E : Nat → List Int) (i j : Nat) : List Int := if j < i then low n (E j) else E j
theorem mid_step (n : Nat) (E : Nat → List Int) (i : Nat) : upd (midE n E i) i (low n (E i)) = midE n E (i + 1) := by
  funext j
  unfold upd midE
  by_cases e : j = i
  · subst e; rw [if_pos rfl, if_pos (by omega)]
  · rw [if_neg e]
    by_cases e2 : j < i
    · rw [if_pos e2, if_pos (by omega)]
    · rw [if_neg e2, if_neg (by omega)]
end Go.Proofs.Ytmmggeaaheegmaa.K
