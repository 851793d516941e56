/- Several texts in one. -/
import Derived.Test.YtlbkbjeajcadiaaGreatDoorMrg11
import Derived.Deep.LoopGhost
import Derived.WalkMore
import Derived.Deep.RegionHeld3

/- What holds while a graph is gone through. -/
namespace Go.Proofs.YtlbkbjeajcadiaaGreatDoor.K
open Go.RowKit M T
set_option linter.unusedVariables false
set_option linter.unusedSimpArgs false

/-- how many have no number yet -/
def unv : Nat → (Nat → Nat) → Nat
  | 0, _ => 0
  | n + 1, f => unv n f + if f n = 0 then 1 else 0
theorem unv_upd (n : Nat) (f : Nat → Nat) (w x : Nat) (hw : w < n) (h0 : f w = 0) (hx : x ≠ 0) : unv n (upd f w x) + 1 = unv n f := by
  have aux : ∀ k, k ≤ w → unv k (upd f w x) = unv k f := by
    intro k
    induction k with
    | zero => intro _; rfl
    | succ k ih =>
      intro hk
      simp only [unv]
      rw [ih (by omega), upd_other f x (show k ≠ w by omega)]
  induction n with
  | zero => omega
  | succ n ih =>
    simp only [unv]
    by_cases e : n = w
    · subst e
      rw [aux n (Nat.le_refl _), upd_same, h0, if_neg hx, if_pos rfl]
    · rw [upd_other f x e]
      have := ih (by omega)
      omega
theorem unv_zero (n : Nat) : unv n (fun _ => 0) = n := by
  induction n with
  | zero => rfl
  | succ n ih => simp [unv, ih]

/-- edges in memory, below B -/
structure EdAt (B : Nat) (w : World) (eo : Option Addr) (n ec : Nat) (E : Nat → List Int) : Prop where
  le : n ≤ ec ∧ ec ≤ maxLen
  row : ∀ i, i < n → ∃ g off ro rc, eo = some ⟨g, off, none⟩ ∧ g < B ∧ w.cell? ⟨g, off + i, none⟩ = some (.slice ro (E i).length rc) ∧ (E i).length ≤ rc ∧ rc ≤ maxLen ∧
    ∀ j x, (E i)[j]? = some x → ∃ p po, ro = some ⟨p, po, none⟩ ∧ p < B ∧ w.cell? ⟨p, po + j, none⟩ = some (.int .i64 x)
theorem EdAt.below {B : Nat} {w w1 : World} {eo : Option Addr} {n ec : Nat} {E : Nat → List Int} (h : EdAt B w eo n ec E) (hb : Below B w w1) : EdAt B w1 eo n ec E := by
  refine ⟨h.le, fun i hi => ?_⟩
  obtain ⟨g, off, ro, rc, e, hg, hc, h1, h2, hx⟩ := h.row i hi
  refine ⟨g, off, ro, rc, e, hg, (hb.cell (p := ⟨g, off + i, none⟩) hg).trans hc, h1, h2, fun j x hj => ?_⟩
  obtain ⟨p, po, e2, hp, hc2⟩ := hx j x hj
  exact ⟨p, po, e2, hp, (hb.cell (p := ⟨p, po + j, none⟩) hp).trans hc2⟩

def ofI (s : St) : Nat → Int := fun v => match s.ofc v with
  | none => -1
  | some i => (i : Int)
theorem ofI_pop (s : St) (v : Nat) (c st : List Nat) : ofUp (ofI s) c (s.comps.length : Int) = ofI (s.pop v c st) := by
  funext y
  show ofUp (ofI s) c (s.comps.length : Int) y = match (if y ∈ c then some s.comps.length else s.ofc y) with
    | none => -1
    | some i => (i : Int)
  unfold ofUp
  by_cases h : y ∈ c
  · rw [if_pos h, if_pos h]
  · rw [if_neg h, if_neg h]; rfl
theorem ofI_some {s : St} {v i : Nat} (h : s.ofc v = some i) : ofI s v = (i : Int) := by unfold ofI; rw [h]
theorem ofI_none {s : St} {v : Nat} (h : s.ofc v = none) : ofI s v = -1 := by unfold ofI; rw [h]

def cellsF (l : List (Nat × Nat)) : List Value := l.flatMap fun f => [.int .i64 (f.1 : Int), .int .i64 (f.2 : Int)]
theorem cellsF_length (l : List (Nat × Nat)) : (cellsF l).length = l.length * 2 := by
  induction l with
  | nil => rfl
  | cons x l ih => simp [cellsF] at ih ⊢; omega
theorem cellsF_append (l m : List (Nat × Nat)) : cellsF (l ++ m) = cellsF l ++ cellsF m := by simp [cellsF]
theorem cellsF_take (l : List (Nat × Nat)) (i : Nat) : cellsF (l.take i) = (cellsF l).take (i * 2) := by
  induction l generalizing i with
  | nil => simp [cellsF]
  | cons x l ih =>
    cases i with
    | zero => simp [cellsF]
    | succ i =>
      have := ih i
      simp only [cellsF, List.take_succ_cons, List.flatMap_cons] at this ⊢
      rw [this, show (i + 1) * 2 = i * 2 + 2 by omega]
      rfl
theorem cellsF_get (l : List (Nat × Nat)) (i : Nat) (f : Nat × Nat) (h : l[i]? = some f) : (cellsF l)[i * 2]? = some (.int .i64 (f.1 : Int)) ∧ (cellsF l)[i * 2 + 1]? = some (.int .i64 (f.2 : Int)) := by
  induction l generalizing i with
  | nil => simp at h
  | cons y l ih =>
    cases i with
    | zero => simp at h; subst h; exact ⟨rfl, rfl⟩
    | succ i =>
      have := ih i (by simpa using h)
      rw [show (i + 1) * 2 = i * 2 + 2 by omega]
      exact this
theorem cellsF_set (l : List (Nat × Nat)) (i v a : Nat) (h : l[i]? = some (v, a)) (x : Nat) : (cellsF l).set (i * 2 + 1) (.int .i64 (x : Int)) = cellsF (l.set i (v, x)) := by
  induction l generalizing i with
  | nil => simp at h
  | cons y l ih =>
    cases i with
    | zero => simp at h; subst h; rfl
    | succ i =>
      have := ih i (by simpa using h)
      rw [show (i + 1) * 2 + 1 = (i * 2 + 1) + 2 by omega]
      show y.1 |> fun _ => ([Value.int .i64 (y.1 : Int), .int .i64 (y.2 : Int)] ++ cellsF l).set (i * 2 + 1 + 2) _ = [Value.int .i64 (y.1 : Int), .int .i64 (y.2 : Int)] ++ cellsF (l.set i (v, x))
      rw [← this]
      rfl
theorem own_setcell {w : World} {B : Nat} {e : TypeId} {size g n cap : Nat} {xs : List Value} (h : w.ownsRow B e size (.slice (some ⟨g, 0, none⟩) n cap) n xs) (j : Nat) (u : Value) :
    (w.setCell ⟨g, j, none⟩ u).ownsRow B e size (.slice (some ⟨g, 0, none⟩) n cap) n (xs.set j u) := by
  refine ⟨by rw [List.length_set]; exact h.1, ?_⟩
  rcases h.2 with ⟨h0, _⟩ | ⟨g', c, cur, e0, hb, hg, hnc, hm, hs, ht⟩
  · cases h0
  · cases e0
    refine .inr ⟨g, cap, cur.setIfInBounds j u, rfl, hb, ?_, hnc, hm, ?_, ?_⟩
    · have := heap_set w g j u g _ _ _ hg
      rwa [if_pos rfl] at this
    · simpa using hs
    · rw [← ht, Array.toList_setIfInBounds, List.take_set]

section
variable {E : Nat → List Int} {n B : Nat} {W0 w w1 : World} {s0 s : St} {eo : Option Addr} {ec b : Nat} {m : Lay} {fr : List (Nat × Nat)} {fo : Option Addr} {fc : Nat}
end
/-- the stack, at one of its nodes -/
theorem split_at {E : Nat → List Int} {n : Nat} {s : St} {gr : List Nat} (h : I0 E n s gr) {i v : Nat} (hi : s.stack[i]? = some v) :
    (∀ y, y ∈ s.stack.drop i ↔ y ∈ s.stack ∧ s.num v ≤ s.num y) ∧ (∀ y, y ∈ s.stack.take i ↔ y ∈ s.stack ∧ s.num y < s.num v) ∧ ((s.stack.take i).Pairwise fun a b => s.num a < s.num b) ∧ (s.stack.drop i).Nodup ∧ ∀ (j x : Nat), j < i → s.stack[j]? = some x → x ≠ v := by
  have hil := (List.getElem?_eq_some_iff.1 hi).1
  have hsp : s.stack.take i ++ s.stack.drop i = s.stack := List.take_append_drop _ _
  have hdr : s.stack.drop i = v :: s.stack.drop (i + 1) := by rw [List.drop_eq_getElem_cons hil, (List.getElem?_eq_some_iff.1 hi).2]
  have hpw := h.pw
  rw [← hsp] at hpw
  obtain ⟨p1, p2, p3⟩ := List.pairwise_append.1 hpw
  have hv : v ∈ s.stack.drop i := by rw [hdr]; exact List.mem_cons_self
  have hlow : ∀ y ∈ s.stack.take i, s.num y < s.num v := fun y hy => p3 y hy v hv
  have hhigh : ∀ y ∈ s.stack.drop i, s.num v ≤ s.num y := fun y hy => by
    rw [hdr] at hy p2
    rcases List.mem_cons.1 hy with rfl | hy
    · exact Nat.le_refl _
    · exact Nat.le_of_lt ((List.pairwise_cons.1 p2).1 y hy)
  have hmem : ∀ y ∈ s.stack, y ∈ s.stack.take i ∨ y ∈ s.stack.drop i := fun y hy => List.mem_append.1 (by rw [hsp]; exact hy)
  refine ⟨fun y => ⟨fun hy => ⟨List.mem_of_mem_drop hy, hhigh y hy⟩, fun ⟨hy, hle⟩ => ?_⟩, fun y => ⟨fun hy => ⟨List.mem_of_mem_take hy, hlow y hy⟩, fun ⟨hy, hlt⟩ => ?_⟩, p1, ?_, fun j x hj hx e => ?_⟩
  · rcases hmem y hy with h1 | h1
    · have := hlow y h1; omega
    · exact h1
  · rcases hmem y hy with h1 | h1
    · exact h1
    · have := hhigh y h1; omega
  · exact p2.imp (fun {a b} hab e => by rw [e] at hab; omega)
  · have h1 : x ∈ s.stack.take i := by
      have : (s.stack.take i)[j]? = some x := by rw [List.getElem?_take, if_pos hj]; exact hx
      exact List.mem_of_getElem? this
    have := hlow x h1
    rw [e] at this
    omega
theorem strict_of {l l' : List Nat} (hp : l'.Perm l) (hn : l.Nodup) (hle : l'.Pairwise (· ≤ ·)) : l'.Pairwise (· < ·) := by
  have hn' : l'.Nodup := hp.nodup_iff.2 hn
  exact (hle.and hn').imp (fun {a b} h => by omega)
theorem own_cutN {w : World} {B n cap size : Nat} {e : TypeId} {ao : Option Addr} {xs : List Value} (h : w.ownsRow B e size (.slice ao n cap) n xs) (i : Nat) (hi : i ≤ n) (ha : ao ≠ none) : w.ownsRow B e size (.slice ao i cap) i (xs.take (i * size)) := by
  have hle : i * size ≤ n * size := Nat.mul_le_mul_right _ hi
  refine ⟨by rw [List.length_take, h.1]; omega, ?_⟩
  rcases h.2 with ⟨h0, _⟩ | ⟨g, c, cur, e0, hb, hg, hnc, hm, hs, ht⟩
  · cases h0; exact absurd rfl ha
  · cases e0
    refine .inr ⟨g, cap, cur, rfl, hb, hg, by omega, hm, hs, ?_⟩
    rw [← ht, List.take_take, Nat.min_eq_left hle]
theorem rev_take (f : Nat × Nat) (rest : List (Nat × Nat)) : (f :: rest).reverse.take rest.length = rest.reverse := by
  rw [List.reverse_cons, List.take_left' (by simp)]
theorem upd_self {α : Type} (f : Nat → α) (i : Nat) : upd f i (f i) = f := by
  funext j
  by_cases e : j = i
  · subst e; exact upd_same _ _ _
  · exact upd_other _ _ e
end Go.Proofs.YtlbkbjeajcadiaaGreatDoor.K

/- The contract of walk. -/
namespace Go.Proofs.YtlbkbjeajcadiaaGreatDoor.K
open Go.RowKit M T
set_option linter.unusedVariables false
set_option linter.unusedSimpArgs false

theorem rev_last (rest : List (Nat × Nat)) (f : Nat × Nat) : (f :: rest).reverse[rest.length]? = some f := by simp
theorem rev_set (rest : List (Nat × Nat)) (f g : Nat × Nat) : ((f :: rest).reverse).set rest.length g = (g :: rest).reverse := by
  simp only [List.reverse_cons]
  rw [List.set_append_right _ _ (by simp)]
  simp
end Go.Proofs.YtlbkbjeajcadiaaGreatDoor.K

/- The contract of find. -/
namespace Go.Proofs.YtlbkbjeajcadiaaGreatDoor.K
open Go.RowKit M T
set_option linter.unusedVariables false
set_option linter.unusedSimpArgs false

theorem made_tab (n : Nat) : madeCells (Value.int .i64 0).cells n = tab n fun _ => 0 := by
  apply Array.ext_getElem?
  intro j
  by_cases hj : j < n
  · rw [tab_get n _ j hj]
    simp [madeCells, Value.cells, hj, Nat.mod_one]
  · have h2 : (tab n fun _ => 0)[j]? = none := by rw [Array.getElem?_eq_none_iff, tab_size]; omega
    rw [h2, Array.getElem?_eq_none_iff]
    simp [madeCells]; omega
theorem make_ints (n : Nat) (hn : n ≤ 10000) (w : World) : (Instr.makeSlice 186 (.int .i64 (n : Int)) (.int .i64 (n : Int))).run Tryz.prog w = .ok (.slice (some ⟨w.heap.size, 0, none⟩) n n) (w.alloc (.cells (tab n fun _ => 0) 3)) := by
  obtain ⟨i0, hi, hz0, hz1, hz2⟩ := info_parts info_int
  have h := run_make (P := Tryz.prog) w 186 3 i0 _ Tryz.underlying186 hi hz0 .i64 .i64 (n : Int) (n : Int) (by omega) (Int.le_refl _) (by rw [hz2]; omega) (by omega)
  simp only [Int.toNat_natCast, hz1, Nat.mul_one] at h
  rw [made_tab] at h
  exact h
end Go.Proofs.YtlbkbjeajcadiaaGreatDoor.K

/- What a found graph knows; the contract of ready, of the closure about it, of slices.IndexFunc with that. -/
namespace Go.Proofs.YtlbkbjeajcadiaaGreatDoor.K
open Go.RowKit M T
set_option linter.unusedVariables false
set_option linter.unusedSimpArgs false

/-- components, and which one each node is in -/
structure Comp (E : Nat → List Int) (n : Nat) (C : List (List Nat)) (q : Nat → Nat) : Prop where
  d1 : ∀ v, v < n → ∃ c, C[q v]? = some c ∧ v ∈ c
  d2 : ∀ i c v, C[i]? = some c → v ∈ c → v < n ∧ q v = i
  d3 : ∀ c ∈ C, c.Pairwise (· < ·) ∧ c ≠ []
  d4 : ∀ u w, T.Edge E n u w → q w ≤ q u
  d5 : ∀ u w, u < n → w < n → q u = q w → Path E n u w
def qOf (s : St) (v : Nat) : Nat := (s.ofc v).getD 0
theorem comp_of {E : Nat → List Int} {n : Nat} {s : St} (h : Inv E n s []) (hall : ∀ v, v < n → s.num v ≠ 0) : Comp E n s.comps (qOf s) ∧ ∀ v, v < n → ofI s v = (qOf s v : Int) := by
  have hof : ∀ v, v < n → s.ofc v = some (qOf s v) := fun v hv => by
    obtain ⟨i, hi⟩ := h.all (hall v hv)
    rw [hi]; simp [qOf, hi]
  have hcm : ∀ (i : Nat) c v, s.comps[i]? = some c → v ∈ c → v < n ∧ qOf s v = i := fun i c v hc hv => by
    obtain ⟨h1, h2⟩ := h.i0.cm i c v hc hv
    exact ⟨(h.i0.num v h2).1, by simp [qOf, h1]⟩
  refine ⟨⟨fun v hv => h.i0.ofs v _ (hof v hv), hcm, h.i0.cs, fun u w he => ?_, fun u w hu hw e => ?_⟩, fun v hv => ofI_some (hof v hv)⟩
  · obtain ⟨j, hj, hle⟩ := h.i0.cl u w _ (hof u he.1) he
    rw [hof w he.2.1] at hj
    have := Option.some.inj hj
    omega
  · exact h.i0.sc u w _ (hof u hu) (by rw [hof w hw, e])

/-- an edge that holds nothing up -/
def okEdge (n : Nat) (q : Nat → Nat) (come : Nat → Bool) (ci : Nat) (x : Int) : Bool := !(decide (0 ≤ x ∧ x < (n : Int)) && (decide (q x.toNat ≠ ci) && !come (q x.toNat)))
def okNode (E : Nat → List Int) (n : Nat) (q : Nat → Nat) (come : Nat → Bool) (ci v : Nat) : Bool := (E v).all (okEdge n q come ci)
def rdy (E : Nat → List Int) (n : Nat) (C : List (List Nat)) (q : Nat → Nat) (come : Nat → Bool) (ci : Nat) : Bool := (C.getD ci []).all (okNode E n q come ci)
/-- a row of truths -/
def tabB (n : Nat) (f : Nat → Bool) : Array Value := ((List.range n).map fun v => Value.bool (f v)).toArray
theorem tabB_size (n : Nat) (f : Nat → Bool) : (tabB n f).size = n := by simp [tabB]
theorem tabB_get (n : Nat) (f : Nat → Bool) (v : Nat) (h : v < n) : (tabB n f)[v]? = some (.bool (f v)) := by simp [tabB, h]
theorem tabB_set (n : Nat) (f : Nat → Bool) (v : Nat) (x : Bool) : (tabB n f).setIfInBounds v (.bool x) = tabB n (upd f v x) := by
  apply Array.ext_getElem?
  intro j
  rw [Array.getElem?_setIfInBounds]
  by_cases hj : j < n
  · rw [tabB_get n _ j hj, tabB_get n _ j hj, tabB_size]
    by_cases e : v = j
    · subst e; simp [upd_same, hj]
    · rw [if_neg e, upd_other f x (fun e2 => e e2.symm)]
  · have h1 : (tabB n f)[j]? = none := by rw [Array.getElem?_eq_none_iff, tabB_size]; omega
    have h2 : (tabB n (upd f v x))[j]? = none := by rw [Array.getElem?_eq_none_iff, tabB_size]; omega
    rw [h1, h2, tabB_size]
    by_cases e : v = j
    · subst e; simp [hj]
    · rw [if_neg e]
theorem rowB_cell {w : World} {g n : Nat} {f : Nat → Bool} {T : TypeId} (h : w.heap[g]? = some (.cells (tabB n f) T (0, 0))) (v : Nat) (hv : v < n) : w.cell? ⟨g, v, none⟩ = some (.bool (f v)) ∧ w.frozen? ⟨g, v, none⟩ = false :=
  ⟨(cell_of_row w g v _ _ (0, 0) h).trans (tabB_get n f v hv), by simp [World.frozen?, h]⟩
theorem hdrs_get {R : List (Option Addr × Nat)} {C : List (List Nat)} {i : Nat} {r : Option Addr × Nat} {c : List Nat} (hr : R[i]? = some r) (hc : C[i]? = some c) : (hdrs R C)[i]? = some (.slice r.1 c.length r.2) := by
  simp [hdrs, List.getElem?_zipWith, hr, hc]

/-- all that is read of a finder -/
structure RD (E : Nat → List Int) (n : Nat) (w : World) (b : Nat) (C : List (List Nat)) (q : Nat → Nat) (eo : Option Addr) (ec : Nat) : Prop where
  hd : ∃ go co cc, w.cell? ⟨b, 0, none⟩ = some (.slice eo n ec) ∧ w.cell? ⟨b, 3, none⟩ = some (.slice (some ⟨go, 0, none⟩) n n) ∧ w.cell? ⟨b, 6, none⟩ = some (.slice co C.length cc) ∧ C.length ≤ cc ∧ cc ≤ maxLen ∧
    (∀ v, v < n → w.cell? ⟨go, v, none⟩ = some (.int .i64 (q v : Int))) ∧
    ∀ i c, C[i]? = some c → ∃ gc gr cr, co = some ⟨gc, 0, none⟩ ∧ w.cell? ⟨gc, i, none⟩ = some (.slice (some ⟨gr, 0, none⟩) c.length cr) ∧ c.length ≤ cr ∧ cr ≤ maxLen ∧ ∀ (j v : Nat), c[j]? = some v → w.cell? ⟨gr, j, none⟩ = some (.int .i64 (v : Int))
theorem all_take {α : Type} {l : List α} {f : α → Bool} {k : Nat} {x : α} (h : (l.take k).all f = true) (hx : l[k]? = some x) (hf : f x = true) : (l.take (k + 1)).all f = true := by
  rw [List.take_add_one, hx, List.all_append, h]
  simp [hf]
theorem all_no {α : Type} {l : List α} {f : α → Bool} {k : Nat} {x : α} (hx : l[k]? = some x) (hf : f x = false) : l.all f = false := by
  rw [← Bool.not_eq_true, List.all_eq_true]
  intro h
  have := h x (List.mem_of_getElem? hx)
  rw [hf] at this
  cases this
end Go.Proofs.YtlbkbjeajcadiaaGreatDoor.K
