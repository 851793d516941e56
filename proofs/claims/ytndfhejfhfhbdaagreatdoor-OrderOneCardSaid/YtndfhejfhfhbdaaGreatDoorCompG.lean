/- What holds while a graph is gone through. -/
import Derived.Test.YtndfhejfhfhbdaaGreatDoorMrg14
import Derived.Deep.LoopGhost
namespace Go.Proofs.YtndfhejfhfhbdaaGreatDoor.K
open Go.RowKit M T
set_option linter.unusedVariables false
set_option linter.unusedSimpArgs false

/-- how many have no number yet -/
def unv : Nat → (Nat → Nat) → Nat
  | 0, _ => 0
  | n + 1, f => unv n f + if f n = 0 then 1 else 0
theorem unv_upd (n : Nat) (f : Nat → Nat) (w x : Nat) (hw : w < n) (h0 : f w = 0) (hx : x ≠ 0) : unv n (upd f w x) + 1 = unv n f := by
  have aux : ∀ k, k ≤ w → unv k (upd f w x) = unv k f := by
    intro k
    induction k with
    | zero => intro _; rfl
    | succ k ih =>
      intro hk
      simp only [unv]
      rw [ih (by omega), upd_other f x (show k ≠ w by omega)]
  induction n with
  | zero => omega
  | succ n ih =>
    simp only [unv]
    by_cases e : n = w
    · subst e
      rw [aux n (Nat.le_refl _), upd_same, h0, if_neg hx, if_pos rfl]
    · rw [upd_other f x e]
      have := ih (by omega)
      omega
theorem unv_zero (n : Nat) : unv n (fun _ => 0) = n := by
  induction n with
  | zero => rfl
  | succ n ih => simp [unv, ih]

/-- edges in memory, below B -/
structure EdAt (B : Nat) (w : World) (eo : Option Addr) (n ec : Nat) (E : Nat → List Int) : Prop where
  le : n ≤ ec ∧ ec ≤ maxLen
  row : ∀ i, i < n → ∃ g off ro rc, eo = some ⟨g, off, none⟩ ∧ g < B ∧ w.cell? ⟨g, off + i, none⟩ = some (.slice ro (E i).length rc) ∧ (E i).length ≤ rc ∧ rc ≤ maxLen ∧
    ∀ j x, (E i)[j]? = some x → ∃ p po, ro = some ⟨p, po, none⟩ ∧ p < B ∧ w.cell? ⟨p, po + j, none⟩ = some (.int .i64 x)
theorem EdAt.below {B : Nat} {w w1 : World} {eo : Option Addr} {n ec : Nat} {E : Nat → List Int} (h : EdAt B w eo n ec E) (hb : Below B w w1) : EdAt B w1 eo n ec E := by
  refine ⟨h.le, fun i hi => ?_⟩
  obtain ⟨g, off, ro, rc, e, hg, hc, h1, h2, hx⟩ := h.row i hi
  refine ⟨g, off, ro, rc, e, hg, (hb.cell (p := ⟨g, off + i, none⟩) hg).trans hc, h1, h2, fun j x hj => ?_⟩
  obtain ⟨p, po, e2, hp, hc2⟩ := hx j x hj
  exact ⟨p, po, e2, hp, (hb.cell (p := ⟨p, po + j, none⟩) hp).trans hc2⟩

def ofI (s : St) : Nat → Int := fun v => match s.ofc v with
  | none => -1
  | some i => (i : Int)
theorem ofI_pop (s : St) (v : Nat) (c st : List Nat) : ofUp (ofI s) c (s.comps.length : Int) = ofI (s.pop v c st) := by
  funext y
  show ofUp (ofI s) c (s.comps.length : Int) y = match (if y ∈ c then some s.comps.length else s.ofc y) with
    | none => -1
    | some i => (i : Int)
  unfold ofUp
  by_cases h : y ∈ c
  · rw [if_pos h, if_pos h]
  · rw [if_neg h, if_neg h]; rfl
theorem ofI_some {s : St} {v i : Nat} (h : s.ofc v = some i) : ofI s v = (i : Int) := by unfold ofI; rw [h]
theorem ofI_none {s : St} {v : Nat} (h : s.ofc v = none) : ofI s v = -1 := by unfold ofI; rw [h]

def cellsF (l : List (Nat × Nat)) : List Value := l.flatMap fun f => [.int .i64 (f.1 : Int), .int .i64 (f.2 : Int)]
theorem cellsF_length (l : List (Nat × Nat)) : (cellsF l).length = l.length * 2 := by
  induction l with
  | nil => rfl
  | cons x l ih => simp [cellsF] at ih ⊢; omega
theorem cellsF_append (l m : List (Nat × Nat)) : cellsF (l ++ m) = cellsF l ++ cellsF m := by simp [cellsF]
theorem cellsF_take (l : List (Nat × Nat)) (i : Nat) : cellsF (l.take i) = (cellsF l).take (i * 2) := by
  induction l generalizing i with
  | nil => simp [cellsF]
  | cons x l ih =>
    cases i with
    | zero => simp [cellsF]
    | succ i =>
      have := ih i
      simp only [cellsF, List.take_succ_cons, List.flatMap_cons] at this ⊢
      rw [this, show (i + 1) * 2 = i * 2 + 2 by omega]
      rfl
theorem cellsF_get (l : List (Nat × Nat)) (i : Nat) (f : Nat × Nat) (h : l[i]? = some f) : (cellsF l)[i * 2]? = some (.int .i64 (f.1 : Int)) ∧ (cellsF l)[i * 2 + 1]? = some (.int .i64 (f.2 : Int)) := by
  induction l generalizing i with
  | nil => simp at h
  | cons y l ih =>
    cases i with
    | zero => simp at h; subst h; exact ⟨rfl, rfl⟩
    | succ i =>
      have := ih i (by simpa using h)
      rw [show (i + 1) * 2 = i * 2 + 2 by omega]
      exact this
theorem cellsF_set (l : List (Nat × Nat)) (i v a : Nat) (h : l[i]? = some (v, a)) (x : Nat) : (cellsF l).set (i * 2 + 1) (.int .i64 (x : Int)) = cellsF (l.set i (v, x)) := by
  induction l generalizing i with
  | nil => simp at h
  | cons y l ih =>
    cases i with
    | zero => simp at h; subst h; rfl
    | succ i =>
      have := ih i (by simpa using h)
      rw [show (i + 1) * 2 + 1 = (i * 2 + 1) + 2 by omega]
      show y.1 |> fun _ => ([Value.int .i64 (y.1 : Int), .int .i64 (y.2 : Int)] ++ cellsF l).set (i * 2 + 1 + 2) _ = [Value.int .i64 (y.1 : Int), .int .i64 (y.2 : Int)] ++ cellsF (l.set i (v, x))
      rw [← this]
      rfl
theorem own_setcell {w : World} {B : Nat} {e : TypeId} {size g n cap : Nat} {xs : List Value} (h : w.ownsRow B e size (.slice (some ⟨g, 0, none⟩) n cap) n xs) (j : Nat) (u : Value) :
    (w.setCell ⟨g, j, none⟩ u).ownsRow B e size (.slice (some ⟨g, 0, none⟩) n cap) n (xs.set j u) := by
  refine ⟨by rw [List.length_set]; exact h.1, ?_⟩
  rcases h.2 with ⟨h0, _⟩ | ⟨g', c, cur, e0, hb, hg, hnc, hm, hs, ht⟩
  · cases h0
  · cases e0
    refine .inr ⟨g, cap, cur.setIfInBounds j u, rfl, hb, ?_, hnc, hm, ?_, ?_⟩
    · have := heap_set w g j u g _ _ _ hg
      rwa [if_pos rfl] at this
    · simpa using hs
    · rw [← ht, Array.toList_setIfInBounds, List.take_set]

/-- all that holds at the head of a round; fr: the last one first -/
structure WK (E : Nat → List Int) (n B : Nat) (W0 : World) (s0 : St) (eo : Option Addr) (ec : Nat) (w : World) (b : Nat) (m : Lay) (s : St) (fr : List (Nat × Nat)) (fo : Option Addr) (fc : Nat) : Prop where
  fm : FM B n w b m s (ofI s)
  inv : Inv E n s fr
  he : m.eo = eo ∧ m.ec = ec
  fown : w.ownsRow B 151 2 (.slice fo fr.length fc) fr.length (cellsF fr.reverse)
  cnt : s.comps.length + s.stack.length ≤ s.next ∧ s.next + unv n s.num = n ∧ fr.length + unv n s.num ≤ n
  bel : Below B W0 w
  mono : ∀ v, s0.num v ≠ 0 → s.num v ≠ 0
section
variable {E : Nat → List Int} {n B : Nat} {W0 w w1 : World} {s0 s : St} {eo : Option Addr} {ec b : Nat} {m : Lay} {fr : List (Nat × Nat)} {fo : Option Addr} {fc : Nat}
/-- frames lie apart -/
theorem frame_apart {w : World} {B n : Nat} {b : Nat} {m : Lay} {s : St} {o : Nat → Int} (h : FM B n w b m s o) {g : Nat} {cur : Array Value} {fr : Nat × Nat} (hg : w.heap[g]? = some (.cells cur 151 fr)) : ¬ Foot m b g ∧ ¬ Rows m g := by
  refine ⟨?_, ?_⟩
  · rintro (e | e | e | e | ⟨a, ha, e⟩ | ⟨a, ha, e⟩)
    · rw [e, h.blk] at hg; simp at hg
    · rw [e, h.hn] at hg; simp at hg
    · rw [e, h.hl] at hg; simp at hg
    · rw [e, h.ho] at hg; simp at hg
    · obtain ⟨cur', hh, _⟩ := own_heap h.stk a ha; rw [e, hh] at hg; simp at hg
    · obtain ⟨cur', hh, _⟩ := own_heap h.cmp a ha; rw [e, hh] at hg; simp at hg
  · rintro ⟨r, hr, a, ha, e⟩
    obtain ⟨i, hi⟩ := List.mem_iff_getElem?.1 hr
    have hil : i < s.comps.length := by have := (List.getElem?_eq_some_iff.1 hi).1; rw [← h.rl]; exact this
    obtain ⟨c, hc⟩ : ∃ c, s.comps[i]? = some c := ⟨_, List.getElem?_eq_getElem hil⟩
    obtain ⟨cur', hh, _⟩ := own_heap (h.row i c r hc hi) a ha
    rw [e, hh] at hg; simp at hg
theorem WK.fapart (h : WK E n B W0 s0 eo ec w b m s fr fo fc) : ∀ a, fo = some a → ¬ Foot m b a.block ∧ ¬ Rows m a.block := fun a ha => by
  obtain ⟨cur, hg, _⟩ := own_heap h.fown a ha
  exact frame_apart h.fm hg
theorem WK.below (h : WK E n B W0 s0 eo ec w b m s fr fo fc) (hb : Below w.heap.size w w1) : WK E n B W0 s0 eo ec w1 b m s fr fo fc := by
  have hB := (h.fm.lt b (.inl rfl))
  exact ⟨h.fm.below hb, h.inv, h.he, own_kept h.fown (Mods.of_below (S := fun _ => False) hb) (fun _ _ h => h), h.cnt, h.bel.trans (hb.mono (by omega)), h.mono⟩
end
/-- the stack, at one of its nodes -/
theorem split_at {E : Nat → List Int} {n : Nat} {s : St} {gr : List Nat} (h : I0 E n s gr) {i v : Nat} (hi : s.stack[i]? = some v) :
    (∀ y, y ∈ s.stack.drop i ↔ y ∈ s.stack ∧ s.num v ≤ s.num y) ∧ (∀ y, y ∈ s.stack.take i ↔ y ∈ s.stack ∧ s.num y < s.num v) ∧ ((s.stack.take i).Pairwise fun a b => s.num a < s.num b) ∧ (s.stack.drop i).Nodup ∧ ∀ (j x : Nat), j < i → s.stack[j]? = some x → x ≠ v := by
  have hil := (List.getElem?_eq_some_iff.1 hi).1
  have hsp : s.stack.take i ++ s.stack.drop i = s.stack := List.take_append_drop _ _
  have hdr : s.stack.drop i = v :: s.stack.drop (i + 1) := by rw [List.drop_eq_getElem_cons hil, (List.getElem?_eq_some_iff.1 hi).2]
  have hpw := h.pw
  rw [← hsp] at hpw
  obtain ⟨p1, p2, p3⟩ := List.pairwise_append.1 hpw
  have hv : v ∈ s.stack.drop i := by rw [hdr]; exact List.mem_cons_self
  have hlow : ∀ y ∈ s.stack.take i, s.num y < s.num v := fun y hy => p3 y hy v hv
  have hhigh : ∀ y ∈ s.stack.drop i, s.num v ≤ s.num y := fun y hy => by
    rw [hdr] at hy p2
    rcases List.mem_cons.1 hy with rfl | hy
    · exact Nat.le_refl _
    · exact Nat.le_of_lt ((List.pairwise_cons.1 p2).1 y hy)
  have hmem : ∀ y ∈ s.stack, y ∈ s.stack.take i ∨ y ∈ s.stack.drop i := fun y hy => List.mem_append.1 (by rw [hsp]; exact hy)
  refine ⟨fun y => ⟨fun hy => ⟨List.mem_of_mem_drop hy, hhigh y hy⟩, fun ⟨hy, hle⟩ => ?_⟩, fun y => ⟨fun hy => ⟨List.mem_of_mem_take hy, hlow y hy⟩, fun ⟨hy, hlt⟩ => ?_⟩, p1, ?_, fun j x hj hx e => ?_⟩
  · rcases hmem y hy with h1 | h1
    · have := hlow y h1; omega
    · exact h1
  · rcases hmem y hy with h1 | h1
    · exact h1
    · have := hhigh y h1; omega
  · exact p2.imp (fun {a b} hab e => by rw [e] at hab; omega)
  · have h1 : x ∈ s.stack.take i := by
      have : (s.stack.take i)[j]? = some x := by rw [List.getElem?_take, if_pos hj]; exact hx
      exact List.mem_of_getElem? this
    have := hlow x h1
    rw [e] at this
    omega
theorem strict_of {l l' : List Nat} (hp : l'.Perm l) (hn : l.Nodup) (hle : l'.Pairwise (· ≤ ·)) : l'.Pairwise (· < ·) := by
  have hn' : l'.Nodup := hp.nodup_iff.2 hn
  exact (hle.and hn').imp (fun {a b} h => by omega)
theorem own_cutN {w : World} {B n cap size : Nat} {e : TypeId} {ao : Option Addr} {xs : List Value} (h : w.ownsRow B e size (.slice ao n cap) n xs) (i : Nat) (hi : i ≤ n) (ha : ao ≠ none) : w.ownsRow B e size (.slice ao i cap) i (xs.take (i * size)) := by
  have hle : i * size ≤ n * size := Nat.mul_le_mul_right _ hi
  refine ⟨by rw [List.length_take, h.1]; omega, ?_⟩
  rcases h.2 with ⟨h0, _⟩ | ⟨g, c, cur, e0, hb, hg, hnc, hm, hs, ht⟩
  · cases h0; exact absurd rfl ha
  · cases e0
    refine .inr ⟨g, cap, cur, rfl, hb, hg, by omega, hm, hs, ?_⟩
    rw [← ht, List.take_take, Nat.min_eq_left hle]
theorem rev_take (f : Nat × Nat) (rest : List (Nat × Nat)) : (f :: rest).reverse.take rest.length = rest.reverse := by
  rw [List.reverse_cons, List.take_left' (by simp)]
theorem upd_self {α : Type} (f : Nat → α) (i : Nat) : upd f i (f i) = f := by
  funext j
  by_cases e : j = i
  · subst e; exact upd_same _ _ _
  · exact upd_other _ _ e
end Go.Proofs.YtndfhejfhfhbdaaGreatDoor.K
