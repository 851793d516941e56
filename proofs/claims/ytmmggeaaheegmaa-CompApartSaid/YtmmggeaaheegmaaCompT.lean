/- Plain law: ways over nodes that were looked at; the sum of the components. -/
import Derived.Test.YtmmggeaaheegmaaCompN
namespace Go.Proofs.Ytmmggeaaheegmaa.K
open Go.RowKit M T
set_option linter.unusedVariables false
set_option linter.unusedSimpArgs false

/-- a way over nodes below k alone -/
def Rk (E : Nat → List Int) (n : Nat) : Nat → Nat → Nat → Prop
  | 0, i, j => i = j ∨ T.Edge E n i j
  | k + 1, i, j => Rk E n k i j ∨ (Rk E n k i k ∧ Rk E n k k j)
section
variable {E : Nat → List Int} {n : Nat}
theorem Rk.path : ∀ {k i j : Nat}, Rk E n k i j → Path E n i j
  | 0, i, j, h => by
    rcases h with h | h
    · subst h; exact .refl i
    · exact .one h
  | k + 1, i, j, h => by
    rcases h with h | h
    · exact Rk.path h
    · exact (Rk.path h.1).trans (Rk.path h.2)
theorem Rk.refl : ∀ (k i : Nat), Rk E n k i i
  | 0, i => .inl rfl
  | k + 1, i => .inl (Rk.refl k i)
theorem Rk.edge {i j : Nat} (h : T.Edge E n i j) : ∀ k, Rk E n k i j
  | 0 => .inr h
  | k + 1 => .inl (Rk.edge h k)
theorem Rk.trans : ∀ {k i v j : Nat}, v < k → Rk E n k i v → Rk E n k v j → Rk E n k i j
  | 0, i, v, j, hv, _, _ => by omega
  | k + 1, i, v, j, hv, h1, h2 => by
    by_cases e : v = k
    · subst e
      have a : Rk E n v i v := by
        rcases h1 with h | h
        · exact h
        · exact h.1
      have b : Rk E n v v j := by
        rcases h2 with h | h
        · exact h
        · exact h.2
      exact .inr ⟨a, b⟩
    · have hv : v < k := by omega
      rcases h1 with h1 | h1 <;> rcases h2 with h2 | h2
      · exact .inl (Rk.trans hv h1 h2)
      · exact .inr ⟨Rk.trans hv h1 h2.1, h2.2⟩
      · exact .inr ⟨h1.1, Rk.trans hv h1.2 h2⟩
      · exact .inr ⟨h1.1, h2.2⟩
theorem Rk.of {i j : Nat} (h : Path E n i j) : Rk E n n i j := by
  induction h with
  | refl u => exact Rk.refl n u
  | step e _ ih => exact Rk.trans e.2.1 (Rk.edge e n) ih

theorem cover_ge : ∀ (n : Nat) (l : List Nat), (∀ v, v < n → v ∈ l) → n ≤ l.length := by
  intro n
  induction n with
  | zero => intro l _; omega
  | succ n ih =>
    intro l h
    have h1 := ih (l.erase n) (fun v hv => (List.mem_erase_of_ne (by omega)).2 (h v (by omega)))
    have h2 := h n (by omega)
    rw [List.length_erase_of_mem h2] at h1
    have := List.length_pos_of_mem h2
    omega
variable {L : List (List Nat)} {q : Nat → Nat}
theorem Comp.path_le (h : Comp E n L q) {u v : Nat} (hp : Path E n u v) : q v ≤ q u := by
  induction hp with
  | refl => exact Nat.le_refl _
  | step e _ ih => exact Nat.le_trans ih (h.d4 _ _ e)
theorem Path.lt {u v : Nat} (hp : Path E n u v) (hu : u < n) : v < n := by
  induction hp with
  | refl => exact hu
  | step e _ ih => exact ih e.2.1
theorem Comp.mem_iff (h : Comp E n L q) {i : Nat} {c : List Nat} (hc : L[i]? = some c) (v : Nat) : v ∈ c ↔ v < n ∧ q v = i := by
  refine ⟨fun hv => h.d2 i c v hc hv, fun ⟨hv, e⟩ => ?_⟩
  obtain ⟨c', hc', hm⟩ := h.d1 v hv
  rw [e, hc] at hc'
  rw [Option.some.inj hc']; exact hm
/-- one of the two is in the other's component just if each leads to the other -/
theorem Comp.both (h : Comp E n L q) {u v : Nat} (hu : u < n) (hv : v < n) : q u = q v ↔ Path E n u v ∧ Path E n v u :=
  ⟨fun e => ⟨h.d5 u v hu hv e, h.d5 v u hv hu e.symm⟩, fun ⟨h1, h2⟩ => by have a := h.path_le h1; have b := h.path_le h2; omega⟩
theorem flat_nodup (h : Comp E n L q) : L.flatten.Nodup := by
  unfold List.Nodup
  rw [List.pairwise_flatten]
  refine ⟨fun c hc => (h.d3 c hc).1.imp (fun hlt => by omega), ?_⟩
  rw [List.pairwise_iff_getElem]
  intro i j hi hj hij x hx y hy e
  have h1 := (h.d2 i _ x (List.getElem?_eq_getElem hi) hx).2
  have h2 := (h.d2 j _ y (List.getElem?_eq_getElem hj) hy).2
  rw [e] at h1
  omega
theorem Comp.sum (h : Comp E n L q) : L.flatten.length = n := by
  have h1 : L.flatten.length ≤ n := by
    have key : ∀ (n : Nat) (l : List Nat), l.Nodup → (∀ v ∈ l, v < n) → l.length ≤ n := by
      intro n
      induction n with
      | zero =>
        intro l _ h
        cases l with
        | nil => exact Nat.le_refl _
        | cons a t => have := h a List.mem_cons_self; omega
      | succ n ih =>
        intro l hd h
        have h1 := ih (l.erase n) (hd.erase n) (fun v hv => by
          have h2 := h v (List.mem_of_mem_erase hv)
          have h3 : v ≠ n := fun e => (hd.mem_erase_iff.1 hv).1 e
          omega)
        have h4 : l.length - 1 ≤ (l.erase n).length := by
          by_cases e : n ∈ l
          · rw [List.length_erase_of_mem e]; exact Nat.le_refl _
          · rw [List.erase_of_not_mem e]; omega
        omega
    refine key n _ (flat_nodup h) fun v hv => ?_
    obtain ⟨c, hc, hvc⟩ := List.mem_flatten.1 hv
    obtain ⟨i, hi⟩ := List.mem_iff_getElem?.1 hc
    exact (h.d2 i c v hi hvc).1
  have h2 : n ≤ L.flatten.length := cover_ge n _ fun v hv => by
    obtain ⟨c, hc, hm⟩ := h.d1 v hv
    exact List.mem_flatten.2 ⟨c, List.mem_of_getElem? hc, hm⟩
  omega

/-- the document's choice: it hasn't come, and what it leads to has, or leads back -/
def okV (E : Nat → List Int) (n : Nat) (come : Nat → Bool) (v : Nat) : Prop := come v = false ∧ ∀ w, w < n → Path E n v w → come w = true ∨ Path E n w v
def comeP (q : Nat → Nat) (p : Nat) (v : Nat) : Bool := decide (q v < p)
theorem comp_head (h : Comp E n L q) {p : Nat} {c : List Nat} (hc : L[p]? = some c) : c.headD 0 < n ∧ q (c.headD 0) = p ∧ headOf L p = c.headD 0 ∧ ∀ v ∈ c, c.headD 0 ≤ v := by
  have h3 := h.d3 c (List.mem_of_getElem? hc)
  cases c with
  | nil => exact absurd rfl h3.2
  | cons a t =>
    have h2 := h.d2 p _ a hc List.mem_cons_self
    refine ⟨h2.1, h2.2, ?_, fun v hv => ?_⟩
    · unfold headOf; simp [List.getD, hc]
    · rcases List.mem_cons.1 hv with e | e
      · subst e; exact Nat.le_refl _
      · exact Nat.le_of_lt ((List.pairwise_cons.1 h3.1).1 v e)
theorem InOrder.ok_head (h : InOrder E n L q) {p : Nat} {c : List Nat} (hc : L[p]? = some c) : okV E n (comeP q p) (c.headD 0) := by
  obtain ⟨h1, h2, _, _⟩ := comp_head h.co hc
  refine ⟨by unfold comeP; rw [decide_eq_false]; omega, fun w hw hp => ?_⟩
  have hle := h.co.path_le hp
  by_cases e : q w < p
  · left; unfold comeP; exact decide_eq_true e
  · right; exact h.co.d5 w _ hw h1 (by omega)
theorem InOrder.ok_below (h : InOrder E n L q) {p : Nat} {c : List Nat} (hc : L[p]? = some c) {v : Nat} (hv : v < c.headD 0) : ¬ okV E n (comeP q p) v := by
  obtain ⟨h1, h2, h3, h4⟩ := comp_head h.co hc
  rintro ⟨a1, a2⟩
  have hvn : v < n := by omega
  unfold comeP at a1
  have hqp : p ≤ q v := by have := of_decide_eq_false a1; omega
  obtain ⟨c', hc', hvc⟩ := h.co.d1 v hvn
  obtain ⟨g1, g2, g3, g4⟩ := comp_head h.co hc'
  have hvh := g4 v hvc
  have hpp : p < q v := by
    rcases Nat.lt_or_ge p (q v) with e | e
    · exact e
    · have e : q v = p := by omega
      rw [e, hc] at hc'
      obtain rfl := Option.some.inj hc'
      omega
  obtain ⟨u, x, hu, he, hpx, hx⟩ := h.le p (q v) hpp (List.getElem?_eq_some_iff.1 hc').1 (by omega)
  have hvx : Path E n v x := (h.co.d5 v u hvn he.1 hu.symm).trans (.one he)
  rcases a2 x he.2.1 hvx with b | b
  · unfold comeP at b
    have := of_decide_eq_true b
    omega
  · have b1 := h.co.path_le b
    have b2 := h.co.path_le hvx
    exact hx (by omega)
theorem InOrder.cls (h : InOrder E n L q) {p : Nat} {c : List Nat} (hc : L[p]? = some c) (w : Nat) : w ∈ c ↔ w < n ∧ Path E n (c.headD 0) w ∧ Path E n w (c.headD 0) := by
  obtain ⟨h1, h2, _, _⟩ := comp_head h.co hc
  rw [h.co.mem_iff hc]
  refine ⟨fun ⟨a, b⟩ => ⟨a, (h.co.both h1 a).1 (by omega)⟩, fun ⟨a, b⟩ => ⟨a, ?_⟩⟩
  have := (h.co.both h1 a).2 b
  omega
theorem comeP_next (h : Comp E n L q) {p : Nat} {c : List Nat} (hc : L[p]? = some c) {v : Nat} (hv : v < n) : (comeP q p v || decide (v ∈ c)) = comeP q (p + 1) v := by
  have := h.mem_iff hc v
  unfold comeP
  rw [Bool.eq_iff_iff, Bool.or_eq_true, decide_eq_true_eq, decide_eq_true_eq, decide_eq_true_eq, this]
  constructor
  · rintro (a | a) <;> omega
  · intro a
    by_cases e : q v < p
    · exact .inl e
    · exact .inr ⟨hv, by omega⟩
theorem sum_drop {p : Nat} {c : List Nat} (hc : L[p]? = some c) : (L.drop p).flatten.length = c.length + (L.drop (p + 1)).flatten.length := by
  have hp := (List.getElem?_eq_some_iff.1 hc)
  rw [List.drop_eq_getElem_cons hp.1, hp.2, List.flatten_cons, List.length_append]
theorem sum_zero (h : Comp E n L q) {p : Nat} (hp : (L.drop p).flatten.length = 0) : L.length ≤ p := by
  rcases Nat.lt_or_ge p L.length with e | e
  · obtain ⟨c, hc⟩ : ∃ c, L[p]? = some c := ⟨_, List.getElem?_eq_getElem e⟩
    have h1 := sum_drop hc
    have h2 := List.length_pos_iff.2 (h.d3 c (List.mem_of_getElem? hc)).2
    omega
  · exact e
end
end Go.Proofs.Ytmmggeaaheegmaa.K
