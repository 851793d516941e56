/- Several texts in one. -/
import Derived.Test.YtndfhejfhfhbdaaGreatDoorTar

/- Plain law of the order (no program in sight): ids and their order, sorting by a total order, places in a sorted order of components. -/
namespace Go.Proofs.YtndfhejfhfhbdaaGreatDoor.O
open T
set_option linter.unusedVariables false

structure Id where
  r : Int
  n : Int
theorem Id.eq_of {a b : Id} (h1 : a.r = b.r) (h2 : a.n = b.n) : a = b := by cases a; cases b; cases h1; cases h2; rfl
instance : DecidableEq Id := fun a b => if h : a.r = b.r ∧ a.n = b.n then isTrue (Id.eq_of h.1 h.2) else isFalse (fun e => h (by rw [e]; exact ⟨rfl, rfl⟩))
instance : Inhabited Id := ⟨⟨0, 0⟩⟩
/-- is an id ahead of another one? -/
def ilt (a b : Id) : Bool := decide (a.n < b.n) || (decide (a.n = b.n) && decide (a.r < b.r))
theorem ilt_iff {a b : Id} : ilt a b = true ↔ a.n < b.n ∨ (a.n = b.n ∧ a.r < b.r) := by
  unfold ilt
  simp only [Bool.or_eq_true, Bool.and_eq_true, decide_eq_true_eq]
theorem ilt_no {a b : Id} : ilt a b = false ↔ ¬ (a.n < b.n ∨ (a.n = b.n ∧ a.r < b.r)) := by
  rw [← ilt_iff, Bool.not_eq_true]
theorem ilt_irr (a : Id) : ilt a a = false := by rw [ilt_no]; omega
theorem ilt_trans {a b c : Id} (h : ilt a b = true) (h2 : ilt b c = true) : ilt a c = true := by
  rw [ilt_iff] at *; omega
theorem ilt_tri {a b : Id} (h : a ≠ b) : ilt a b = true ∨ ilt b a = true := by
  rw [ilt_iff, ilt_iff]
  by_cases h1 : a.n = b.n
  · by_cases h2 : a.r = b.r
    · exact absurd (Id.eq_of h2 h1) h
    · omega
  · omega
theorem ilt_asymm {a b : Id} (h : ilt a b = true) : ilt b a = false := by
  rw [ilt_iff] at h; rw [ilt_no]; omega
/-- what the program's comparing says -/
def ico (a b : Id) : Int := if a = b then 0 else if ilt a b then -1 else 1
theorem ico_neg {a b : Id} : ico a b < 0 ↔ ilt a b = true := by
  unfold ico
  by_cases h : a = b
  · rw [if_pos h, h, ilt_irr]; simp
  · rw [if_neg h]
    cases ilt a b <;> simp
theorem ico_zero {a b : Id} : ico a b = 0 ↔ a = b := by
  unfold ico
  by_cases h : a = b
  · rw [if_pos h]; simp [h]
  · rw [if_neg h]
    cases ilt a b <;> simp [h]

/-! A strict total order on what differs. -/
structure Tot {α : Type} (lt : α → α → Bool) (l : List α) : Prop where
  irr : ∀ a, lt a a = false
  tr : ∀ a b c, lt a b = true → lt b c = true → lt a c = true
  tri : ∀ a ∈ l, ∀ b ∈ l, a ≠ b → lt a b = true ∨ lt b a = true
section
variable {α : Type} {lt : α → α → Bool}
theorem Tot.perm {l m : List α} (h : Tot lt l) (hp : m.Perm l) : Tot lt m :=
  ⟨h.irr, h.tr, fun a ha b hb => h.tri a (hp.mem_iff.1 ha) b (hp.mem_iff.1 hb)⟩
theorem Tot.sub {l m : List α} (h : Tot lt l) (hs : ∀ x ∈ m, x ∈ l) : Tot lt m :=
  ⟨h.irr, h.tr, fun a ha b hb => h.tri a (hs a ha) b (hs b hb)⟩
/-- a list is sorted in one way alone -/
theorem sorted_one : ∀ {l m : List α}, (∀ a, lt a a = false) → (∀ a b c, lt a b = true → lt b c = true → lt a c = true) → l.Pairwise (fun a b => lt a b = true) → m.Pairwise (fun a b => lt a b = true) → (∀ x, x ∈ l ↔ x ∈ m) → l = m
  | [], [], _, _, _, _, _ => rfl
  | [], b :: m, _, _, _, _, h => by have := (h b).2 List.mem_cons_self; cases this
  | a :: l, [], _, _, _, _, h => by have := (h a).1 List.mem_cons_self; cases this
  | a :: l, b :: m, irr, tr, h1, h2, h => by
    have p1 := List.pairwise_cons.1 h1
    have p2 := List.pairwise_cons.1 h2
    have hab : a = b := by
      rcases List.mem_cons.1 ((h a).1 List.mem_cons_self) with e | e
      · exact e
      · rcases List.mem_cons.1 ((h b).2 List.mem_cons_self) with e2 | e2
        · exact e2.symm
        · have := tr _ _ _ (p1.1 b e2) (p2.1 a e)
          rw [irr] at this; cases this
    subst hab
    congr 1
    refine sorted_one irr tr p1.2 p2.2 fun x => ⟨fun hx => ?_, fun hx => ?_⟩
    · rcases List.mem_cons.1 ((h x).1 (List.mem_cons_of_mem _ hx)) with e | e
      · subst e
        have := p1.1 _ hx
        rw [irr] at this; cases this
      · exact e
    · rcases List.mem_cons.1 ((h x).2 (List.mem_cons_of_mem _ hx)) with e | e
      · subst e
        have := p2.1 _ hx
        rw [irr] at this; cases this
      · exact e
theorem pw_nodup {l : List α} (irr : ∀ a, lt a a = false) (h : l.Pairwise (fun a b => lt a b = true)) : l.Nodup :=
  h.imp fun {a b} hab e => by subst e; rw [irr] at hab; cases hab
/-- one more, behind all that it isn't ahead of -/
def insE (lt : α → α → Bool) (x : α) : List α → List α
  | [] => [x]
  | a :: l => if lt x a then x :: a :: l else a :: insE lt x l
theorem insE_perm (x : α) : ∀ l : List α, (insE lt x l).Perm (x :: l)
  | [] => .refl _
  | a :: l => by
    unfold insE
    cases lt x a with
    | true => exact .refl _
    | false => exact ((insE_perm x l).cons a).trans (.swap x a l)
theorem insE_sorted (x : α) : ∀ {l : List α}, Tot lt (x :: l) → x ∉ l → l.Pairwise (fun a b => lt a b = true) → (insE lt x l).Pairwise (fun a b => lt a b = true)
  | [], _, _, _ => by simp [insE]
  | a :: l, hT, hx, h => by
    have p := List.pairwise_cons.1 h
    unfold insE
    cases e : lt x a with
    | true =>
      rw [if_pos rfl]
      refine List.pairwise_cons.2 ⟨fun y hy => ?_, h⟩
      rcases List.mem_cons.1 hy with e2 | e2
      · rw [e2]; exact e
      · exact hT.tr _ _ _ e (p.1 y e2)
    | false =>
      rw [if_neg (by simp)]
      have hxa : x ≠ a := fun e => hx (by rw [e]; exact List.mem_cons_self)
      have hax : lt a x = true := by
        rcases hT.tri x List.mem_cons_self a (List.mem_cons_of_mem _ List.mem_cons_self) hxa with h1 | h1
        · rw [e] at h1; cases h1
        · exact h1
      refine List.pairwise_cons.2 ⟨fun y hy => ?_, insE_sorted x (hT.sub fun y hy => ?_) (fun hm => hx (List.mem_cons_of_mem _ hm)) p.2⟩
      · rcases List.mem_cons.1 ((insE_perm x l).mem_iff.1 hy) with e2 | e2
        · rw [e2]; exact hax
        · exact p.1 y e2
      · rcases List.mem_cons.1 hy with e2 | e2
        · rw [e2]; exact List.mem_cons_self
        · exact List.mem_cons_of_mem _ (List.mem_cons_of_mem _ e2)
def srt (lt : α → α → Bool) (l : List α) : List α := l.foldl (fun o x => insE lt x o) []
theorem srt_perm_gen : ∀ (l o : List α), (l.foldl (fun o x => insE lt x o) o).Perm (o ++ l)
  | [], o => by simp
  | a :: l, o => by
    rw [List.foldl_cons]
    refine (srt_perm_gen l _).trans ?_
    refine (((insE_perm a o).append_right l)).trans ?_
    exact List.perm_middle.symm
theorem srt_perm (l : List α) : (srt lt l).Perm l := by have := srt_perm_gen (lt := lt) l []; rwa [List.nil_append] at this
theorem srt_sorted_gen : ∀ (l o : List α), Tot lt (o ++ l) → (o ++ l).Nodup → o.Pairwise (fun a b => lt a b = true) → (l.foldl (fun o x => insE lt x o) o).Pairwise (fun a b => lt a b = true)
  | [], o, _, _, h => h
  | a :: l, o, hT, hn, h => by
    rw [List.foldl_cons]
    have hp : (insE lt a o ++ l).Perm (o ++ a :: l) := ((insE_perm a o).append_right l).trans List.perm_middle.symm
    refine srt_sorted_gen l _ (hT.perm hp) (hp.nodup_iff.2 hn) (insE_sorted a (hT.sub fun y hy => ?_) (fun hm => ?_) h)
    · rcases List.mem_cons.1 hy with e | e
      · rw [e]; exact List.mem_append_right _ List.mem_cons_self
      · exact List.mem_append_left _ e
    · exact (List.nodup_append.1 hn).2.2 a hm a List.mem_cons_self rfl
theorem srt_sorted {l : List α} (hT : Tot lt l) (hn : l.Nodup) : (srt lt l).Pairwise (fun a b => lt a b = true) :=
  srt_sorted_gen l [] hT hn .nil
/-- whatever is sorted of the same is this -/
theorem srt_one {l m : List α} (hT : Tot lt l) (hn : l.Nodup) (hp : m.Perm l) (hs : m.Pairwise (fun a b => lt a b = true)) : m = srt lt l :=
  sorted_one hT.irr hT.tr hs (srt_sorted hT hn) fun x => hp.mem_iff.trans (srt_perm l).mem_iff.symm
theorem srt_same {l m : List α} (hT : Tot lt l) (hn : l.Nodup) (hp : m.Perm l) : srt lt m = srt lt l :=
  srt_one hT hn ((srt_perm m).trans hp) (srt_sorted (hT.perm hp) (hp.nodup_iff.2 hn))
end
end Go.Proofs.YtndfhejfhfhbdaaGreatDoor.O

/- Plain law of the order: components in their order, each sorted within; where each node stands. -/
namespace Go.Proofs.YtndfhejfhfhbdaaGreatDoor.O
open T
set_option linter.unusedVariables false

/-- components, and which one each node is in -/
structure Cmps (E : Nat → List Int) (n : Nat) (L : List (List Nat)) (q : Nat → Nat) : Prop where
  d1 : ∀ v, v < n → ∃ c, L[q v]? = some c ∧ v ∈ c
  d2 : ∀ i c v, L[i]? = some c → v ∈ c → v < n ∧ q v = i
  d3 : ∀ c ∈ L, c.Pairwise (· < ·) ∧ c ≠ []
  d4 : ∀ u w, T.Edge E n u w → q w ≤ q u
  d5 : ∀ u w, u < n → w < n → q u = q w → Path E n u w
/-- the nodes in their order -/
def rowN (wl : Nat → Nat → Bool) (L : List (List Nat)) : List Nat := L.flatMap (srt wl)
/-- one node ahead of another one -/
def Ahd (q : Nat → Nat) (wl : Nat → Nat → Bool) (u v : Nat) : Prop := q u < q v ∨ (q u = q v ∧ wl u v = true)
section
variable {E : Nat → List Int} {n : Nat} {L : List (List Nat)} {q : Nat → Nat} {wl : Nat → Nat → Bool}
theorem Cmps.path (h : Cmps E n L q) {u v : Nat} (hp : Path E n u v) : q v ≤ q u := by
  induction hp with
  | refl => exact Nat.le_refl _
  | step e _ ih => have := h.d4 _ _ e; omega
theorem rowN_mem (h : Cmps E n L q) {v : Nat} : v ∈ rowN wl L ↔ v < n := by
  unfold rowN
  rw [List.mem_flatMap]
  refine ⟨fun ⟨c, hc, hv⟩ => ?_, fun hv => ?_⟩
  · obtain ⟨i, hi⟩ := List.mem_iff_getElem?.1 hc
    exact (h.d2 i c v hi ((srt_perm c).mem_iff.1 hv)).1
  · obtain ⟨c, hc, hvc⟩ := h.d1 v hv
    exact ⟨c, List.mem_of_getElem? hc, (srt_perm c).mem_iff.2 hvc⟩
theorem rowN_pw (h : Cmps E n L q) (hT : Tot wl (List.range n)) : (rowN wl L).Pairwise (Ahd q wl) := by
  unfold rowN
  rw [List.pairwise_flatMap]
  refine ⟨fun c hc => ?_, ?_⟩
  · obtain ⟨i, hi⟩ := List.mem_iff_getElem?.1 hc
    have hT2 : Tot wl c := hT.sub fun x hx => List.mem_range.2 (h.d2 i c x hi hx).1
    refine (srt_sorted hT2 ((h.d3 c hc).1.imp fun h => Nat.ne_of_lt h)).imp_of_mem fun {a b} ha hb hab => .inr ⟨?_, hab⟩
    rw [(h.d2 i c a hi ((srt_perm c).mem_iff.1 ha)).2, (h.d2 i c b hi ((srt_perm c).mem_iff.1 hb)).2]
  · rw [List.pairwise_iff_getElem]
    intro i j hi hj hij x hx y hy
    left
    rw [(h.d2 i _ x (List.getElem?_eq_getElem hi) ((srt_perm _).mem_iff.1 hx)).2, (h.d2 j _ y (List.getElem?_eq_getElem hj) ((srt_perm _).mem_iff.1 hy)).2]
    exact hij
theorem ahd_irr (hT : Tot wl (List.range n)) (u : Nat) : ¬ Ahd q wl u u := by
  rintro (h | ⟨_, h⟩)
  · omega
  · rw [hT.irr] at h; cases h
theorem ahd_asymm (hT : Tot wl (List.range n)) {u v : Nat} (h1 : Ahd q wl u v) (h2 : Ahd q wl v u) : False := by
  rcases h1 with h1 | ⟨e1, h1⟩ <;> rcases h2 with h2 | ⟨e2, h2⟩
  · omega
  · omega
  · omega
  · have := hT.tr _ _ _ h1 h2
    rw [hT.irr] at this; cases this
theorem rowN_nodup (h : Cmps E n L q) (hT : Tot wl (List.range n)) : (rowN wl L).Nodup :=
  (rowN_pw h hT).imp fun {a b} hab e => by subst e; exact ahd_irr hT a hab
theorem rowN_perm (h : Cmps E n L q) (hT : Tot wl (List.range n)) : (rowN wl L).Perm (List.range n) :=
  (List.perm_ext_iff_of_nodup (rowN_nodup h hT) List.nodup_range).2 fun v => (rowN_mem h).trans List.mem_range.symm
theorem rowN_len (h : Cmps E n L q) (hT : Tot wl (List.range n)) : (rowN wl L).length = n := by
  rw [(rowN_perm h hT).length_eq, List.length_range]
theorem idx_pw {R : Nat → Nat → Prop} (hi : ∀ u, ¬ R u u) (ha : ∀ u v, R u v → R v u → False) {l : List Nat} (hp : l.Pairwise R) {u v : Nat} (hu : u ∈ l) (hv : v ∈ l) (h : R u v) : l.idxOf u < l.idxOf v := by
  have l1 := List.idxOf_lt_length_of_mem hu
  have l2 := List.idxOf_lt_length_of_mem hv
  rcases Nat.lt_trichotomy (l.idxOf u) (l.idxOf v) with e | e | e
  · exact e
  · have h1 := List.getElem_idxOf l1
    have h2 := List.getElem_idxOf l2
    have : u = v := by rw [← h1, ← h2]; congr 1
    subst this
    exact absurd h (hi _)
  · have := List.pairwise_iff_getElem.1 hp _ _ l2 l1 e
    rw [List.getElem_idxOf, List.getElem_idxOf] at this
    exact (ha _ _ h this).elim
theorem rowN_place (h : Cmps E n L q) (hT : Tot wl (List.range n)) {u v : Nat} (hu : u < n) (hv : v < n) (hne : u ≠ v) : (rowN wl L).idxOf u < (rowN wl L).idxOf v ↔ Ahd q wl u v := by
  refine ⟨fun h1 => ?_, fun h1 => idx_pw (ahd_irr hT) (fun _ _ => ahd_asymm hT) (rowN_pw h hT) ((rowN_mem h).2 hu) ((rowN_mem h).2 hv) h1⟩
  have back : Ahd q wl v u → False := fun h2 => by
    have := idx_pw (ahd_irr hT) (fun _ _ => ahd_asymm hT) (rowN_pw h hT) ((rowN_mem h).2 hv) ((rowN_mem h).2 hu) h2
    omega
  rcases Nat.lt_trichotomy (q u) (q v) with e | e | e
  · exact .inl e
  · rcases hT.tri u (List.mem_range.2 hu) v (List.mem_range.2 hv) hne with e2 | e2
    · exact .inr ⟨e, e2⟩
    · exact (back (.inr ⟨e.symm, e2⟩)).elim
  · exact (back (.inl e)).elim
/-- of two, one of which leads to the other -/
theorem place_path (h : Cmps E n L q) (hT : Tot wl (List.range n)) {u v : Nat} (hu : u < n) (hv : v < n) (hne : u ≠ v) (hp : Path E n u v) : (rowN wl L).idxOf u < (rowN wl L).idxOf v ↔ (Path E n v u ∧ wl u v = true) := by
  rw [rowN_place h hT hu hv hne]
  have h1 := h.path hp
  refine ⟨fun h2 => ?_, fun h2 => .inr ⟨?_, h2.2⟩⟩
  · rcases h2 with h2 | ⟨h2, h3⟩
    · omega
    · exact ⟨h.d5 v u hv hu h2.symm, h3⟩
  · have := h.path h2.1
    omega
end
end Go.Proofs.YtndfhejfhfhbdaaGreatDoor.O
