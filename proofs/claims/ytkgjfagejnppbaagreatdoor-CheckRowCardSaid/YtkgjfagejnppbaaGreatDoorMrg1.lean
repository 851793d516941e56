/- Several texts in one. -/
import Derived.Test.YtkgjfagejnppbaaGreatDoorTar
import Derived.Test.YtkgjfagejnppbaaGreatDoorRows
import Derived.WalkKit
import Derived.WalkSpells
import Derived.WalkLawsBesides
import Derived.BigQuiet
import Derived.Deep.QuietTactic
import Derived.Lib.Hide
import Derived.LoopTactic
import Derived.Handy
import Derived.PlainAid
import Derived.Lib.DecodeN
import Derived.Lib.RuneCount
import Derived.OwnWalk

/- Plain law of the order (no program in sight): ids and their order, sorting by a total order, places in a sorted order of components. -/
namespace Go.Proofs.YtkgjfagejnppbaaGreatDoor.O
open T
set_option linter.unusedVariables false

structure Id where
  r : Int
  n : Int
theorem Id.eq_of {a b : Id} (h1 : a.r = b.r) (h2 : a.n = b.n) : a = b := by cases a; cases b; cases h1; cases h2; rfl
instance : DecidableEq Id := fun a b => if h : a.r = b.r ∧ a.n = b.n then isTrue (Id.eq_of h.1 h.2) else isFalse (fun e => h (by rw [e]; exact ⟨rfl, rfl⟩))
instance : Inhabited Id := ⟨⟨0, 0⟩⟩
/-- is an id ahead of another one? -/
def ilt (a b : Id) : Bool := decide (a.n < b.n) || (decide (a.n = b.n) && decide (a.r < b.r))
theorem ilt_iff {a b : Id} : ilt a b = true ↔ a.n < b.n ∨ (a.n = b.n ∧ a.r < b.r) := by
  unfold ilt
  simp only [Bool.or_eq_true, Bool.and_eq_true, decide_eq_true_eq]
theorem ilt_no {a b : Id} : ilt a b = false ↔ ¬ (a.n < b.n ∨ (a.n = b.n ∧ a.r < b.r)) := by
  rw [← ilt_iff, Bool.not_eq_true]
theorem ilt_irr (a : Id) : ilt a a = false := by rw [ilt_no]; omega
theorem ilt_trans {a b c : Id} (h : ilt a b = true) (h2 : ilt b c = true) : ilt a c = true := by
  rw [ilt_iff] at *; omega
theorem ilt_tri {a b : Id} (h : a ≠ b) : ilt a b = true ∨ ilt b a = true := by
  rw [ilt_iff, ilt_iff]
  by_cases h1 : a.n = b.n
  · by_cases h2 : a.r = b.r
    · exact absurd (Id.eq_of h2 h1) h
    · omega
  · omega
/-- what the program's comparing says -/
def ico (a b : Id) : Int := if a = b then 0 else if ilt a b then -1 else 1
theorem ico_neg {a b : Id} : ico a b < 0 ↔ ilt a b = true := by
  unfold ico
  by_cases h : a = b
  · rw [if_pos h, h, ilt_irr]; simp
  · rw [if_neg h]
    cases ilt a b <;> simp
theorem ico_zero {a b : Id} : ico a b = 0 ↔ a = b := by
  unfold ico
  by_cases h : a = b
  · rw [if_pos h]; simp [h]
  · rw [if_neg h]
    cases ilt a b <;> simp [h]

/-! A strict total order on what differs. -/
structure Tot {α : Type} (lt : α → α → Bool) (l : List α) : Prop where
  irr : ∀ a, lt a a = false
  tr : ∀ a b c, lt a b = true → lt b c = true → lt a c = true
  tri : ∀ a ∈ l, ∀ b ∈ l, a ≠ b → lt a b = true ∨ lt b a = true
section
variable {α : Type} {lt : α → α → Bool}
theorem Tot.perm {l m : List α} (h : Tot lt l) (hp : m.Perm l) : Tot lt m :=
  ⟨h.irr, h.tr, fun a ha b hb => h.tri a (hp.mem_iff.1 ha) b (hp.mem_iff.1 hb)⟩
theorem Tot.sub {l m : List α} (h : Tot lt l) (hs : ∀ x ∈ m, x ∈ l) : Tot lt m :=
  ⟨h.irr, h.tr, fun a ha b hb => h.tri a (hs a ha) b (hs b hb)⟩
/-- a list is sorted in one way alone -/
theorem sorted_one : ∀ {l m : List α}, (∀ a, lt a a = false) → (∀ a b c, lt a b = true → lt b c = true → lt a c = true) → l.Pairwise (fun a b => lt a b = true) → m.Pairwise (fun a b => lt a b = true) → (∀ x, x ∈ l ↔ x ∈ m) → l = m
  | [], [], _, _, _, _, _ => rfl
  | [], b :: m, _, _, _, _, h => by have := (h b).2 List.mem_cons_self; cases this
  | a :: l, [], _, _, _, _, h => by have := (h a).1 List.mem_cons_self; cases this
  | a :: l, b :: m, irr, tr, h1, h2, h => by
    have p1 := List.pairwise_cons.1 h1
    have p2 := List.pairwise_cons.1 h2
    have hab : a = b := by
      rcases List.mem_cons.1 ((h a).1 List.mem_cons_self) with e | e
      · exact e
      · rcases List.mem_cons.1 ((h b).2 List.mem_cons_self) with e2 | e2
        · exact e2.symm
        · have := tr _ _ _ (p1.1 b e2) (p2.1 a e)
          rw [irr] at this; cases this
    subst hab
    congr 1
    refine sorted_one irr tr p1.2 p2.2 fun x => ⟨fun hx => ?_, fun hx => ?_⟩
    · rcases List.mem_cons.1 ((h x).1 (List.mem_cons_of_mem _ hx)) with e | e
      · subst e
        have := p1.1 _ hx
        rw [irr] at this; cases this
      · exact e
    · rcases List.mem_cons.1 ((h x).2 (List.mem_cons_of_mem _ hx)) with e | e
      · subst e
        have := p2.1 _ hx
        rw [irr] at this; cases this
      · exact e
/-- one more, behind all that it isn't ahead of -/
def insE (lt : α → α → Bool) (x : α) : List α → List α
  | [] => [x]
  | a :: l => if lt x a then x :: a :: l else a :: insE lt x l
theorem insE_perm (x : α) : ∀ l : List α, (insE lt x l).Perm (x :: l)
  | [] => .refl _
  | a :: l => by
    unfold insE
    cases lt x a with
    | true => exact .refl _
    | false => exact ((insE_perm x l).cons a).trans (.swap x a l)
theorem insE_sorted (x : α) : ∀ {l : List α}, Tot lt (x :: l) → x ∉ l → l.Pairwise (fun a b => lt a b = true) → (insE lt x l).Pairwise (fun a b => lt a b = true)
  | [], _, _, _ => by simp [insE]
  | a :: l, hT, hx, h => by
    have p := List.pairwise_cons.1 h
    unfold insE
    cases e : lt x a with
    | true =>
      rw [if_pos rfl]
      refine List.pairwise_cons.2 ⟨fun y hy => ?_, h⟩
      rcases List.mem_cons.1 hy with e2 | e2
      · rw [e2]; exact e
      · exact hT.tr _ _ _ e (p.1 y e2)
    | false =>
      rw [if_neg (by simp)]
      have hxa : x ≠ a := fun e => hx (by rw [e]; exact List.mem_cons_self)
      have hax : lt a x = true := by
        rcases hT.tri x List.mem_cons_self a (List.mem_cons_of_mem _ List.mem_cons_self) hxa with h1 | h1
        · rw [e] at h1; cases h1
        · exact h1
      refine List.pairwise_cons.2 ⟨fun y hy => ?_, insE_sorted x (hT.sub fun y hy => ?_) (fun hm => hx (List.mem_cons_of_mem _ hm)) p.2⟩
      · rcases List.mem_cons.1 ((insE_perm x l).mem_iff.1 hy) with e2 | e2
        · rw [e2]; exact hax
        · exact p.1 y e2
      · rcases List.mem_cons.1 hy with e2 | e2
        · rw [e2]; exact List.mem_cons_self
        · exact List.mem_cons_of_mem _ (List.mem_cons_of_mem _ e2)
def srt (lt : α → α → Bool) (l : List α) : List α := l.foldl (fun o x => insE lt x o) []
theorem srt_perm_gen : ∀ (l o : List α), (l.foldl (fun o x => insE lt x o) o).Perm (o ++ l)
  | [], o => by simp
  | a :: l, o => by
    rw [List.foldl_cons]
    refine (srt_perm_gen l _).trans ?_
    refine (((insE_perm a o).append_right l)).trans ?_
    exact List.perm_middle.symm
theorem srt_perm (l : List α) : (srt lt l).Perm l := by have := srt_perm_gen (lt := lt) l []; rwa [List.nil_append] at this
theorem srt_sorted_gen : ∀ (l o : List α), Tot lt (o ++ l) → (o ++ l).Nodup → o.Pairwise (fun a b => lt a b = true) → (l.foldl (fun o x => insE lt x o) o).Pairwise (fun a b => lt a b = true)
  | [], o, _, _, h => h
  | a :: l, o, hT, hn, h => by
    rw [List.foldl_cons]
    have hp : (insE lt a o ++ l).Perm (o ++ a :: l) := ((insE_perm a o).append_right l).trans List.perm_middle.symm
    refine srt_sorted_gen l _ (hT.perm hp) (hp.nodup_iff.2 hn) (insE_sorted a (hT.sub fun y hy => ?_) (fun hm => ?_) h)
    · rcases List.mem_cons.1 hy with e | e
      · rw [e]; exact List.mem_append_right _ List.mem_cons_self
      · exact List.mem_append_left _ e
    · exact (List.nodup_append.1 hn).2.2 a hm a List.mem_cons_self rfl
theorem srt_sorted {l : List α} (hT : Tot lt l) (hn : l.Nodup) : (srt lt l).Pairwise (fun a b => lt a b = true) :=
  srt_sorted_gen l [] hT hn .nil
/-- whatever is sorted of the same is this -/
theorem srt_one {l m : List α} (hT : Tot lt l) (hn : l.Nodup) (hp : m.Perm l) (hs : m.Pairwise (fun a b => lt a b = true)) : m = srt lt l :=
  sorted_one hT.irr hT.tr hs (srt_sorted hT hn) fun x => hp.mem_iff.trans (srt_perm l).mem_iff.symm
theorem srt_same {l m : List α} (hT : Tot lt l) (hn : l.Nodup) (hp : m.Perm l) : srt lt m = srt lt l :=
  srt_one hT hn ((srt_perm m).trans hp) (srt_sorted (hT.perm hp) (hp.nodup_iff.2 hn))
end
end Go.Proofs.YtkgjfagejnppbaaGreatDoor.O

/- Plain law of the order: components in their order, each sorted within; where each node stands. -/
namespace Go.Proofs.YtkgjfagejnppbaaGreatDoor.O
open T
set_option linter.unusedVariables false

/-- components, and which one each node is in -/
structure Cmps (E : Nat → List Int) (n : Nat) (L : List (List Nat)) (q : Nat → Nat) : Prop where
  d1 : ∀ v, v < n → ∃ c, L[q v]? = some c ∧ v ∈ c
  d2 : ∀ i c v, L[i]? = some c → v ∈ c → v < n ∧ q v = i
  d3 : ∀ c ∈ L, c.Pairwise (· < ·) ∧ c ≠ []
  d4 : ∀ u w, T.Edge E n u w → q w ≤ q u
  d5 : ∀ u w, u < n → w < n → q u = q w → Path E n u w
/-- the nodes in their order -/
def rowN (wl : Nat → Nat → Bool) (L : List (List Nat)) : List Nat := L.flatMap (srt wl)
/-- one node ahead of another one -/
def Ahd (q : Nat → Nat) (wl : Nat → Nat → Bool) (u v : Nat) : Prop := q u < q v ∨ (q u = q v ∧ wl u v = true)
section
variable {E : Nat → List Int} {n : Nat} {L : List (List Nat)} {q : Nat → Nat} {wl : Nat → Nat → Bool}
theorem Cmps.path (h : Cmps E n L q) {u v : Nat} (hp : Path E n u v) : q v ≤ q u := by
  induction hp with
  | refl => exact Nat.le_refl _
  | step e _ ih => have := h.d4 _ _ e; omega
theorem rowN_mem (h : Cmps E n L q) {v : Nat} : v ∈ rowN wl L ↔ v < n := by
  unfold rowN
  rw [List.mem_flatMap]
  refine ⟨fun ⟨c, hc, hv⟩ => ?_, fun hv => ?_⟩
  · obtain ⟨i, hi⟩ := List.mem_iff_getElem?.1 hc
    exact (h.d2 i c v hi ((srt_perm c).mem_iff.1 hv)).1
  · obtain ⟨c, hc, hvc⟩ := h.d1 v hv
    exact ⟨c, List.mem_of_getElem? hc, (srt_perm c).mem_iff.2 hvc⟩
theorem rowN_pw (h : Cmps E n L q) (hT : Tot wl (List.range n)) : (rowN wl L).Pairwise (Ahd q wl) := by
  unfold rowN
  rw [List.pairwise_flatMap]
  refine ⟨fun c hc => ?_, ?_⟩
  · obtain ⟨i, hi⟩ := List.mem_iff_getElem?.1 hc
    have hT2 : Tot wl c := hT.sub fun x hx => List.mem_range.2 (h.d2 i c x hi hx).1
    refine (srt_sorted hT2 ((h.d3 c hc).1.imp fun h => Nat.ne_of_lt h)).imp_of_mem fun {a b} ha hb hab => .inr ⟨?_, hab⟩
    rw [(h.d2 i c a hi ((srt_perm c).mem_iff.1 ha)).2, (h.d2 i c b hi ((srt_perm c).mem_iff.1 hb)).2]
  · rw [List.pairwise_iff_getElem]
    intro i j hi hj hij x hx y hy
    left
    rw [(h.d2 i _ x (List.getElem?_eq_getElem hi) ((srt_perm _).mem_iff.1 hx)).2, (h.d2 j _ y (List.getElem?_eq_getElem hj) ((srt_perm _).mem_iff.1 hy)).2]
    exact hij
theorem ahd_irr (hT : Tot wl (List.range n)) (u : Nat) : ¬ Ahd q wl u u := by
  rintro (h | ⟨_, h⟩)
  · omega
  · rw [hT.irr] at h; cases h
theorem ahd_asymm (hT : Tot wl (List.range n)) {u v : Nat} (h1 : Ahd q wl u v) (h2 : Ahd q wl v u) : False := by
  rcases h1 with h1 | ⟨e1, h1⟩ <;> rcases h2 with h2 | ⟨e2, h2⟩
  · omega
  · omega
  · omega
  · have := hT.tr _ _ _ h1 h2
    rw [hT.irr] at this; cases this
theorem rowN_nodup (h : Cmps E n L q) (hT : Tot wl (List.range n)) : (rowN wl L).Nodup :=
  (rowN_pw h hT).imp fun {a b} hab e => by subst e; exact ahd_irr hT a hab
theorem rowN_perm (h : Cmps E n L q) (hT : Tot wl (List.range n)) : (rowN wl L).Perm (List.range n) :=
  (List.perm_ext_iff_of_nodup (rowN_nodup h hT) List.nodup_range).2 fun v => (rowN_mem h).trans List.mem_range.symm
theorem rowN_len (h : Cmps E n L q) (hT : Tot wl (List.range n)) : (rowN wl L).length = n := by
  rw [(rowN_perm h hT).length_eq, List.length_range]
theorem idx_pw {R : Nat → Nat → Prop} (hi : ∀ u, ¬ R u u) (ha : ∀ u v, R u v → R v u → False) {l : List Nat} (hp : l.Pairwise R) {u v : Nat} (hu : u ∈ l) (hv : v ∈ l) (h : R u v) : l.idxOf u < l.idxOf v := by
  have l1 := List.idxOf_lt_length_of_mem hu
  have l2 := List.idxOf_lt_length_of_mem hv
  rcases Nat.lt_trichotomy (l.idxOf u) (l.idxOf v) with e | e | e
  · exact e
  · have h1 := List.getElem_idxOf l1
    have h2 := List.getElem_idxOf l2
    have : u = v := by rw [← h1, ← h2]; congr 1
    subst this
    exact absurd h (hi _)
  · have := List.pairwise_iff_getElem.1 hp _ _ l2 l1 e
    rw [List.getElem_idxOf, List.getElem_idxOf] at this
    exact (ha _ _ h this).elim
theorem rowN_place (h : Cmps E n L q) (hT : Tot wl (List.range n)) {u v : Nat} (hu : u < n) (hv : v < n) (hne : u ≠ v) : (rowN wl L).idxOf u < (rowN wl L).idxOf v ↔ Ahd q wl u v := by
  refine ⟨fun h1 => ?_, fun h1 => idx_pw (ahd_irr hT) (fun _ _ => ahd_asymm hT) (rowN_pw h hT) ((rowN_mem h).2 hu) ((rowN_mem h).2 hv) h1⟩
  have back : Ahd q wl v u → False := fun h2 => by
    have := idx_pw (ahd_irr hT) (fun _ _ => ahd_asymm hT) (rowN_pw h hT) ((rowN_mem h).2 hv) ((rowN_mem h).2 hu) h2
    omega
  rcases Nat.lt_trichotomy (q u) (q v) with e | e | e
  · exact .inl e
  · rcases hT.tri u (List.mem_range.2 hu) v (List.mem_range.2 hv) hne with e2 | e2
    · exact .inr ⟨e, e2⟩
    · exact (back (.inr ⟨e.symm, e2⟩)).elim
  · exact (back (.inl e)).elim
/-- of two, one of which leads to the other -/
theorem place_path (h : Cmps E n L q) (hT : Tot wl (List.range n)) {u v : Nat} (hu : u < n) (hv : v < n) (hne : u ≠ v) (hp : Path E n u v) : (rowN wl L).idxOf u < (rowN wl L).idxOf v ↔ (Path E n v u ∧ wl u v = true) := by
  rw [rowN_place h hT hu hv hne]
  have h1 := h.path hp
  refine ⟨fun h2 => ?_, fun h2 => .inr ⟨?_, h2.2⟩⟩
  · rcases h2 with h2 | ⟨h2, h3⟩
    · omega
    · exact ⟨h.d5 v u hv hu h2.symm, h3⟩
  · have := h.path h2.1
    omega
end
end Go.Proofs.YtkgjfagejnppbaaGreatDoor.O

/- Plain law of the order: nodes with ids, what they hang on, and tags; their graph; the row of their ids. -/
namespace Go.Proofs.YtkgjfagejnppbaaGreatDoor.O
open T
set_option linter.unusedVariables false

structure Nd where
  id : Id
  deps : List Id
  seq : Int
  tag : Int
instance : Inhabited Nd := ⟨⟨default, [], 0, 0⟩⟩
/-- is one ahead of another one within a component? -/
def wlt (a b : Nd) : Bool := decide (a.tag < b.tag) || (decide (a.tag = b.tag) && ((decide (a.tag = 1) && decide (a.seq < b.seq)) || ((!decide (a.tag = 1) || decide (a.seq = b.seq)) && ilt a.id b.id)))
theorem wlt_iff {a b : Nd} : wlt a b = true ↔ a.tag < b.tag ∨ (a.tag = b.tag ∧ ((a.tag = 1 ∧ a.seq < b.seq) ∨ ((a.tag ≠ 1 ∨ a.seq = b.seq) ∧ ilt a.id b.id = true))) := by
  unfold wlt
  simp only [Bool.or_eq_true, Bool.and_eq_true, decide_eq_true_eq, Bool.not_eq_true', decide_eq_false_iff_not]
theorem wlt_irr (a : Nd) : wlt a a = false := by
  rw [← Bool.not_eq_true, wlt_iff, ilt_irr]
  rintro (h | ⟨_, ⟨_, h⟩ | ⟨_, h⟩⟩)
  · omega
  · omega
  · cases h
theorem wlt_trans {a b c : Nd} (h1 : wlt a b = true) (h2 : wlt b c = true) : wlt a c = true := by
  rw [wlt_iff] at *
  rcases h1 with h1 | ⟨e1, h1⟩
  · rcases h2 with h2 | ⟨e2, h2⟩
    · left; omega
    · left; omega
  · rcases h2 with h2 | ⟨e2, h2⟩
    · left; omega
    · right
      refine ⟨e1.trans e2, ?_⟩
      rcases h1 with ⟨t1, h1⟩ | ⟨t1, h1⟩ <;> rcases h2 with ⟨t2, h2⟩ | ⟨t2, h2⟩
      · left; exact ⟨t1, by omega⟩
      · left; exact ⟨t1, by rcases t2 with t2 | t2; exact absurd (e1 ▸ t1) t2; omega⟩
      · left; exact ⟨by omega, by rcases t1 with t1 | t1; exact absurd (e1.trans t2) t1; omega⟩
      · right
        refine ⟨?_, ilt_trans h1 h2⟩
        rcases t1 with t1 | t1
        · exact .inl t1
        · rcases t2 with t2 | t2
          · left; rw [e1]; exact t2
          · right; exact t1.trans t2
theorem wlt_tri {a b : Nd} (h : a.id ≠ b.id) : wlt a b = true ∨ wlt b a = true := by
  rw [wlt_iff, wlt_iff]
  rcases Int.lt_trichotomy a.tag b.tag with e | e | e
  · exact .inl (.inl e)
  · by_cases t : a.tag = 1
    · rcases Int.lt_trichotomy a.seq b.seq with f | f | f
      · exact .inl (.inr ⟨e, .inl ⟨t, f⟩⟩)
      · rcases ilt_tri h with g | g
        · exact .inl (.inr ⟨e, .inr ⟨.inr f, g⟩⟩)
        · exact .inr (.inr ⟨e.symm, .inr ⟨.inr f.symm, g⟩⟩)
      · exact .inr (.inr ⟨e.symm, .inl ⟨e ▸ t, f⟩⟩)
    · rcases ilt_tri h with g | g
      · exact .inl (.inr ⟨e, .inr ⟨.inl t, g⟩⟩)
      · exact .inr (.inr ⟨e.symm, .inr ⟨.inl (e ▸ t), g⟩⟩)
  · exact .inr (.inl e)
def iln (a b : Nd) : Bool := ilt a.id b.id
def idsOf (s : List Nd) : List Id := s.map (·.id)
/-- of other ids each -/
def Unl (s : List Nd) : Prop := (idsOf s).Nodup
theorem Unl.perm {s t : List Nd} (h : Unl s) (hp : t.Perm s) : Unl t := by
  unfold Unl idsOf at *
  exact (hp.map _).nodup_iff.2 h
theorem Unl.inj {s : List Nd} (h : Unl s) {a b : Nd} (ha : a ∈ s) (hb : b ∈ s) (e : a.id = b.id) : a = b := by
  obtain ⟨i, hi⟩ := List.mem_iff_getElem?.1 ha
  obtain ⟨j, hj⟩ := List.mem_iff_getElem?.1 hb
  have h1 : (idsOf s)[i]? = some a.id := by unfold idsOf; rw [List.getElem?_map, hi]; rfl
  have h2 : (idsOf s)[j]? = some a.id := by unfold idsOf; rw [List.getElem?_map, hj, e]; rfl
  have hl := (List.getElem?_eq_some_iff.1 h1).1
  have : i = j := (List.getElem?_inj hl h).1 (h1.trans h2.symm)
  subst this
  rw [hi] at hj
  exact Option.some.inj hj
theorem Unl.nodup {s : List Nd} (h : Unl s) : s.Nodup := by
  unfold Unl idsOf at h
  exact (List.pairwise_map.1 h).imp fun hab e => hab (by rw [e])
theorem Unl.iln {s : List Nd} (h : Unl s) : Tot iln s :=
  ⟨fun a => ilt_irr _, fun a b c => ilt_trans, fun a ha b hb hne => ilt_tri fun e => hne (h.inj ha hb e)⟩
theorem Unl.wlt {s : List Nd} (h : Unl s) : Tot wlt s :=
  ⟨wlt_irr, fun a b c => wlt_trans, fun a ha b hb hne => wlt_tri fun e => hne (h.inj ha hb e)⟩
/-- sorted by their ids -/
def byIds (s : List Nd) : List Nd := srt iln s
theorem byIds_perm (s : List Nd) : (byIds s).Perm s := srt_perm s
/-- the place of an id; -1: it isn't there -/
def atI (l : List Id) (i : Id) : Int := if i ∈ l then (l.idxOf i : Int) else -1
theorem atI_some {l : List Id} (hn : l.Nodup) {i : Id} {k : Nat} (h : l[k]? = some i) : atI l i = k := by
  unfold atI
  rw [if_pos (List.mem_of_getElem? h)]
  obtain ⟨h1, h2⟩ := List.getElem?_eq_some_iff.1 h
  rw [← h2, hn.idxOf_getElem k h1]
theorem atI_get {l : List Id} {i : Id} {k : Nat} (h : atI l i = k) : l[k]? = some i := by
  unfold atI at h
  by_cases hm : i ∈ l
  · rw [if_pos hm] at h
    have : l.idxOf i = k := by omega
    subst this
    rw [List.getElem?_eq_getElem (List.idxOf_lt_length_of_mem hm), List.getElem_idxOf]
  · rw [if_neg hm] at h; omega
/-- the edges: the document's, and the program's -/
def edR (s : List Nd) (u : Nat) : List Int := match s[u]? with
  | some a => a.deps.map (atI (idsOf s))
  | none => []
def edP (s : List Nd) (u : Nat) : List Int := (edR s u).filter fun x => decide (0 ≤ x)
/-- one hangs on the other -/
def Dep (s : List Nd) (u w : Nat) : Prop := ∃ a b, s[u]? = some a ∧ s[w]? = some b ∧ b.id ∈ a.deps
theorem edgeR {s : List Nd} (h : Unl s) {u w : Nat} : T.Edge (edR s) s.length u w ↔ Dep s u w := by
  unfold T.Edge Dep edR
  constructor
  · rintro ⟨hu, hw, hm⟩
    rw [List.getElem?_eq_getElem hu] at hm
    obtain ⟨d, hd, he⟩ := List.mem_map.1 hm
    have := atI_get he
    refine ⟨_, s[w], List.getElem?_eq_getElem hu, List.getElem?_eq_getElem hw, ?_⟩
    unfold idsOf at this
    rw [List.getElem?_map, List.getElem?_eq_getElem hw] at this
    have e : s[w].id = d := Option.some.inj this
    rw [e]; exact hd
  · rintro ⟨a, b, ha, hb, hm⟩
    refine ⟨(List.getElem?_eq_some_iff.1 ha).1, (List.getElem?_eq_some_iff.1 hb).1, ?_⟩
    rw [ha]
    refine List.mem_map.2 ⟨b.id, hm, ?_⟩
    exact atI_some h (by unfold idsOf; rw [List.getElem?_map, hb]; rfl)
theorem edgeP {s : List Nd} (h : Unl s) {u w : Nat} : T.Edge (edP s) s.length u w ↔ Dep s u w := by
  rw [← edgeR h]
  unfold T.Edge edP
  rw [List.mem_filter]
  refine ⟨fun ⟨a, b, c, _⟩ => ⟨a, b, c⟩, fun ⟨a, b, c⟩ => ⟨a, b, c, decide_eq_true (by omega)⟩⟩
theorem path_ext {E E2 : Nat → List Int} {n : Nat} (h : ∀ u w, T.Edge E n u w → T.Edge E2 n u w) {u w : Nat} (hp : Path E n u w) : Path E2 n u w := by
  induction hp with
  | refl => exact .refl _
  | step e _ ih => exact .step (h _ _ e) ih
theorem Cmps.ext {E E2 : Nat → List Int} {n : Nat} {L : List (List Nat)} {q : Nat → Nat} (h : Cmps E n L q) (he : ∀ u w, T.Edge E n u w ↔ T.Edge E2 n u w) : Cmps E2 n L q :=
  ⟨h.d1, h.d2, h.d3, fun u w e => h.d4 u w ((he u w).2 e), fun u w hu hw e => path_ext (fun u w => (he u w).1) (h.d5 u w hu hw e)⟩
/-- by nodes -/
def wln (s : List Nd) (u v : Nat) : Bool := wlt (s.getD u default) (s.getD v default)
theorem getD_at {s : List Nd} {u : Nat} {a : Nd} (h : s[u]? = some a) : s.getD u default = a := by
  rw [List.getD, h]; rfl
theorem wln_tot {s : List Nd} (h : Unl s) : Tot (wln s) (List.range s.length) := by
  refine ⟨fun a => wlt_irr _, fun a b c => wlt_trans, fun a ha b hb hne => ?_⟩
  have ha' := List.mem_range.1 ha
  have hb' := List.mem_range.1 hb
  unfold wln
  rw [getD_at (List.getElem?_eq_getElem ha'), getD_at (List.getElem?_eq_getElem hb')]
  refine wlt_tri fun e => hne ?_
  have h1 := h.inj (List.getElem_mem ha') (List.getElem_mem hb') e
  exact (List.getElem?_inj ha' h.nodup).1 (by rw [List.getElem?_eq_getElem ha', List.getElem?_eq_getElem hb', h1])
section
variable {α β : Type}
theorem insE_map (lt : β → β → Bool) (f : α → β) (x : α) : ∀ l : List α, insE lt (f x) (l.map f) = (insE (fun a b => lt (f a) (f b)) x l).map f
  | [] => rfl
  | a :: l => by
    simp only [List.map_cons, insE]
    by_cases e : lt (f x) (f a) = true
    · rw [if_pos e, if_pos e]; rfl
    · rw [if_neg e, if_neg e, insE_map lt f x l]; rfl
theorem srt_map_gen (lt : β → β → Bool) (f : α → β) : ∀ (l o : List α), (l.map f).foldl (fun o x => insE lt x o) (o.map f) = (l.foldl (fun o x => insE (fun a b => lt (f a) (f b)) x o) o).map f
  | [], o => rfl
  | a :: l, o => by
    simp only [List.map_cons, List.foldl_cons]
    rw [insE_map, srt_map_gen]
theorem srt_map (lt : β → β → Bool) (f : α → β) (l : List α) : srt lt (l.map f) = (srt (fun a b => lt (f a) (f b)) l).map f := srt_map_gen lt f l []
end
/-- the nodes of a component -/
def part (s : List Nd) (c : List Nat) : List Nd := c.map fun i => s.getD i default
/-- the ids of a component, in the order within it -/
def within (l : List Nd) : List Id := idsOf (srt wlt l)
/-- the row of ids -/
def rowI (s : List Nd) (L : List (List Nat)) : List Id := L.flatMap fun c => within (part s c)
theorem rowI_eq (s : List Nd) (L : List (List Nat)) : rowI s L = (rowN (wln s) L).map fun i => (s.getD i default).id := by
  unfold rowI rowN within part idsOf
  rw [List.map_flatMap]
  congr 1
  funext c
  rw [srt_map, List.map_map]
  rfl
/-- the place of an id in the row -/
theorem place_row {s : List Nd} (h : Unl s) {l : List Nat} (hl : ∀ x ∈ l, x < s.length) {u : Nat} (hu : u < s.length) {a : Nd} (ha : s[u]? = some a) : atI (l.map fun i => (s.getD i default).id) a.id = if u ∈ l then (l.idxOf u : Int) else -1 := by
  have hinj : ∀ x ∈ l, (s.getD x default).id = a.id → x = u := fun x hx e => by
    have hxl := hl x hx
    rw [getD_at (List.getElem?_eq_getElem hxl)] at e
    have h1 := h.inj (List.getElem_mem hxl) (List.mem_of_getElem? ha) e
    exact (List.getElem?_inj hxl h.nodup).1 (by rw [List.getElem?_eq_getElem hxl, h1, ha])
  have hua : (s.getD u default).id = a.id := by rw [getD_at ha]
  unfold atI
  by_cases hm : u ∈ l
  · rw [if_pos hm, if_pos (List.mem_map.2 ⟨u, hm, hua⟩)]
    congr 1
    clear hl
    induction l with
    | nil => cases hm
    | cons x l ih =>
      rw [List.map_cons, List.idxOf_cons, List.idxOf_cons]
      by_cases e : x = u
      · subst e
        rw [hua]
        simp
      · have e2 : (s.getD x default).id ≠ a.id := fun e3 => e (hinj x List.mem_cons_self e3)
        have b1 : (x == u) = false := by simpa using e
        have b2 : ((s.getD x default).id == a.id) = false := by simpa using e2
        rw [b1, b2]
        simp only [cond_false]
        rw [ih (fun y hy => hinj y (List.mem_cons_of_mem _ hy)) (by rcases List.mem_cons.1 hm with e3 | e3; exact absurd e3.symm e; exact e3)]
  · rw [if_neg hm, if_neg]
    intro hx
    obtain ⟨x, hx, e⟩ := List.mem_map.1 hx
    exact hm (hinj x hx e ▸ hx)
end Go.Proofs.YtkgjfagejnppbaaGreatDoor.O

/- Plain law of the order: what the statements ask of a row of ids. -/
namespace Go.Proofs.YtkgjfagejnppbaaGreatDoor.O
open T
set_option linter.unusedVariables false

/-- does an id hang on one that isn't there? -/
def missB (l : List Nd) : Bool := l.any fun a => a.deps.any fun d => !decide (d ∈ idsOf l)
theorem missB_no {l : List Nd} : missB l = false ↔ ∀ a ∈ l, ∀ d ∈ a.deps, d ∈ idsOf l := by
  unfold missB
  rw [List.any_eq_false]
  refine ⟨fun h a ha d hd => ?_, fun h a ha => ?_⟩
  · have := h a ha
    rw [Bool.not_eq_true, List.any_eq_false] at this
    have := this d hd
    simpa using this
  · rw [Bool.not_eq_true, List.any_eq_false]
    intro d hd
    have := h a ha d hd
    simpa using this
theorem missB_perm {l m : List Nd} (hp : m.Perm l) : missB m = missB l := by
  have key : ∀ {l m : List Nd}, m.Perm l → missB l = false → missB m = false := fun hp h => by
    rw [missB_no] at h ⊢
    intro a ha d hd
    have := h a (hp.mem_iff.1 ha) d hd
    unfold idsOf at *
    exact (hp.map (·.id)).mem_iff.2 this
  cases h : missB l with
  | false => exact key hp h
  | true =>
    cases h2 : missB m with
    | true => rfl
    | false => rw [key hp.symm h2] at h; cases h
instance (l : List Nd) : Decidable (Unl l) := inferInstanceAs (Decidable (idsOf l).Nodup)
/-- what is wrong with records that should be closed; ok: each is right, and committed -/
def errO (ok : Bool) (l : List Nd) : Int := if ok = false then 4 else if ¬ Unl l then 9 else if missB l = true then 8 else 0
theorem errO_ok {ok : Bool} {l : List Nd} : errO ok l = 0 ↔ ok = true ∧ Unl l ∧ missB l = false := by
  unfold errO
  cases ok with
  | false => simp
  | true =>
    simp only [Bool.true_eq_false, if_false, true_and]
    by_cases h : Unl l
    · simp only [h, not_true, if_false, true_and]
      cases missB l <;> simp
    · simp only [h, not_false_iff, if_true, false_and, iff_false]
      omega
section
variable {s : List Nd} {L : List (List Nat)} {q : Nat → Nat}
theorem rowI_len (h : Cmps (edR s) s.length L q) (hU : Unl s) : (rowI s L).length = s.length := by
  rw [rowI_eq, List.length_map, rowN_len h (wln_tot hU)]
theorem rowI_place (h : Cmps (edR s) s.length L q) (hU : Unl s) {u : Nat} {a : Nd} (ha : s[u]? = some a) : atI (rowI s L) a.id = ((rowN (wln s) L).idxOf u : Int) := by
  have hu := (List.getElem?_eq_some_iff.1 ha).1
  rw [rowI_eq, place_row hU (fun x hx => (rowN_mem h).1 hx) hu ha, if_pos ((rowN_mem h).2 hu)]
theorem rowI_perm (h : Cmps (edR s) s.length L q) (hU : Unl s) : (rowI s L).Perm (idsOf s) := by
  rw [rowI_eq]
  refine ((rowN_perm h (wln_tot hU)).map _).trans (List.Perm.of_eq ?_)
  refine List.ext_getElem (by simp [idsOf]) fun i h1 h2 => ?_
  have hi : i < s.length := by simpa using h1
  rw [List.getElem_map, List.getElem_range, getD_at (List.getElem?_eq_getElem hi)]
  simp [idsOf]
/-- of two that are other ones, one of which leads to the other -/
theorem rowI_lt (h : Cmps (edR s) s.length L q) (hU : Unl s) {u v : Nat} {a b : Nd} (ha : s[u]? = some a) (hb : s[v]? = some b) (hne : u ≠ v) (hp : Path (edR s) s.length u v) :
    atI (rowI s L) a.id < atI (rowI s L) b.id ↔ (Path (edR s) s.length v u ∧ wlt a b = true) := by
  have hu := (List.getElem?_eq_some_iff.1 ha).1
  have hv := (List.getElem?_eq_some_iff.1 hb).1
  rw [rowI_place h hU ha, rowI_place h hU hb]
  have := place_path h (wln_tot hU) hu hv hne hp
  have e : wln s u v = wlt a b := by unfold wln; rw [getD_at ha, getD_at hb]
  rw [e] at this
  rw [← this]
  omega
/-- who hangs on another one that comes behind it: that one leads back -/
theorem one_dep (h : Cmps (edR s) s.length L q) (hU : Unl s) {u v : Nat} {a b : Nd} (ha : s[u]? = some a) (hb : s[v]? = some b) (hd : b.id ∈ a.deps) (hlt : atI (rowI s L) a.id < atI (rowI s L) b.id) : Path (edR s) s.length v u := by
  have hne : u ≠ v := fun e => by subst e; rw [ha] at hb; cases hb; omega
  exact ((rowI_lt h hU ha hb hne (.one ((edgeR hU).2 ⟨a, b, ha, hb, hd⟩))).1 hlt).1
end
/-- what one leads to, taken out: l are the nodes, in their order -/
structure Sub (s : List Nd) (l : List Nat) : Prop where
  lt : ∀ x ∈ l, x < s.length
  pw : l.Pairwise (· < ·)
  cl : ∀ u ∈ l, ∀ w, Dep s u w → w ∈ l
section
variable {s : List Nd} {l : List Nat}
end
end Go.Proofs.YtkgjfagejnppbaaGreatDoor.O

/- Plain law of ids: sets; what is left where neighbours are the same; what is found by halves. -/
namespace Go.Proofs.YtkgjfagejnppbaaGreatDoor.O
set_option linter.unusedVariables false

/-- the set of a list: the document's way -/
def setI (l : List Id) : List Id := l.foldl (fun o x => if x ∈ o then o else insE ilt x o) []
/-- not behind: what is sorted, but may be the same -/
def ile (a b : Id) : Prop := ilt b a = false
/-- what is left of neighbours that are the same: what has been kept (its last one known), and the next one -/
def keepN (o : List Id) (x : Id) : List Id := if o.getLast? = some x then o else o ++ [x]
end Go.Proofs.YtkgjfagejnppbaaGreatDoor.O

/- The reference's decoding of a text: contracts of stonecropref04's tail and At at every text and place. Written by gen.py. -/
namespace Go.Proofs.YtkgjfagejnppbaaGreatDoor.R
open Go.RowKit Go.PlainAid

theorem bne_true {a b : Int} (h : a ≠ b) : (a != b) = true := by rw [bne_iff_ne]; exact h
theorem beq_true' {a b : Int} (h : a = b) : (a == b) = true := by rw [beq_iff_eq]; exact h
theorem beq_false' {a b : Int} (h : a ≠ b) : (a == b) = false := by rw [beq_eq_false_iff_ne]; exact h
theorem ret_int {k : IntKind} {a b : Int} (h : a = b) : Ending.returned (.int k a) = .returned (.int k b) := by rw [h]
theorem ret_bool {a b : Bool} (h : a = b) : Ending.returned (.bool a) = .returned (.bool b) := by rw [h]

/-- the number that a byte behind the first tells; -1: none -/
def tl (s : ByteArray) (k : Nat) : Int := if k < s.size ∧ 128 ≤ bt s k ∧ bt s k ≤ 191 then bt s k - 128 else -1
def refV (b t1 t2 t3 : Int) : Int × Int :=
  if b < 128 then (b, 1)
  else if 194 ≤ b ∧ b ≤ 223 then (if t1 < 0 then (-1, 1) else (64 * (b - 192) + t1, 2))
  else if 224 ≤ b ∧ b ≤ 239 then
    (if t1 < 0 then (-1, 1) else if t2 < 0 then (-1, 1) else if 64 * (64 * (b - 224) + t1) + t2 < 2048 ∨ (55296 ≤ 64 * (64 * (b - 224) + t1) + t2 ∧ 64 * (64 * (b - 224) + t1) + t2 ≤ 57343) then (-1, 1) else (64 * (64 * (b - 224) + t1) + t2, 3))
  else if 240 ≤ b ∧ b ≤ 244 then
    (if t1 < 0 then (-1, 1) else if t2 < 0 then (-1, 1) else if t3 < 0 then (-1, 1) else if 64 * (64 * (64 * (b - 240) + t1) + t2) + t3 < 65536 ∨ 1114111 < 64 * (64 * (64 * (b - 240) + t1) + t2) + t3 then (-1, 1) else (64 * (64 * (64 * (b - 240) + t1) + t2) + t3, 4))
  else (-1, 1)
def refAt (s : ByteArray) (k : Nat) : Int × Int := refV (bt s k) (tl s (k + 1)) (tl s (k + 2)) (tl s (k + 3))

end Go.Proofs.YtkgjfagejnppbaaGreatDoor.R

/- Leaves of the reference's decoding. Written by gen.py. -/
namespace Go.Proofs.YtkgjfagejnppbaaGreatDoor.R
open Go.RowKit Go.PlainAid
end Go.Proofs.YtkgjfagejnppbaaGreatDoor.R

/- Leaves of the reference's decoding. Written by gen.py. -/
namespace Go.Proofs.YtkgjfagejnppbaaGreatDoor.R
open Go.RowKit Go.PlainAid
end Go.Proofs.YtkgjfagejnppbaaGreatDoor.R

/- Plain arithmetic: the reference's reading of a rune is the model's own decode. -/
namespace Go.Proofs.YtkgjfagejnppbaaGreatDoor.R
open Go.RowKit Go.PlainAid Go.Lib

def tlN (n i b : Nat) : Int := if i < n ∧ 128 ≤ b ∧ b ≤ 191 then (b : Int) - 128 else -1
/-- what the reference says of the model's rune and width -/
def ofDec (d : Nat × Nat) : Int × Int := if d.1 = 65533 ∧ d.2 = 1 then (-1, 1) else (d.1, d.2)
end Go.Proofs.YtkgjfagejnppbaaGreatDoor.R

/- stonecropref04.At and Runes, at every text. -/
namespace Go.Proofs.YtkgjfagejnppbaaGreatDoor.R
open Go.RowKit Go.PlainAid Go.Lib

/-- the runes from a place on, as the reference tells them -/
def rfrom (s : ByteArray) : Nat → Nat → List (Int × Int)
  | 0, _ => []
  | f + 1, k => if k < s.size then ofDec (Utf8.decode s k) :: rfrom s f (k + (Utf8.decode s k).2) else []
def rl (s : ByteArray) : List (Int × Int) := rfrom s s.size 0

theorem decN_width (n b0 b1 b2 b3 : Nat) (hn : 1 ≤ n) : 1 ≤ (decodeN n b0 b1 b2 b3).2 ∧ (decodeN n b0 b1 b2 b3).2 ≤ n ∧ (decodeN n b0 b1 b2 b3).1 ≤ 1114111 := by
  unfold decodeN
  repeat' split
  all_goals (simp only []; omega)
theorem dec_width (s : ByteArray) (k : Nat) (h : k < s.size) : 1 ≤ (Utf8.decode s k).2 ∧ k + (Utf8.decode s k).2 ≤ s.size ∧ (Utf8.decode s k).1 ≤ 1114111 := by
  rw [decode_at]
  have := decN_width (s.size - k) (s.get! k).toNat (s.get! (k + 1)).toNat (s.get! (k + 2)).toNat (s.get! (k + 3)).toNat (by omega)
  omega
theorem rfrom_end (s : ByteArray) (f k : Nat) (h : ¬ k < s.size) : rfrom s f k = [] := by cases f <;> simp [rfrom, h]
def cellsR (l : List (Int × Int)) : List Value := l.flatMap fun p => [.int .i64 p.1, .int .i64 p.2]
theorem own_below {w w' : World} {base : Nat} {e : TypeId} {size : Nat} {v : Value} {n : Nat} {xs : List Value} (h : w.ownsRow base e size v n xs) (hb : Below w.heap.size w w') : w'.ownsRow base e size v n xs :=
  h.kept (row := none) ⟨hb.os, hb.tape, hb.output, hb.size, fun k hk _ => hb.block k hk⟩ (Classical.em _)
end Go.Proofs.YtkgjfagejnppbaaGreatDoor.R
