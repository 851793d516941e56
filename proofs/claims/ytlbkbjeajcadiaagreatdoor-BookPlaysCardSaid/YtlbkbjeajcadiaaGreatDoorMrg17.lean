/- Several texts in one. -/
import Derived.Test.YtlbkbjeajcadiaaGreatDoorMrg16
import Derived.Maps.Keyed
import Derived.Maps.Own
import Derived.Maps.OwnSet
import Derived.Maps.Views
import Derived.DeepKeys4
import Derived.Maps.RangeWalk
import Derived.Test.YtlbkbjeajcadiaaGreatDoorMrg6
import Derived.Test.YtlbkbjeajcadiaaGreatDoorMem
import Derived.Sort.KeysCollected
import Derived.StringKeys

/- Plain law of the book: the document's records in the order of their ids (With). -/
namespace Go.Proofs.YtlbkbjeajcadiaaGreatDoor.B
open Go.Proofs.YtlbkbjeajcadiaaGreatDoor.O Go.Proofs.YtlbkbjeajcadiaaGreatDoor.P Go.Proofs.YtlbkbjeajcadiaaGreatDoor.Mp
set_option linter.unusedVariables false
set_option linter.unusedSimpArgs false

/-- the loop of the document's With -/
def wStep (r : Rv) (s : List Rv × Bool) (x : Rv) : List Rv × Bool :=
  if x.id = r.id then (if s.2 = false ∧ ilt x.id r.id = false then (s.1 ++ [r], true) else s)
  else (if s.2 = false ∧ ilt x.id r.id = false then (s.1 ++ [r] ++ [x], true) else (s.1 ++ [x], s.2))
def withL (l : List Rv) (r : Rv) : List Rv := if (l.foldl (wStep r) ([], false)).2 = true then (l.foldl (wStep r) ([], false)).1 else (l.foldl (wStep r) ([], false)).1 ++ [r]
def SortedR (l : List Rv) : Prop := l.Pairwise fun a b => ilt a.id b.id = true
theorem with_done (r : Rv) : ∀ (l : List Rv) (o : List Rv), l.foldl (wStep r) (o, true) = (o ++ l.filter (fun x => !decide (x.id = r.id)), true) := by
  intro l
  induction l with
  | nil => intro o; simp
  | cons a t ih =>
    intro o
    rw [List.foldl_cons]
    by_cases h : a.id = r.id
    · have e : wStep r (o, true) a = (o, true) := by unfold wStep; simp [h]
      rw [e, ih, List.filter_cons_of_neg (by simp [h])]
    · have e : wStep r (o, true) a = (o ++ [a], true) := by unfold wStep; simp [h]
      rw [e, ih, List.filter_cons_of_pos (by simp [h])]
      simp
theorem with_open (r : Rv) : ∀ (l : List Rv) (o : List Rv), SortedR l →
    (if (l.foldl (wStep r) (o, false)).2 = true then (l.foldl (wStep r) (o, false)).1 else (l.foldl (wStep r) (o, false)).1 ++ [r]) = o ++ l.filter (fun x => ilt x.id r.id) ++ r :: l.filter (fun x => ilt r.id x.id) := by
  intro l
  induction l with
  | nil => intro o _; simp
  | cons a t ih =>
    intro o hs
    have hs2 : SortedR t := (List.pairwise_cons.1 hs).2
    have hat := (List.pairwise_cons.1 hs).1
    rw [List.foldl_cons]
    cases hlt : ilt a.id r.id with
    | true =>
      have hne : a.id ≠ r.id := fun e => by rw [e, ilt_irr] at hlt; cases hlt
      have hgt : ilt r.id a.id = false := by
        rw [ilt_no]
        rw [ilt_iff] at hlt
        omega
      have e : wStep r (o, false) a = (o ++ [a], false) := by unfold wStep; simp [hne, hlt]
      rw [e, ih _ hs2, List.filter_cons_of_pos (by exact hlt), List.filter_cons_of_neg (by rw [hgt]; simp)]
      simp
    | false =>
      have htl : ∀ x ∈ t, ilt x.id r.id = false ∧ ilt r.id x.id = true := fun x hx => by
        have h1 := hat x hx
        rw [ilt_iff] at h1
        rw [ilt_no] at hlt
        constructor
        · rw [ilt_no]; omega
        · rw [ilt_iff]; omega
      have f1 : t.filter (fun x => ilt x.id r.id) = [] := List.filter_eq_nil_iff.2 fun x hx => by rw [(htl x hx).1]; simp
      have f2 : t.filter (fun x => ilt r.id x.id) = t := List.filter_eq_self.2 fun x hx => (htl x hx).2
      have f3 : t.filter (fun x => !decide (x.id = r.id)) = t := List.filter_eq_self.2 fun x hx => by
        have h1 := (htl x hx).2
        have hne : x.id ≠ r.id := fun e => by rw [e, ilt_irr] at h1; cases h1
        simpa using hne
      by_cases h : a.id = r.id
      · have e : wStep r (o, false) a = (o ++ [r], true) := by unfold wStep; rw [if_pos h, if_pos ⟨rfl, hlt⟩]
        rw [e, with_done, if_pos rfl, f3, List.filter_cons_of_neg (by rw [hlt]; simp), f1, List.filter_cons_of_neg (by rw [h, ilt_irr]; simp), f2]
        simp
      · have hgt : ilt r.id a.id = true := by
          rw [ilt_no] at hlt
          rw [ilt_iff]
          have : ¬ (a.id.n = r.id.n ∧ a.id.r = r.id.r) := fun ⟨e1, e2⟩ => h (by
            cases ha : a.id
            cases hr : r.id
            rw [ha, hr] at e1 e2
            simp_all)
          omega
        have e : wStep r (o, false) a = (o ++ [r] ++ [a], true) := by unfold wStep; rw [if_neg h, if_pos ⟨rfl, hlt⟩]
        rw [e, with_done, if_pos rfl, f3, List.filter_cons_of_neg (by rw [hlt]; simp), f1, List.filter_cons_of_pos (by exact hgt), f2]
        simp
/-- With: the smaller ones, it, the greater ones -/
theorem with_eq {l : List Rv} (hs : SortedR l) (r : Rv) : withL l r = l.filter (fun x => ilt x.id r.id) ++ r :: l.filter (fun x => ilt r.id x.id) := by
  have := with_open r l [] hs
  rw [List.nil_append] at this
  exact this
theorem with_sorted {l : List Rv} (hs : SortedR l) (r : Rv) : SortedR (withL l r) := by
  rw [with_eq hs]
  unfold SortedR at hs ⊢
  rw [List.pairwise_append, List.pairwise_cons]
  refine ⟨hs.sublist List.filter_sublist, ⟨fun x hx => (List.mem_filter.1 hx).2, hs.sublist List.filter_sublist⟩, fun a ha b hb => ?_⟩
  have h1 := (List.mem_filter.1 ha).2
  rcases List.mem_cons.1 hb with rfl | hb
  · exact h1
  · exact ilt_trans h1 (List.mem_filter.1 hb).2
theorem with_mem {l : List Rv} (hs : SortedR l) (r x : Rv) : x ∈ withL l r ↔ (x ∈ l ∧ x.id ≠ r.id) ∨ x = r := by
  rw [with_eq hs, List.mem_append, List.mem_cons, List.mem_filter, List.mem_filter]
  constructor
  · rintro (⟨h1, h2⟩ | rfl | ⟨h1, h2⟩)
    · exact .inl ⟨h1, fun e => by rw [e, ilt_irr] at h2; cases h2⟩
    · exact .inr rfl
    · exact .inl ⟨h1, fun e => by rw [e, ilt_irr] at h2; cases h2⟩
  · rintro (⟨h1, h2⟩ | rfl)
    · cases hlt : ilt x.id r.id with
      | true => exact .inl ⟨h1, rfl⟩
      | false =>
        refine .inr (.inr ⟨h1, ?_⟩)
        rw [ilt_no] at hlt
        rw [ilt_iff]
        have : ¬ (x.id.n = r.id.n ∧ x.id.r = r.id.r) := fun ⟨e1, e2⟩ => h2 (by
          cases ha : x.id
          cases hr : r.id
          rw [ha, hr] at e1 e2
          simp_all)
        omega
    · exact .inr (.inl rfl)
/-- the document's records and the book's -/
structure RefRel (R : List (O.Id × Rv)) (l : List Rv) : Prop where
  so : SortedR l
  nd : (R.map Prod.fst).Nodup
  ids : ∀ p ∈ R, p.2.id = p.1
  fwd : ∀ p ∈ R, ∃ x ∈ l, core x = core p.2
  bwd : ∀ x ∈ l, ∃ p ∈ R, core x = core p.2
theorem core_id2 {x y : Rv} (h : core x = core y) : x.id = y.id := (congrArg Rv.id h : _)
theorem RefRel.nil : RefRel [] [] := ⟨.nil, .nil, fun p h => (by cases h), fun p h => (by cases h), fun p h => (by cases h)⟩
theorem RefRel.put {R : List (O.Id × Rv)} {l : List Rv} (h : RefRel R l) {r q : Rv} (hq : core q = core r) : RefRel (putD R r.id q) (withL l r) := by
  refine ⟨with_sorted h.so r, putD_nodup h.nd _ _, fun p hp => ?_, fun p hp => ?_, fun x hx => ?_⟩
  · rcases mem_putD.1 hp with hp | rfl
    · exact h.ids p hp.1
    · exact core_id2 hq
  · rcases mem_putD.1 hp with hp | rfl
    · obtain ⟨x, hx, e⟩ := h.fwd p hp.1
      refine ⟨x, (with_mem h.so r x).2 (.inl ⟨hx, fun e2 => hp.2 ?_⟩), e⟩
      rw [← h.ids p hp.1, ← core_id2 e, e2]
    · exact ⟨r, (with_mem h.so r r).2 (.inr rfl), hq.symm⟩
  · rcases (with_mem h.so r x).1 hx with ⟨hx, hn⟩ | rfl
    · obtain ⟨p, hp, e⟩ := h.bwd x hx
      exact ⟨p, mem_putD.2 (.inl ⟨hp, fun e2 => hn (by rw [core_id2 e, h.ids p hp, e2])⟩), e⟩
    · exact ⟨(x.id, q), mem_putD.2 (.inr rfl), hq.symm⟩
end Go.Proofs.YtlbkbjeajcadiaaGreatDoor.B

/- Plain law of the book: what the document answers is what the book answers. -/
namespace Go.Proofs.YtlbkbjeajcadiaaGreatDoor.B
open Go.Proofs.YtlbkbjeajcadiaaGreatDoor.O Go.Proofs.YtlbkbjeajcadiaaGreatDoor.P Go.Proofs.YtlbkbjeajcadiaaGreatDoor.Mp
set_option linter.unusedVariables false
set_option linter.unusedSimpArgs false

def mostV (l : List Int) : Int := l.foldl (fun m v => max m v) 0
theorem mostV_gen : ∀ (l : List Int) (m : Int), m ≤ l.foldl (fun m v => max m v) m ∧ (∀ v ∈ l, v ≤ l.foldl (fun m v => max m v) m) ∧ (l.foldl (fun m v => max m v) m = m ∨ l.foldl (fun m v => max m v) m ∈ l) := by
  intro l
  induction l with
  | nil => intro m; exact ⟨Int.le_refl _, fun v h => (by cases h), .inl rfl⟩
  | cons a t ih =>
    intro m
    simp only [List.foldl_cons]
    obtain ⟨h1, h2, h3⟩ := ih (max m a)
    refine ⟨by omega, fun v hv => ?_, ?_⟩
    · rcases List.mem_cons.1 hv with rfl | hv
      · omega
      · exact h2 v hv
    · rcases h3 with h3 | h3
      · rw [h3]
        by_cases e : m ≤ a
        · right; rw [Int.max_eq_right e]; exact List.mem_cons_self
        · left; exact Int.max_eq_left (by omega)
      · exact .inr (List.mem_cons_of_mem _ h3)
theorem mostV_one {l m : List Int} (h : ∀ v, v ∈ l ↔ v ∈ m) : mostV l = mostV m := by
  obtain ⟨a1, a2, a3⟩ := mostV_gen l 0
  obtain ⟨b1, b2, b3⟩ := mostV_gen m 0
  unfold mostV
  refine Int.le_antisymm ?_ ?_
  · rcases a3 with e | e
    · rw [e]; exact b1
    · exact b2 _ ((h _).1 e)
  · rcases b3 with e | e
    · rw [e]; exact a1
    · exact a2 _ ((h _).2 e)
theorem mostN_V (l : List (O.Id × En)) : mostN l = mostV (l.map fun p => p.2.seq) := by
  unfold mostN mostV
  rw [List.foldl_map]
/-- the document's: those that a command meets -/
noncomputable def metR (l : List Rv) (c : Cmd) (but : O.Id) : List Rv := l.filter fun x => decide (x.id ≠ but) && meetsR c x
theorem meets_core {q r : Rv} (h : core q = core r) (c : Cmd) : meetsR c q = meetsR c r := by rw [meets_ix, meets_ix, asIx_core h]
theorem seq_ix {q : Rv} {e : En} (h : asIx q = some e) : e.seq = q.seq := by
  unfold asIx at h
  split at h
  · cases h
  · split at h <;> (cases h; rfl)
theorem met_pair {R : List (O.Id × Rv)} {A : List (O.Id × En)} {l : List Rv} (hr : RefRel R l) (hb : BkRel R A) (hn : (A.map Prod.fst).Nodup) (c : Cmd) (but : O.Id) (i : O.Id) (v : Int) : (∃ e, (i, e) ∈ metL A c but ∧ e.seq = v) ↔ (∃ x ∈ metR l c but, x.id = i ∧ x.seq = v) := by
  constructor
  · rintro ⟨e, he, hv⟩
    unfold metL at he
    rw [List.mem_filter, Bool.and_eq_true] at he
    have h1 := findD_of hn he.1
    rw [hb i] at h1
    obtain ⟨q, hq, hx⟩ := Option.bind_eq_some_iff.1 h1
    have hm := findD_some hq
    obtain ⟨x, hxl, hc⟩ := hr.fwd _ hm
    have hid := hr.ids _ hm
    have hxi : x.id = i := (core_id2 hc).trans hid
    refine ⟨x, ?_, hxi, ?_⟩
    · unfold metR
      rw [List.mem_filter, Bool.and_eq_true]
      refine ⟨hxl, ?_, ?_⟩
      · rw [hxi]; exact he.2.1
      · rw [meets_core hc, meets_ix, show asIx ((i, q) : O.Id × Rv).2 = some e from hx]
        simpa using he.2.2
    · rw [← hv, seq_ix hx]
      exact (congrArg Rv.seq hc : _)
  · rintro ⟨x, hx, hxi, hv⟩
    unfold metR at hx
    rw [List.mem_filter, Bool.and_eq_true] at hx
    obtain ⟨p, hp, hc⟩ := hr.bwd x hx.1
    have hf := findD_of hr.nd (show (p.1, p.2) ∈ R from hp)
    have hpi : p.1 = i := by rw [← hr.ids p hp, ← core_id2 hc, hxi]
    have h2 := hx.2.2
    rw [meets_core hc, meets_ix] at h2
    cases hxe : asIx p.2 with
    | none => rw [hxe] at h2; simp at h2
    | some e =>
      rw [hxe] at h2
      have hA := hb p.1
      rw [hf, Option.bind_some, hxe] at hA
      refine ⟨e, ?_, ?_⟩
      · unfold metL
        rw [List.mem_filter, Bool.and_eq_true]
        refine ⟨by rw [← hpi]; exact findD_some hA, ?_, by simpa using h2⟩
        have := hx.2.1
        rw [hxi] at this
        exact this
      · rw [seq_ix hxe, ← hv]
        exact (congrArg Rv.seq hc : _).symm
/-- what it hangs on, and its number -/
theorem hang_ref {R : List (O.Id × Rv)} {A : List (O.Id × En)} {l : List Rv} (hr : RefRel R l) (hb : BkRel R A) (hn : (A.map Prod.fst).Nodup) (c : Cmd) (but : O.Id) : setI ((metL A c but).map Prod.fst) = setI ((metR l c but).map Rv.id) ∧ mostN (metL A c but) = mostV ((metR l c but).map Rv.seq) := by
  have key := met_pair hr hb hn c but
  constructor
  · refine setI_same fun i => ?_
    constructor
    · intro h
      obtain ⟨p, hp, rfl⟩ := List.mem_map.1 h
      obtain ⟨x, hx, e, _⟩ := (key p.1 p.2.seq).1 ⟨p.2, hp, rfl⟩
      exact List.mem_map.2 ⟨x, hx, e⟩
    · intro h
      obtain ⟨x, hx, rfl⟩ := List.mem_map.1 h
      obtain ⟨e, he, _⟩ := (key x.id x.seq).2 ⟨x, hx, rfl, rfl⟩
      exact List.mem_map.2 ⟨_, he, rfl⟩
  · rw [mostN_V]
    refine mostV_one fun v => ?_
    constructor
    · intro h
      obtain ⟨p, hp, rfl⟩ := List.mem_map.1 h
      obtain ⟨x, hx, _, e⟩ := (key p.1 p.2.seq).1 ⟨p.2, hp, rfl⟩
      exact List.mem_map.2 ⟨x, hx, e⟩
    · intro h
      obtain ⟨x, hx, rfl⟩ := List.mem_map.1 h
      obtain ⟨e, he, h2⟩ := (key x.id x.seq).2 ⟨x, hx, rfl, rfl⟩
      exact List.mem_map.2 ⟨_, he, h2⟩
/-- barriers -/
theorem wall_ref {R : List (O.Id × Rv)} {l : List Rv} (hr : RefRel R l) (s : Int) : wallB R s = l.any fun x => decide (x.cmd.kind = 6) && decide (s ≤ x.st) := by
  rw [Bool.eq_iff_iff, wall_iff, List.any_eq_true]
  constructor
  · rintro ⟨p, hp, h1, h2⟩
    obtain ⟨x, hx, hc⟩ := hr.fwd p hp
    have e1 : x.cmd = p.2.cmd := (congrArg Rv.cmd hc : _)
    have e2 : x.st = p.2.st := (congrArg Rv.st hc : _)
    exact ⟨x, hx, by rw [e1, e2]; simp [h1, h2]⟩
  · rintro ⟨x, hx, h⟩
    obtain ⟨p, hp, hc⟩ := hr.bwd x hx
    have e1 : x.cmd = p.2.cmd := (congrArg Rv.cmd hc : _)
    have e2 : x.st = p.2.st := (congrArg Rv.st hc : _)
    rw [Bool.and_eq_true, decide_eq_true_eq, decide_eq_true_eq] at h
    exact ⟨p, hp, by rw [← e1]; exact h.1, by rw [← e2]; exact h.2⟩
/-- what goes on from what, by what records say -/
theorem goes_core {a a2 b b2 : Rv} (h1 : core a = core a2) (h2 : core b = core b2) : goesOn a b = goesOn a2 b2 := by
  have f : ∀ {x y : Rv}, core x = core y → x.id = y.id ∧ x.st = y.st ∧ x.bal = y.bal ∧ x.took = y.took ∧ x.cmd = y.cmd ∧ x.deps = y.deps ∧ x.seq = y.seq ∧ x.tag = y.tag := fun {x y} h =>
    ⟨(congrArg Rv.id h : _), (congrArg Rv.st h : _), (congrArg Rv.bal h : _), (congrArg Rv.took h : _), (congrArg Rv.cmd h : _), (congrArg Rv.deps h : _), (congrArg Rv.seq h : _), (congrArg Rv.tag h : _)⟩
  obtain ⟨a1, a3, a4, a5, a6, a7, a8, a9⟩ := f h1
  obtain ⟨b1, b3, b4, b5, b6, b7, b8, b9⟩ := f h2
  unfold goesOn
  rw [a1, a3, a4, a5, a6, a7, a8, a9, b1, b3, b4, b5, b6, b7, b8, b9]
/-- the document's Get -/
def refGet (l : List Rv) (i : O.Id) : Rv := (l.find? fun x => decide (x.id = i)).getD (rv0 i)
theorem get_ref {R : List (O.Id × Rv)} {l : List Rv} (hr : RefRel R l) (i : O.Id) : core (getR R i) = core (refGet l i) := by
  unfold getR refGet
  cases hf : findD R i with
  | none =>
    have h0 : l.find? (fun x => decide (x.id = i)) = none := by
      rw [List.find?_eq_none]
      intro x hx hd
      obtain ⟨p, hp, hc⟩ := hr.bwd x hx
      rw [findD_none] at hf
      refine hf (List.mem_map.2 ⟨p, hp, ?_⟩)
      rw [← hr.ids p hp, ← core_id2 hc]
      simpa using hd
    rw [h0]
  | some q =>
    have hm := findD_some hf
    obtain ⟨x, hx, hc⟩ := hr.fwd _ hm
    have hxi : x.id = i := (core_id2 hc).trans (hr.ids _ hm)
    cases h0 : l.find? (fun x => decide (x.id = i)) with
    | none =>
      rw [List.find?_eq_none] at h0
      exact absurd (h0 x hx) (by simp [hxi])
    | some y =>
      have hy := List.mem_of_find?_eq_some h0
      have hyi : y.id = i := by simpa using List.find?_some h0
      obtain ⟨p, hp, hc2⟩ := hr.bwd y hy
      have hpi : p.1 = i := by rw [← hr.ids p hp, ← core_id2 hc2, hyi]
      have hf2 := findD_of hr.nd (show (p.1, p.2) ∈ R from hp)
      rw [hpi, hf] at hf2
      rw [Option.some.inj hf2]
      exact hc2.symm
end Go.Proofs.YtlbkbjeajcadiaaGreatDoor.B

/- Plain law of the book: all records; the next number. -/
namespace Go.Proofs.YtlbkbjeajcadiaaGreatDoor.B
open Go.Proofs.YtlbkbjeajcadiaaGreatDoor.O Go.Proofs.YtlbkbjeajcadiaaGreatDoor.P Go.Proofs.YtlbkbjeajcadiaaGreatDoor.Mp
set_option linter.unusedVariables false
set_option linter.unusedSimpArgs false

theorem sorted_find {l : List Rv} (hs : SortedR l) {x : Rv} (hx : x ∈ l) : refGet l x.id = x := by
  unfold refGet
  cases h0 : l.find? (fun y => decide (y.id = x.id)) with
  | none =>
    rw [List.find?_eq_none] at h0
    exact absurd (h0 x hx) (by simp)
  | some y =>
    have hy := List.mem_of_find?_eq_some h0
    have hyi : y.id = x.id := by simpa using List.find?_some h0
    show y = x
    obtain ⟨i, hi, rfl⟩ := List.mem_iff_getElem.1 hx
    obtain ⟨j, hj, rfl⟩ := List.mem_iff_getElem.1 hy
    have hp := List.pairwise_iff_getElem.1 hs
    rcases Nat.lt_trichotomy i j with h | h | h
    · have := hp i j hi hj h
      rw [hyi, ilt_irr] at this
      cases this
    · subst h; rfl
    · have := hp j i hj hi h
      rw [hyi, ilt_irr] at this
      cases this
theorem ids_ref {R : List (O.Id × Rv)} {l : List Rv} (hr : RefRel R l) : l.map Rv.id = setI (R.map Prod.fst) := by
  refine setI_one ?_ fun i => ?_
  · exact List.pairwise_map.2 hr.so
  · constructor
    · intro h
      obtain ⟨x, hx, rfl⟩ := List.mem_map.1 h
      obtain ⟨p, hp, hc⟩ := hr.bwd x hx
      exact List.mem_map.2 ⟨p, hp, by rw [← hr.ids p hp, ← core_id2 hc]⟩
    · intro h
      obtain ⟨p, hp, rfl⟩ := List.mem_map.1 h
      obtain ⟨x, hx, hc⟩ := hr.fwd p hp
      exact List.mem_map.2 ⟨x, hx, (core_id2 hc).trans (hr.ids p hp)⟩
/-- All -/
theorem all_ref {R : List (O.Id × Rv)} {l : List Rv} (hr : RefRel R l) : (setI (R.map Prod.fst)).map (fun i => core (getR R i)) = l.map core := by
  rw [← ids_ref hr, List.map_map]
  refine List.map_congr_left fun x hx => ?_
  show core (getR R x.id) = core x
  rw [get_ref hr, sorted_find hr.so hx]
theorem foldl_if {α : Type} (f : α → Int) (p : α → Prop) [DecidablePred p] : ∀ (l : List α) (m : Int), l.foldl (fun m x => if p x then max m (f x) else m) m = ((l.filter fun x => decide (p x)).map f).foldl (fun m v => max m v) m := by
  intro l
  induction l with
  | nil => intro m; rfl
  | cons a t ih =>
    intro m
    rw [List.foldl_cons]
    by_cases h : p a
    · rw [if_pos h, List.filter_cons_of_pos (by simp [h]), List.map_cons, List.foldl_cons]
      exact ih _
    · rw [if_neg h, List.filter_cons_of_neg (by simp [h])]
      exact ih _
/-- Next -/
theorem next_ref {R : List (O.Id × Rv)} {l : List Rv} (hr : RefRel R l) (r : Int) : nextN R r = (l.foldl (fun m x => if x.id.r = r then max m x.id.n else m) 0) + 1 := by
  unfold nextN
  rw [foldl_if (fun p : O.Id × Rv => p.1.n) (fun p => p.1.r = r), foldl_if (fun x : Rv => x.id.n) (fun x => x.id.r = r)]
  congr 1
  refine mostV_one fun v => ?_
  constructor
  · intro h
    obtain ⟨p, hp, rfl⟩ := List.mem_map.1 h
    rw [List.mem_filter] at hp
    obtain ⟨x, hx, hc⟩ := hr.fwd p hp.1
    have e : x.id = p.1 := (core_id2 hc).trans (hr.ids p hp.1)
    exact List.mem_map.2 ⟨x, List.mem_filter.2 ⟨hx, by rw [e]; exact hp.2⟩, by rw [e]⟩
  · intro h
    obtain ⟨x, hx, rfl⟩ := List.mem_map.1 h
    rw [List.mem_filter] at hx
    obtain ⟨p, hp, hc⟩ := hr.bwd x hx.1
    have e : x.id = p.1 := (core_id2 hc).trans (hr.ids p hp)
    exact List.mem_map.2 ⟨p, List.mem_filter.2 ⟨hp, by rw [← e]; exact hx.2⟩, by rw [← e]⟩
end Go.Proofs.YtlbkbjeajcadiaaGreatDoor.B

/- book: ids as keys of maps (lines of OrdW and OrdEb, without what those import). -/
namespace Go.Proofs.YtlbkbjeajcadiaaGreatDoor.O
open Go.RowKit Go.Proofs.YtlbkbjeajcadiaaGreatDoor.M Go.BigFrame Go.Maps
set_option linter.unusedVariables false
set_option linter.unusedSimpArgs false

theorem id_laid : laidOutB Tryz.prog = true := by kernel_rfl
theorem id_law : WideMaps.KeyLaw Tryz.prog 31 := deep_law_laid id_laid (m := 2) (by omega) (of_decide_eq_true (by kernel_rfl)) (by kernel_rfl) (by rw [Tryz.underlying31])
theorem id_keyed : Maps.Keyed Tryz.prog 31 := .of_law id_law
def klI (i : Id) : Lit := .string (keyBytes [.int .i64 i.r, .int .i64 i.n])
theorem types_pos : ∃ d, Tryz.prog.types.size + 1 = d + 1 + 1 := ⟨Tryz.prog.types.size - 1, by have h : 0 < Tryz.prog.types.size := of_decide_eq_true (by kernel_rfl); omega⟩
theorem wf_of64 {n : Int} (h : -9223372036854775808 ≤ n ∧ n ≤ 9223372036854775807) : (Lit.int .i64 n).wf = true := by
  simp only [Lit.wf, Bool.and_eq_true, decide_eq_true_eq]
  exact h
theorem key_id (i : Id) (hi : IdI i) : keyOf Tryz.prog 31 (idV i) = some (klI i) := by
  obtain ⟨h1, h2⟩ := hi
  unfold P.InI at h1 h2
  simp [keyOf, Tryz.underlying31, Value.formed, Value.cells, klI]
  have w1 : (Lit.int .i64 i.r).wf = true := wf_of64 h1
  have w2 : (Lit.int .i64 i.n).wf = true := wf_of64 h2
  have hc : Tryz.prog.cellsOf 31 = 2 := by kernel_rfl
  have hc3 : Tryz.prog.cellsOf 3 = 1 := by kernel_rfl
  refine ⟨⟨by kernel_rfl, hc.symm⟩, [.int .i64 i.r, .int .i64 i.n], ?_, rfl⟩
  have e0 : ∀ (d : Nat) (x : Int), (Lit.int .i64 x).wf = true → Tryz.prog.keyLits (d + 1) 3 [.int .i64 x] = some [.int .i64 x] := fun d x hx => by
    unfold Program.keyLits
    rw [Tryz.underlying3]
    simp [hx]
  have e1 : ∀ d : Nat, Tryz.prog.keyLits (d + 1 + 1) 31 [.int .i64 i.r, .int .i64 i.n] = some [.int .i64 i.r, .int .i64 i.n] := fun d => by
    unfold Program.keyLits
    rw [Tryz.underlying31]
    simp [hc, hc3, e0 d _ w1, e0 d _ w2]
  exact e1 _
theorem klI_key (i : Id) : WideAt.IsKeyLit (klI i) := trivial
theorem klI_inj {i j : Id} (hi : IdI i) (hj : IdI j) (h : klI i = klI j) : i = j := by
  have := id_keyed.inj (key_id i hi) (h ▸ key_id j hj)
  simp only [Value.agg.injEq, Array.mk.injEq, List.cons.injEq, Value.int.injEq, true_and, and_true] at this
  exact Id.eq_of this.1 this.2
/-- the map of places, when k records have been walked -/
abbrev tId : TypeId := 31
set_option maxRecDepth 100000 in
/-- what reads as an id is one -/
theorem key_id_inv {key : Value} {kl : Lit} (h : keyOf Tryz.prog tId key = some kl) : ∃ i, key = idV i ∧ kl = klI i ∧ IdI i := by
  have hc : Tryz.prog.cellsOf 31 = 2 := by kernel_rfl
  have hc3 : Tryz.prog.cellsOf 3 = 1 := by kernel_rfl
  have h0 : ∀ (d : Nat) (v : Value) (l : List Lit), Tryz.prog.keyLits (d + 1) 3 [v] = some l → ∃ x : Int, v = .int .i64 x ∧ (Lit.int .i64 x).wf = true ∧ l = [.int .i64 x] := fun d v l hv => by
    unfold Program.keyLits at hv
    rw [Tryz.underlying3] at hv
    cases v <;> simp at hv
    obtain ⟨⟨rfl, hw⟩, rfl⟩ := hv
    exact ⟨_, rfl, hw, rfl⟩
  cases key with
  | agg cs =>
    simp only [keyOf, Tryz.underlying31, Value.formed, hc] at h
    split at h
    · rename_i hk
      simp only [Bool.and_eq_true, beq_iff_eq] at hk
      obtain ⟨l⟩ := cs
      have hl : l.length = 2 := by simpa using hk.2
      match l, hl with
      | [a, b], _ =>
        obtain ⟨ls, hls, rfl⟩ := Option.map_eq_some_iff.1 h
        obtain ⟨d, hd⟩ := types_pos
        rw [hd] at hls
        have hls : Tryz.prog.keyLits (d + 1 + 1) 31 [a, b] = some ls := by simpa [Value.cells] using hls
        unfold Program.keyLits at hls
        rw [Tryz.underlying31] at hls
        simp [hc, hc3, Option.bind_eq_some_iff] at hls
        obtain ⟨la, ha, lb, ⟨lc, hb, rfl⟩, rfl⟩ := hls
        obtain ⟨x, rfl, hx, rfl⟩ := h0 d _ _ ha
        obtain ⟨y, rfl, hy, rfl⟩ := h0 d _ _ hb
        refine ⟨⟨x, y⟩, rfl, by simp [klI], ?_, ?_⟩
        · simp only [Lit.wf, Bool.and_eq_true, decide_eq_true_eq] at hx
          exact hx
        · simp only [Lit.wf, Bool.and_eq_true, decide_eq_true_eq] at hy
          exact hy
    · cases h
  | _ => simp [keyOf, Tryz.underlying31, Value.formed] at h
end Go.Proofs.YtlbkbjeajcadiaaGreatDoor.O

/- The settings as a map in memory: what a map of settings reads as; look, put, strike; its keys. -/
namespace Go.Proofs.YtlbkbjeajcadiaaGreatDoor.P
open Go.RowKit Go.Maps
set_option linter.unusedVariables false

def settV (v : ByteArray) (r : Int) : Value := .agg #[.string v, .int .i64 r]
def settD (v : ByteArray) (r : Int) : DataW Unit := .agg [.lit (.string v.data.toList), .lit (.int .i64 r)]
/-- how a setting reads -/
def settL : List Value → Option (DataW Unit × List MemPlace)
  | [.string s, .int .i64 r] => some (settD s r, [])
  | _ => none
def settR : Value → Option (DataW Unit × List MemPlace)
  | .agg cs => settL cs.toList
  | _ => none
theorem settR_mk (v : ByteArray) (r : Int) : settR (settV v r) = some (settD v r, []) := rfl
theorem settD_inj {v v2 : ByteArray} {r r2 : Int} (h : settD v r = settD v2 r2) : v = v2 ∧ r = r2 := by
  unfold settD at h
  simp only [DataW.agg.injEq, List.cons.injEq, DataW.lit.injEq, Lit.string.injEq, Lit.int.injEq, and_true, true_and] at h
  exact ⟨ba_ext h.1, h.2⟩
theorem settR_inv {x : Value} {v : ByteArray} {r : Int} {ps : List MemPlace} (h : settR x = some (settD v r, ps)) : x = settV v r := by
  cases x with
  | agg cs =>
    have h : settL cs.toList = _ := h
    obtain ⟨l⟩ := cs
    simp only at h
    unfold settL at h
    split at h
    · simp only [Option.some.injEq, Prod.mk.injEq] at h
      obtain ⟨rfl, rfl⟩ := settD_inj h.1
      rfl
    · cases h
  | _ => cases h
def kl (k : ByteArray) : Lit := .string k.data.toList
theorem kl_inj {a b : ByteArray} (h : kl a = kl b) : a = b := by
  unfold kl at h
  exact ba_ext (by simpa using h)
theorem kl_key (k : ByteArray) : WideAt.IsKeyLit (kl k) := by unfold kl WideAt.IsKeyLit; trivial
def valO : Option Ent → ByteArray
  | none => nul
  | some e => e.val
def zD : DataW Unit := settD nul 0
/-- a map that reads as settings -/
structure MRel (D : DataW Unit) (A : List Ent) : Prop where
  has : ∀ k, Maps.has D (kl k) = (look A k).isSome
  at_ : ∀ k, D.atKey (kl k) zD = settD (valO (look A k)) (revO (look A k))
theorem MRel.nil : MRel (.map []) [] := ⟨fun k => rfl, fun k => rfl⟩
theorem MRel.put {D : DataW Unit} {A : List Ent} {e : Ent} (h : MRel D A) (hm : IsMap D) (hs : Srt A) : MRel (D.put (kl e.key) (settD e.val e.rev)) (put A e) := by
  constructor
  · intro k
    rw [look_put hs]
    by_cases hk : e.key = k
    · subst hk
      rw [has_put_same hm (kl_key _), if_pos rfl]; rfl
    · rw [has_put_other (fun e2 => hk (kl_inj e2).symm), if_neg hk]
      exact h.has k
  · intro k
    rw [look_put hs]
    by_cases hk : e.key = k
    · subst hk
      rw [atKey_put_same hm (kl_key _), if_pos rfl]; rfl
    · rw [atKey_put_other (fun e2 => hk (kl_inj e2).symm), if_neg hk]
      exact h.at_ k
theorem MRel.del {D : DataW Unit} {A : List Ent} {j : ByteArray} (h : MRel D A) (hs : Srt A) : MRel (D.del (kl j)) (del A j) := by
  constructor
  · intro k
    rw [look_del hs]
    by_cases hk : j = k
    · subst hk
      rw [has_del_same, if_pos rfl]; rfl
    · rw [has_del_other (fun e2 => hk (kl_inj e2).symm), if_neg hk]
      exact h.has k
  · intro k
    rw [look_del hs]
    by_cases hk : j = k
    · subst hk
      rw [atKey_del_same, if_pos rfl]; rfl
    · rw [atKey_del_other (fun e2 => hk (kl_inj e2).symm), if_neg hk]
      exact h.at_ k
abbrev tStr : TypeId := 9
theorem keyedS : Keyed Tryz.prog tStr := string_keyed Tryz.underlying9
theorem key_kl {k : ByteArray} (h : k.size ≤ maxLen) : keyOf Tryz.prog tStr (.string k) = some (kl k) := Go.WideMaps.keyOf_string_mk Tryz.underlying9 h
/-- block b is a map of at most n entries that reads as the settings A -/
def MapA (w : World) (b n : Nat) (A : List Ent) : Prop := ∃ D, w.ownsMap Tryz.prog tStr settR b n D ∧ MRel D A
theorem MapA.lt {w : World} {b n : Nat} {A : List Ent} (h : MapA w b n A) : b < w.heap.size := by
  obtain ⟨D, h1, _⟩ := h
  exact h1.lt
theorem MapA.mono {w : World} {b n m : Nat} {A : List Ent} (h : MapA w b n A) (hm : n ≤ m) : MapA w b m A := by
  obtain ⟨D, h1, h2⟩ := h
  exact ⟨D, h1.mono hm, h2⟩
theorem MapA.keep {w w1 : World} {b n : Nat} {A : List Ent} {S : Nat → Prop} (h : MapA w b n A) (hm : M.Mods S w w1) (hn : ¬ S b) : MapA w1 b n A := by
  have hlt := h.lt
  obtain ⟨D, ⟨es, clock, hb, r⟩, h2⟩ := h
  exact ⟨D, ⟨es, clock, (hm.block b hlt hn).trans hb, r⟩, h2⟩
theorem MapA.below {w w1 : World} {b n : Nat} {A : List Ent} (h : MapA w b n A) (hm : Below w.heap.size w w1) : MapA w1 b n A :=
  h.keep (S := fun _ => False) (M.Mods.of_below hm) (fun h => h)
theorem MapA.made (w : World) : MapA (w.alloc (.map #[] 0)) w.heap.size 0 [] := ⟨.map [], World.ownsMap_made _ _ _ _, MRel.nil⟩
theorem mods_turned {w w1 : World} {b : Nat} (h : w.mapTurned w1 b) : M.Mods (fun k => k = b) w w1 :=
  ⟨h.grown.os, h.grown.tape, h.grown.output, h.grown.size, fun k hk hn => h.grown.block k hk (fun e => hn (Option.some.inj e))⟩
def keysL (A : List Ent) : List (List UInt8) := A.map fun e => e.key.data.toList
theorem look_isSome {A : List Ent} {k : ByteArray} : (look A k).isSome = true ↔ ∃ e ∈ A, e.key = k := by
  constructor
  · intro h
    cases h1 : look A k with
    | none => rw [h1] at h; cases h
    | some e => exact ⟨e, (look_key h1).2, (look_key h1).1⟩
  · rintro ⟨e, he, hk⟩
    cases h1 : look A k with
    | none => exact absurd hk (look_none h1 e he)
    | some x => rfl
/-- the keys that a map gives, sorted, are those of the settings -/
theorem keys_sorted {w : World} {b n : Nat} {A : List Ent} {D : DataW Unit} (hown : w.ownsMap Tryz.prog tStr settR b n D) (h : MRel D A) (hs : Srt A) {ss : List (List UInt8)} (hp : ss.Perm (strKeys D)) :
    ss.mergeSort (fun x y => decide (x ≤ y)) = keysL A := by
  have hnd : (keysL A).Nodup := by
    unfold keysL
    refine List.pairwise_map.2 (hs.imp fun {a c} hac e => ?_)
    exact lt_ne hac (ba_ext e)
  have hperm : (keysL A).Perm (strKeys D) := by
    obtain ⟨es, hD, hpw, _⟩ := hown.entries keyedS
    obtain ⟨es', hD', hko⟩ := hown.keysOf
    obtain rfl : es = es' := by rw [hD] at hD'; simpa using hD'
    subst hD
    refine perm_strKeys hpw (fun p hp => by obtain ⟨v, hv⟩ := hko p hp; obtain ⟨x, _, hx, _⟩ := Maps.keyOf_str Tryz.underlying9 hv; exact ⟨x, hx⟩) hnd (fun x => ?_)
    have := h.has ⟨x.toArray⟩
    unfold kl at this
    simp only at this
    rw [this, look_isSome]
    unfold keysL
    rw [List.mem_map]
    constructor
    · rintro ⟨e, he, rfl⟩
      exact ⟨e, he, ba_ext (by simp)⟩
    · rintro ⟨e, he, hk⟩
      exact ⟨e, he, by rw [hk]⟩
  rw [show (fun x y : List UInt8 => decide (x ≤ y)) = leB from rfl, mergeSort_of_perm (hp.trans hperm.symm)]
  refine List.mergeSort_of_pairwise ?_
  unfold keysL
  refine List.pairwise_map.2 (hs.imp fun {a c} hac => ?_)
  show leB _ _ = true
  unfold leB
  exact decide_eq_true (List.le_of_lt hac)
theorem MapA.size {w : World} {b n : Nat} {A : List Ent} {D : DataW Unit} (hown : w.ownsMap Tryz.prog tStr settR b n D) : Maps.size D ≤ n := hown.size_le
end Go.Proofs.YtlbkbjeajcadiaaGreatDoor.P
