/- Several texts in one. -/
import Derived.Test.YtlbkbjeajcadiaaGreatDoorBkP
import Derived.Test.YtlbkbjeajcadiaaGreatDoorOrdL

/- Plain law of the book (no program in sight): records by their ids, what goes on from what, barriers. -/
namespace Go.Proofs.YtlbkbjeajcadiaaGreatDoor.B
open Go.Proofs.YtlbkbjeajcadiaaGreatDoor.O Go.Proofs.YtlbkbjeajcadiaaGreatDoor.P Go.Proofs.YtlbkbjeajcadiaaGreatDoor.Mp
set_option linter.unusedVariables false
set_option linter.unusedSimpArgs false

/-- a record, but for where its ids lie -/
def core (x : Rv) : Rv := { x with ao := none, cap := 0 }
noncomputable instance : DecidableEq Cmd := fun _ _ => Classical.propDecidable _
/-- a command of nothing -/
def zc : Cmd := ⟨0, 0, 0, nul, nul, 0⟩
/-- does one record go on from another one? -/
noncomputable def goesOn (a b : Rv) : Bool :=
  decide (a.id = b.id) && !balLt b.bal a.bal && !balLt b.took a.took && (decide (a.st ≠ 3) || (decide (b.st = 3) && decide (b.cmd = a.cmd) && atSame b.deps b.seq b.tag a.deps a.seq a.tag))
/-- a record that isn't there -/
def rv0 (i : O.Id) : Rv := ⟨i, 0, ⟨0, 0⟩, ⟨0, 0⟩, zc, [], 0, 0, none, 0⟩
/-- what a book has of an id -/
def getR (R : List (O.Id × Rv)) (i : O.Id) : Rv := (findD R i).getD (rv0 i)
/-- is there a barrier, from a state on? -/
def wallB (R : List (O.Id × Rv)) (s : Int) : Bool := R.any fun p => decide (p.2.cmd.kind = 6) && decide (s ≤ p.2.st)
theorem wall_iff {R : List (O.Id × Rv)} {s : Int} : wallB R s = true ↔ ∃ p ∈ R, p.2.cmd.kind = 6 ∧ s ≤ p.2.st := by
  unfold wallB
  simp [List.any_eq_true]
theorem mem_putD {κ ν : Type} [DecidableEq κ] {L : List (κ × ν)} {k : κ} {v : ν} {p : κ × ν} : p ∈ putD L k v ↔ (p ∈ L ∧ p.1 ≠ k) ∨ p = (k, v) := by
  unfold putD
  rw [List.mem_append, mem_delD, List.mem_singleton]
/-- active stays active -/
theorem wall_keep {R : List (O.Id × Rv)} (hn : (R.map Prod.fst).Nodup) {r q : Rv} (hq : core q = core r) (h : wallB R 3 = true) (ho : ∀ p ∈ R, p.2.st ≤ 3) (hg : goesOn (getR R r.id) r = true) : wallB (putD R r.id q) 3 = true := by
  rw [wall_iff] at h ⊢
  obtain ⟨p, hp, h1, h2⟩ := h
  by_cases e : p.1 = r.id
  · have hf : findD R r.id = some p.2 := findD_of hn (by rw [← e]; exact hp)
    have hgr : getR R r.id = p.2 := by unfold getR; rw [hf]; rfl
    rw [hgr] at hg
    have h3 : p.2.st = 3 := by have := ho p hp; omega
    unfold goesOn at hg
    simp only [Bool.and_eq_true, Bool.or_eq_true, decide_eq_true_eq] at hg
    have hgo := hg.2.resolve_left (fun hc => hc h3)
    refine ⟨(r.id, q), mem_putD.2 (.inr rfl), ?_, ?_⟩
    · have hcm : q.cmd = r.cmd := (congrArg Rv.cmd hq : _)
      show q.cmd.kind = 6
      rw [hcm, hgo.1.2]; exact h1
    · have hst : q.st = r.st := (congrArg Rv.st hq : _)
      show 3 ≤ q.st
      rw [hst, hgo.1.1]
      omega
  · exact ⟨p, mem_putD.2 (.inl ⟨hp, e⟩), h1, h2⟩
theorem wall_more {R : List (O.Id × Rv)} (h : wallB R 3 = true) : wallB R 0 = true := by
  rw [wall_iff] at h ⊢
  obtain ⟨p, hp, h1, h2⟩ := h
  exact ⟨p, hp, h1, by omega⟩
theorem wall_put {R : List (O.Id × Rv)} {r q : Rv} {s : Int} (hq : core q = core r) (h1 : r.cmd.kind = 6) (h2 : s ≤ r.st) : wallB (putD R r.id q) s = true := by
  rw [wall_iff]
  have hcm : q.cmd = r.cmd := (congrArg Rv.cmd hq : _)
  have hst : q.st = r.st := (congrArg Rv.st hq : _)
  exact ⟨(r.id, q), mem_putD.2 (.inr rfl), by rw [← h1, ← hcm], by show s ≤ q.st; omega⟩
/-- as what a record stands in the index -/
def asIx (r : Rv) : Option En :=
  if r.st = 0 then none else if r.st ≠ 3 ∧ r.cmd.kind = 0 then some ⟨{ zc with kind := 6 }, r.seq⟩ else some ⟨r.cmd, r.seq⟩
end Go.Proofs.YtlbkbjeajcadiaaGreatDoor.B

/- Plain law of the book: what an instance hangs on, its number, the next number. -/
namespace Go.Proofs.YtlbkbjeajcadiaaGreatDoor.B
open Go.Proofs.YtlbkbjeajcadiaaGreatDoor.O Go.Proofs.YtlbkbjeajcadiaaGreatDoor.P Go.Proofs.YtlbkbjeajcadiaaGreatDoor.Mp
set_option linter.unusedVariables false
set_option linter.unusedSimpArgs false

/-- the index says of each id what its record stands for -/
def BkRel (R : List (O.Id × Rv)) (A : List (O.Id × En)) : Prop := ∀ i, findD A i = (findD R i).bind asIx
theorem BkRel.nil : BkRel [] [] := fun _ => rfl
def noteA (A : List (O.Id × En)) (r : Rv) : List (O.Id × En) := match asIx r with
  | none => delD A r.id
  | some e => putD A r.id e
theorem asIx_core {q r : Rv} (h : core q = core r) : asIx q = asIx r := by
  have h1 : q.cmd = r.cmd := (congrArg Rv.cmd h : _)
  have h2 : q.st = r.st := (congrArg Rv.st h : _)
  have h3 : q.seq = r.seq := (congrArg Rv.seq h : _)
  unfold asIx
  rw [h1, h2, h3]
theorem BkRel.note {R : List (O.Id × Rv)} {A : List (O.Id × En)} (h : BkRel R A) {q r : Rv} (hq : core q = core r) : BkRel (putD R r.id q) (noteA A r) := by
  intro i
  rw [findD_put]
  have e := asIx_core hq
  unfold noteA
  by_cases hi : i = r.id
  · rw [if_pos hi, Option.bind_some, e]
    cases hx : asIx r with
    | none => simp only; rw [findD_del, if_pos hi]
    | some x => simp only; rw [findD_put, if_pos hi]
  · rw [if_neg hi]
    cases hx : asIx r with
    | none => simp only; rw [findD_del, if_neg hi]; exact h i
    | some x => simp only; rw [findD_put, if_neg hi]; exact h i
/-- does a command meet a record's instance? as the statement asks -/
def meetsR (c : Cmd) (r : Rv) : Bool :=
  decide (r.st ≠ 0) && ((decide (r.st ≠ 3) && decide (r.cmd.kind = 0) && decide (c.kind ≠ 0)) || meet c r.cmd)
/-- the numbers of those that a command meets -/
def mostN (l : List (O.Id × En)) : Int := l.foldl (fun m p => max m p.2.seq) 0
/-- the next number of a replica -/
def nextN (R : List (O.Id × Rv)) (r : Int) : Int := (R.foldl (fun m p => if p.1.r = r then max m p.1.n else m) 0) + 1
end Go.Proofs.YtlbkbjeajcadiaaGreatDoor.B

/- Plain law of the book: the document's records in the order of their ids (With). -/
namespace Go.Proofs.YtlbkbjeajcadiaaGreatDoor.B
open Go.Proofs.YtlbkbjeajcadiaaGreatDoor.O Go.Proofs.YtlbkbjeajcadiaaGreatDoor.P Go.Proofs.YtlbkbjeajcadiaaGreatDoor.Mp
set_option linter.unusedVariables false
set_option linter.unusedSimpArgs false

/-- the loop of the document's With -/
def wStep (r : Rv) (s : List Rv × Bool) (x : Rv) : List Rv × Bool :=
  if x.id = r.id then (if s.2 = false ∧ ilt x.id r.id = false then (s.1 ++ [r], true) else s)
  else (if s.2 = false ∧ ilt x.id r.id = false then (s.1 ++ [r] ++ [x], true) else (s.1 ++ [x], s.2))
def withL (l : List Rv) (r : Rv) : List Rv := if (l.foldl (wStep r) ([], false)).2 = true then (l.foldl (wStep r) ([], false)).1 else (l.foldl (wStep r) ([], false)).1 ++ [r]
def SortedR (l : List Rv) : Prop := l.Pairwise fun a b => ilt a.id b.id = true
theorem with_done (r : Rv) : ∀ (l : List Rv) (o : List Rv), l.foldl (wStep r) (o, true) = (o ++ l.filter (fun x => !decide (x.id = r.id)), true) := by
  intro l
  induction l with
  | nil => intro o; simp
  | cons a t ih =>
    intro o
    rw [List.foldl_cons]
    by_cases h : a.id = r.id
    · have e : wStep r (o, true) a = (o, true) := by unfold wStep; simp [h]
      rw [e, ih, List.filter_cons_of_neg (by simp [h])]
    · have e : wStep r (o, true) a = (o ++ [a], true) := by unfold wStep; simp [h]
      rw [e, ih, List.filter_cons_of_pos (by simp [h])]
      simp
theorem with_open (r : Rv) : ∀ (l : List Rv) (o : List Rv), SortedR l →
    (if (l.foldl (wStep r) (o, false)).2 = true then (l.foldl (wStep r) (o, false)).1 else (l.foldl (wStep r) (o, false)).1 ++ [r]) = o ++ l.filter (fun x => ilt x.id r.id) ++ r :: l.filter (fun x => ilt r.id x.id) := by
  intro l
  induction l with
  | nil => intro o _; simp
  | cons a t ih =>
    intro o hs
    have hs2 : SortedR t := (List.pairwise_cons.1 hs).2
    have hat := (List.pairwise_cons.1 hs).1
    rw [List.foldl_cons]
    cases hlt : ilt a.id r.id with
    | true =>
      have hne : a.id ≠ r.id := fun e => by rw [e, ilt_irr] at hlt; cases hlt
      have hgt : ilt r.id a.id = false := by
        rw [ilt_no]
        rw [ilt_iff] at hlt
        omega
      have e : wStep r (o, false) a = (o ++ [a], false) := by unfold wStep; simp [hne, hlt]
      rw [e, ih _ hs2, List.filter_cons_of_pos (by exact hlt), List.filter_cons_of_neg (by rw [hgt]; simp)]
      simp
    | false =>
      have htl : ∀ x ∈ t, ilt x.id r.id = false ∧ ilt r.id x.id = true := fun x hx => by
        have h1 := hat x hx
        rw [ilt_iff] at h1
        rw [ilt_no] at hlt
        constructor
        · rw [ilt_no]; omega
        · rw [ilt_iff]; omega
      have f1 : t.filter (fun x => ilt x.id r.id) = [] := List.filter_eq_nil_iff.2 fun x hx => by rw [(htl x hx).1]; simp
      have f2 : t.filter (fun x => ilt r.id x.id) = t := List.filter_eq_self.2 fun x hx => (htl x hx).2
      have f3 : t.filter (fun x => !decide (x.id = r.id)) = t := List.filter_eq_self.2 fun x hx => by
        have h1 := (htl x hx).2
        have hne : x.id ≠ r.id := fun e => by rw [e, ilt_irr] at h1; cases h1
        simpa using hne
      by_cases h : a.id = r.id
      · have e : wStep r (o, false) a = (o ++ [r], true) := by unfold wStep; rw [if_pos h, if_pos ⟨rfl, hlt⟩]
        rw [e, with_done, if_pos rfl, f3, List.filter_cons_of_neg (by rw [hlt]; simp), f1, List.filter_cons_of_neg (by rw [h, ilt_irr]; simp), f2]
        simp
      · have hgt : ilt r.id a.id = true := by
          rw [ilt_no] at hlt
          rw [ilt_iff]
          have : ¬ (a.id.n = r.id.n ∧ a.id.r = r.id.r) := fun ⟨e1, e2⟩ => h (by
            cases ha : a.id
            cases hr : r.id
            rw [ha, hr] at e1 e2
            simp_all)
          omega
        have e : wStep r (o, false) a = (o ++ [r] ++ [a], true) := by unfold wStep; rw [if_neg h, if_pos ⟨rfl, hlt⟩]
        rw [e, with_done, if_pos rfl, f3, List.filter_cons_of_neg (by rw [hlt]; simp), f1, List.filter_cons_of_pos (by exact hgt), f2]
        simp
/-- With: the smaller ones, it, the greater ones -/
theorem with_eq {l : List Rv} (hs : SortedR l) (r : Rv) : withL l r = l.filter (fun x => ilt x.id r.id) ++ r :: l.filter (fun x => ilt r.id x.id) := by
  have := with_open r l [] hs
  rw [List.nil_append] at this
  exact this
theorem with_sorted {l : List Rv} (hs : SortedR l) (r : Rv) : SortedR (withL l r) := by
  rw [with_eq hs]
  unfold SortedR at hs ⊢
  rw [List.pairwise_append, List.pairwise_cons]
  refine ⟨hs.sublist List.filter_sublist, ⟨fun x hx => (List.mem_filter.1 hx).2, hs.sublist List.filter_sublist⟩, fun a ha b hb => ?_⟩
  have h1 := (List.mem_filter.1 ha).2
  rcases List.mem_cons.1 hb with rfl | hb
  · exact h1
  · exact ilt_trans h1 (List.mem_filter.1 hb).2
theorem with_mem {l : List Rv} (hs : SortedR l) (r x : Rv) : x ∈ withL l r ↔ (x ∈ l ∧ x.id ≠ r.id) ∨ x = r := by
  rw [with_eq hs, List.mem_append, List.mem_cons, List.mem_filter, List.mem_filter]
  constructor
  · rintro (⟨h1, h2⟩ | rfl | ⟨h1, h2⟩)
    · exact .inl ⟨h1, fun e => by rw [e, ilt_irr] at h2; cases h2⟩
    · exact .inr rfl
    · exact .inl ⟨h1, fun e => by rw [e, ilt_irr] at h2; cases h2⟩
  · rintro (⟨h1, h2⟩ | rfl)
    · cases hlt : ilt x.id r.id with
      | true => exact .inl ⟨h1, rfl⟩
      | false =>
        refine .inr (.inr ⟨h1, ?_⟩)
        rw [ilt_no] at hlt
        rw [ilt_iff]
        have : ¬ (x.id.n = r.id.n ∧ x.id.r = r.id.r) := fun ⟨e1, e2⟩ => h2 (by
          cases ha : x.id
          cases hr : r.id
          rw [ha, hr] at e1 e2
          simp_all)
        omega
    · exact .inr (.inl rfl)
/-- the document's records and the book's -/
structure RefRel (R : List (O.Id × Rv)) (l : List Rv) : Prop where
  so : SortedR l
  nd : (R.map Prod.fst).Nodup
  ids : ∀ p ∈ R, p.2.id = p.1
  fwd : ∀ p ∈ R, ∃ x ∈ l, core x = core p.2
  bwd : ∀ x ∈ l, ∃ p ∈ R, core x = core p.2
theorem core_id2 {x y : Rv} (h : core x = core y) : x.id = y.id := (congrArg Rv.id h : _)
theorem RefRel.nil : RefRel [] [] := ⟨.nil, .nil, fun p h => (by cases h), fun p h => (by cases h), fun p h => (by cases h)⟩
theorem RefRel.put {R : List (O.Id × Rv)} {l : List Rv} (h : RefRel R l) {r q : Rv} (hq : core q = core r) : RefRel (putD R r.id q) (withL l r) := by
  refine ⟨with_sorted h.so r, putD_nodup h.nd _ _, fun p hp => ?_, fun p hp => ?_, fun x hx => ?_⟩
  · rcases mem_putD.1 hp with hp | rfl
    · exact h.ids p hp.1
    · exact core_id2 hq
  · rcases mem_putD.1 hp with hp | rfl
    · obtain ⟨x, hx, e⟩ := h.fwd p hp.1
      refine ⟨x, (with_mem h.so r x).2 (.inl ⟨hx, fun e2 => hp.2 ?_⟩), e⟩
      rw [← h.ids p hp.1, ← core_id2 e, e2]
    · exact ⟨r, (with_mem h.so r r).2 (.inr rfl), hq.symm⟩
  · rcases (with_mem h.so r x).1 hx with ⟨hx, hn⟩ | rfl
    · obtain ⟨p, hp, e⟩ := h.bwd x hx
      exact ⟨p, mem_putD.2 (.inl ⟨hp, fun e2 => hn (by rw [core_id2 e, h.ids p hp, e2])⟩), e⟩
    · exact ⟨(x.id, q), mem_putD.2 (.inr rfl), hq.symm⟩
end Go.Proofs.YtlbkbjeajcadiaaGreatDoor.B
