/- Several texts in one. -/
import Derived.Test.YtlbkbjeajcadiaaGreatDoorMrg1
import Derived.Test.YtlbkbjeajcadiaaGreatDoorMrg2
import Derived.Laws.StructEq
import Derived.WalkSmall
import Derived.Test.YtlbkbjeajcadiaaGreatDoorMrg3
import Derived.Deep.QuietTactic
import Derived.BigQuiet

/- Plain law of the order: components in their order, each sorted within; where each node stands. -/
namespace Go.Proofs.YtlbkbjeajcadiaaGreatDoor.O
open T
set_option linter.unusedVariables false

/-- components, and which one each node is in -/
structure Cmps (E : Nat → List Int) (n : Nat) (L : List (List Nat)) (q : Nat → Nat) : Prop where
  d1 : ∀ v, v < n → ∃ c, L[q v]? = some c ∧ v ∈ c
  d2 : ∀ i c v, L[i]? = some c → v ∈ c → v < n ∧ q v = i
  d3 : ∀ c ∈ L, c.Pairwise (· < ·) ∧ c ≠ []
  d4 : ∀ u w, T.Edge E n u w → q w ≤ q u
  d5 : ∀ u w, u < n → w < n → q u = q w → Path E n u w
/-- the nodes in their order -/
def rowN (wl : Nat → Nat → Bool) (L : List (List Nat)) : List Nat := L.flatMap (srt wl)
/-- one node ahead of another one -/
def Ahd (q : Nat → Nat) (wl : Nat → Nat → Bool) (u v : Nat) : Prop := q u < q v ∨ (q u = q v ∧ wl u v = true)
section
variable {E : Nat → List Int} {n : Nat} {L : List (List Nat)} {q : Nat → Nat} {wl : Nat → Nat → Bool}
end
end Go.Proofs.YtlbkbjeajcadiaaGreatDoor.O

/- Plain law of the order: nodes with ids, what they hang on, and tags; their graph; the row of their ids. -/
namespace Go.Proofs.YtlbkbjeajcadiaaGreatDoor.O
open T
set_option linter.unusedVariables false

structure Nd where
  id : Id
  deps : List Id
  seq : Int
  tag : Int
instance : Inhabited Nd := ⟨⟨default, [], 0, 0⟩⟩
/-- is one ahead of another one within a component? -/
def wlt (a b : Nd) : Bool := decide (a.tag < b.tag) || (decide (a.tag = b.tag) && ((decide (a.tag = 1) && decide (a.seq < b.seq)) || ((!decide (a.tag = 1) || decide (a.seq = b.seq)) && ilt a.id b.id)))
theorem wlt_iff {a b : Nd} : wlt a b = true ↔ a.tag < b.tag ∨ (a.tag = b.tag ∧ ((a.tag = 1 ∧ a.seq < b.seq) ∨ ((a.tag ≠ 1 ∨ a.seq = b.seq) ∧ ilt a.id b.id = true))) := by
  unfold wlt
  simp only [Bool.or_eq_true, Bool.and_eq_true, decide_eq_true_eq, Bool.not_eq_true', decide_eq_false_iff_not]
theorem wlt_irr (a : Nd) : wlt a a = false := by
  rw [← Bool.not_eq_true, wlt_iff, ilt_irr]
  rintro (h | ⟨_, ⟨_, h⟩ | ⟨_, h⟩⟩)
  · omega
  · omega
  · cases h
theorem wlt_trans {a b c : Nd} (h1 : wlt a b = true) (h2 : wlt b c = true) : wlt a c = true := by
  rw [wlt_iff] at *
  rcases h1 with h1 | ⟨e1, h1⟩
  · rcases h2 with h2 | ⟨e2, h2⟩
    · left; omega
    · left; omega
  · rcases h2 with h2 | ⟨e2, h2⟩
    · left; omega
    · right
      refine ⟨e1.trans e2, ?_⟩
      rcases h1 with ⟨t1, h1⟩ | ⟨t1, h1⟩ <;> rcases h2 with ⟨t2, h2⟩ | ⟨t2, h2⟩
      · left; exact ⟨t1, by omega⟩
      · left; exact ⟨t1, by rcases t2 with t2 | t2; exact absurd (e1 ▸ t1) t2; omega⟩
      · left; exact ⟨by omega, by rcases t1 with t1 | t1; exact absurd (e1.trans t2) t1; omega⟩
      · right
        refine ⟨?_, ilt_trans h1 h2⟩
        rcases t1 with t1 | t1
        · exact .inl t1
        · rcases t2 with t2 | t2
          · left; rw [e1]; exact t2
          · right; exact t1.trans t2
theorem wlt_tri {a b : Nd} (h : a.id ≠ b.id) : wlt a b = true ∨ wlt b a = true := by
  rw [wlt_iff, wlt_iff]
  rcases Int.lt_trichotomy a.tag b.tag with e | e | e
  · exact .inl (.inl e)
  · by_cases t : a.tag = 1
    · rcases Int.lt_trichotomy a.seq b.seq with f | f | f
      · exact .inl (.inr ⟨e, .inl ⟨t, f⟩⟩)
      · rcases ilt_tri h with g | g
        · exact .inl (.inr ⟨e, .inr ⟨.inr f, g⟩⟩)
        · exact .inr (.inr ⟨e.symm, .inr ⟨.inr f.symm, g⟩⟩)
      · exact .inr (.inr ⟨e.symm, .inl ⟨e ▸ t, f⟩⟩)
    · rcases ilt_tri h with g | g
      · exact .inl (.inr ⟨e, .inr ⟨.inl t, g⟩⟩)
      · exact .inr (.inr ⟨e.symm, .inr ⟨.inl (e ▸ t), g⟩⟩)
  · exact .inr (.inl e)
def iln (a b : Nd) : Bool := ilt a.id b.id
def idsOf (s : List Nd) : List Id := s.map (·.id)
/-- of other ids each -/
def Unl (s : List Nd) : Prop := (idsOf s).Nodup
theorem Unl.perm {s t : List Nd} (h : Unl s) (hp : t.Perm s) : Unl t := by
  unfold Unl idsOf at *
  exact (hp.map _).nodup_iff.2 h
theorem Unl.inj {s : List Nd} (h : Unl s) {a b : Nd} (ha : a ∈ s) (hb : b ∈ s) (e : a.id = b.id) : a = b := by
  obtain ⟨i, hi⟩ := List.mem_iff_getElem?.1 ha
  obtain ⟨j, hj⟩ := List.mem_iff_getElem?.1 hb
  have h1 : (idsOf s)[i]? = some a.id := by unfold idsOf; rw [List.getElem?_map, hi]; rfl
  have h2 : (idsOf s)[j]? = some a.id := by unfold idsOf; rw [List.getElem?_map, hj, e]; rfl
  have hl := (List.getElem?_eq_some_iff.1 h1).1
  have : i = j := (List.getElem?_inj hl h).1 (h1.trans h2.symm)
  subst this
  rw [hi] at hj
  exact Option.some.inj hj
theorem Unl.iln {s : List Nd} (h : Unl s) : Tot iln s :=
  ⟨fun a => ilt_irr _, fun a b c => ilt_trans, fun a ha b hb hne => ilt_tri fun e => hne (h.inj ha hb e)⟩
theorem Unl.wlt {s : List Nd} (h : Unl s) : Tot wlt s :=
  ⟨wlt_irr, fun a b c => wlt_trans, fun a ha b hb hne => wlt_tri fun e => hne (h.inj ha hb e)⟩
/-- sorted by their ids -/
def byIds (s : List Nd) : List Nd := srt iln s
/-- the place of an id; -1: it isn't there -/
def atI (l : List Id) (i : Id) : Int := if i ∈ l then (l.idxOf i : Int) else -1
/-- the edges: the document's, and the program's -/
def edR (s : List Nd) (u : Nat) : List Int := match s[u]? with
  | some a => a.deps.map (atI (idsOf s))
  | none => []
def edP (s : List Nd) (u : Nat) : List Int := (edR s u).filter fun x => decide (0 ≤ x)
/-- one hangs on the other -/
def Dep (s : List Nd) (u w : Nat) : Prop := ∃ a b, s[u]? = some a ∧ s[w]? = some b ∧ b.id ∈ a.deps
theorem path_ext {E E2 : Nat → List Int} {n : Nat} (h : ∀ u w, T.Edge E n u w → T.Edge E2 n u w) {u w : Nat} (hp : Path E n u w) : Path E2 n u w := by
  induction hp with
  | refl => exact .refl _
  | step e _ ih => exact .step (h _ _ e) ih
theorem Cmps.ext {E E2 : Nat → List Int} {n : Nat} {L : List (List Nat)} {q : Nat → Nat} (h : Cmps E n L q) (he : ∀ u w, T.Edge E n u w ↔ T.Edge E2 n u w) : Cmps E2 n L q :=
  ⟨h.d1, h.d2, h.d3, fun u w e => h.d4 u w ((he u w).2 e), fun u w hu hw e => path_ext (fun u w => (he u w).1) (h.d5 u w hu hw e)⟩
/-- by nodes -/
def wln (s : List Nd) (u v : Nat) : Bool := wlt (s.getD u default) (s.getD v default)
section
variable {α β : Type}
end
/-- the nodes of a component -/
def part (s : List Nd) (c : List Nat) : List Nd := c.map fun i => s.getD i default
/-- the ids of a component, in the order within it -/
def within (l : List Nd) : List Id := idsOf (srt wlt l)
/-- the row of ids -/
def rowI (s : List Nd) (L : List (List Nat)) : List Id := L.flatMap fun c => within (part s c)
end Go.Proofs.YtlbkbjeajcadiaaGreatDoor.O

/- Plain law of the order: what the statements ask of a row of ids. -/
namespace Go.Proofs.YtlbkbjeajcadiaaGreatDoor.O
open T
set_option linter.unusedVariables false

/-- does an id hang on one that isn't there? -/
def missB (l : List Nd) : Bool := l.any fun a => a.deps.any fun d => !decide (d ∈ idsOf l)
instance (l : List Nd) : Decidable (Unl l) := inferInstanceAs (Decidable (idsOf l).Nodup)
/-- what is wrong with records that should be closed; ok: each is right, and committed -/
def errO (ok : Bool) (l : List Nd) : Int := if ok = false then 4 else if ¬ Unl l then 9 else if missB l = true then 8 else 0
section
variable {s : List Nd} {L : List (List Nat)} {q : Nat → Nat}
end
/-- what one leads to, taken out: l are the nodes, in their order -/
structure Sub (s : List Nd) (l : List Nat) : Prop where
  lt : ∀ x ∈ l, x < s.length
  pw : l.Pairwise (· < ·)
  cl : ∀ u ∈ l, ∀ w, Dep s u w → w ∈ l
section
variable {s : List Nd} {l : List Nat}
end
end Go.Proofs.YtlbkbjeajcadiaaGreatDoor.O

/- The runes' contracts with the library's tables in one word (out of RunesI, RunesJ, RunesM). -/
namespace Go.Proofs.YtlbkbjeajcadiaaGreatDoor.R
open Go.RowKit Go.PlainAid Go.Lib

/-- what every walk of this layer takes of the library's tables -/
structure Tabs (w : World) : Prop where
  u : Lib.Utf8Tabs 0 1 w
  l3 : 0 < w.heap.size
  l4 : 1 < w.heap.size
theorem Tabs.below {w w' : World} {B : Nat} (h : Tabs w) (hb : Below B w w') (h3 : 0 < B) (h4 : 1 < B) : Tabs w' :=
  ⟨tabs_of_below h.u hb h3 h4, Nat.lt_of_lt_of_le h.l3 hb.size, Nat.lt_of_lt_of_le h.l4 hb.size⟩
theorem Tabs.next {w w' : World} (h : Tabs w) (hb : Below w.heap.size w w') : Tabs w' := h.below hb h.l3 h.l4

theorem key_t (s : ByteArray) (w : World) (hs : s.size ≤ 1000000) (h : Tabs w) (v : Int) (hv : errV (keyV s) = v) :
    Calls Tryz.prog 82 #[.string s] w fun e w' => e = .returned (.int .i64 v) ∧ Below w.heap.size w w' ∧ Tabs w' := by
  subst hv
  exact (key_any s w (by omega) h.u h.l3 h.l4).mono fun e w' hh => ⟨hh.1, hh.2, h.next hh.2⟩
theorem begin_t (s : ByteArray) (w : World) (hs : s.size ≤ 1000000) (h : Tabs w) (v : Int) (hv : errV (beginV s) = v) :
    Calls Tryz.prog 81 #[.string s] w fun e w' => e = .returned (.int .i64 v) ∧ Below w.heap.size w w' ∧ Tabs w' := by
  subst hv
  exact (beginning_any s w (by omega) h.u h.l3 h.l4).mono fun e w' hh => ⟨hh.1, hh.2, h.next hh.2⟩
theorem begins_t (s t : ByteArray) (w : World) (v : Bool) (hv : Lib.hasPrefix s.data.toList t.data.toList = v) :
    Calls Tryz.prog 164 #[.string s, .string t] w fun e w' => e = .returned (.bool v) ∧ w = w' := by subst hv; exact begins_any s t w
end Go.Proofs.YtlbkbjeajcadiaaGreatDoor.R

/- Regions that draw their order, whose operations read and whose calls make memory: one walk of the text's order, over every world that keeps the old memory. -/
namespace Go.Proofs.YtlbkbjeajcadiaaGreatDoor.M
open Go.RowKit
set_option linter.unusedVariables false
/-- a world that keeps what W had -/
structure Kin (W : World) where
  w : World
  h : Below W.heap.size W w
instance (W : World) : Nonempty (Kin W) := ⟨⟨W, Below.refl _ _⟩⟩
instance (W : World) : Inhabited (Kin W) := ⟨⟨W, Below.refl _ _⟩⟩
theorem below_drawn (w : World) : Below w.heap.size w { w with drawn := w.drawn + 1 } := ⟨rfl, rfl, rfl, Nat.le_refl _, fun _ _ => rfl⟩
theorem wp_region_kin {P : Program} {id : Nat} {Q : Exit → Act → World → Prop} {a : Act} {w : World} {l : List Oper} (hm : P.follows .mixedOrders = true) (hB : Region.lexB .any l.toArray = true)
    (h : wpQuiet P l.toArray (fun w' => ∃ x : Kin w, w' = x.w) (fun a' => ∀ w', (∃ x : Kin w, w' = x.w) → Q .normal a' w') l a) : (Code.region id l.toArray true).wp P Q a w :=
  wp_region_quiet (C := fun w' => ∃ x : Kin w, w' = x.w) hm hB ⟨⟨_, below_drawn w⟩, rfl⟩ (by simpa using h)
theorem Kin.cell {W : World} {p : Addr} {v : Value} (hc : W.cell? p = some v) : ∀ x : Kin W, x.w.cell? p = some v := fun x => (x.h.cell (World.block_lt_of_cell? W _ hc)).trans hc
theorem Kin.call {P : Program} {f : FuncId} {args : Array Value} {W : World} {v : Value} (x : Kin W) (h : Calls P f args x.w fun e w' => e = .returned v ∧ Below x.w.heap.size x.w w') : Calls P f args x.w fun e w'' => e = .returned v ∧ ∃ y : Kin W, w'' = y.w :=
  h.mono fun e w' ⟨he, hb⟩ => ⟨he, ⟨w', x.h.trans (hb.mono x.h.size)⟩, rfl⟩
theorem Kin.same {P : Program} {f : FuncId} {args : Array Value} {W : World} {v : Value} (x : Kin W) (h : Calls P f args x.w fun e w' => e = .returned v ∧ x.w = w') : Calls P f args x.w fun e w'' => e = .returned v ∧ ∃ y : Kin W, w'' = y.w :=
  h.mono fun e w' ⟨he, hb⟩ => ⟨he, x, hb.symm⟩
end Go.Proofs.YtlbkbjeajcadiaaGreatDoor.M
