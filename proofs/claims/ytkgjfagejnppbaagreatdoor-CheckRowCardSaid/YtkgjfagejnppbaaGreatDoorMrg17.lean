/- Several texts in one. -/
import Derived.Test.YtkgjfagejnppbaaGreatDoorMrg15
import Derived.Test.YtkgjfagejnppbaaGreatDoorMrg16
import Derived.Test.YtkgjfagejnppbaaGreatDoorCom
import Derived.OpenShut

/- What a graph of records is: rows of places; how it lies in memory. -/
namespace Go.Proofs.YtkgjfagejnppbaaGreatDoor.O
open Go.RowKit Go.Proofs.YtkgjfagejnppbaaGreatDoor.M Go.BigFrame Go.Proofs.YtkgjfagejnppbaaGreatDoor.K
set_option linter.unusedVariables false
set_option linter.unusedSimpArgs false

/-- the places of what one hangs on -/
def plN (l : List Id) (ds : List Id) : List Nat := ds.filterMap fun d => if d ∈ l then some (l.idxOf d) else none
theorem plN_app (l ds es : List Id) : plN l (ds ++ es) = plN l ds ++ plN l es := List.filterMap_append
theorem plN_in {l : List Id} {d : Id} (h : d ∈ l) : plN l [d] = [l.idxOf d] := by simp [plN, h]
theorem plN_out {l : List Id} {d : Id} (h : d ∉ l) : plN l [d] = [] := by simp [plN, h]
theorem plN_ed (l ds : List Id) : (plN l ds).map (fun k : Nat => (k : Int)) = (ds.map (atI l)).filter (fun x => decide (0 ≤ x)) := by
  induction ds with
  | nil => rfl
  | cons d ds ih =>
    by_cases h : d ∈ l
    · have h2 : atI l d = (l.idxOf d : Int) := by unfold atI; rw [if_pos h]
      rw [List.map_cons, h2, List.filter_cons, if_pos (by simp), ← ih]
      simp [plN, h]
    · have h2 : atI l d = -1 := by unfold atI; rw [if_neg h]
      rw [List.map_cons, h2, List.filter_cons, if_neg (by simp), ← ih]
      simp [plN, h]
def rowsG (X : List Rv) (k : Nat) : List (List Nat) := (X.take k).map fun x => plN (idsX X) x.deps
/-- rows that came out are a graph -/
theorem OutAt.ed {B : Nat} {w : World} {oo : Option Addr} {oc : Nat} {R : List (Option Addr × Nat)} {L : List (List Nat)} (h : OutAt B w oo oc R L) : EdAt w.heap.size w oo L.length oc (fun i => ((L[i]?).getD []).map (fun k : Nat => (k : Int))) := by
  obtain ⟨ao', cap', e0, h1, h2, h3, h4⟩ := M.own_view h.top
  cases e0
  refine ⟨⟨h1, h2⟩, fun i hi => ?_⟩
  cases oo with
  | none => have := (h3 rfl).1; omega
  | some a =>
    obtain ⟨g, cur, rfl, _, hg, hsz, htk⟩ := h4 a rfl
    obtain ⟨c, hc⟩ : ∃ c, L[i]? = some c := ⟨_, List.getElem?_eq_getElem hi⟩
    obtain ⟨r, hr⟩ : ∃ r, R[i]? = some r := ⟨_, List.getElem?_eq_getElem (by rw [h.rl]; exact hi)⟩
    have hrow := h.row i c r hc hr
    obtain ⟨ro, rc⟩ := r
    obtain ⟨ao2, cap2, e2, k1, k2, k3, k4⟩ := M.own_view hrow
    cases e2
    simp only [hc, Option.getD_some, List.length_map]
    refine ⟨g, 0, ro, rc, rfl, M.heap_lt hg, ?_, k1, k2, fun j x hj => ?_⟩
    · have hh : (hdrs R L)[i]? = some (.slice ro c.length rc) := hdrs_get hr hc
      rw [cell_of_row w g _ _ _ _ hg, Nat.zero_add, ← Array.getElem?_toList]
      rw [← htk, List.getElem?_take_of_lt (by omega)] at hh
      exact hh
    · rw [List.getElem?_map] at hj
      obtain ⟨y, hy, rfl⟩ := Option.map_eq_some_iff.1 hj
      have hjl := (List.getElem?_eq_some_iff.1 hy).1
      cases ro with
      | none => have := (k3 rfl).1; omega
      | some a =>
        obtain ⟨p, cur2, rfl, _, hp, hsz2, htk2⟩ := k4 a rfl
        refine ⟨p, 0, rfl, M.heap_lt hp, ?_⟩
        have hh : (iv c)[j]? = some (.int .i64 (y : Int)) := by simp [iv, hy]
        rw [cell_of_row w p _ _ _ _ hp, Nat.zero_add, ← Array.getElem?_toList]
        rw [← htk2, List.getElem?_take_of_lt (by omega)] at hh
        exact hh
end Go.Proofs.YtkgjfagejnppbaaGreatDoor.O

/- Edges that came in, opened; the reference's SameInts; great. -/
namespace Go.Proofs.YtkgjfagejnppbaaGreatDoor.K
open Go.RowKit M T Go.WideShapes Go.ChangeShapes
set_option linter.unusedVariables false
set_option linter.unusedSimpArgs false

/-- numbers that a slice holds -/
structure RowV (w : World) (a : Option Addr) (c : Nat) (l : List Int) : Prop where
  le : l.length ≤ c ∧ c ≤ maxLen
  row : ∀ j x, l[j]? = some x → ∃ p po, a = some ⟨p, po, none⟩ ∧ w.cell? ⟨p, po + j, none⟩ = some (.int .i64 x)
theorem RowV.below {w w1 : World} {a : Option Addr} {c : Nat} {l : List Int} (h : RowV w a c l) (hb : Below w.heap.size w w1) : RowV w1 a c l :=
  ⟨h.le, fun j x hj => by obtain ⟨p, po, e, hc⟩ := h.row j x hj; exact ⟨p, po, e, cell_below hb hc⟩⟩
def sumE (E : Nat → List Int) : Nat → Nat
  | 0 => 0
  | k + 1 => sumE E k + (E k).length
def greatB (E : Nat → List Int) (n : Nat) : Bool := decide (40 < n) || decide (400 < sumE E (min n 40))
end Go.Proofs.YtkgjfagejnppbaaGreatDoor.K

/- The document's example. -/
namespace Go.Proofs.YtkgjfagejnppbaaGreatDoor.K
open Go.RowKit M T Go.WideShapes Go.ChangeShapes
set_option linter.unusedVariables false
set_option linter.unusedSimpArgs false

def ns (c : List Nat) : List Int := c.map fun (x : Nat) => (x : Int)
theorem ns_len (c : List Nat) : (ns c).length = c.length := by simp [ns]
theorem ns_get {c : List Nat} {j : Nat} {x : Int} (h : (ns c)[j]? = some x) : ∃ y : Nat, c[j]? = some y ∧ x = y := by
  simp only [ns, List.getElem?_map, Option.map_eq_some_iff] at h
  obtain ⟨y, h1, h2⟩ := h
  exact ⟨y, h1, h2.symm⟩
theorem RowV.of_own {B : Nat} {w : World} {a : Option Addr} {cap : Nat} {c : List Nat} (h : w.ownsRow B 3 1 (.slice a c.length cap) c.length (iv c)) : RowV w a cap (ns c) := by
  obtain ⟨_, _, e, h1, h2, _⟩ := own_view h
  cases e
  refine ⟨⟨by rw [ns_len]; exact h1, h2⟩, fun j x hj => ?_⟩
  obtain ⟨y, hy, rfl⟩ := ns_get hj
  obtain ⟨g, e, _, _, _, hc⟩ := rowcell h (by have := (List.getElem?_eq_some_iff.1 hy).1; omega)
  exact ⟨g, 0, e, by rw [Nat.zero_add]; exact (hc j _ (iv_get c j y hy)).1⟩
/-- a row that came out: its header and its numbers -/
theorem OutAt.hdr {B : Nat} {w : World} {oo : Option Addr} {oc : Nat} {R : List (Option Addr × Nat)} {L : List (List Nat)} (h : OutAt B w oo oc R L) {i : Nat} {c : List Nat} (hi : L[i]? = some c) :
    ∃ go a ca, oo = some ⟨go, 0, none⟩ ∧ w.cell? ⟨go, i, none⟩ = some (.slice a c.length ca) ∧ RowV w a ca (ns c) := by
  have hil := (List.getElem?_eq_some_iff.1 hi).1
  obtain ⟨go, e, _, _, _, hc⟩ := rowcell h.top (by omega)
  obtain ⟨r, hr⟩ : ∃ r, R[i]? = some r := ⟨_, List.getElem?_eq_getElem (by rw [h.rl]; exact hil)⟩
  exact ⟨go, r.1, r.2, e, (hc i _ (hdrs_get hr hi)).1, RowV.of_own (h.row i c r hi hr)⟩
def exE (i : Nat) : List Int := if i = 0 then [1] else [0]
end Go.Proofs.YtkgjfagejnppbaaGreatDoor.K

/- The contract of Leads. -/
namespace Go.Proofs.YtkgjfagejnppbaaGreatDoor.K
open Go.RowKit M T
set_option linter.unusedVariables false
set_option linter.unusedSimpArgs false

/-- the nodes that a node leads to -/
structure LeadsTo (E : Nat → List Int) (n : Nat) (from_ : Int) (l : List Nat) : Prop where
  srt : l.Pairwise (· < ·)
  mem : ∀ v, v ∈ l ↔ v < n ∧ ∃ u : Nat, from_ = u ∧ u < n ∧ Path E n u v
theorem sorted_ext : ∀ {l m : List Nat}, l.Pairwise (· < ·) → m.Pairwise (· < ·) → (∀ v, v ∈ l ↔ v ∈ m) → l = m
  | [], [], _, _, _ => rfl
  | [], b :: m, _, _, h => by have := (h b).2 List.mem_cons_self; cases this
  | a :: l, [], _, _, h => by have := (h a).1 List.mem_cons_self; cases this
  | a :: l, b :: m, h1, h2, h => by
    have p1 := List.pairwise_cons.1 h1
    have p2 := List.pairwise_cons.1 h2
    have hab : a = b := by
      rcases List.mem_cons.1 ((h a).1 List.mem_cons_self) with e | e
      · exact e
      · rcases List.mem_cons.1 ((h b).2 List.mem_cons_self) with e2 | e2
        · exact e2.symm
        · have := p1.1 b e2
          have := p2.1 a e
          omega
    subst hab
    refine congrArg (a :: ·) (sorted_ext p1.2 p2.2 fun v => ⟨fun hv => ?_, fun hv => ?_⟩)
    · rcases List.mem_cons.1 ((h v).1 (List.mem_cons_of_mem _ hv)) with e | e
      · subst e; have := p1.1 v hv; omega
      · exact e
    · rcases List.mem_cons.1 ((h v).2 (List.mem_cons_of_mem _ hv)) with e | e
      · subst e; have := p2.1 v hv; omega
      · exact e
theorem LeadsTo.one {E : Nat → List Int} {n : Nat} {f : Int} {l m : List Nat} (h : LeadsTo E n f l) (h2 : LeadsTo E n f m) : l = m :=
  sorted_ext h.srt h2.srt fun v => (h.mem v).trans (h2.mem v).symm
theorem nodup_le : ∀ (n : Nat) (l : List Nat), l.Nodup → (∀ v ∈ l, v < n) → l.length ≤ n := by
  intro n
  induction n with
  | zero =>
    intro l _ h
    cases l with
    | nil => exact Nat.le_refl _
    | cons a t => have := h a List.mem_cons_self; omega
  | succ n ih =>
    intro l hd h
    have h1 := ih (l.erase n) (hd.erase n) (fun v hv => by
      have h2 := h v (List.mem_of_mem_erase hv)
      have h3 : v ≠ n := fun e => (hd.mem_erase_iff.1 hv).1 e
      omega)
    have h4 : l.length - 1 ≤ (l.erase n).length := by
      by_cases e : n ∈ l
      · rw [List.length_erase_of_mem e]; exact Nat.le_refl _
      · rw [List.erase_of_not_mem e]; omega
    omega

theorem one_nodup (x : Nat) : [x].Nodup := by simp
/-- what a search over nodes knows: those before i are gone through, of the i-th the first j edges -/
structure LP (E : Nat → List Int) (n from_ : Nat) (l : List Nat) (i : Nat) : Prop where
  st : from_ ∈ l
  nd : l.Nodup
  rch : ∀ v ∈ l, v < n ∧ Path E n from_ v
  cl : ∀ j v, j < i → l[j]? = some v → ∀ w, T.Edge E n v w → w ∈ l
theorem LP.start {E : Nat → List Int} {n u : Nat} (hu : u < n) : LP E n u [u] 0 :=
  ⟨List.mem_singleton.2 rfl, one_nodup u, fun v hv => by rw [List.mem_singleton.1 hv]; exact ⟨hu, .refl u⟩, fun j v h => absurd h (by omega)⟩
theorem LP.len {E : Nat → List Int} {n u i : Nat} {l : List Nat} (h : LP E n u l i) : l.length ≤ n := nodup_le n l h.nd fun v hv => (h.rch v hv).1
def Seen (E : Nat → List Int) (n : Nat) (l : List Nat) (v j : Nat) : Prop := ∀ x ∈ (E v).take j, 0 ≤ x → x < (n : Int) → x.toNat ∈ l
theorem Seen.zero (E : Nat → List Int) (n : Nat) (l : List Nat) (v : Nat) : Seen E n l v 0 := fun x hx => by simp at hx
theorem Seen.more {E : Nat → List Int} {n v j : Nat} {l m : List Nat} {x : Int} (h : Seen E n l v j) (hs : ∀ y ∈ l, y ∈ m) (hx : (E v)[j]? = some x) (hin : 0 ≤ x → x < (n : Int) → x.toNat ∈ m) : Seen E n m v (j + 1) := by
  intro y hy h0 h1
  rw [List.take_add_one, hx] at hy
  rcases List.mem_append.1 hy with h2 | h2
  · exact hs _ (h y h2 h0 h1)
  · have : y = x := by simpa using h2
    subst this; exact hin h0 h1
theorem LP.add {E : Nat → List Int} {n u i v w : Nat} {l : List Nat} (h : LP E n u l i) (hv : l[i]? = some v) (he : T.Edge E n v w) (hw : w ∉ l) : LP E n u (l ++ [w]) i := by
  have hil := (List.getElem?_eq_some_iff.1 hv).1
  refine ⟨List.mem_append_left _ h.st, ?_, fun y hy => ?_, fun j y hj hy z hz => ?_⟩
  · rw [List.nodup_append]
    exact ⟨h.nd, one_nodup w, fun a ha b hb e => hw (by rw [← List.mem_singleton.1 hb, ← e]; exact ha)⟩
  · rcases List.mem_append.1 hy with h1 | h1
    · exact h.rch y h1
    · rw [List.mem_singleton.1 h1]
      exact ⟨he.2.1, (h.rch v (List.mem_of_getElem? hv)).2.trans (.one he)⟩
  · rw [List.getElem?_append_left (by omega)] at hy
    exact List.mem_append_left _ (h.cl j y hj hy z hz)
theorem LP.next {E : Nat → List Int} {n u i v : Nat} {l : List Nat} (h : LP E n u l i) (hv : l[i]? = some v) (hs : Seen E n l v (E v).length) : LP E n u l (i + 1) := by
  refine ⟨h.st, h.nd, h.rch, fun j y hj hy z hz => ?_⟩
  by_cases e : j = i
  · subst e
    obtain rfl : v = y := Option.some.inj (hv.symm.trans hy)
    have := hs z (by rw [List.take_of_length_le (Nat.le_refl _)]; exact hz.2.2) (by omega) (by have := hz.2.1; omega)
    simpa using this
  · exact h.cl j y (by omega) hy z hz
theorem LP.done {E : Nat → List Int} {n u : Nat} {l l' : List Nat} (h : LP E n u l l.length) (hp : l'.Perm l) (hs : l'.Pairwise (· ≤ ·)) : LeadsTo E n u l' := by
  have hu := h.rch u h.st
  refine ⟨?_, fun v => ⟨fun hv => ?_, fun ⟨hv, u', e, hu', hpath⟩ => ?_⟩⟩
  · exact (hs.and (hp.nodup_iff.2 h.nd)).imp fun ⟨h1, h2⟩ => by omega
  · have := h.rch v (hp.mem_iff.1 hv)
    exact ⟨this.1, u, rfl, hu.1, this.2⟩
  · obtain rfl : u = u' := by omega
    refine hp.mem_iff.2 ?_
    have key : ∀ a b, Path E n a b → a ∈ l → b ∈ l := by
      intro a b hab
      induction hab with
      | refl => exact id
      | step e _ ih =>
        intro ha
        obtain ⟨j, hj⟩ := List.mem_iff_getElem?.1 ha
        exact ih (h.cl j _ (List.getElem?_eq_some_iff.1 hj).1 hj _ e)
    exact key u v hpath h.st
theorem LeadsTo.none {E : Nat → List Int} {n : Nat} {f : Int} (h : f < 0 ∨ (n : Int) ≤ f) : LeadsTo E n f [] :=
  ⟨List.Pairwise.nil, fun v => ⟨fun hv => by simp at hv, fun ⟨_, u, e, hu, _⟩ => by omega⟩⟩

/-- what Leads has in memory -/
structure LS (B : Nat) (W0 w : World) (gs n : Nat) (ao : Option Addr) (cap : Nat) (l : List Nat) : Prop where
  bel : Below B W0 w
  lo : B ≤ gs
  hB : B ≤ w.heap.size
  seen : w.heap[gs]? = some (.cells (tabB n fun v => decide (v ∈ l)) 4 (0, 0))
  out : w.ownsRow B 3 1 (.slice ao l.length cap) l.length (iv l)
section
variable {B gs n cap : Nat} {W0 w w2 : World} {ao : Option Addr} {l : List Nat}
theorem LS.ne (h : LS B W0 w gs n ao cap l) : ∀ a, ao = some a → a.block ≠ gs := fun a ha e => by
  obtain ⟨cur, hc, _⟩ := own_heap h.out a ha
  rw [e, h.seen] at hc
  simp at hc
theorem LS.below (h : LS B W0 w gs n ao cap l) (hb : Below w.heap.size w w2) : LS B W0 w2 gs n ao cap l := by
  have hm : Mods (fun _ => False) w w2 := Mods.of_below hb
  exact ⟨h.bel.trans (hm.below (fun _ h => h.elim) h.hB), h.lo, Nat.le_trans h.hB hb.size, hm.heap h.seen (fun h => h), own_kept h.out hm (fun _ _ h => h)⟩
theorem LS.step (h : LS B W0 w gs n ao cap l) (v : Nat) {gg cg : Nat} {bx : Obj}
    (ho : w2.ownsRow B 3 1 (.slice (some ⟨gg, 0, none⟩) (l.length + 1) cg) (l.length + 1) (iv l ++ [.int .i64 v]))
    (hg : ((w.setCell ⟨gs, v, none⟩ (.bool true)).alloc bx).grownBy w2 (Value.slice ao l.length cap).ownBlock) : LS B W0 w2 gs n (some ⟨gg, 0, none⟩) cg (l ++ [v]) := by
  have hne := h.ne
  have hm1 : Mods (fun k => k = gs) w (w.setCell ⟨gs, v, none⟩ (.bool true)) := (Mods.refl (fun k => k = gs) w).setCell (p := ⟨gs, v, none⟩) (fun _ => rfl) _
  have hM : Mods (fun k => ∃ a, ao = some a ∧ k = a.block) (w.setCell ⟨gs, v, none⟩ (.bool true)) w2 := ((Mods.refl _ _).alloc bx).grown hg (fun k hk _ => by
    cases ao with
    | none => cases hk
    | some a => exact ⟨a, rfl, (Option.some.inj hk).symm⟩)
  have hs1 : (w.setCell ⟨gs, v, none⟩ (.bool true)).heap[gs]? = some (.cells (tabB n fun y => decide (y ∈ l ++ [v])) 4 (0, 0)) := by
    have := heap_set w gs v (.bool true) gs _ _ _ h.seen
    rw [if_pos rfl, tabB_set, upd_mem] at this
    exact this
  have hb1 := hm1.below (B := B) (fun k hk => by rw [show k = gs from hk]; exact h.lo) h.hB
  have hb2 := hM.below (B := B) (fun k hk => by
    obtain ⟨a, ha, rfl⟩ := hk
    obtain ⟨_, _, hB⟩ := own_heap h.out a ha
    exact hB) (by simpa [World.setCell] using h.hB)
  refine ⟨(h.bel.trans hb1).trans hb2, h.lo, Nat.le_trans h.hB (Nat.le_trans hm1.size hM.size), hM.heap hs1 (fun ⟨a, ha, e⟩ => hne a ha e.symm), ?_⟩
  rw [List.length_append, iv_append]
  exact ho
end
end Go.Proofs.YtkgjfagejnppbaaGreatDoor.K
