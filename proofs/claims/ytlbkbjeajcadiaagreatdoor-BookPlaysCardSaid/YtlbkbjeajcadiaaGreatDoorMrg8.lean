/- Several texts in one. -/
import Derived.Test.YtlbkbjeajcadiaaGreatDoorMrg7
import Derived.Test.YtlbkbjeajcadiaaGreatDoorMrg5
import Derived.Laws.StructEq
import Derived.WalkSmall
import Derived.Test.YtlbkbjeajcadiaaGreatDoorMem
import Derived.Deep.QuietTactic
import Derived.BigQuiet

/- Plain law of the order: what the statements ask of a row of ids. -/
namespace Go.Proofs.YtlbkbjeajcadiaaGreatDoor.O
open T
set_option linter.unusedVariables false

/-- does an id hang on one that isn't there? -/
def missB (l : List Nd) : Bool := l.any fun a => a.deps.any fun d => !decide (d ∈ idsOf l)
theorem missB_no {l : List Nd} : missB l = false ↔ ∀ a ∈ l, ∀ d ∈ a.deps, d ∈ idsOf l := by
  unfold missB
  rw [List.any_eq_false]
  refine ⟨fun h a ha d hd => ?_, fun h a ha => ?_⟩
  · have := h a ha
    rw [Bool.not_eq_true, List.any_eq_false] at this
    have := this d hd
    simpa using this
  · rw [Bool.not_eq_true, List.any_eq_false]
    intro d hd
    have := h a ha d hd
    simpa using this
theorem missB_perm {l m : List Nd} (hp : m.Perm l) : missB m = missB l := by
  have key : ∀ {l m : List Nd}, m.Perm l → missB l = false → missB m = false := fun hp h => by
    rw [missB_no] at h ⊢
    intro a ha d hd
    have := h a (hp.mem_iff.1 ha) d hd
    unfold idsOf at *
    exact (hp.map (·.id)).mem_iff.2 this
  cases h : missB l with
  | false => exact key hp h
  | true =>
    cases h2 : missB m with
    | true => rfl
    | false => rw [key hp.symm h2] at h; cases h
instance (l : List Nd) : Decidable (Unl l) := inferInstanceAs (Decidable (idsOf l).Nodup)
/-- what is wrong with records that should be closed; ok: each is right, and committed -/
def errO (ok : Bool) (l : List Nd) : Int := if ok = false then 4 else if ¬ Unl l then 9 else if missB l = true then 8 else 0
theorem errO_perm {ok : Bool} {l m : List Nd} (hp : m.Perm l) : errO ok m = errO ok l := by
  unfold errO
  rw [missB_perm hp]
  have : Unl m ↔ Unl l := ⟨fun h => h.perm hp.symm, fun h => h.perm hp⟩
  simp only [this]
theorem errO_ok {ok : Bool} {l : List Nd} : errO ok l = 0 ↔ ok = true ∧ Unl l ∧ missB l = false := by
  unfold errO
  cases ok with
  | false => simp
  | true =>
    simp only [Bool.true_eq_false, if_false, true_and]
    by_cases h : Unl l
    · simp only [h, not_true, if_false, true_and]
      cases missB l <;> simp
    · simp only [h, not_false_iff, if_true, false_and, iff_false]
      omega
section
variable {s : List Nd} {L : List (List Nat)} {q : Nat → Nat}
theorem rowI_len (h : Cmps (edR s) s.length L q) (hU : Unl s) : (rowI s L).length = s.length := by
  rw [rowI_eq, List.length_map, rowN_len h (wln_tot hU)]
theorem rowI_place (h : Cmps (edR s) s.length L q) (hU : Unl s) {u : Nat} {a : Nd} (ha : s[u]? = some a) : atI (rowI s L) a.id = ((rowN (wln s) L).idxOf u : Int) := by
  have hu := (List.getElem?_eq_some_iff.1 ha).1
  rw [rowI_eq, place_row hU (fun x hx => (rowN_mem h).1 hx) hu ha, if_pos ((rowN_mem h).2 hu)]
theorem rowI_perm (h : Cmps (edR s) s.length L q) (hU : Unl s) : (rowI s L).Perm (idsOf s) := by
  rw [rowI_eq]
  refine ((rowN_perm h (wln_tot hU)).map _).trans (List.Perm.of_eq ?_)
  refine List.ext_getElem (by simp [idsOf]) fun i h1 h2 => ?_
  have hi : i < s.length := by simpa using h1
  rw [List.getElem_map, List.getElem_range, getD_at (List.getElem?_eq_getElem hi)]
  simp [idsOf]
theorem rowI_nodup (h : Cmps (edR s) s.length L q) (hU : Unl s) : (rowI s L).Nodup := (rowI_perm h hU).nodup_iff.2 hU
/-- of two that are other ones, one of which leads to the other -/
theorem rowI_lt (h : Cmps (edR s) s.length L q) (hU : Unl s) {u v : Nat} {a b : Nd} (ha : s[u]? = some a) (hb : s[v]? = some b) (hne : u ≠ v) (hp : Path (edR s) s.length u v) :
    atI (rowI s L) a.id < atI (rowI s L) b.id ↔ (Path (edR s) s.length v u ∧ wlt a b = true) := by
  have hu := (List.getElem?_eq_some_iff.1 ha).1
  have hv := (List.getElem?_eq_some_iff.1 hb).1
  rw [rowI_place h hU ha, rowI_place h hU hb]
  have := place_path h (wln_tot hU) hu hv hne hp
  have e : wln s u v = wlt a b := by unfold wln; rw [getD_at ha, getD_at hb]
  rw [e] at this
  rw [← this]
  omega
/-- who hangs on another one that comes behind it: that one leads back -/
theorem one_dep (h : Cmps (edR s) s.length L q) (hU : Unl s) {u v : Nat} {a b : Nd} (ha : s[u]? = some a) (hb : s[v]? = some b) (hd : b.id ∈ a.deps) (hlt : atI (rowI s L) a.id < atI (rowI s L) b.id) : Path (edR s) s.length v u := by
  have hne : u ≠ v := fun e => by subst e; rw [ha] at hb; cases hb; omega
  exact ((rowI_lt h hU ha hb hne (.one ((edgeR hU).2 ⟨a, b, ha, hb, hd⟩))).1 hlt).1
/-- all lead to each other -/
theorem all_row (h : Cmps (edR s) s.length L q) (hU : Unl s) (hall : ∀ u v, u < s.length → v < s.length → Path (edR s) s.length u v) : ∃ t : List Nd, rowI s L = idsOf t ∧ t.Perm s ∧ t.Pairwise (fun a b => wlt a b = true) := by
  have hq : ∀ u v, u < s.length → v < s.length → q u = q v := fun u v hu hv => by
    have h1 := h.path (hall u v hu hv)
    have h2 := h.path (hall v u hv hu)
    omega
  refine ⟨(rowN (wln s) L).map fun i => s.getD i default, ?_, ?_, ?_⟩
  · rw [rowI_eq]; unfold idsOf; rw [List.map_map]; rfl
  · refine ((rowN_perm h (wln_tot hU)).map _).trans (List.Perm.of_eq ?_)
    refine List.ext_getElem (by simp) fun i h1 h2 => ?_
    have hi : i < s.length := by simpa using h1
    rw [List.getElem_map, List.getElem_range, getD_at (List.getElem?_eq_getElem hi)]
  · refine List.pairwise_map.2 ((rowN_pw h (wln_tot hU)).imp_of_mem fun {a b} ha hb hab => ?_)
    rcases hab with hab | hab
    · have := hq a b ((rowN_mem h).1 ha) ((rowN_mem h).1 hb); omega
    · exact hab.2
end
/-- what one leads to, taken out: l are the nodes, in their order -/
structure Sub (s : List Nd) (l : List Nat) : Prop where
  lt : ∀ x ∈ l, x < s.length
  pw : l.Pairwise (· < ·)
  cl : ∀ u ∈ l, ∀ w, Dep s u w → w ∈ l
section
variable {s : List Nd} {l : List Nat}
theorem part_get (h : Sub s l) {i x : Nat} (hx : l[i]? = some x) : (part s l)[i]? = s[x]? := by
  unfold part
  rw [List.getElem?_map, hx]
  have := h.lt x (List.mem_of_getElem? hx)
  rw [List.getElem?_eq_getElem this]
  show some (s.getD x default) = _
  rw [getD_at (List.getElem?_eq_getElem this)]
theorem part_len : (part s l).length = l.length := by unfold part; rw [List.length_map]
theorem part_idx {i : Nat} {a : Nd} (h : Sub s l) (ha : (part s l)[i]? = some a) : ∃ x, l[i]? = some x ∧ s[x]? = some a := by
  have hi : i < l.length := by rw [← part_len (s := s)]; exact (List.getElem?_eq_some_iff.1 ha).1
  refine ⟨l[i], List.getElem?_eq_getElem hi, ?_⟩
  rw [← part_get h (List.getElem?_eq_getElem hi)]
  exact ha
theorem part_mem (h : Sub s l) {a : Nd} (ha : a ∈ part s l) : a ∈ s := by
  obtain ⟨i, hi⟩ := List.mem_iff_getElem?.1 ha
  obtain ⟨x, _, hx⟩ := part_idx h hi
  exact List.mem_of_getElem? hx
theorem sub_nodup (h : Sub s l) : l.Nodup := h.pw.imp fun h => Nat.ne_of_lt h
theorem part_unl (h : Sub s l) (hU : Unl s) : Unl (part s l) := by
  unfold Unl
  rw [show (idsOf (part s l)).Nodup ↔ (idsOf (part s l)).Pairwise (· ≠ ·) from Iff.rfl, List.pairwise_iff_getElem]
  intro i j hi hj hij e
  have hi' : i < l.length := by simpa [idsOf, part] using hi
  have hj' : j < l.length := by simpa [idsOf, part] using hj
  simp only [idsOf, part, List.getElem_map] at e
  have h1 := h.lt _ (List.getElem_mem hi')
  have h2 := h.lt _ (List.getElem_mem hj')
  rw [getD_at (List.getElem?_eq_getElem h1), getD_at (List.getElem?_eq_getElem h2)] at e
  have h3 := hU.inj (List.getElem_mem h1) (List.getElem_mem h2) e
  have h4 := (List.getElem?_inj h1 hU.nodup).1 ((List.getElem?_eq_getElem h1).trans ((congrArg some h3).trans (List.getElem?_eq_getElem h2).symm))
  have := (List.getElem?_inj hi' (sub_nodup h)).1 ((List.getElem?_eq_getElem hi').trans ((congrArg some h4).trans (List.getElem?_eq_getElem hj').symm))
  omega
theorem part_sorted (h : Sub s l) (hs : s.Pairwise (fun a b => iln a b = true)) : (part s l).Pairwise (fun a b => iln a b = true) := by
  unfold part
  refine List.pairwise_map.2 (h.pw.imp_of_mem fun {a b} ha hb hab => ?_)
  have h1 := h.lt a ha
  have h2 := h.lt b hb
  rw [getD_at (List.getElem?_eq_getElem h1), getD_at (List.getElem?_eq_getElem h2)]
  exact List.pairwise_iff_getElem.1 hs a b h1 h2 hab
theorem part_dep (h : Sub s l) {i j x y : Nat} (hx : l[i]? = some x) (hy : l[j]? = some y) : Dep (part s l) i j ↔ Dep s x y := by
  unfold Dep
  rw [part_get h hx, part_get h hy]
theorem part_path (h : Sub s l) (hU : Unl s) {i j x y : Nat} (hx : l[i]? = some x) (hy : l[j]? = some y) : Path (edR (part s l)) (part s l).length i j ↔ Path (edR s) s.length x y := by
  constructor
  · intro hp
    induction hp generalizing x with
    | refl u =>
      rw [hx] at hy
      cases hy
      exact .refl _
    | step e _ ih =>
      rename_i a b c _
      have hb : b < l.length := by rw [← part_len (s := s)]; exact e.2.1
      have hb2 := List.getElem?_eq_getElem hb
      refine .step ((edgeR hU).2 ?_) (ih hb2 hy)
      exact (part_dep h hx hb2).1 ((edgeR (part_unl h hU)).1 e)
  · intro hp
    induction hp generalizing i with
    | refl u =>
      have hi := (List.getElem?_eq_some_iff.1 hx).1
      have : i = j := (List.getElem?_inj hi (sub_nodup h)).1 (hx.trans hy.symm)
      subst this
      exact .refl _
    | step e _ ih =>
      rename_i a b c _
      have hd := (edgeR hU).1 e
      have hb := h.cl a (List.mem_of_getElem? hx) b hd
      obtain ⟨k, hk⟩ := List.mem_iff_getElem?.1 hb
      exact .step ((edgeR (part_unl h hU)).2 ((part_dep h hx hk).2 hd)) (ih hk hy)
theorem part_closed (h : Sub s l) (hm : missB s = false) : missB (part s l) = false := by
  rw [missB_no] at hm ⊢
  intro a ha d hd
  obtain ⟨i, hi⟩ := List.mem_iff_getElem?.1 ha
  obtain ⟨x, hx, hxa⟩ := part_idx h hi
  have := hm a (List.mem_of_getElem? hxa) d hd
  unfold idsOf at this
  obtain ⟨b, hb, e⟩ := List.mem_map.1 this
  obtain ⟨w, hw⟩ := List.mem_iff_getElem?.1 hb
  have hwl := h.cl x (List.mem_of_getElem? hx) w ⟨a, b, hxa, hw, by rw [e]; exact hd⟩
  obtain ⟨k, hk⟩ := List.mem_iff_getElem?.1 hwl
  unfold idsOf
  exact List.mem_map.2 ⟨b, List.mem_of_getElem? ((part_get h hk).trans hw), e⟩
/-- among what one leads to the order is that of the whole, for any two of which one leads to the other -/
theorem part_order (h : Sub s l) (hU : Unl s) {L L2 : List (List Nat)} {q q2 : Nat → Nat} (hL : Cmps (edR s) s.length L q) (hL2 : Cmps (edR (part s l)) (part s l).length L2 q2) {a b : Nd} {x y : Nat} (ha : s[x]? = some a) (hb : s[y]? = some b) (hxl : x ∈ l) (hyl : y ∈ l) (hp : Path (edR s) s.length x y) :
    atI (rowI s L) a.id < atI (rowI s L) b.id ↔ atI (rowI (part s l) L2) a.id < atI (rowI (part s l) L2) b.id := by
  by_cases hne : x = y
  · subst hne
    rw [ha] at hb
    cases hb
    omega
  · obtain ⟨i, hi⟩ := List.mem_iff_getElem?.1 hxl
    obtain ⟨j, hj⟩ := List.mem_iff_getElem?.1 hyl
    have hij : i ≠ j := fun e => by subst e; rw [hi] at hj; exact hne (Option.some.inj hj)
    rw [rowI_lt hL hU ha hb hne hp, rowI_lt hL2 (part_unl h hU) ((part_get h hi).trans ha) ((part_get h hj).trans hb) hij ((part_path h hU hi hj).2 hp), part_path h hU hj hi]
end
end Go.Proofs.YtlbkbjeajcadiaaGreatDoor.O

/- The runes' contracts with the library's tables in one word (out of RunesI, RunesJ, RunesM). -/
namespace Go.Proofs.YtlbkbjeajcadiaaGreatDoor.R
open Go.RowKit Go.PlainAid Go.Lib

/-- what every walk of this layer takes of the library's tables -/
structure Tabs (w : World) : Prop where
  u : Lib.Utf8Tabs 0 1 w
  l3 : 0 < w.heap.size
  l4 : 1 < w.heap.size
theorem Tabs.below {w w' : World} {B : Nat} (h : Tabs w) (hb : Below B w w') (h3 : 0 < B) (h4 : 1 < B) : Tabs w' :=
  ⟨tabs_of_below h.u hb h3 h4, Nat.lt_of_lt_of_le h.l3 hb.size, Nat.lt_of_lt_of_le h.l4 hb.size⟩
theorem Tabs.next {w w' : World} (h : Tabs w) (hb : Below w.heap.size w w') : Tabs w' := h.below hb h.l3 h.l4

theorem key_t (s : ByteArray) (w : World) (hs : s.size ≤ 1000000) (h : Tabs w) (v : Int) (hv : errV (keyV s) = v) :
    Calls Tryz.prog 82 #[.string s] w fun e w' => e = .returned (.int .i64 v) ∧ Below w.heap.size w w' ∧ Tabs w' := by
  subst hv
  exact (key_any s w (by omega) h.u h.l3 h.l4).mono fun e w' hh => ⟨hh.1, hh.2, h.next hh.2⟩
theorem begin_t (s : ByteArray) (w : World) (hs : s.size ≤ 1000000) (h : Tabs w) (v : Int) (hv : errV (beginV s) = v) :
    Calls Tryz.prog 81 #[.string s] w fun e w' => e = .returned (.int .i64 v) ∧ Below w.heap.size w w' ∧ Tabs w' := by
  subst hv
  exact (beginning_any s w (by omega) h.u h.l3 h.l4).mono fun e w' hh => ⟨hh.1, hh.2, h.next hh.2⟩
theorem count_t (s : ByteArray) (w : World) (hs : s.size ≤ 1000000) (h : Tabs w) (n : Nat) (hv : (rl s).length = n) :
    Calls Tryz.prog 107 #[.string s] w fun e w' => e = .returned (.int .i64 n) ∧ Below w.heap.size w w' ∧ Tabs w' := by
  subst hv
  rw [← runeCount_rl]
  exact (count_any s w (by omega)).mono fun e w' hh => ⟨hh.1, hh.2, h.next hh.2⟩

theorem refRunes_t (s : ByteArray) (w : World) (hs : s.size ≤ 1000000) (h : Tabs w) :
    Calls Tryz.prog 131 #[.string s] w fun e w' => ∃ ao cap, e = .returned (.slice ao (rl s).length cap) ∧ Below w.heap.size w w' ∧ Tabs w' := by
  refine (runes_any s w hs).mono fun e w' hh => ?_
  obtain ⟨v, rfl, hown, hb⟩ := hh
  obtain ⟨ao, cap, rfl, _, _⟩ := own_view hown
  exact ⟨ao, cap, rfl, hb, h.next hb⟩
theorem refKey_t (s : ByteArray) (w : World) (hs : s.size ≤ 1000000) (h : Tabs w) (v : Bool) (hv : keyV s = v) :
    Calls Tryz.prog 101 #[.string s] w fun e w' => e = .returned (.bool v) ∧ Below w.heap.size w w' ∧ Tabs w' := by
  subst hv
  exact (refKey_any s w hs).mono fun e w' hh => ⟨hh.1, hh.2, h.next hh.2⟩
theorem refBegin_t (s : ByteArray) (w : World) (hs : s.size ≤ 1000000) (h : Tabs w) (v : Bool) (hv : beginV s = v) :
    Calls Tryz.prog 100 #[.string s] w fun e w' => e = .returned (.bool v) ∧ Below w.heap.size w w' ∧ Tabs w' := by
  subst hv
  exact (refBeginning_any s w hs).mono fun e w' hh => ⟨hh.1, hh.2, h.next hh.2⟩
theorem refRunes_row (s : ByteArray) (w : World) (hs : s.size ≤ 1000000) (h : Tabs w) (l : List (Int × Int)) (hl : rl s = l) :
    Calls Tryz.prog 131 #[.string s] w fun e w' => ∃ ao cap, e = .returned (.slice ao l.length cap) ∧ (∀ j, j < l.length → ∃ g, ao = some ⟨g, 0, none⟩ ∧ g < w'.heap.size ∧ ∀ j, j < l.length * 2 → w'.cell? ⟨g, j, none⟩ = (cellsR l)[j]?) ∧ Below w.heap.size w w' ∧ Tabs w' := by
  subst hl
  refine (runes_any s w hs).mono fun e w' hh => ?_
  obtain ⟨v, rfl, hown, hb⟩ := hh
  obtain ⟨ao, cap, rfl, _, hv⟩ := own_view hown
  refine ⟨ao, cap, rfl, fun j hj => ?_, hb, h.next hb⟩
  obtain ⟨g, rfl, _, hg, hc⟩ := hv (by omega)
  exact ⟨g, rfl, hg, hc⟩

theorem begins_t (s t : ByteArray) (w : World) (v : Bool) (hv : Lib.hasPrefix s.data.toList t.data.toList = v) :
    Calls Tryz.prog 164 #[.string s, .string t] w fun e w' => e = .returned (.bool v) ∧ w = w' := by subst hv; exact begins_any s t w
end Go.Proofs.YtlbkbjeajcadiaaGreatDoor.R

/- Regions that draw their order, whose operations read and whose calls make memory: one walk of the text's order, over every world that keeps the old memory. -/
namespace Go.Proofs.YtlbkbjeajcadiaaGreatDoor.M
open Go.RowKit
set_option linter.unusedVariables false
/-- a world that keeps what W had -/
structure Kin (W : World) where
  w : World
  h : Below W.heap.size W w
instance (W : World) : Nonempty (Kin W) := ⟨⟨W, Below.refl _ _⟩⟩
instance (W : World) : Inhabited (Kin W) := ⟨⟨W, Below.refl _ _⟩⟩
theorem below_drawn (w : World) : Below w.heap.size w { w with drawn := w.drawn + 1 } := ⟨rfl, rfl, rfl, Nat.le_refl _, fun _ _ => rfl⟩
theorem wp_region_kin {P : Program} {id : Nat} {Q : Exit → Act → World → Prop} {a : Act} {w : World} {l : List Oper} (hm : P.follows .mixedOrders = true) (hB : Region.lexB .any l.toArray = true)
    (h : wpQuiet P l.toArray (fun w' => ∃ x : Kin w, w' = x.w) (fun a' => ∀ w', (∃ x : Kin w, w' = x.w) → Q .normal a' w') l a) : (Code.region id l.toArray true).wp P Q a w :=
  wp_region_quiet (C := fun w' => ∃ x : Kin w, w' = x.w) hm hB ⟨⟨_, below_drawn w⟩, rfl⟩ (by simpa using h)
theorem Kin.cell {W : World} {p : Addr} {v : Value} (hc : W.cell? p = some v) : ∀ x : Kin W, x.w.cell? p = some v := fun x => (x.h.cell (World.block_lt_of_cell? W _ hc)).trans hc
theorem Kin.call {P : Program} {f : FuncId} {args : Array Value} {W : World} {v : Value} (x : Kin W) (h : Calls P f args x.w fun e w' => e = .returned v ∧ Below x.w.heap.size x.w w') : Calls P f args x.w fun e w'' => e = .returned v ∧ ∃ y : Kin W, w'' = y.w :=
  h.mono fun e w' ⟨he, hb⟩ => ⟨he, ⟨w', x.h.trans (hb.mono x.h.size)⟩, rfl⟩
theorem Kin.same {P : Program} {f : FuncId} {args : Array Value} {W : World} {v : Value} (x : Kin W) (h : Calls P f args x.w fun e w' => e = .returned v ∧ x.w = w') : Calls P f args x.w fun e w'' => e = .returned v ∧ ∃ y : Kin W, w'' = y.w :=
  h.mono fun e w' ⟨he, hb⟩ => ⟨he, x, hb.symm⟩
end Go.Proofs.YtlbkbjeajcadiaaGreatDoor.M
