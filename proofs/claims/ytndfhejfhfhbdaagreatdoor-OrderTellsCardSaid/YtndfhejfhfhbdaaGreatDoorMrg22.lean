/- Several texts in one. -/
import Derived.Test.YtndfhejfhfhbdaaGreatDoorMrg20
import Derived.Test.YtndfhejfhfhbdaaGreatDoorMrg21
import Derived.Test.YtndfhejfhfhbdaaGreatDoorCom
import Derived.OpenShut

/- What a graph of records is: rows of places; how it lies in memory. -/
namespace Go.Proofs.YtndfhejfhfhbdaaGreatDoor.O
open Go.RowKit Go.Proofs.YtndfhejfhfhbdaaGreatDoor.M Go.BigFrame Go.Proofs.YtndfhejfhfhbdaaGreatDoor.K
set_option linter.unusedVariables false
set_option linter.unusedSimpArgs false

/-- the places of what one hangs on -/
def plN (l : List Id) (ds : List Id) : List Nat := ds.filterMap fun d => if d ∈ l then some (l.idxOf d) else none
theorem plN_app (l ds es : List Id) : plN l (ds ++ es) = plN l ds ++ plN l es := List.filterMap_append
theorem plN_in {l : List Id} {d : Id} (h : d ∈ l) : plN l [d] = [l.idxOf d] := by simp [plN, h]
theorem plN_out {l : List Id} {d : Id} (h : d ∉ l) : plN l [d] = [] := by simp [plN, h]
theorem plN_ed (l ds : List Id) : (plN l ds).map (fun k : Nat => (k : Int)) = (ds.map (atI l)).filter (fun x => decide (0 ≤ x)) := by
  induction ds with
  | nil => rfl
  | cons d ds ih =>
    by_cases h : d ∈ l
    · have h2 : atI l d = (l.idxOf d : Int) := by unfold atI; rw [if_pos h]
      rw [List.map_cons, h2, List.filter_cons, if_pos (by simp), ← ih]
      simp [plN, h]
    · have h2 : atI l d = -1 := by unfold atI; rw [if_neg h]
      rw [List.map_cons, h2, List.filter_cons, if_neg (by simp), ← ih]
      simp [plN, h]
def rowsG (X : List Rv) (k : Nat) : List (List Nat) := (X.take k).map fun x => plN (idsX X) x.deps
/-- rows that came out are a graph -/
theorem OutAt.ed {B : Nat} {w : World} {oo : Option Addr} {oc : Nat} {R : List (Option Addr × Nat)} {L : List (List Nat)} (h : OutAt B w oo oc R L) : EdAt w.heap.size w oo L.length oc (fun i => ((L[i]?).getD []).map (fun k : Nat => (k : Int))) := by
  obtain ⟨ao', cap', e0, h1, h2, h3, h4⟩ := M.own_view h.top
  cases e0
  refine ⟨⟨h1, h2⟩, fun i hi => ?_⟩
  cases oo with
  | none => have := (h3 rfl).1; omega
  | some a =>
    obtain ⟨g, cur, rfl, _, hg, hsz, htk⟩ := h4 a rfl
    obtain ⟨c, hc⟩ : ∃ c, L[i]? = some c := ⟨_, List.getElem?_eq_getElem hi⟩
    obtain ⟨r, hr⟩ : ∃ r, R[i]? = some r := ⟨_, List.getElem?_eq_getElem (by rw [h.rl]; exact hi)⟩
    have hrow := h.row i c r hc hr
    obtain ⟨ro, rc⟩ := r
    obtain ⟨ao2, cap2, e2, k1, k2, k3, k4⟩ := M.own_view hrow
    cases e2
    simp only [hc, Option.getD_some, List.length_map]
    refine ⟨g, 0, ro, rc, rfl, M.heap_lt hg, ?_, k1, k2, fun j x hj => ?_⟩
    · have hh : (hdrs R L)[i]? = some (.slice ro c.length rc) := hdrs_get hr hc
      rw [cell_of_row w g _ _ _ _ hg, Nat.zero_add, ← Array.getElem?_toList]
      rw [← htk, List.getElem?_take_of_lt (by omega)] at hh
      exact hh
    · rw [List.getElem?_map] at hj
      obtain ⟨y, hy, rfl⟩ := Option.map_eq_some_iff.1 hj
      have hjl := (List.getElem?_eq_some_iff.1 hy).1
      cases ro with
      | none => have := (k3 rfl).1; omega
      | some a =>
        obtain ⟨p, cur2, rfl, _, hp, hsz2, htk2⟩ := k4 a rfl
        refine ⟨p, 0, rfl, M.heap_lt hp, ?_⟩
        have hh : (iv c)[j]? = some (.int .i64 (y : Int)) := by simp [iv, hy]
        rw [cell_of_row w p _ _ _ _ hp, Nat.zero_add, ← Array.getElem?_toList]
        rw [← htk2, List.getElem?_take_of_lt (by omega)] at hh
        exact hh
end Go.Proofs.YtndfhejfhfhbdaaGreatDoor.O

/- Edges that came in, opened; the reference's SameInts; great. -/
namespace Go.Proofs.YtndfhejfhfhbdaaGreatDoor.K
open Go.RowKit M T Go.WideShapes Go.ChangeShapes
set_option linter.unusedVariables false
set_option linter.unusedSimpArgs false

theorem ints_view {H : Type} {enc : TypeId × Value → H} {w : World} {n : Nat} {cs : List Value} {x : DataW H × List MemPlace} (h : DataW.trod enc Tryz.prog w 0 (fun _ => true) true n 79 cs = some x)
    (hlt : ∀ y ∈ x.2, y.block < w.heap.size) : ∃ ao cap l, cs = [.slice ao (l : List Int).length cap] ∧ l.length ≤ cap ∧ cap ≤ maxLen ∧ (∀ j y, l[j]? = some y → ∃ p po, ao = some ⟨p, po, none⟩ ∧ p < w.heap.size ∧ w.cell? ⟨p, po + j, none⟩ = some (.int .i64 y)) ∧
      ((∀ m ∈ x.1.weights Tryz.prog 79, m ≤ reachBytes) → l.length ≤ 140737488355328) := by
  obtain ⟨ao, b, off, len, cap, m, C, D, hcs, hl, hm, hn, h0, hx, hC⟩ := C.slice_view2 Tryz.underlying79 (k := 1) (by kernel_rfl) (by decide) h hlt
  have hE : ∀ i, i < len → ∃ z : Int, C i = [.int .i64 z] := fun i hi => by
    obtain ⟨_, _, pi, ht, hp⟩ := hC i hi
    obtain ⟨z, e, _, hw⟩ := DataW.trod_int Tryz.underlying3 ht
    exact ⟨z, e⟩
  obtain ⟨Z, hZ⟩ := Go.Deep.choose_lt (α := Int) hE
  have hlen : ((List.range len).map Z).length = len := by simp
  refine ⟨ao, cap, (List.range len).map Z, by rw [hlen]; exact hcs, by rw [hlen]; exact hl, hm, fun j y hj => ?_, fun hw => ?_⟩
  · have hjl : j < len := by have := (List.getElem?_eq_some_iff.1 hj).1; rwa [hlen] at this
    obtain ⟨e1, e2⟩ := h0 (by omega)
    refine ⟨b, off, e1, e2, ?_⟩
    have hc := (hC j hjl).2.1 0 (by decide)
    rw [hZ j hjl] at hc
    simp only [Nat.mul_one, Nat.add_zero] at hc
    rw [hc]
    have : Z j = y := by simpa [hjl] using hj
    simp [this]
  · rw [hlen]
    rcases hx with ⟨_, e, _⟩ | ⟨spare, e, hsp⟩
    · omega
    · have := hw ((((List.range len).map D).length + spare.length) * Tryz.prog.bytesOf 3) (by rw [e]; simp [DataW.weights, Tryz.underlying79])
      have hb : Tryz.prog.bytesOf 3 = 8 := by kernel_rfl
      rw [hb] at this
      have h2 := reachBytes_lt
      simp only [List.length_map, List.length_range] at this
      omega
theorem weights_all {H : Type} {P : Program} {e : TypeId} : ∀ (l : List (DataW H)) (d : DataW H), d ∈ l → ∀ m ∈ d.weights P e, m ∈ DataW.weightsAll P e l
  | [], d, h, _, _ => by cases h
  | a :: t, d, h, m, hm => by
    simp only [DataW.weightsAll, List.mem_append]
    rcases List.mem_cons.1 h with rfl | h2
    · exact .inl hm
    · exact .inr (weights_all t d h2 m hm)
/-- edges that came in -/
theorem edges_view {H : Type} {enc : TypeId × Value → H} {w : World} {v : Value} {d : DataW H} {p : List MemPlace} (h : DataW.Trod enc Tryz.prog w 0 (fun _ => true) true 76 v d p)
    (hlt : ∀ y ∈ p, y.block < w.heap.size) (hs : ∃ a l c, v = .slice a l c) (hw : ∀ m ∈ d.weights Tryz.prog 76, m ≤ reachBytes) : ∃ eo n ec E, v = .slice eo n ec ∧ EdAt w.heap.size w eo n ec E ∧ ∀ i, i < n → (E i).length ≤ 140737488355328 := by
  obtain ⟨a, l, c, rfl⟩ := hs
  obtain ⟨fuel, hf⟩ := h
  obtain ⟨ao, b, off, len, cap, n, C, D, hcs, hl, hm, hn, h0, hx, hC⟩ := C.slice_view2 Tryz.underlying76 (k := 1) (by kernel_rfl) (by decide) hf hlt
  have hcs' : (Value.slice a l c) = .slice ao len cap := by simpa [Value.cells] using hcs
  have hE : ∀ i, i < len → ∃ z : List Int, ∃ ro rc, C i = [.slice ro z.length rc] ∧ z.length ≤ rc ∧ rc ≤ maxLen ∧ (∀ j y, z[j]? = some y → ∃ p po, ro = some ⟨p, po, none⟩ ∧ p < w.heap.size ∧ w.cell? ⟨p, po + j, none⟩ = some (.int .i64 y)) ∧ z.length ≤ 140737488355328 := fun i hi => by
    obtain ⟨_, _, pi, ht, hp⟩ := hC i hi
    obtain ⟨ro, rc, z, e1, e2, e3, e4, e5⟩ := ints_view ht hp
    refine ⟨z, ro, rc, e1, e2, e3, e4, e5 fun m hm2 => hw m ?_⟩
    rcases hx with ⟨_, e, _⟩ | ⟨spare, e, hsp⟩
    · omega
    · have e : d = .slice ((List.range len).map D) spare := e
      rw [e]
      simp only [DataW.weights, Tryz.underlying76, List.mem_cons, List.mem_append]
      exact .inr (.inl (weights_all _ (D i) (List.mem_map.2 ⟨i, List.mem_range.2 hi, rfl⟩) m hm2))
  obtain ⟨Z, hZ⟩ := Go.Deep.choose_lt (α := List Int) hE
  refine ⟨ao, len, cap, Z, hcs', ⟨⟨hl, hm⟩, fun i hi => ?_⟩, fun i hi => ?_⟩
  · obtain ⟨ro, rc, e1, e2, e3, e4, _⟩ := hZ i hi
    obtain ⟨f1, f2⟩ := h0 (by omega)
    refine ⟨b, off, ro, rc, f1, f2, ?_, e2, e3, e4⟩
    have hc := (hC i hi).2.1 0 (by decide)
    rw [e1] at hc
    simpa using hc
  · obtain ⟨ro, rc, _, _, _, _, e5⟩ := hZ i hi
    exact e5

/-- numbers that a slice holds -/
structure RowV (w : World) (a : Option Addr) (c : Nat) (l : List Int) : Prop where
  le : l.length ≤ c ∧ c ≤ maxLen
  row : ∀ j x, l[j]? = some x → ∃ p po, a = some ⟨p, po, none⟩ ∧ w.cell? ⟨p, po + j, none⟩ = some (.int .i64 x)
theorem RowV.below {w w1 : World} {a : Option Addr} {c : Nat} {l : List Int} (h : RowV w a c l) (hb : Below w.heap.size w w1) : RowV w1 a c l :=
  ⟨h.le, fun j x hj => by obtain ⟨p, po, e, hc⟩ := h.row j x hj; exact ⟨p, po, e, cell_below hb hc⟩⟩
def sumE (E : Nat → List Int) : Nat → Nat
  | 0 => 0
  | k + 1 => sumE E k + (E k).length
def greatB (E : Nat → List Int) (n : Nat) : Bool := decide (40 < n) || decide (400 < sumE E (min n 40))
theorem sumE_le (E : Nat → List Int) (n : Nat) (h : ∀ i, i < n → (E i).length ≤ 140737488355328) : ∀ k, k ≤ n → sumE E k ≤ k * 140737488355328
  | 0, _ => by simp [sumE]
  | k + 1, hk => by
    have h1 := sumE_le E n h k (by omega)
    have h2 := h k (by omega)
    simp only [sumE]
    omega
theorem sumE_mono (E : Nat → List Int) {i k : Nat} (h : i < k) : (E i).length ≤ sumE E k := by
  induction k with
  | zero => omega
  | succ k ih =>
    simp only [sumE]
    by_cases e : i = k
    · subst e; omega
    · have := ih (by omega); omega
theorem great_false {E : Nat → List Int} {n : Nat} (h : greatB E n = false) : n ≤ 40 ∧ ∀ i, i < n → (E i).length ≤ 400 := by
  unfold greatB at h
  rw [Bool.or_eq_false_iff, decide_eq_false_iff_not, decide_eq_false_iff_not] at h
  refine ⟨by omega, fun i hi => ?_⟩
  have h2 := sumE_mono E (show i < min n 40 by omega)
  omega
end Go.Proofs.YtndfhejfhfhbdaaGreatDoor.K

/- The document's example. -/
namespace Go.Proofs.YtndfhejfhfhbdaaGreatDoor.K
open Go.RowKit M T Go.WideShapes Go.ChangeShapes
set_option linter.unusedVariables false
set_option linter.unusedSimpArgs false

def ns (c : List Nat) : List Int := c.map fun (x : Nat) => (x : Int)
theorem ns_len (c : List Nat) : (ns c).length = c.length := by simp [ns]
theorem ns_get {c : List Nat} {j : Nat} {x : Int} (h : (ns c)[j]? = some x) : ∃ y : Nat, c[j]? = some y ∧ x = y := by
  simp only [ns, List.getElem?_map, Option.map_eq_some_iff] at h
  obtain ⟨y, h1, h2⟩ := h
  exact ⟨y, h1, h2.symm⟩
theorem RowV.of_own {B : Nat} {w : World} {a : Option Addr} {cap : Nat} {c : List Nat} (h : w.ownsRow B 3 1 (.slice a c.length cap) c.length (iv c)) : RowV w a cap (ns c) := by
  obtain ⟨_, _, e, h1, h2, _⟩ := own_view h
  cases e
  refine ⟨⟨by rw [ns_len]; exact h1, h2⟩, fun j x hj => ?_⟩
  obtain ⟨y, hy, rfl⟩ := ns_get hj
  obtain ⟨g, e, _, _, _, hc⟩ := rowcell h (by have := (List.getElem?_eq_some_iff.1 hy).1; omega)
  exact ⟨g, 0, e, by rw [Nat.zero_add]; exact (hc j _ (iv_get c j y hy)).1⟩
/-- a row that came out: its header and its numbers -/
theorem OutAt.hdr {B : Nat} {w : World} {oo : Option Addr} {oc : Nat} {R : List (Option Addr × Nat)} {L : List (List Nat)} (h : OutAt B w oo oc R L) {i : Nat} {c : List Nat} (hi : L[i]? = some c) :
    ∃ go a ca, oo = some ⟨go, 0, none⟩ ∧ w.cell? ⟨go, i, none⟩ = some (.slice a c.length ca) ∧ RowV w a ca (ns c) := by
  have hil := (List.getElem?_eq_some_iff.1 hi).1
  obtain ⟨go, e, _, _, _, hc⟩ := rowcell h.top (by omega)
  obtain ⟨r, hr⟩ : ∃ r, R[i]? = some r := ⟨_, List.getElem?_eq_getElem (by rw [h.rl]; exact hil)⟩
  exact ⟨go, r.1, r.2, e, (hc i _ (hdrs_get hr hi)).1, RowV.of_own (h.row i c r hi hr)⟩
theorem rowV_lit (w : World) (g : Nat) (c : List Nat) (h : w.heap[g]? = some (.cells (iv c).toArray 3 (0, 0))) (hc : c.length ≤ 1000000) : RowV w (some ⟨g, 0, none⟩) c.length (ns c) := by
  refine ⟨⟨by rw [ns_len]; exact Nat.le_refl _, by unfold maxLen; omega⟩, fun j x hj => ?_⟩
  obtain ⟨y, hy, rfl⟩ := ns_get hj
  refine ⟨g, 0, rfl, ?_⟩
  rw [cell_of_row w g (0 + j) _ _ _ h, Nat.zero_add]
  simpa using iv_get c j y hy
def exE (i : Nat) : List Int := if i = 0 then [1] else [0]
theorem ex_edge {u v : Nat} (h : T.Edge exE 3 u v) : (u = 0 ∧ v = 1) ∨ (u ≠ 0 ∧ v = 0) := by
  obtain ⟨h1, h2, h3⟩ := h
  unfold exE at h3
  by_cases e : u = 0
  · rw [if_pos e, List.mem_singleton] at h3
    exact .inl ⟨e, by omega⟩
  · rw [if_neg e, List.mem_singleton] at h3
    exact .inr ⟨e, by omega⟩
theorem ex_order : InOrder exE 3 [[0, 1], [2]] (fun v => if v = 2 then 1 else 0) := by
  refine ⟨⟨fun v hv => ?_, fun i c v hc hv => ?_, fun c hc => ?_, fun u w he => ?_, fun u w hu hw e => ?_⟩, fun p p' hp hp' hlt => ?_⟩
  · have : v = 0 ∨ v = 1 ∨ v = 2 := by omega
    rcases this with rfl | rfl | rfl
    · exact ⟨[0, 1], rfl, by simp⟩
    · exact ⟨[0, 1], rfl, by simp⟩
    · exact ⟨[2], rfl, by simp⟩
  · have hi := (List.getElem?_eq_some_iff.1 hc).1
    have : i = 0 ∨ i = 1 := by simp at hi; omega
    rcases this with rfl | rfl
    · obtain rfl : [0, 1] = c := by simpa using hc
      simp at hv
      rcases hv with rfl | rfl <;> simp
    · obtain rfl : [2] = c := by simpa using hc
      simp at hv
      subst hv
      simp
  · simp at hc
    rcases hc with rfl | rfl <;> simp
  · rcases ex_edge he with ⟨rfl, rfl⟩ | ⟨h1, rfl⟩
    · simp
    · simp
  · have e01 : Path exE 3 0 1 := .one ⟨by omega, by omega, by simp [exE]⟩
    have e10 : Path exE 3 1 0 := .one ⟨by omega, by omega, by simp [exE]⟩
    have h1 : u = 0 ∨ u = 1 ∨ u = 2 := by omega
    have h2 : w = 0 ∨ w = 1 ∨ w = 2 := by omega
    rcases h1 with rfl | rfl | rfl <;> rcases h2 with rfl | rfl | rfl <;> first | exact .refl _ | exact e01 | exact e10 | (simp at e)
  · have : p = 0 ∧ p' = 1 := by simp at hp'; omega
    obtain ⟨rfl, rfl⟩ := this
    simp [headOf] at hlt

theorem edAt_lit {w : World} {go : Nat} {hs : Array Value} (hgo : w.heap[go]? = some (.cells hs 79 (0, 0))) (n : Nat) (E : Nat → List Int) (hn : n ≤ 10000)
    (h : ∀ i, i < n → (E i = [] ∧ hs[i]? = some (.slice none 0 0)) ∨ ∃ g, hs[i]? = some (.slice (some ⟨g, 0, none⟩) (E i).length (E i).length) ∧ w.heap[g]? = some (.cells ((E i).map (Value.int .i64)).toArray 3 (0, 0)) ∧ (E i).length ≤ 10000) : EdAt w.heap.size w (some ⟨go, 0, none⟩) n n E := by
  refine ⟨⟨Nat.le_refl _, by unfold maxLen; omega⟩, fun i hi => ?_⟩
  have hcell : ∀ u, hs[i]? = some u → w.cell? ⟨go, 0 + i, none⟩ = some u := fun u hu => by rw [cell_of_row w go (0 + i) _ _ _ hgo, Nat.zero_add]; exact hu
  rcases h i hi with ⟨e, h1⟩ | ⟨g, h1, h2, h3⟩
  · refine ⟨go, 0, none, 0, rfl, heap_lt hgo, by rw [e]; exact hcell _ h1, by rw [e]; exact Nat.le_refl _, Nat.zero_le _, fun j x hj => by rw [e] at hj; simp at hj⟩
  · refine ⟨go, 0, some ⟨g, 0, none⟩, (E i).length, rfl, heap_lt hgo, hcell _ h1, Nat.le_refl _, by unfold maxLen; omega, fun j x hj => ⟨g, 0, rfl, heap_lt h2, ?_⟩⟩
    rw [cell_of_row w g (0 + j) _ _ _ h2, Nat.zero_add]
    simp [hj]
theorem ex_edges (w : World) : EdAt ((((w.alloc (.cells #[.int .i64 1] 3)).alloc (.cells #[.int .i64 0] 3)).alloc (.cells #[.int .i64 0] 3)).alloc (.cells #[.slice (some ⟨w.heap.size, 0, none⟩) 1 1, .slice (some ⟨w.heap.size + 1, 0, none⟩) 1 1, .slice (some ⟨w.heap.size + 1 + 1, 0, none⟩) 1 1] 79)).heap.size
    ((((w.alloc (.cells #[.int .i64 1] 3)).alloc (.cells #[.int .i64 0] 3)).alloc (.cells #[.int .i64 0] 3)).alloc (.cells #[.slice (some ⟨w.heap.size, 0, none⟩) 1 1, .slice (some ⟨w.heap.size + 1, 0, none⟩) 1 1, .slice (some ⟨w.heap.size + 1 + 1, 0, none⟩) 1 1] 79)) (some ⟨w.heap.size + 1 + 1 + 1, 0, none⟩) 3 3 exE := by
  refine edAt_lit (hs := #[.slice (some ⟨w.heap.size, 0, none⟩) 1 1, .slice (some ⟨w.heap.size + 1, 0, none⟩) 1 1, .slice (some ⟨w.heap.size + 1 + 1, 0, none⟩) 1 1]) ?_ 3 exE (by decide) fun i hi => ?_
  · rw [heap_al, if_pos (by simp <;> omega)]
  · have : i = 0 ∨ i = 1 ∨ i = 2 := by omega
    right
    rcases this with rfl | rfl | rfl
    · refine ⟨w.heap.size, rfl, ?_, by decide⟩
      rw [heap_al, if_neg (by simp <;> omega), heap_al, if_neg (by simp <;> omega), heap_al, if_neg (by simp <;> omega), heap_alloc_new]
      rfl
    · refine ⟨w.heap.size + 1, rfl, ?_, by decide⟩
      rw [heap_al, if_neg (by simp <;> omega), heap_al, if_neg (by simp <;> omega), heap_al, if_pos (by simp <;> omega)]
      rfl
    · refine ⟨w.heap.size + 1 + 1, rfl, ?_, by decide⟩
      rw [heap_al, if_neg (by simp <;> omega), heap_al, if_pos (by simp <;> omega)]
      rfl
end Go.Proofs.YtndfhejfhfhbdaaGreatDoor.K
