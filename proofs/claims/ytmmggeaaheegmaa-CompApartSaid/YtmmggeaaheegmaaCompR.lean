/- The document's example. -/
import Derived.Test.YtmmggeaaheegmaaCompQ
namespace Go.Proofs.Ytmmggeaaheegmaa.K
open Go.RowKit M T Go.WideShapes Go.ChangeShapes
set_option linter.unusedVariables false
set_option linter.unusedSimpArgs false

def ns (c : List Nat) : List Int := c.map fun (x : Nat) => (x : Int)
theorem ns_len (c : List Nat) : (ns c).length = c.length := by simp [ns]
theorem ns_get {c : List Nat} {j : Nat} {x : Int} (h : (ns c)[j]? = some x) : ∃ y : Nat, c[j]? = some y ∧ x = y := by
  simp only [ns, List.getElem?_map, Option.map_eq_some_iff] at h
  obtain ⟨y, h1, h2⟩ := h
  exact ⟨y, h1, h2.symm⟩
theorem RowV.of_own {B : Nat} {w : World} {a : Option Addr} {cap : Nat} {c : List Nat} (h : w.ownsRow B 3 1 (.slice a c.length cap) c.length (iv c)) : RowV w a cap (ns c) := by
  obtain ⟨_, _, e, h1, h2, _⟩ := own_view h
  cases e
  refine ⟨⟨by rw [ns_len]; exact h1, h2⟩, fun j x hj => ?_⟩
  obtain ⟨y, hy, rfl⟩ := ns_get hj
  obtain ⟨g, e, _, _, _, hc⟩ := rowcell h (by have := (List.getElem?_eq_some_iff.1 hy).1; omega)
  exact ⟨g, 0, e, by rw [Nat.zero_add]; exact (hc j _ (iv_get c j y hy)).1⟩
/-- a row that came out: its header and its numbers -/
theorem OutAt.hdr {B : Nat} {w : World} {oo : Option Addr} {oc : Nat} {R : List (Option Addr × Nat)} {L : List (List Nat)} (h : OutAt B w oo oc R L) {i : Nat} {c : List Nat} (hi : L[i]? = some c) :
    ∃ go a ca, oo = some ⟨go, 0, none⟩ ∧ w.cell? ⟨go, i, none⟩ = some (.slice a c.length ca) ∧ RowV w a ca (ns c) := by
  have hil := (List.getElem?_eq_some_iff.1 hi).1
  obtain ⟨go, e, _, _, _, hc⟩ := rowcell h.top (by omega)
  obtain ⟨r, hr⟩ : ∃ r, R[i]? = some r := ⟨_, List.getElem?_eq_getElem (by rw [h.rl]; exact hil)⟩
  exact ⟨go, r.1, r.2, e, (hc i _ (hdrs_get hr hi)).1, RowV.of_own (h.row i c r hi hr)⟩
theorem rowV_lit (w : World) (g : Nat) (c : List Nat) (h : w.heap[g]? = some (.cells (iv c).toArray 3 (0, 0))) (hc : c.length ≤ 1000000) : RowV w (some ⟨g, 0, none⟩) c.length (ns c) := by
  refine ⟨⟨by rw [ns_len]; exact Nat.le_refl _, by unfold maxLen; omega⟩, fun j x hj => ?_⟩
  obtain ⟨y, hy, rfl⟩ := ns_get hj
  refine ⟨g, 0, rfl, ?_⟩
  rw [cell_of_row w g (0 + j) _ _ _ h, Nat.zero_add]
  simpa using iv_get c j y hy
def exE (i : Nat) : List Int := if i = 0 then [1] else [0]
theorem ex_edge {u v : Nat} (h : T.Edge exE 3 u v) : (u = 0 ∧ v = 1) ∨ (u ≠ 0 ∧ v = 0) := by
  obtain ⟨h1, h2, h3⟩ := h
  unfold exE at h3
  by_cases e : u = 0
  · rw [if_pos e, List.mem_singleton] at h3
    exact .inl ⟨e, by omega⟩
  · rw [if_neg e, List.mem_singleton] at h3
    exact .inr ⟨e, by omega⟩
theorem ex_order : InOrder exE 3 [[0, 1], [2]] (fun v => if v = 2 then 1 else 0) := by
  refine ⟨⟨fun v hv => ?_, fun i c v hc hv => ?_, fun c hc => ?_, fun u w he => ?_, fun u w hu hw e => ?_⟩, fun p p' hp hp' hlt => ?_⟩
  · have : v = 0 ∨ v = 1 ∨ v = 2 := by omega
    rcases this with rfl | rfl | rfl
    · exact ⟨[0, 1], rfl, by simp⟩
    · exact ⟨[0, 1], rfl, by simp⟩
    · exact ⟨[2], rfl, by simp⟩
  · have hi := (List.getElem?_eq_some_iff.1 hc).1
    have : i = 0 ∨ i = 1 := by simp at hi; omega
    rcases this with rfl | rfl
    · obtain rfl : [0, 1] = c := by simpa using hc
      simp at hv
      rcases hv with rfl | rfl <;> simp
    · obtain rfl : [2] = c := by simpa using hc
      simp at hv
      subst hv
      simp
  · simp at hc
    rcases hc with rfl | rfl <;> simp
  · rcases ex_edge he with ⟨rfl, rfl⟩ | ⟨h1, rfl⟩
    · simp
    · simp
  · have e01 : Path exE 3 0 1 := .one ⟨by omega, by omega, by simp [exE]⟩
    have e10 : Path exE 3 1 0 := .one ⟨by omega, by omega, by simp [exE]⟩
    have h1 : u = 0 ∨ u = 1 ∨ u = 2 := by omega
    have h2 : w = 0 ∨ w = 1 ∨ w = 2 := by omega
    rcases h1 with rfl | rfl | rfl <;> rcases h2 with rfl | rfl | rfl <;> first | exact .refl _ | exact e01 | exact e10 | (simp at e)
  · have : p = 0 ∧ p' = 1 := by simp at hp'; omega
    obtain ⟨rfl, rfl⟩ := this
    simp [headOf] at hlt

theorem edAt_lit {w : World} {go : Nat} {hs : Array Value} (hgo : w.heap[go]? = some (.cells hs 26 (0, 0))) (n : Nat) (E : Nat → List Int) (hn : n ≤ 10000)
    (h : ∀ i, i < n → (E i = [] ∧ hs[i]? = some (.slice none 0 0)) ∨ ∃ g, hs[i]? = some (.slice (some ⟨g, 0, none⟩) (E i).length (E i).length) ∧ w.heap[g]? = some (.cells ((E i).map (Value.int .i64)).toArray 3 (0, 0)) ∧ (E i).length ≤ 10000) : EdAt w.heap.size w (some ⟨go, 0, none⟩) n n E := by
  refine ⟨⟨Nat.le_refl _, by unfold maxLen; omega⟩, fun i hi => ?_⟩
  have hcell : ∀ u, hs[i]? = some u → w.cell? ⟨go, 0 + i, none⟩ = some u := fun u hu => by rw [cell_of_row w go (0 + i) _ _ _ hgo, Nat.zero_add]; exact hu
  rcases h i hi with ⟨e, h1⟩ | ⟨g, h1, h2, h3⟩
  · refine ⟨go, 0, none, 0, rfl, heap_lt hgo, by rw [e]; exact hcell _ h1, by rw [e]; exact Nat.le_refl _, Nat.zero_le _, fun j x hj => by rw [e] at hj; simp at hj⟩
  · refine ⟨go, 0, some ⟨g, 0, none⟩, (E i).length, rfl, heap_lt hgo, hcell _ h1, Nat.le_refl _, by unfold maxLen; omega, fun j x hj => ⟨g, 0, rfl, heap_lt h2, ?_⟩⟩
    rw [cell_of_row w g (0 + j) _ _ _ h2, Nat.zero_add]
    simp [hj]
theorem ex_edges (w : World) : EdAt ((((w.alloc (.cells #[.int .i64 1] 3)).alloc (.cells #[.int .i64 0] 3)).alloc (.cells #[.int .i64 0] 3)).alloc (.cells #[.slice (some ⟨w.heap.size, 0, none⟩) 1 1, .slice (some ⟨w.heap.size + 1, 0, none⟩) 1 1, .slice (some ⟨w.heap.size + 1 + 1, 0, none⟩) 1 1] 26)).heap.size
    ((((w.alloc (.cells #[.int .i64 1] 3)).alloc (.cells #[.int .i64 0] 3)).alloc (.cells #[.int .i64 0] 3)).alloc (.cells #[.slice (some ⟨w.heap.size, 0, none⟩) 1 1, .slice (some ⟨w.heap.size + 1, 0, none⟩) 1 1, .slice (some ⟨w.heap.size + 1 + 1, 0, none⟩) 1 1] 26)) (some ⟨w.heap.size + 1 + 1 + 1, 0, none⟩) 3 3 exE := by
  refine edAt_lit (hs := #[.slice (some ⟨w.heap.size, 0, none⟩) 1 1, .slice (some ⟨w.heap.size + 1, 0, none⟩) 1 1, .slice (some ⟨w.heap.size + 1 + 1, 0, none⟩) 1 1]) ?_ 3 exE (by decide) fun i hi => ?_
  · rw [heap_al, if_pos (by simp <;> omega)]
  · have : i = 0 ∨ i = 1 ∨ i = 2 := by omega
    right
    rcases this with rfl | rfl | rfl
    · refine ⟨w.heap.size, rfl, ?_, by decide⟩
      rw [heap_al, if_neg (by simp <;> omega), heap_al, if_neg (by simp <;> omega), heap_al, if_neg (by simp <;> omega), heap_alloc_new]
      rfl
    · refine ⟨w.heap.size + 1, rfl, ?_, by decide⟩
      rw [heap_al, if_neg (by simp <;> omega), heap_al, if_neg (by simp <;> omega), heap_al, if_pos (by simp <;> omega)]
      rfl
    · refine ⟨w.heap.size + 1 + 1, rfl, ?_, by decide⟩
      rw [heap_al, if_neg (by simp <;> omega), heap_al, if_pos (by simp <;> omega)]
      rfl
set_option maxRecDepth 100000 in
set_option maxHeartbeats 1000000 in
theorem awake_any (w : World) : Calls Try.prog 9 #[] w fun e w' => e = .returned (.bool true) ∧ Below w.heap.size w w' := by
  have hed := ex_edges w
  go_enter Try.func9, Try.ntmps9
  go_wp2_with fail
  refine (comps_any exE 3 _ 3 _ hed (by decide)).mono ?_
  rintro e w1 ⟨oo, oc, R, L, q, rfl, ho, hout, hb⟩
  obtain rfl : L = [[0, 1], [2]] := ho.one ex_order
  obtain ⟨go, a0, c0, rfl, hd0, hr0⟩ := hout.hdr (i := 0) (c := [0, 1]) rfl
  obtain ⟨go', a1, c1, e, hd1, hr1⟩ := hout.hdr (i := 1) (c := [2]) rfl
  cases e
  have hb1 : Below w.heap.size w w1 := (((((Below.refl _ _).alloc (Nat.le_refl _) _).alloc (by simp) _).alloc (by simp; omega) _).alloc (by simp; omega) _).trans (hb.mono (by simp; omega))
  have hd0 : w1.cell? ⟨go, 0, none⟩ = some (.slice a0 2 c0) := hd0
  have hd1 : w1.cell? ⟨go, 1, none⟩ = some (.slice a1 1 c1) := hd1
  have HB := Lib.hid hb1
  have hs1 := same_any a0 (some ⟨w1.heap.size, 0, none⟩) c0 2 (ns [0, 1]) (ns [0, 1]) (w1.alloc (.cells #[.int .i64 0, .int .i64 1] 3)) (by decide) (by decide) (hr0.below ((Below.refl _ _).alloc (Nat.le_refl _) _)) (rowV_lit _ _ [0, 1] (heap_alloc_new w1 _) (by decide))
  change Calls _ _ #[.slice a0 2 c0, .slice _ 2 2] _ _ at hs1
  rw [decide_eq_true rfl] at hs1
  have HR1 := Lib.hid hr1
  have hbz := hb1.size
  clear hout hb ho hr0 hr1 hb1 hed
  go_wp2_with fail
  refine hs1.mono ?_
  rintro e w2 ⟨rfl, n2, hw2⟩
  have hb2 : Below w1.heap.size w1 w2 := by rw [hw2]; exact ((Below.refl _ _).alloc (Nat.le_refl _) _).trans (below_dn _ _ _)
  have hd2 := cell_below hb2 hd1
  have hs2 := same_any a1 (some ⟨w2.heap.size, 0, none⟩) c1 1 (ns [2]) (ns [2]) (w2.alloc (.cells #[.int .i64 2] 3)) (by decide) (by decide) (HR1.out.below (hb2.alloc (by exact hb2.size) _)) (rowV_lit _ _ [2] (heap_alloc_new w2 _) (by decide))
  change Calls _ _ #[.slice a1 1 c1, .slice _ 1 1] _ _ at hs2
  rw [decide_eq_true rfl] at hs2
  have HB2 := Lib.hid (HB.out.trans (hb2.mono hbz))
  have hbz2 := hb2.size
  clear hw2 hb2 hs1 hd0 hd1
  go_wp2_with fail
  refine hs2.mono ?_
  rintro e w3 ⟨rfl, n3, hw3⟩
  have HB3 : Hid (Below w.heap.size w w3) := by rw [hw3]; exact Lib.hid ((HB2.out.alloc (by omega) _).trans (below_dn _ _ _))
  clear hw3 hs2
  go_wp2_with fail
  go_ret
  exact ⟨rfl, HB3.out⟩
end Go.Proofs.Ytmmggeaaheegmaa.K
