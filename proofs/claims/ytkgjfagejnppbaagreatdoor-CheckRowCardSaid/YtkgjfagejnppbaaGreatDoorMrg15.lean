/- Several texts in one. -/
import Derived.Test.YtkgjfagejnppbaaGreatDoorMrg14
import Derived.Maps.Keyed
import Derived.Maps.Own
import Derived.Maps.OwnSet
import Derived.Maps.Views
import Derived.DeepKeys4
import Derived.Test.YtkgjfagejnppbaaGreatDoorMrg10

/- order.names, order.Within. -/
namespace Go.Proofs.YtkgjfagejnppbaaGreatDoor.O
open Go.RowKit Go.Proofs.YtkgjfagejnppbaaGreatDoor.M Go.BigFrame
set_option linter.unusedVariables false
set_option linter.unusedSimpArgs false

set_option maxRecDepth 100000 in
set_option maxHeartbeats 4000000 in
theorem names_any (X : List Rv) (ao : Option Addr) (cap : Nat) (w : World) (h : RecsV w ao cap X) (hl : X.length ≤ 1000000) :
    Calls Tryz.prog 106 #[.slice ao X.length cap] w fun e w' => ∃ oo oc, e = .returned (.slice oo X.length oc) ∧ (OwnL w' w.heap.size oo oc (X.map Rv.id) ∧ Below w.heap.size w w') := by
  obtain ⟨hl1, hl2⟩ := h.le
  unfold maxLen at hl2
  obtain ⟨i0, hi, hz0, hz1, hz2⟩ := info_parts info_id
  have H := Lib.hid h
  clear h
  go_enter Tryz.func106, Tryz.ntmps106
  go_wp2_with fail
  go_loopw [3, 8] (fun ov kv wr => ∃ (k : Nat) (M : List Id) (oo : Option Addr) (oc : Nat), ov = .slice oo M.length oc ∧ kv = .int .i64 k ∧ k ≤ X.length ∧ M = (X.take k).map Rv.id ∧ OwnL wr w.heap.size oo oc M ∧ Below w.heap.size w wr) (fun _ kv _ => X.length - (intOf kv).toNat)
  case atStart => exact ⟨0, [], none, 0, rfl, rfl, Nat.zero_le _, by simp, World.ownsRow_nil _ _ _ _, Below.refl _ _⟩
  case round =>
    obtain ⟨k, M, oo, oc, rfl, rfl, hk, hM, hown, hb⟩ := hrel
    have HM := Lib.hid hM
    have HOW := Lib.hid hown
    have HBR := Lib.hid hb
    have hMl : M.length = k := by rw [hM, List.length_map, List.length_take]; omega
    have hMl2 : M.length ≤ 1000000 := by omega
    clear hM hown hb
    have hWr := HBR.out.size
    by_cases hkl : k < X.length
    · have hii : (k : Int) < (X.length : Int) := by omega
      obtain ⟨x, hx⟩ : ∃ x, X[k]? = some x := ⟨_, List.getElem?_eq_getElem hkl⟩
      have HX := Lib.hid hx
      obtain ⟨b, off, e0, hbl, hrec⟩ := H.out.row k x hx
      subst e0
      obtain ⟨c0, c1, c2, c3, c4, c5, c6, c7, c8, c9, c10, c11, c12, c13, c14, c15⟩ := hrec.below HBR.out hbl
      have HL := Lib.hid hMl
      have HN := Lib.hid (show M ++ [x.id] = (X.take (k + 1)).map Rv.id by rw [HM.out, List.take_add_one, hx]; simp)
      clear hx hMl hrec
      go_upto_region 5 with fail
      obtain ⟨w1, hw1⟩ : ∃ w1, w1 = wr.alloc (recO x) := ⟨_, rfl⟩
      have HB1 := Lib.hid (show Below w.heap.size w w1 by rw [hw1]; exact HBR.out.alloc hWr _)
      have HO1 := Lib.hid (show OwnL w1 w.heap.size oo oc M by rw [hw1]; exact HOW.out.alloc _)
      have hba : w1.heap[wr.heap.size]? = some (recO x) := by rw [hw1]; exact heap_alloc_new wr _
      rw [← hw1]
      clear hw1 c0 c1 c2 c3 c4 c5 c6 c7 c8 c9 c10 c11 c12 c13 c14 c15
      obtain ⟨c0, c1, _⟩ := box16 hba
      have hs1 := HB1.out.size
      go_wp2_with (refine wpList_app idC 2 (fun _ => rfl) (by decide) idC_one (by rfl) (.tmp 12) (.tmp 15) 28 (by rfl) w.heap.size 37 i0 _ 16 Tryz.underlying28 hi hz0 hz1 hz2 (by decide) rfl oo oc M x.id #[.int .i64 (x.id).r, .int .i64 (x.id).n] rfl (by rfl) (by exact HO1.out) (by rfl) (by omega) (by omega) ?_; intro oo' oc' w7 hown hmod hbel; have HOW7 := Lib.hid hown; have HBE7 := Lib.hid hbel; clear hown hmod hbel)
      clear c0 c1
      go_roundw
      case rel => exact ⟨k + 1, M ++ [x.id], oo', oc', by simp, by go_num, by omega, HN.out, HOW7.out, HB1.out.trans HBE7.out⟩
      case measure => simp [intOf]; omega
    · obtain rfl : k = X.length := by omega
      have hii : ¬ (X.length : Int) < (X.length : Int) := by omega
      have HE := Lib.hid (show M = X.map Rv.id by rw [HM.out, List.take_length])
      have HFIN := Lib.hid (show OwnL wr w.heap.size oo oc M ∧ Below w.heap.size w wr from ⟨HOW.out, HBR.out⟩)
      have HL := Lib.hid hMl
      clear hMl
      go_wp2_with fail
      go_ret
      refine ⟨oo, oc, ret_val (by rw [← HL.out]; rfl), ?_⟩
      rw [← HE.out]
      exact HFIN.out
set_option maxRecDepth 100000 in
set_option maxHeartbeats 4000000 in
theorem Within_any (X : List Rv) (ao : Option Addr) (cap : Nat) (w : World) (h : RecsV w ao cap X) (hl : X.length ≤ 20) :
    Calls Tryz.prog 81 #[.slice ao X.length cap] w fun e w' => ∃ (oo : Option Addr) (oc : Nat) (m : List Rv), e = .returned (.slice oo X.length oc) ∧ (m.Perm X ∧ m.Pairwise (fun a b => wlt b.nd a.nd = false) ∧ OwnL w' w.heap.size oo oc (m.map Rv.id) ∧ Below w.heap.size w w') := by
  have H := Lib.hid h
  clear h
  go_enter Tryz.func81, Tryz.ntmps81
  go_wp2_with fail
  refine (valuesR_any _ _ _ _).mono ?_
  rintro e w1 ⟨rfl, hw1⟩
  have hB1 : Below w.heap.size w w1 := by rw [hw1]; exact (Below.refl _ _).alloc (Nat.le_refl _) _
  have hb1 : w1.heap[w.heap.size]? = some (.cells #[.slice ao X.length cap] 26 (0, 0)) := by rw [hw1]; exact heap_alloc_new w _
  have hc1 : w1.cell? ⟨w.heap.size, 0, none⟩ = some (.slice ao X.length cap) := by simp [World.cell?, hb1]
  have HB1 := Lib.hid hB1
  have HC := Lib.hid (sortedStable_any w.heap.size ao cap X w1 hl (M.heap_lt hb1) hc1 (H.out.below hB1))
  clear hw1 hB1 hb1 hc1
  go_wp2_with fail
  refine HC.out.mono ?_
  rintro e w2 ⟨oo, oc, m, rfl, h1, h2, h3, h4, h5⟩
  have HB2 := Lib.hid (HB1.out.trans (h5.mono HB1.out.size))
  have HM := Lib.hid (And.intro h1 h2)
  have HML := Lib.hid h3
  have HV := Lib.hid (RecsV.of_own h4 (fun x hx => ((H.out.ok x (h1.mem_iff.1 hx)).below HB1.out).below (h5)))
  have HN := Lib.hid (names_any m oo oc w2 HV.out (by omega))
  rw [h3] at HN
  clear h1 h2 h3 h4 h5 HC
  go_wp2_with fail
  refine HN.out.mono ?_
  rintro e w3 ⟨oo3, oc3, rfl, h6, h7⟩
  have HF := Lib.hid (show OwnL w3 w.heap.size oo3 oc3 (m.map Rv.id) ∧ Below w.heap.size w w3 from ⟨own_base h6 (fun k hk => Nat.le_trans HB2.out.size (h6.lt k hk).1), HB2.out.trans (h7.mono HB2.out.size)⟩)
  clear h6 h7 HN
  go_wp2_with fail
  go_ret
  exact ⟨oo3, oc3, m, rfl, HM.out.1, HM.out.2, HF.out⟩
end Go.Proofs.YtkgjfagejnppbaaGreatDoor.O

/- order.places: where each record stands. -/
namespace Go.Proofs.YtkgjfagejnppbaaGreatDoor.O
open Go.RowKit Go.Proofs.YtkgjfagejnppbaaGreatDoor.M Go.BigFrame
set_option linter.unusedVariables false
set_option linter.unusedSimpArgs false

theorem id_laid : laidOutB Tryz.prog = true := by kernel_rfl
theorem id_law : WideMaps.KeyLaw Tryz.prog 37 := deep_law_laid id_laid (m := 2) (by omega) (of_decide_eq_true (by kernel_rfl)) (by kernel_rfl) (by rw [Tryz.underlying37])
theorem id_keyed : Maps.Keyed Tryz.prog 37 := .of_law id_law
def klI (i : Id) : Lit := .string (keyBytes [.int .i64 i.r, .int .i64 i.n])
theorem types_pos : ∃ d, Tryz.prog.types.size + 1 = d + 1 + 1 := ⟨Tryz.prog.types.size - 1, by have h : 0 < Tryz.prog.types.size := of_decide_eq_true (by kernel_rfl); omega⟩
theorem wf_of64 {n : Int} (h : -9223372036854775808 ≤ n ∧ n ≤ 9223372036854775807) : (Lit.int .i64 n).wf = true := by
  simp only [Lit.wf, Bool.and_eq_true, decide_eq_true_eq]
  exact h
theorem key_id (i : Id) (hi : IdI i) : keyOf Tryz.prog 37 (idV i) = some (klI i) := by
  obtain ⟨h1, h2⟩ := hi
  unfold P.InI at h1 h2
  simp [keyOf, Tryz.underlying37, Value.formed, Value.cells, klI]
  have w1 : (Lit.int .i64 i.r).wf = true := wf_of64 h1
  have w2 : (Lit.int .i64 i.n).wf = true := wf_of64 h2
  have hc : Tryz.prog.cellsOf 37 = 2 := by kernel_rfl
  have hc3 : Tryz.prog.cellsOf 3 = 1 := by kernel_rfl
  refine ⟨⟨by kernel_rfl, hc.symm⟩, [.int .i64 i.r, .int .i64 i.n], ?_, rfl⟩
  have e0 : ∀ (d : Nat) (x : Int), (Lit.int .i64 x).wf = true → Tryz.prog.keyLits (d + 1) 3 [.int .i64 x] = some [.int .i64 x] := fun d x hx => by
    unfold Program.keyLits
    rw [Tryz.underlying3]
    simp [hx]
  have e1 : ∀ d : Nat, Tryz.prog.keyLits (d + 1 + 1) 37 [.int .i64 i.r, .int .i64 i.n] = some [.int .i64 i.r, .int .i64 i.n] := fun d => by
    unfold Program.keyLits
    rw [Tryz.underlying37]
    simp [hc, hc3, e0 d _ w1, e0 d _ w2]
  exact e1 _
theorem klI_key (i : Id) : WideAt.IsKeyLit (klI i) := trivial
theorem klI_inj {i j : Id} (hi : IdI i) (hj : IdI j) (h : klI i = klI j) : i = j := by
  have := id_keyed.inj (key_id i hi) (h ▸ key_id j hj)
  simp only [Value.agg.injEq, Array.mk.injEq, List.cons.injEq, Value.int.injEq, true_and, and_true] at this
  exact Id.eq_of this.1 this.2
/-- the map of places, when k records have been walked -/
def pmap (ids : List Id) : Nat → DataW Unit
  | 0 => .map []
  | k + 1 => (pmap ids k).put (klI (ids.getD k ⟨0, 0⟩)) (.lit (.int .i64 (k : Int)))
theorem pmap_succ {ids : List Id} {k : Nat} {i : Id} (h : ids[k]? = some i) : pmap ids (k + 1) = (pmap ids k).put (klI i) (.lit (.int .i64 (k : Int))) := by
  show (pmap ids k).put (klI (ids.getD k ⟨0, 0⟩)) _ = _
  rw [List.getD, h]; rfl
theorem pmap_tidy (ids : List Id) : ∀ k, Maps.Tidy (pmap ids k)
  | 0 => Maps.tidy_empty
  | k + 1 => (pmap_tidy ids k).put (klI_key _) _
theorem pmap_has {ids : List Id} (hok : ∀ x ∈ ids, IdI x) {i : Id} (hi : IdI i) : ∀ k, k ≤ ids.length → Maps.has (pmap ids k) (klI i) = decide (i ∈ ids.take k)
  | 0, _ => by simp [pmap, Maps.has]
  | k + 1, hk => by
    obtain ⟨y, hy⟩ : ∃ y, ids[k]? = some y := ⟨_, List.getElem?_eq_getElem (by omega)⟩
    have ih := pmap_has hok hi k (by omega)
    rw [pmap_succ hy, List.take_add_one, hy]
    by_cases e : i = y
    · subst e
      rw [Maps.has_put_same (pmap_tidy ids k).isMap (klI_key _)]
      simp
    · rw [Maps.has_put_other (fun h => e (klI_inj hi (hok y (List.mem_of_getElem? hy)) h)), ih]
      simp [e]
theorem pmap_at {ids : List Id} (hok : ∀ x ∈ ids, IdI x) (hn : ids.Nodup) {i : Id} {j : Nat} (hj : ids[j]? = some i) (z : DataW Unit) : ∀ k, j < k → k ≤ ids.length → (pmap ids k).atKey (klI i) z = .lit (.int .i64 (j : Int))
  | 0, h, _ => by omega
  | k + 1, h, hk => by
    obtain ⟨y, hy⟩ : ∃ y, ids[k]? = some y := ⟨_, List.getElem?_eq_getElem (by omega)⟩
    rw [pmap_succ hy]
    by_cases e : j = k
    · subst e
      rw [hj] at hy
      cases hy
      rw [Maps.atKey_put_same (pmap_tidy ids j).isMap (klI_key _)]
    · rw [Maps.atKey_put_other (fun h2 => e ?_)]
      · exact pmap_at hok hn hj z k (by omega) (by omega)
      · have := klI_inj (hok i (List.mem_of_getElem? hj)) (hok y (List.mem_of_getElem? hy)) h2
        subst this
        exact (List.getElem?_inj (List.getElem?_eq_some_iff.1 hj).1 hn).1 (hj.trans hy.symm)
theorem pmap_size {ids : List Id} (hok : ∀ x ∈ ids, IdI x) : ∀ k, k ≤ ids.length → Maps.size (pmap ids k) ≤ k ∧ (Maps.size (pmap ids k) = k ↔ (ids.take k).Nodup)
  | 0, _ => by simp [pmap, Maps.size]
  | k + 1, hk => by
    obtain ⟨y, hy⟩ : ∃ y, ids[k]? = some y := ⟨_, List.getElem?_eq_getElem (by omega)⟩
    obtain ⟨h1, h2⟩ := pmap_size hok k (by omega)
    rw [pmap_succ hy, Maps.size_put (pmap_tidy ids k), pmap_has hok (hok y (List.mem_of_getElem? hy)) k (by omega), List.take_add_one, hy]
    by_cases e : y ∈ ids.take k
    · rw [if_pos (by simpa using e)]
      refine ⟨by omega, fun h => by omega, fun h => ?_⟩
      exact absurd rfl ((List.nodup_append.1 h).2.2 y e y (by simp))
    · rw [if_neg (by simpa using e)]
      refine ⟨by omega, fun h => ?_, fun h => ?_⟩
      · refine List.nodup_append.2 ⟨h2.1 (by omega), by simp, fun a ha b hb => ?_⟩
        simp at hb
        subst hb
        exact fun e2 => e (e2 ▸ ha)
      · have := h2.2 (List.nodup_append.1 h).1
        omega
abbrev idsX (X : List Rv) : List Id := X.map Rv.id
/-- block b is the map of places of these records -/
abbrev PMap (w : World) (b : Nat) (ids : List Id) (k : Nat) : Prop := w.ownsMap Tryz.prog 37 (plainElem (H := Unit) Tryz.prog 3) b k (pmap ids k)
set_option maxRecDepth 100000 in
set_option maxHeartbeats 4000000 in
theorem places_any (X : List Rv) (ao : Option Addr) (cap : Nat) (w : World) (h : RecsV w ao cap X) (hl : X.length ≤ 1000000) :
    Calls Tryz.prog 101 #[.slice ao X.length cap] w fun e w' => e = .returned (.map (some w.heap.size)) ∧ (PMap w' w.heap.size (idsX X) X.length ∧ Below w.heap.size w w') := by
  obtain ⟨hl1, hl2⟩ := h.le
  unfold maxLen at hl2
  have H := Lib.hid h
  clear h
  go_enter Tryz.func101, Tryz.ntmps101
  have hmk := run_makeMap (P := Tryz.prog) 171 w
  go_upto_region 2 with fail
  clear hmk
  obtain ⟨W, hW⟩ : ∃ W, W = w.alloc (.map #[] 0) := ⟨_, rfl⟩
  have HP := Lib.hid (show PMap W w.heap.size (idsX X) 0 by rw [hW]; exact World.ownsMap_made w _ _ _)
  have HB := Lib.hid (show Below w.heap.size w W by rw [hW]; exact (Below.refl _ _).alloc (Nat.le_refl _) _)
  rw [← hW]
  clear hW
  go_wp2_with fail
  go_loopw [4, 9] (fun _ kv wr => ∃ (k : Nat), kv = .int .i64 k ∧ k ≤ X.length ∧ PMap wr w.heap.size (idsX X) k ∧ Below w.heap.size w wr) (fun _ kv _ => X.length - (intOf kv).toNat)
  case atStart => exact ⟨0, rfl, Nat.zero_le _, HP.out, HB.out⟩
  case round =>
    obtain ⟨k, rfl, hk, hp, hb⟩ := hrel
    have HM := Lib.hid hp
    have HBR := Lib.hid hb
    clear hp hb HP HB
    have hWr := HBR.out.size
    by_cases hkl : k < X.length
    · have hii : (k : Int) < (X.length : Int) := by omega
      obtain ⟨x, hx⟩ : ∃ x, X[k]? = some x := ⟨_, List.getElem?_eq_getElem hkl⟩
      have HX := Lib.hid (show (idsX X)[k]? = some x.id by rw [List.getElem?_map, hx]; rfl)
      obtain ⟨b, off, e0, hbl, hrec⟩ := H.out.row k x hx
      have HI := Lib.hid (H.out.ok x (List.mem_of_getElem? hx)).id
      subst e0
      obtain ⟨c0, c1, c2, c3, c4, c5, c6, c7, c8, c9, c10, c11, c12, c13, c14, c15⟩ := hrec.below HBR.out hbl
      clear hx hrec
      go_upto_region 5 with fail
      obtain ⟨w1, hw1⟩ : ∃ w1, w1 = wr.alloc (recO x) := ⟨_, rfl⟩
      have HB1 := Lib.hid (show Below w.heap.size w w1 by rw [hw1]; exact HBR.out.alloc hWr _)
      have HM1 := Lib.hid (show PMap w1 w.heap.size (idsX X) k by rw [hw1]; exact HM.out.alloc _)
      have hba : w1.heap[wr.heap.size]? = some (recO x) := by rw [hw1]; exact heap_alloc_new wr _
      rw [← hw1]
      clear hw1 c0 c1 c2 c3 c4 c5 c6 c7 c8 c9 c10 c11 c12 c13 c14 c15
      obtain ⟨c0, c1, _⟩ := box16 hba
      have hs1 := HB1.out.size
      have HV := Lib.hid (plainElem_int (H := Unit) Tryz.underlying3 (wf_of64 (n := (k : Int)) ⟨by omega, by omega⟩))
      go_wp2_with (at_mapUpdate; refine wpList_mapUpdate_own _ rfl (.tmp 14) (.tmp 16) (.tmp 17) 171 rfl 37 3 id_keyed Tryz.underlying171 _ w.heap.size k (pmap (idsX X) k) rfl HM1.out (by unfold maxLen; omega) (idV x.id) (.int .i64 k) (klI x.id) rfl rfl (key_id x.id HI.out) (.lit (.int .i64 k)) [] HV.out ?_
                   intro w2 hown2 hgrow2
                   have HM2 := Lib.hid (show PMap w2 w.heap.size (idsX X) (k + 1) by unfold PMap; rw [pmap_succ HX.out]; exact hown2)
                   have HB2 := Lib.hid (HB1.out.grown hgrow2 hs1 (fun j e => by cases e; exact Nat.le_refl _))
                   clear hown2 hgrow2)
      clear c0 c1
      go_roundw
      case rel => exact ⟨k + 1, by go_num, by omega, HM2.out, HB2.out⟩
      case measure => simp [intOf]; omega
    · obtain rfl : k = X.length := by omega
      have hii : ¬ (X.length : Int) < (X.length : Int) := by omega
      go_wp2_with fail
      go_ret
      exact ⟨rfl, HM.out, HBR.out⟩
end Go.Proofs.YtkgjfagejnppbaaGreatDoor.O

/- Plain law: the order in which components come; it is the only one. -/
namespace Go.Proofs.YtkgjfagejnppbaaGreatDoor.K
open Go.RowKit M T
set_option linter.unusedVariables false
set_option linter.unusedSimpArgs false

section
variable {E : Nat → List Int} {n : Nat} {C L L' : List (List Nat)} {q q' : Nat → Nat}
theorem okEdge_true {come : Nat → Bool} {ci : Nat} {x : Int} (h : okEdge n q come ci x = true) (h0 : 0 ≤ x) (h1 : x < n) : q x.toNat = ci ∨ come (q x.toNat) = true := by
  unfold okEdge at h
  rw [decide_eq_true (show 0 ≤ x ∧ x < (n : Int) from ⟨h0, h1⟩)] at h
  by_cases e : q x.toNat = ci
  · exact .inl e
  · right
    simpa [e] using h
theorem okEdge_false {come : Nat → Bool} {ci : Nat} {x : Int} (h : okEdge n q come ci x = false) : 0 ≤ x ∧ x < n ∧ q x.toNat ≠ ci ∧ come (q x.toNat) = false := by
  unfold okEdge at h
  simp only [Bool.not_eq_false', Bool.and_eq_true, decide_eq_true_eq, Bool.not_eq_true'] at h
  exact ⟨h.1.1, h.1.2, h.2.1, h.2.2⟩
theorem rdy_true (hC : Comp E n C q) {come : Nat → Bool} {ci : Nat} (h : rdy E n C q come ci = true) {u w : Nat} (hu : q u = ci) (he : T.Edge E n u w) : q w = ci ∨ come (q w) = true := by
  obtain ⟨c, hc, huc⟩ := hC.d1 u he.1
  rw [hu] at hc
  unfold rdy at h
  have hg : C.getD ci [] = c := by simp [List.getD, hc]
  rw [hg, List.all_eq_true] at h
  have h2 := h u huc
  unfold okNode at h2
  rw [List.all_eq_true] at h2
  have := okEdge_true (h2 _ he.2.2) (by omega) (by have := he.2.1; omega)
  simpa using this
theorem rdy_false (hC : Comp E n C q) {come : Nat → Bool} {ci : Nat} (h : rdy E n C q come ci = false) : ∃ u w, q u = ci ∧ T.Edge E n u w ∧ q w ≠ ci ∧ come (q w) = false := by
  unfold rdy at h
  rw [List.all_eq_false] at h
  obtain ⟨u, hu, h2⟩ := h
  have hci : ∃ c, C[ci]? = some c := by
    cases hc : C[ci]? with
    | some c => exact ⟨c, rfl⟩
    | none => simp [List.getD, hc] at hu
  obtain ⟨c, hc⟩ := hci
  have hg : C.getD ci [] = c := by simp [List.getD, hc]
  rw [hg] at hu
  obtain ⟨hun, hq⟩ := hC.d2 ci c u hc hu
  have h3 : okNode E n q come ci u = false := by simpa using h2
  unfold okNode at h3
  rw [List.all_eq_false] at h3
  obtain ⟨x, hx, h4⟩ := h3
  obtain ⟨a1, a2, a3, a4⟩ := okEdge_false (by simpa using h4)
  refine ⟨u, x.toNat, hq, ⟨hun, by omega, ?_⟩, a3, a4⟩
  rwa [Int.toNat_of_nonneg a1]
theorem rdy_of (hC : Comp E n C q) {come : Nat → Bool} {ci : Nat} (h : ∀ u w, q u = ci → T.Edge E n u w → q w = ci ∨ come (q w) = true) : rdy E n C q come ci = true := by
  cases e : rdy E n C q come ci with
  | true => rfl
  | false =>
    obtain ⟨u, w, h1, h2, h3, h4⟩ := rdy_false hC e
    rcases h u w h1 h2 with h5 | h5
    · exact absurd h5 h3
    · rw [h4] at h5; cases h5

/-- what has come, and what is left -/
structure Em (E : Nat → List Int) (n : Nat) (C : List (List Nat)) (q : Nat → Nat) (l ems : List Nat) : Prop where
  pm : (ems ++ l).Perm (List.range C.length)
  srt : l.Pairwise fun x y => headOf C x ≤ headOf C y
  ord : ∀ p ci, ems[p]? = some ci → rdy E n C q (fun i => decide (i ∈ ems.take p)) ci = true ∧ ∀ cj, cj < C.length → headOf C cj < headOf C ci → cj ∉ ems.take p → rdy E n C q (fun i => decide (i ∈ ems.take p)) cj = false
theorem Em.start {l : List Nat} (hp : l.Perm (List.range C.length)) (hs : l.Pairwise fun x y => headOf C x ≤ headOf C y) : Em E n C q l [] :=
  ⟨by simpa using hp, hs, fun p ci h => by simp at h⟩
theorem Em.lt {l ems : List Nat} (h : Em E n C q l ems) {x : Nat} (hx : x ∈ l ∨ x ∈ ems) : x < C.length := by
  have : x ∈ ems ++ l := by rw [List.mem_append]; exact hx.symm
  exact List.mem_range.1 (h.pm.mem_iff.1 this)
theorem Em.nodup {l ems : List Nat} (h : Em E n C q l ems) : (ems ++ l).Nodup := h.pm.nodup_iff.2 List.nodup_range
theorem Em.has {l ems : List Nat} (h : Em E n C q l ems) {x : Nat} (hx : x < C.length) : x ∈ ems ∨ x ∈ l := by
  have := h.pm.mem_iff.2 (List.mem_range.2 hx)
  exact List.mem_append.1 this
theorem least_of (P : Nat → Prop) (h : ∃ x, P x) : ∃ x, P x ∧ ∀ y, y < x → ¬ P y := by
  obtain ⟨x, hx⟩ := h
  induction x using Nat.strongRecOn with
  | _ x ih =>
    by_cases e : ∃ y, y < x ∧ P y
    · obtain ⟨y, hy, hp⟩ := e
      exact ih y hy hp
    · exact ⟨x, hx, fun y hy hp => e ⟨y, hy, hp⟩⟩
theorem Em.next (hC : Comp E n C q) {l ems : List Nat} (h : Em E n C q l ems) (hl : l ≠ []) : ∃ i x, l[i]? = some x ∧ rdy E n C q (fun i => decide (i ∈ ems)) x = true ∧ ∀ (j y : Nat), j < i → l[j]? = some y → rdy E n C q (fun i => decide (i ∈ ems)) y = false := by
  obtain ⟨x, hx, hmin⟩ := least_of (fun x => x ∈ l) ⟨l.head hl, List.head_mem hl⟩
  have hr : rdy E n C q (fun i => decide (i ∈ ems)) x = true := by
    refine rdy_of hC fun u w hu he => ?_
    have h1 := hC.d4 u w he
    by_cases e : q w = x
    · exact .inl e
    · right
      obtain ⟨c, hc, _⟩ := hC.d1 w he.2.1
      rcases h.has (List.getElem?_eq_some_iff.1 hc).1 with h2 | h2
      · exact decide_eq_true h2
      · exact absurd h2 (hmin _ (by omega))
  obtain ⟨j, hj⟩ := List.mem_iff_getElem?.1 hx
  obtain ⟨i, ⟨y, hy, hry⟩, hno⟩ := least_of (fun i => ∃ y, l[i]? = some y ∧ rdy E n C q (fun i => decide (i ∈ ems)) y = true) ⟨j, x, hj, hr⟩
  refine ⟨i, y, hy, hry, fun j z hj hz => ?_⟩
  cases e : rdy E n C q (fun i => decide (i ∈ ems)) z with
  | false => rfl
  | true => exact absurd ⟨z, hz, e⟩ (hno j hj)
theorem Em.step {l ems : List Nat} (h : Em E n C q l ems) {i x : Nat} (hx : l[i]? = some x) (hr : rdy E n C q (fun i => decide (i ∈ ems)) x = true) (hno : ∀ (j y : Nat), j < i → l[j]? = some y → rdy E n C q (fun i => decide (i ∈ ems)) y = false) : Em E n C q (l.eraseIdx i) (ems ++ [x]) := by
  have hil := (List.getElem?_eq_some_iff.1 hx).1
  refine ⟨?_, h.srt.sublist (List.eraseIdx_sublist ..), fun p ci hp => ?_⟩
  · refine List.Perm.trans ?_ h.pm
    rw [List.append_assoc]
    refine List.Perm.append_left _ ?_
    have e : l = l.take i ++ x :: l.drop (i + 1) := by
      rw [← (List.getElem?_eq_some_iff.1 hx).2, List.getElem_cons_drop, List.take_append_drop]
    have e2 : l.eraseIdx i = l.take i ++ l.drop (i + 1) := List.eraseIdx_eq_take_drop_succ ..
    rw [e2]
    refine List.Perm.trans ?_ (List.Perm.of_eq e.symm)
    show (x :: (l.take i ++ l.drop (i + 1))).Perm _
    exact List.perm_middle.symm
  · by_cases e : p < ems.length
    · rw [List.getElem?_append_left e] at hp
      rw [List.take_append_of_le_length (by omega)]
      exact h.ord p ci hp
    · rw [List.getElem?_append_right (by omega)] at hp
      have hp0 : p - ems.length = 0 := by
        have := (List.getElem?_eq_some_iff.1 hp).1
        simp at this
        exact this
      rw [hp0] at hp
      have hpe : p = ems.length := by omega
      obtain rfl : x = ci := by simpa using hp
      have et : (ems ++ [x]).take p = ems := by rw [hpe]; simp
      rw [et]
      refine ⟨hr, fun cj hcj hlt hno2 => ?_⟩
      rcases h.has hcj with h2 | h2
      · exact absurd h2 hno2
      · obtain ⟨j, hj⟩ := List.mem_iff_getElem?.1 h2
        rcases Nat.lt_trichotomy j i with h3 | h3 | h3
        · exact hno j cj h3 hj
        · subst h3
          rw [hj] at hx
          cases hx
          omega
        · have hjl := (List.getElem?_eq_some_iff.1 hj).1
          have := List.pairwise_iff_getElem.1 h.srt i j hil hjl h3
          rw [(List.getElem?_eq_some_iff.1 hx).2, (List.getElem?_eq_some_iff.1 hj).2] at this
          omega

/-- the components in their order -/
structure InOrder (E : Nat → List Int) (n : Nat) (L : List (List Nat)) (q : Nat → Nat) : Prop where
  co : Comp E n L q
  le : ∀ p p', p < p' → p' < L.length → headOf L p' < headOf L p → ∃ u v, q u = p' ∧ T.Edge E n u v ∧ p ≤ q v ∧ q v ≠ p'
theorem nodup_left {a b : List Nat} (h : (a ++ b).Nodup) : a.Nodup := (List.nodup_append.1 h).1
theorem idx_of {l : List Nat} (h : l.Nodup) {i x : Nat} (hi : l[i]? = some x) : l.idxOf x = i := by
  obtain ⟨h1, h2⟩ := List.getElem?_eq_some_iff.1 hi
  rw [← h2]
  exact h.idxOf_getElem i h1
theorem idx_get {l : List Nat} {x : Nat} (h : x ∈ l) : l[l.idxOf x]? = some x := by
  rw [List.getElem?_eq_getElem (List.idxOf_lt_length_of_mem h), List.getElem_idxOf]
theorem Em.done (hC : Comp E n C q) {ems : List Nat} (h : Em E n C q [] ems) : InOrder E n (ems.map fun i => C.getD i []) (fun v => ems.idxOf (q v)) := by
  have hnd : ems.Nodup := nodup_left h.nodup
  have hhas : ∀ x, x < C.length → x ∈ ems := fun x hx => by
    rcases h.has hx with h1 | h1
    · exact h1
    · cases h1
  have hqc : ∀ v, v < n → q v ∈ ems := fun v hv => by
    obtain ⟨c, hc, _⟩ := hC.d1 v hv
    exact hhas _ (List.getElem?_eq_some_iff.1 hc).1
  have hget : ∀ (p : Nat) (c : List Nat), (ems.map fun i => C.getD i [])[p]? = some c → ∃ ci, ems[p]? = some ci ∧ C[ci]? = some c := by
    intro p c hc
    rw [List.getElem?_map] at hc
    cases he : ems[p]? with
    | none => rw [he] at hc; cases hc
    | some ci =>
      rw [he] at hc
      have hlt := h.lt (.inr (List.mem_of_getElem? he))
      refine ⟨ci, rfl, ?_⟩
      simp only [Option.map_some, Option.some.injEq] at hc
      rw [← hc, List.getD, List.getElem?_eq_getElem hlt]
      rfl
  have hhead : ∀ p ci, ems[p]? = some ci → headOf (ems.map fun i => C.getD i []) p = headOf C ci := by
    intro p ci he
    unfold headOf
    simp [List.getD, List.getElem?_map, he]
  have htake : ∀ (p x : Nat), x ∈ ems.take p → ems.idxOf x < p := by
    intro p x hx
    obtain ⟨j, hj⟩ := List.mem_iff_getElem?.1 hx
    have hjp : j < p := by
      have := (List.getElem?_eq_some_iff.1 hj).1
      rw [List.length_take] at this
      omega
    rw [List.getElem?_take_of_lt hjp] at hj
    rw [idx_of hnd hj]
    exact hjp
  have htake2 : ∀ (p x : Nat), x ∈ ems → ems.idxOf x < p → x ∈ ems.take p := by
    intro p x hx hlt
    refine List.mem_of_getElem? (i := ems.idxOf x) ?_
    rw [List.getElem?_take_of_lt hlt]
    exact idx_get hx
  refine ⟨⟨fun v hv => ?_, fun i c v hc hv => ?_, fun c hc => ?_, fun u w he => ?_, fun u w hu hw e => ?_⟩, fun p p' hpp hp' hlt => ?_⟩
  · obtain ⟨c, hc, hvc⟩ := hC.d1 v hv
    refine ⟨c, ?_, hvc⟩
    show (ems.map fun i => C.getD i [])[ems.idxOf (q v)]? = some c
    rw [List.getElem?_map, idx_get (hqc v hv)]
    simp [List.getD, hc]
  · obtain ⟨ci, he, hc2⟩ := hget i c hc
    obtain ⟨hvn, hq⟩ := hC.d2 ci c v hc2 hv
    refine ⟨hvn, ?_⟩
    show ems.idxOf (q v) = i
    rw [hq]
    exact idx_of hnd he
  · obtain ⟨p, hp⟩ := List.mem_iff_getElem?.1 hc
    obtain ⟨ci, _, hc2⟩ := hget p c hp
    exact hC.d3 c (List.mem_of_getElem? hc2)
  · have h1 := idx_get (hqc u he.1)
    rcases rdy_true hC (h.ord _ _ h1).1 rfl he with h2 | h2
    · show ems.idxOf (q w) ≤ ems.idxOf (q u)
      rw [h2]; exact Nat.le_refl _
    · exact Nat.le_of_lt (htake _ _ (of_decide_eq_true h2))
  · have e2 : ems.idxOf (q u) = ems.idxOf (q w) := e
    have h1 := idx_get (hqc u hu)
    rw [e2, idx_get (hqc w hw)] at h1
    exact hC.d5 u w hu hw (Option.some.inj h1).symm
  · rw [List.length_map] at hp'
    obtain ⟨cj, hcj⟩ : ∃ cj, ems[p']? = some cj := ⟨_, List.getElem?_eq_getElem hp'⟩
    obtain ⟨ci, hci⟩ : ∃ ci, ems[p]? = some ci := ⟨_, List.getElem?_eq_getElem (by omega)⟩
    rw [hhead _ _ hcj, hhead _ _ hci] at hlt
    have hnin : cj ∉ ems.take p := fun hx => by
      have := htake _ _ hx
      rw [idx_of hnd hcj] at this
      omega
    have hf := (h.ord p ci hci).2 cj (h.lt (.inr (List.mem_of_getElem? hcj))) hlt hnin
    obtain ⟨u, w, hu, he, hne, hco⟩ := rdy_false hC hf
    have hco' := of_decide_eq_false hco
    refine ⟨u, w, ?_, he, ?_, fun e => hne ?_⟩
    · show ems.idxOf (q u) = p'
      rw [hu]; exact idx_of hnd hcj
    · rcases Nat.lt_or_ge (ems.idxOf (q w)) p with h5 | h5
      · exact absurd (htake2 _ _ (hqc w he.2.1) h5) hco'
      · exact h5
    · have e2 : ems.idxOf (q w) = p' := e
      have h1 := idx_get (hqc w he.2.1)
      rw [e2, hcj] at h1
      exact (Option.some.inj h1).symm

/-- a path leads no further -/
theorem Comp.path (h : Comp E n L q) {u w : Nat} (hp : Path E n u w) : q w ≤ q u := by
  induction hp with
  | refl => exact Nat.le_refl _
  | step e _ ih => exact Nat.le_trans ih (h.d4 _ _ e)
theorem Comp.same (h : Comp E n L q) {u w : Nat} (hu : u < n) (hw : w < n) : q u = q w ↔ (Path E n u w ∧ Path E n w u) :=
  ⟨fun e => ⟨h.d5 u w hu hw e, h.d5 w u hw hu e.symm⟩, fun hp => by have h1 := h.path hp.1; have h2 := h.path hp.2; omega⟩
theorem pw_eq {a b : List Nat} (ha : a.Pairwise (· < ·)) (hb : b.Pairwise (· < ·)) (h : ∀ x, x ∈ a ↔ x ∈ b) : a = b := by
  have hp : a.Perm b := (List.perm_ext_iff_of_nodup (ha.imp (fun h => by omega)) (hb.imp (fun h => by omega))).2 h
  exact hp.eq_of_pairwise (fun x y _ _ h1 h2 => by omega) ha hb
/-- a component is all that is led to and leads back -/
theorem Comp.mem (h : Comp E n L q) {i : Nat} {c : List Nat} {u w : Nat} (hi : L[i]? = some c) (hu : u ∈ c) : w ∈ c ↔ (w < n ∧ Path E n u w ∧ Path E n w u) := by
  obtain ⟨hun, hqu⟩ := h.d2 i c u hi hu
  constructor
  · intro hw
    obtain ⟨hwn, hqw⟩ := h.d2 i c w hi hw
    exact ⟨hwn, (h.same hun hwn).1 (by omega)⟩
  · rintro ⟨hwn, hp⟩
    obtain ⟨c', hc', hw⟩ := h.d1 w hwn
    rw [← (h.same hun hwn).2 hp, hqu, hi] at hc'
    cases hc'
    exact hw
theorem Comp.eq_of (h : Comp E n L q) (h' : Comp E n L' q') {i j : Nat} {c d : List Nat} {u : Nat} (hi : L[i]? = some c) (hj : L'[j]? = some d) (hu : u ∈ c) (hu' : u ∈ d) : c = d :=
  pw_eq (h.d3 c (List.mem_of_getElem? hi)).1 (h'.d3 d (List.mem_of_getElem? hj)).1 fun x => (h.mem hi hu).trans (h'.mem hj hu').symm
theorem headOf_get {i : Nat} {c : List Nat} (hi : L[i]? = some c) : headOf L i = c.headD 0 := by simp [headOf, List.getD, hi]
theorem head_mem {c : List Nat} (h : c ≠ []) : c.headD 0 ∈ c := by
  cases c with
  | nil => exact absurd rfl h
  | cons a t => exact List.mem_cons_self

/-- of what comes at a place the head isn't less -/
theorem order_step (h : InOrder E n L q) (h' : InOrder E n L' q') {p : Nat} (hpre : ∀ i, i < p → L[i]? = L'[i]?) {c d : List Nat} (hc : L[p]? = some c) (hd : L'[p]? = some d) : d.headD 0 ≤ c.headD 0 := by
  refine Nat.le_of_not_lt fun hlt => ?_
  have hcm := h.co.d3 c (List.mem_of_getElem? hc)
  have hu := head_mem hcm.2
  obtain ⟨hun, hqu⟩ := h.co.d2 p c _ hc hu
  obtain ⟨c', hc', hu'⟩ := h'.co.d1 _ hun
  have hcc : c = c' := h.co.eq_of h'.co hc hc' hu hu'
  have hp' : p < q' (c.headD 0) := by
    rcases Nat.lt_trichotomy (q' (c.headD 0)) p with h3 | h3 | h3
    · exfalso
      have := hpre _ h3
      rw [hc'] at this
      obtain ⟨_, hq3⟩ := h.co.d2 _ c' _ this hu'
      omega
    · exfalso
      rw [h3, hd] at hc'
      cases hc'
      rw [hcc] at hlt
      omega
    · exact h3
  have hpl := (List.getElem?_eq_some_iff.1 hc').1
  obtain ⟨u, v, e1, he, e3, e4⟩ := h'.le p (q' (c.headD 0)) hp' hpl (by rw [headOf_get hc', headOf_get hd, ← hcc]; exact hlt)
  have huv : q v ≤ q u := h.co.d4 u v he
  have hqu2 : q u = p := by
    have := (h'.co.same he.1 hun).1 e1
    rw [(h.co.same he.1 hun).2 this, hqu]
  by_cases e5 : q v = p
  · have := (h.co.same he.2.1 hun).1 (by omega)
    exact e4 ((h'.co.same he.2.1 hun).2 this)
  · obtain ⟨x, hx, hvx⟩ := h.co.d1 v he.2.1
    rw [hpre _ (by omega)] at hx
    have := (h'.co.d2 _ x v hx hvx).2
    omega
theorem order_len (h : InOrder E n L q) (h' : InOrder E n L' q') (hpre : ∀ i, i < L.length → L[i]? = L'[i]?) : L'.length ≤ L.length := by
  refine Nat.le_of_not_lt fun hlt => ?_
  obtain ⟨d, hd⟩ : ∃ d, L'[L.length]? = some d := ⟨_, List.getElem?_eq_getElem hlt⟩
  have hu := head_mem (h'.co.d3 d (List.mem_of_getElem? hd)).2
  obtain ⟨hun, hq⟩ := h'.co.d2 _ d _ hd hu
  obtain ⟨c, hc, hu2⟩ := h.co.d1 _ hun
  have hlt2 := (List.getElem?_eq_some_iff.1 hc).1
  rw [hpre _ hlt2] at hc
  have := (h'.co.d2 _ c _ hc hu2).2
  omega
/-- THE ORDER IS ONE -/
theorem InOrder.one (h : InOrder E n L q) (h' : InOrder E n L' q') : L = L' := by
  have key : ∀ p, ∀ i, i < p → i < L.length → i < L'.length → L[i]? = L'[i]? := by
    intro p
    induction p with
    | zero => intro i hi; omega
    | succ p ih =>
      intro i hi h1 h2
      by_cases e : i < p
      · exact ih i e h1 h2
      · obtain rfl : i = p := by omega
        obtain ⟨c, hc⟩ : ∃ c, L[i]? = some c := ⟨_, List.getElem?_eq_getElem h1⟩
        obtain ⟨d, hd⟩ : ∃ d, L'[i]? = some d := ⟨_, List.getElem?_eq_getElem h2⟩
        have hpre : ∀ j, j < i → L[j]? = L'[j]? := fun j hj => ih j hj (by omega) (by omega)
        have a1 := order_step h h' hpre hc hd
        have a2 := order_step h' h (fun j hj => (hpre j hj).symm) hd hc
        have hcd : c.headD 0 = d.headD 0 := by omega
        have hu := head_mem (h.co.d3 c (List.mem_of_getElem? hc)).2
        have hu' := head_mem (h'.co.d3 d (List.mem_of_getElem? hd)).2
        rw [← hcd] at hu'
        rw [hc, hd, h.co.eq_of h'.co hc hd hu hu']
  rcases Nat.le_total L.length L'.length with hle | hle
  · have hpre : ∀ i, i < L.length → L[i]? = L'[i]? := fun i hi => key (i + 1) i (by omega) hi (by omega)
    have := order_len h h' hpre
    refine List.ext_getElem? fun i => ?_
    by_cases hi : i < L.length
    · exact hpre i hi
    · rw [List.getElem?_eq_none (by omega), List.getElem?_eq_none (by omega)]
  · have hpre : ∀ i, i < L'.length → L'[i]? = L[i]? := fun i hi => (key (i + 1) i (by omega) (by omega) hi).symm
    have := order_len h' h hpre
    refine List.ext_getElem? fun i => ?_
    by_cases hi : i < L'.length
    · exact (hpre i hi).symm
    · rw [List.getElem?_eq_none (by omega), List.getElem?_eq_none (by omega)]
end
end Go.Proofs.YtkgjfagejnppbaaGreatDoor.K
