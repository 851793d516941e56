/- Several texts in one. -/
import Derived.Test.YtndfhejfhfhbdaaGreatDoorOrdU
import Derived.Maps.Keyed
import Derived.Maps.Own
import Derived.Maps.OwnSet
import Derived.Maps.Views
import Derived.DeepKeys4

/- order.names, order.Within. -/
namespace Go.Proofs.YtndfhejfhfhbdaaGreatDoor.O
open Go.RowKit Go.Proofs.YtndfhejfhfhbdaaGreatDoor.M Go.BigFrame
set_option linter.unusedVariables false
set_option linter.unusedSimpArgs false

set_option maxRecDepth 100000 in
set_option maxHeartbeats 4000000 in
theorem names_any (X : List Rv) (ao : Option Addr) (cap : Nat) (w : World) (h : RecsV w ao cap X) (hl : X.length ≤ 1000000) :
    Calls Tryz.prog 58 #[.slice ao X.length cap] w fun e w' => ∃ oo oc, e = .returned (.slice oo X.length oc) ∧ (OwnL w' w.heap.size oo oc (X.map Rv.id) ∧ Below w.heap.size w w') := by
  obtain ⟨hl1, hl2⟩ := h.le
  unfold maxLen at hl2
  obtain ⟨i0, hi, hz0, hz1, hz2⟩ := info_parts info_id
  have H := Lib.hid h
  clear h
  go_enter Tryz.func58, Tryz.ntmps58
  go_wp2_with fail
  go_loopw [3, 8] (fun ov kv wr => ∃ (k : Nat) (M : List Id) (oo : Option Addr) (oc : Nat), ov = .slice oo M.length oc ∧ kv = .int .i64 k ∧ k ≤ X.length ∧ M = (X.take k).map Rv.id ∧ OwnL wr w.heap.size oo oc M ∧ Below w.heap.size w wr) (fun _ kv _ => X.length - (intOf kv).toNat)
  case atStart => exact ⟨0, [], none, 0, rfl, rfl, Nat.zero_le _, by simp, World.ownsRow_nil _ _ _ _, Below.refl _ _⟩
  case round =>
    obtain ⟨k, M, oo, oc, rfl, rfl, hk, hM, hown, hb⟩ := hrel
    have HM := Lib.hid hM
    have HOW := Lib.hid hown
    have HBR := Lib.hid hb
    have hMl : M.length = k := by rw [hM, List.length_map, List.length_take]; omega
    have hMl2 : M.length ≤ 1000000 := by omega
    clear hM hown hb
    have hWr := HBR.out.size
    by_cases hkl : k < X.length
    · have hii : (k : Int) < (X.length : Int) := by omega
      obtain ⟨x, hx⟩ : ∃ x, X[k]? = some x := ⟨_, List.getElem?_eq_getElem hkl⟩
      have HX := Lib.hid hx
      obtain ⟨b, off, e0, hbl, hrec⟩ := H.out.row k x hx
      subst e0
      obtain ⟨c0, c1, c2, c3, c4, c5, c6, c7, c8, c9, c10, c11, c12, c13, c14, c15⟩ := hrec.below HBR.out hbl
      have HL := Lib.hid hMl
      have HN := Lib.hid (show M ++ [x.id] = (X.take (k + 1)).map Rv.id by rw [HM.out, List.take_add_one, hx]; simp)
      clear hx hMl hrec
      go_upto_region 5 with fail
      obtain ⟨w1, hw1⟩ : ∃ w1, w1 = wr.alloc (recO x) := ⟨_, rfl⟩
      have HB1 := Lib.hid (show Below w.heap.size w w1 by rw [hw1]; exact HBR.out.alloc hWr _)
      have HO1 := Lib.hid (show OwnL w1 w.heap.size oo oc M by rw [hw1]; exact HOW.out.alloc _)
      have hba : w1.heap[wr.heap.size]? = some (recO x) := by rw [hw1]; exact heap_alloc_new wr _
      rw [← hw1]
      clear hw1 c0 c1 c2 c3 c4 c5 c6 c7 c8 c9 c10 c11 c12 c13 c14 c15
      obtain ⟨c0, c1, _⟩ := box16 hba
      have hs1 := HB1.out.size
      go_wp2_with (refine wpList_app idC 2 (fun _ => rfl) (by decide) idC_one (by rfl) (.tmp 12) (.tmp 15) 25 (by rfl) w.heap.size 27 i0 _ 16 Tryz.underlying25 hi hz0 hz1 hz2 (by decide) rfl oo oc M x.id #[.int .i64 (x.id).r, .int .i64 (x.id).n] rfl (by rfl) (by exact HO1.out) (by rfl) (by omega) (by omega) ?_; intro oo' oc' w7 hown hmod hbel; have HOW7 := Lib.hid hown; have HBE7 := Lib.hid hbel; clear hown hmod hbel)
      clear c0 c1
      go_roundw
      case rel => exact ⟨k + 1, M ++ [x.id], oo', oc', by simp, by go_num, by omega, HN.out, HOW7.out, HB1.out.trans HBE7.out⟩
      case measure => simp [intOf]; omega
    · obtain rfl : k = X.length := by omega
      have hii : ¬ (X.length : Int) < (X.length : Int) := by omega
      have HE := Lib.hid (show M = X.map Rv.id by rw [HM.out, List.take_length])
      have HFIN := Lib.hid (show OwnL wr w.heap.size oo oc M ∧ Below w.heap.size w wr from ⟨HOW.out, HBR.out⟩)
      have HL := Lib.hid hMl
      clear hMl
      go_wp2_with fail
      go_ret
      refine ⟨oo, oc, ret_val (by rw [← HL.out]; rfl), ?_⟩
      rw [← HE.out]
      exact HFIN.out
set_option maxRecDepth 100000 in
set_option maxHeartbeats 4000000 in
theorem Within_any (X : List Rv) (ao : Option Addr) (cap : Nat) (w : World) (h : RecsV w ao cap X) (hl : X.length ≤ 20) :
    Calls Tryz.prog 23 #[.slice ao X.length cap] w fun e w' => ∃ (oo : Option Addr) (oc : Nat) (m : List Rv), e = .returned (.slice oo X.length oc) ∧ (m.Perm X ∧ m.Pairwise (fun a b => wlt b.nd a.nd = false) ∧ OwnL w' w.heap.size oo oc (m.map Rv.id) ∧ Below w.heap.size w w') := by
  have H := Lib.hid h
  clear h
  go_enter Tryz.func23, Tryz.ntmps23
  go_wp2_with fail
  refine (valuesR_any _ _ _ _).mono ?_
  rintro e w1 ⟨rfl, hw1⟩
  have hB1 : Below w.heap.size w w1 := by rw [hw1]; exact (Below.refl _ _).alloc (Nat.le_refl _) _
  have hb1 : w1.heap[w.heap.size]? = some (.cells #[.slice ao X.length cap] 28 (0, 0)) := by rw [hw1]; exact heap_alloc_new w _
  have hc1 : w1.cell? ⟨w.heap.size, 0, none⟩ = some (.slice ao X.length cap) := by simp [World.cell?, hb1]
  have HB1 := Lib.hid hB1
  have HC := Lib.hid (sortedStable_any w.heap.size ao cap X w1 hl (M.heap_lt hb1) hc1 (H.out.below hB1))
  clear hw1 hB1 hb1 hc1
  go_wp2_with fail
  refine HC.out.mono ?_
  rintro e w2 ⟨oo, oc, m, rfl, h1, h2, h3, h4, h5⟩
  have HB2 := Lib.hid (HB1.out.trans (h5.mono HB1.out.size))
  have HM := Lib.hid (And.intro h1 h2)
  have HML := Lib.hid h3
  have HV := Lib.hid (RecsV.of_own h4 (fun x hx => ((H.out.ok x (h1.mem_iff.1 hx)).below HB1.out).below (h5)))
  have HN := Lib.hid (names_any m oo oc w2 HV.out (by omega))
  rw [h3] at HN
  clear h1 h2 h3 h4 h5 HC
  go_wp2_with fail
  refine HN.out.mono ?_
  rintro e w3 ⟨oo3, oc3, rfl, h6, h7⟩
  have HF := Lib.hid (show OwnL w3 w.heap.size oo3 oc3 (m.map Rv.id) ∧ Below w.heap.size w w3 from ⟨own_base h6 (fun k hk => Nat.le_trans HB2.out.size (h6.lt k hk).1), HB2.out.trans (h7.mono HB2.out.size)⟩)
  clear h6 h7 HN
  go_wp2_with fail
  go_ret
  exact ⟨oo3, oc3, m, rfl, HM.out.1, HM.out.2, HF.out⟩
end Go.Proofs.YtndfhejfhfhbdaaGreatDoor.O

/- order.places: where each record stands. -/
namespace Go.Proofs.YtndfhejfhfhbdaaGreatDoor.O
open Go.RowKit Go.Proofs.YtndfhejfhfhbdaaGreatDoor.M Go.BigFrame
set_option linter.unusedVariables false
set_option linter.unusedSimpArgs false

theorem id_laid : laidOutB Tryz.prog = true := by kernel_rfl
theorem id_law : WideMaps.KeyLaw Tryz.prog 27 := deep_law_laid id_laid (m := 2) (by omega) (of_decide_eq_true (by kernel_rfl)) (by kernel_rfl) (by rw [Tryz.underlying27])
theorem id_keyed : Maps.Keyed Tryz.prog 27 := .of_law id_law
def klI (i : Id) : Lit := .string (keyBytes [.int .i64 i.r, .int .i64 i.n])
theorem wf_of64 {n : Int} (h : -9223372036854775808 ≤ n ∧ n ≤ 9223372036854775807) : (Lit.int .i64 n).wf = true := by
  simp only [Lit.wf, Bool.and_eq_true, decide_eq_true_eq]
  exact h
theorem key_id (i : Id) (hi : IdI i) : keyOf Tryz.prog 27 (idV i) = some (klI i) := by
  obtain ⟨h1, h2⟩ := hi
  unfold P.InI at h1 h2
  simp [keyOf, Tryz.underlying27, Value.formed, Value.cells, klI]
  have w1 : (Lit.int .i64 i.r).wf = true := wf_of64 h1
  have w2 : (Lit.int .i64 i.n).wf = true := wf_of64 h2
  have hc : Tryz.prog.cellsOf 27 = 2 := by kernel_rfl
  have hc3 : Tryz.prog.cellsOf 3 = 1 := by kernel_rfl
  refine ⟨⟨by kernel_rfl, hc.symm⟩, [.int .i64 i.r, .int .i64 i.n], ?_, rfl⟩
  have e0 : ∀ (d : Nat) (x : Int), (Lit.int .i64 x).wf = true → Tryz.prog.keyLits (d + 1) 3 [.int .i64 x] = some [.int .i64 x] := fun d x hx => by
    unfold Program.keyLits
    rw [Tryz.underlying3]
    simp [hx]
  have e1 : ∀ d : Nat, Tryz.prog.keyLits (d + 1 + 1) 27 [.int .i64 i.r, .int .i64 i.n] = some [.int .i64 i.r, .int .i64 i.n] := fun d => by
    unfold Program.keyLits
    rw [Tryz.underlying27]
    simp [hc, hc3, e0 d _ w1, e0 d _ w2]
  exact e1 218
theorem klI_key (i : Id) : WideAt.IsKeyLit (klI i) := trivial
theorem klI_inj {i j : Id} (hi : IdI i) (hj : IdI j) (h : klI i = klI j) : i = j := by
  have := id_keyed.inj (key_id i hi) (h ▸ key_id j hj)
  simp only [Value.agg.injEq, Array.mk.injEq, List.cons.injEq, Value.int.injEq, true_and, and_true] at this
  exact Id.eq_of this.1 this.2
/-- the map of places, when k records have been walked -/
def pmap (ids : List Id) : Nat → DataW Unit
  | 0 => .map []
  | k + 1 => (pmap ids k).put (klI (ids.getD k ⟨0, 0⟩)) (.lit (.int .i64 (k : Int)))
theorem pmap_succ {ids : List Id} {k : Nat} {i : Id} (h : ids[k]? = some i) : pmap ids (k + 1) = (pmap ids k).put (klI i) (.lit (.int .i64 (k : Int))) := by
  show (pmap ids k).put (klI (ids.getD k ⟨0, 0⟩)) _ = _
  rw [List.getD, h]; rfl
theorem pmap_tidy (ids : List Id) : ∀ k, Maps.Tidy (pmap ids k)
  | 0 => Maps.tidy_empty
  | k + 1 => (pmap_tidy ids k).put (klI_key _) _
theorem pmap_has {ids : List Id} (hok : ∀ x ∈ ids, IdI x) {i : Id} (hi : IdI i) : ∀ k, k ≤ ids.length → Maps.has (pmap ids k) (klI i) = decide (i ∈ ids.take k)
  | 0, _ => by simp [pmap, Maps.has]
  | k + 1, hk => by
    obtain ⟨y, hy⟩ : ∃ y, ids[k]? = some y := ⟨_, List.getElem?_eq_getElem (by omega)⟩
    have ih := pmap_has hok hi k (by omega)
    rw [pmap_succ hy, List.take_add_one, hy]
    by_cases e : i = y
    · subst e
      rw [Maps.has_put_same (pmap_tidy ids k).isMap (klI_key _)]
      simp
    · rw [Maps.has_put_other (fun h => e (klI_inj hi (hok y (List.mem_of_getElem? hy)) h)), ih]
      simp [e]
theorem pmap_at {ids : List Id} (hok : ∀ x ∈ ids, IdI x) (hn : ids.Nodup) {i : Id} {j : Nat} (hj : ids[j]? = some i) (z : DataW Unit) : ∀ k, j < k → k ≤ ids.length → (pmap ids k).atKey (klI i) z = .lit (.int .i64 (j : Int))
  | 0, h, _ => by omega
  | k + 1, h, hk => by
    obtain ⟨y, hy⟩ : ∃ y, ids[k]? = some y := ⟨_, List.getElem?_eq_getElem (by omega)⟩
    rw [pmap_succ hy]
    by_cases e : j = k
    · subst e
      rw [hj] at hy
      cases hy
      rw [Maps.atKey_put_same (pmap_tidy ids j).isMap (klI_key _)]
    · rw [Maps.atKey_put_other (fun h2 => e ?_)]
      · exact pmap_at hok hn hj z k (by omega) (by omega)
      · have := klI_inj (hok i (List.mem_of_getElem? hj)) (hok y (List.mem_of_getElem? hy)) h2
        subst this
        exact (List.getElem?_inj (List.getElem?_eq_some_iff.1 hj).1 hn).1 (hj.trans hy.symm)
theorem pmap_size {ids : List Id} (hok : ∀ x ∈ ids, IdI x) : ∀ k, k ≤ ids.length → Maps.size (pmap ids k) ≤ k ∧ (Maps.size (pmap ids k) = k ↔ (ids.take k).Nodup)
  | 0, _ => by simp [pmap, Maps.size]
  | k + 1, hk => by
    obtain ⟨y, hy⟩ : ∃ y, ids[k]? = some y := ⟨_, List.getElem?_eq_getElem (by omega)⟩
    obtain ⟨h1, h2⟩ := pmap_size hok k (by omega)
    rw [pmap_succ hy, Maps.size_put (pmap_tidy ids k), pmap_has hok (hok y (List.mem_of_getElem? hy)) k (by omega), List.take_add_one, hy]
    by_cases e : y ∈ ids.take k
    · rw [if_pos (by simpa using e)]
      refine ⟨by omega, fun h => by omega, fun h => ?_⟩
      exact absurd rfl ((List.nodup_append.1 h).2.2 y e y (by simp))
    · rw [if_neg (by simpa using e)]
      refine ⟨by omega, fun h => ?_, fun h => ?_⟩
      · refine List.nodup_append.2 ⟨h2.1 (by omega), by simp, fun a ha b hb => ?_⟩
        simp at hb
        subst hb
        exact fun e2 => e (e2 ▸ ha)
      · have := h2.2 (List.nodup_append.1 h).1
        omega
abbrev idsX (X : List Rv) : List Id := X.map Rv.id
/-- block b is the map of places of these records -/
abbrev PMap (w : World) (b : Nat) (ids : List Id) (k : Nat) : Prop := w.ownsMap Tryz.prog 27 (plainElem (H := Unit) Tryz.prog 3) b k (pmap ids k)
set_option maxRecDepth 100000 in
set_option maxHeartbeats 4000000 in
theorem places_any (X : List Rv) (ao : Option Addr) (cap : Nat) (w : World) (h : RecsV w ao cap X) (hl : X.length ≤ 1000000) :
    Calls Tryz.prog 53 #[.slice ao X.length cap] w fun e w' => e = .returned (.map (some w.heap.size)) ∧ (PMap w' w.heap.size (idsX X) X.length ∧ Below w.heap.size w w') := by
  obtain ⟨hl1, hl2⟩ := h.le
  unfold maxLen at hl2
  have H := Lib.hid h
  clear h
  go_enter Tryz.func53, Tryz.ntmps53
  have hmk := run_makeMap (P := Tryz.prog) 81 w
  go_upto_region 2 with fail
  clear hmk
  obtain ⟨W, hW⟩ : ∃ W, W = w.alloc (.map #[] 0) := ⟨_, rfl⟩
  have HP := Lib.hid (show PMap W w.heap.size (idsX X) 0 by rw [hW]; exact World.ownsMap_made w _ _ _)
  have HB := Lib.hid (show Below w.heap.size w W by rw [hW]; exact (Below.refl _ _).alloc (Nat.le_refl _) _)
  rw [← hW]
  clear hW
  go_wp2_with fail
  go_loopw [4, 9] (fun _ kv wr => ∃ (k : Nat), kv = .int .i64 k ∧ k ≤ X.length ∧ PMap wr w.heap.size (idsX X) k ∧ Below w.heap.size w wr) (fun _ kv _ => X.length - (intOf kv).toNat)
  case atStart => exact ⟨0, rfl, Nat.zero_le _, HP.out, HB.out⟩
  case round =>
    obtain ⟨k, rfl, hk, hp, hb⟩ := hrel
    have HM := Lib.hid hp
    have HBR := Lib.hid hb
    clear hp hb HP HB
    have hWr := HBR.out.size
    by_cases hkl : k < X.length
    · have hii : (k : Int) < (X.length : Int) := by omega
      obtain ⟨x, hx⟩ : ∃ x, X[k]? = some x := ⟨_, List.getElem?_eq_getElem hkl⟩
      have HX := Lib.hid (show (idsX X)[k]? = some x.id by rw [List.getElem?_map, hx]; rfl)
      obtain ⟨b, off, e0, hbl, hrec⟩ := H.out.row k x hx
      have HI := Lib.hid (H.out.ok x (List.mem_of_getElem? hx)).id
      subst e0
      obtain ⟨c0, c1, c2, c3, c4, c5, c6, c7, c8, c9, c10, c11, c12, c13, c14, c15⟩ := hrec.below HBR.out hbl
      clear hx hrec
      go_upto_region 5 with fail
      obtain ⟨w1, hw1⟩ : ∃ w1, w1 = wr.alloc (recO x) := ⟨_, rfl⟩
      have HB1 := Lib.hid (show Below w.heap.size w w1 by rw [hw1]; exact HBR.out.alloc hWr _)
      have HM1 := Lib.hid (show PMap w1 w.heap.size (idsX X) k by rw [hw1]; exact HM.out.alloc _)
      have hba : w1.heap[wr.heap.size]? = some (recO x) := by rw [hw1]; exact heap_alloc_new wr _
      rw [← hw1]
      clear hw1 c0 c1 c2 c3 c4 c5 c6 c7 c8 c9 c10 c11 c12 c13 c14 c15
      obtain ⟨c0, c1, _⟩ := box16 hba
      have hs1 := HB1.out.size
      have HV := Lib.hid (plainElem_int (H := Unit) Tryz.underlying3 (wf_of64 (n := (k : Int)) ⟨by omega, by omega⟩))
      go_wp2_with (at_mapUpdate; refine wpList_mapUpdate_own _ rfl (.tmp 14) (.tmp 16) (.tmp 17) 81 rfl 27 3 id_keyed Tryz.underlying81 _ w.heap.size k (pmap (idsX X) k) rfl HM1.out (by unfold maxLen; omega) (idV x.id) (.int .i64 k) (klI x.id) rfl rfl (key_id x.id HI.out) (.lit (.int .i64 k)) [] HV.out ?_
                   intro w2 hown2 hgrow2
                   have HM2 := Lib.hid (show PMap w2 w.heap.size (idsX X) (k + 1) by unfold PMap; rw [pmap_succ HX.out]; exact hown2)
                   have HB2 := Lib.hid (HB1.out.grown hgrow2 hs1 (fun j e => by cases e; exact Nat.le_refl _))
                   clear hown2 hgrow2)
      clear c0 c1
      go_roundw
      case rel => exact ⟨k + 1, by go_num, by omega, HM2.out, HB2.out⟩
      case measure => simp [intOf]; omega
    · obtain rfl : k = X.length := by omega
      have hii : ¬ (X.length : Int) < (X.length : Int) := by omega
      go_wp2_with fail
      go_ret
      exact ⟨rfl, HM.out, HBR.out⟩
end Go.Proofs.YtndfhejfhfhbdaaGreatDoor.O
