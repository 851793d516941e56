/- Several texts in one. -/
import Derived.Test.YtndfhejfhfhbdaaGreatDoorOrdU
import Derived.Maps.Keyed
import Derived.Maps.Own
import Derived.Maps.OwnSet
import Derived.Maps.Views
import Derived.DeepKeys4
import Derived.Maps.RangeWalk

/- order.names, order.Within. -/
namespace Go.Proofs.YtndfhejfhfhbdaaGreatDoor.O
open Go.RowKit Go.Proofs.YtndfhejfhfhbdaaGreatDoor.M Go.BigFrame
set_option linter.unusedVariables false
set_option linter.unusedSimpArgs false

set_option maxRecDepth 100000 in
set_option maxHeartbeats 4000000 in
theorem names_any (X : List Rv) (ao : Option Addr) (cap : Nat) (w : World) (h : RecsV w ao cap X) (hl : X.length ≤ 1000000) :
    Calls Tryz.prog 58 #[.slice ao X.length cap] w fun e w' => ∃ oo oc, e = .returned (.slice oo X.length oc) ∧ (OwnL w' w.heap.size oo oc (X.map Rv.id) ∧ Below w.heap.size w w') := by
  obtain ⟨hl1, hl2⟩ := h.le
  unfold maxLen at hl2
  obtain ⟨i0, hi, hz0, hz1, hz2⟩ := info_parts info_id
  have H := Lib.hid h
  clear h
  go_enter Tryz.func58, Tryz.ntmps58
  go_wp2_with fail
  go_loopw [3, 8] (fun ov kv wr => ∃ (k : Nat) (M : List Id) (oo : Option Addr) (oc : Nat), ov = .slice oo M.length oc ∧ kv = .int .i64 k ∧ k ≤ X.length ∧ M = (X.take k).map Rv.id ∧ OwnL wr w.heap.size oo oc M ∧ Below w.heap.size w wr) (fun _ kv _ => X.length - (intOf kv).toNat)
  case atStart => exact ⟨0, [], none, 0, rfl, rfl, Nat.zero_le _, by simp, World.ownsRow_nil _ _ _ _, Below.refl _ _⟩
  case round =>
    obtain ⟨k, M, oo, oc, rfl, rfl, hk, hM, hown, hb⟩ := hrel
    have HM := Lib.hid hM
    have HOW := Lib.hid hown
    have HBR := Lib.hid hb
    have hMl : M.length = k := by rw [hM, List.length_map, List.length_take]; omega
    have hMl2 : M.length ≤ 1000000 := by omega
    clear hM hown hb
    have hWr := HBR.out.size
    by_cases hkl : k < X.length
    · have hii : (k : Int) < (X.length : Int) := by omega
      obtain ⟨x, hx⟩ : ∃ x, X[k]? = some x := ⟨_, List.getElem?_eq_getElem hkl⟩
      have HX := Lib.hid hx
      obtain ⟨b, off, e0, hbl, hrec⟩ := H.out.row k x hx
      subst e0
      obtain ⟨c0, c1, c2, c3, c4, c5, c6, c7, c8, c9, c10, c11, c12, c13, c14, c15⟩ := hrec.below HBR.out hbl
      have HL := Lib.hid hMl
      have HN := Lib.hid (show M ++ [x.id] = (X.take (k + 1)).map Rv.id by rw [HM.out, List.take_add_one, hx]; simp)
      clear hx hMl hrec
      go_upto_region 5 with fail
      obtain ⟨w1, hw1⟩ : ∃ w1, w1 = wr.alloc (recO x) := ⟨_, rfl⟩
      have HB1 := Lib.hid (show Below w.heap.size w w1 by rw [hw1]; exact HBR.out.alloc hWr _)
      have HO1 := Lib.hid (show OwnL w1 w.heap.size oo oc M by rw [hw1]; exact HOW.out.alloc _)
      have hba : w1.heap[wr.heap.size]? = some (recO x) := by rw [hw1]; exact heap_alloc_new wr _
      rw [← hw1]
      clear hw1 c0 c1 c2 c3 c4 c5 c6 c7 c8 c9 c10 c11 c12 c13 c14 c15
      obtain ⟨c0, c1, _⟩ := box16 hba
      have hs1 := HB1.out.size
      go_wp2_with (refine wpList_app idC 2 (fun _ => rfl) (by decide) idC_one (by rfl) (.tmp 12) (.tmp 15) 25 (by rfl) w.heap.size 27 i0 _ 16 Tryz.underlying25 hi hz0 hz1 hz2 (by decide) rfl oo oc M x.id #[.int .i64 (x.id).r, .int .i64 (x.id).n] rfl (by rfl) (by exact HO1.out) (by rfl) (by omega) (by omega) ?_; intro oo' oc' w7 hown hmod hbel; have HOW7 := Lib.hid hown; have HBE7 := Lib.hid hbel; clear hown hmod hbel)
      clear c0 c1
      go_roundw
      case rel => exact ⟨k + 1, M ++ [x.id], oo', oc', by simp, by go_num, by omega, HN.out, HOW7.out, HB1.out.trans HBE7.out⟩
      case measure => simp [intOf]; omega
    · obtain rfl : k = X.length := by omega
      have hii : ¬ (X.length : Int) < (X.length : Int) := by omega
      have HE := Lib.hid (show M = X.map Rv.id by rw [HM.out, List.take_length])
      have HFIN := Lib.hid (show OwnL wr w.heap.size oo oc M ∧ Below w.heap.size w wr from ⟨HOW.out, HBR.out⟩)
      have HL := Lib.hid hMl
      clear hMl
      go_wp2_with fail
      go_ret
      refine ⟨oo, oc, ret_val (by rw [← HL.out]; rfl), ?_⟩
      rw [← HE.out]
      exact HFIN.out
set_option maxRecDepth 100000 in
set_option maxHeartbeats 4000000 in
theorem Within_any (X : List Rv) (ao : Option Addr) (cap : Nat) (w : World) (h : RecsV w ao cap X) (hl : X.length ≤ 20) :
    Calls Tryz.prog 23 #[.slice ao X.length cap] w fun e w' => ∃ (oo : Option Addr) (oc : Nat) (m : List Rv), e = .returned (.slice oo X.length oc) ∧ (m.Perm X ∧ m.Pairwise (fun a b => wlt b.nd a.nd = false) ∧ OwnL w' w.heap.size oo oc (m.map Rv.id) ∧ Below w.heap.size w w') := by
  have H := Lib.hid h
  clear h
  go_enter Tryz.func23, Tryz.ntmps23
  go_wp2_with fail
  refine (valuesR_any _ _ _ _).mono ?_
  rintro e w1 ⟨rfl, hw1⟩
  have hB1 : Below w.heap.size w w1 := by rw [hw1]; exact (Below.refl _ _).alloc (Nat.le_refl _) _
  have hb1 : w1.heap[w.heap.size]? = some (.cells #[.slice ao X.length cap] 28 (0, 0)) := by rw [hw1]; exact heap_alloc_new w _
  have hc1 : w1.cell? ⟨w.heap.size, 0, none⟩ = some (.slice ao X.length cap) := by simp [World.cell?, hb1]
  have HB1 := Lib.hid hB1
  have HC := Lib.hid (sortedStable_any w.heap.size ao cap X w1 hl (M.heap_lt hb1) hc1 (H.out.below hB1))
  clear hw1 hB1 hb1 hc1
  go_wp2_with fail
  refine HC.out.mono ?_
  rintro e w2 ⟨oo, oc, m, rfl, h1, h2, h3, h4, h5⟩
  have HB2 := Lib.hid (HB1.out.trans (h5.mono HB1.out.size))
  have HM := Lib.hid (And.intro h1 h2)
  have HML := Lib.hid h3
  have HV := Lib.hid (RecsV.of_own h4 (fun x hx => ((H.out.ok x (h1.mem_iff.1 hx)).below HB1.out).below (h5)))
  have HN := Lib.hid (names_any m oo oc w2 HV.out (by omega))
  rw [h3] at HN
  clear h1 h2 h3 h4 h5 HC
  go_wp2_with fail
  refine HN.out.mono ?_
  rintro e w3 ⟨oo3, oc3, rfl, h6, h7⟩
  have HF := Lib.hid (show OwnL w3 w.heap.size oo3 oc3 (m.map Rv.id) ∧ Below w.heap.size w w3 from ⟨own_base h6 (fun k hk => Nat.le_trans HB2.out.size (h6.lt k hk).1), HB2.out.trans (h7.mono HB2.out.size)⟩)
  clear h6 h7 HN
  go_wp2_with fail
  go_ret
  exact ⟨oo3, oc3, m, rfl, HM.out.1, HM.out.2, HF.out⟩
end Go.Proofs.YtndfhejfhfhbdaaGreatDoor.O

/- order.places: where each record stands. -/
namespace Go.Proofs.YtndfhejfhfhbdaaGreatDoor.O
open Go.RowKit Go.Proofs.YtndfhejfhfhbdaaGreatDoor.M Go.BigFrame
set_option linter.unusedVariables false
set_option linter.unusedSimpArgs false

theorem id_laid : laidOutB Tryz.prog = true := by kernel_rfl
theorem id_law : WideMaps.KeyLaw Tryz.prog 27 := deep_law_laid id_laid (m := 2) (by omega) (of_decide_eq_true (by kernel_rfl)) (by kernel_rfl) (by rw [Tryz.underlying27])
theorem id_keyed : Maps.Keyed Tryz.prog 27 := .of_law id_law
def klI (i : Id) : Lit := .string (keyBytes [.int .i64 i.r, .int .i64 i.n])
theorem wf_of64 {n : Int} (h : -9223372036854775808 ≤ n ∧ n ≤ 9223372036854775807) : (Lit.int .i64 n).wf = true := by
  simp only [Lit.wf, Bool.and_eq_true, decide_eq_true_eq]
  exact h
theorem key_id (i : Id) (hi : IdI i) : keyOf Tryz.prog 27 (idV i) = some (klI i) := by
  obtain ⟨h1, h2⟩ := hi
  unfold P.InI at h1 h2
  simp [keyOf, Tryz.underlying27, Value.formed, Value.cells, klI]
  have w1 : (Lit.int .i64 i.r).wf = true := wf_of64 h1
  have w2 : (Lit.int .i64 i.n).wf = true := wf_of64 h2
  have hc : Tryz.prog.cellsOf 27 = 2 := by kernel_rfl
  have hc3 : Tryz.prog.cellsOf 3 = 1 := by kernel_rfl
  refine ⟨⟨by kernel_rfl, hc.symm⟩, [.int .i64 i.r, .int .i64 i.n], ?_, rfl⟩
  have e0 : ∀ (d : Nat) (x : Int), (Lit.int .i64 x).wf = true → Tryz.prog.keyLits (d + 1) 3 [.int .i64 x] = some [.int .i64 x] := fun d x hx => by
    unfold Program.keyLits
    rw [Tryz.underlying3]
    simp [hx]
  have e1 : ∀ d : Nat, Tryz.prog.keyLits (d + 1 + 1) 27 [.int .i64 i.r, .int .i64 i.n] = some [.int .i64 i.r, .int .i64 i.n] := fun d => by
    unfold Program.keyLits
    rw [Tryz.underlying27]
    simp [hc, hc3, e0 d _ w1, e0 d _ w2]
  exact e1 218
theorem klI_key (i : Id) : WideAt.IsKeyLit (klI i) := trivial
theorem klI_inj {i j : Id} (hi : IdI i) (hj : IdI j) (h : klI i = klI j) : i = j := by
  have := id_keyed.inj (key_id i hi) (h ▸ key_id j hj)
  simp only [Value.agg.injEq, Array.mk.injEq, List.cons.injEq, Value.int.injEq, true_and, and_true] at this
  exact Id.eq_of this.1 this.2
/-- the map of places, when k records have been walked -/
def pmap (ids : List Id) : Nat → DataW Unit
  | 0 => .map []
  | k + 1 => (pmap ids k).put (klI (ids.getD k ⟨0, 0⟩)) (.lit (.int .i64 (k : Int)))
theorem pmap_succ {ids : List Id} {k : Nat} {i : Id} (h : ids[k]? = some i) : pmap ids (k + 1) = (pmap ids k).put (klI i) (.lit (.int .i64 (k : Int))) := by
  show (pmap ids k).put (klI (ids.getD k ⟨0, 0⟩)) _ = _
  rw [List.getD, h]; rfl
theorem pmap_tidy (ids : List Id) : ∀ k, Maps.Tidy (pmap ids k)
  | 0 => Maps.tidy_empty
  | k + 1 => (pmap_tidy ids k).put (klI_key _) _
theorem pmap_has {ids : List Id} (hok : ∀ x ∈ ids, IdI x) {i : Id} (hi : IdI i) : ∀ k, k ≤ ids.length → Maps.has (pmap ids k) (klI i) = decide (i ∈ ids.take k)
  | 0, _ => by simp [pmap, Maps.has]
  | k + 1, hk => by
    obtain ⟨y, hy⟩ : ∃ y, ids[k]? = some y := ⟨_, List.getElem?_eq_getElem (by omega)⟩
    have ih := pmap_has hok hi k (by omega)
    rw [pmap_succ hy, List.take_add_one, hy]
    by_cases e : i = y
    · subst e
      rw [Maps.has_put_same (pmap_tidy ids k).isMap (klI_key _)]
      simp
    · rw [Maps.has_put_other (fun h => e (klI_inj hi (hok y (List.mem_of_getElem? hy)) h)), ih]
      simp [e]
theorem pmap_at {ids : List Id} (hok : ∀ x ∈ ids, IdI x) (hn : ids.Nodup) {i : Id} {j : Nat} (hj : ids[j]? = some i) (z : DataW Unit) : ∀ k, j < k → k ≤ ids.length → (pmap ids k).atKey (klI i) z = .lit (.int .i64 (j : Int))
  | 0, h, _ => by omega
  | k + 1, h, hk => by
    obtain ⟨y, hy⟩ : ∃ y, ids[k]? = some y := ⟨_, List.getElem?_eq_getElem (by omega)⟩
    rw [pmap_succ hy]
    by_cases e : j = k
    · subst e
      rw [hj] at hy
      cases hy
      rw [Maps.atKey_put_same (pmap_tidy ids j).isMap (klI_key _)]
    · rw [Maps.atKey_put_other (fun h2 => e ?_)]
      · exact pmap_at hok hn hj z k (by omega) (by omega)
      · have := klI_inj (hok i (List.mem_of_getElem? hj)) (hok y (List.mem_of_getElem? hy)) h2
        subst this
        exact (List.getElem?_inj (List.getElem?_eq_some_iff.1 hj).1 hn).1 (hj.trans hy.symm)
theorem pmap_size {ids : List Id} (hok : ∀ x ∈ ids, IdI x) : ∀ k, k ≤ ids.length → Maps.size (pmap ids k) ≤ k ∧ (Maps.size (pmap ids k) = k ↔ (ids.take k).Nodup)
  | 0, _ => by simp [pmap, Maps.size]
  | k + 1, hk => by
    obtain ⟨y, hy⟩ : ∃ y, ids[k]? = some y := ⟨_, List.getElem?_eq_getElem (by omega)⟩
    obtain ⟨h1, h2⟩ := pmap_size hok k (by omega)
    rw [pmap_succ hy, Maps.size_put (pmap_tidy ids k), pmap_has hok (hok y (List.mem_of_getElem? hy)) k (by omega), List.take_add_one, hy]
    by_cases e : y ∈ ids.take k
    · rw [if_pos (by simpa using e)]
      refine ⟨by omega, fun h => by omega, fun h => ?_⟩
      exact absurd rfl ((List.nodup_append.1 h).2.2 y e y (by simp))
    · rw [if_neg (by simpa using e)]
      refine ⟨by omega, fun h => ?_, fun h => ?_⟩
      · refine List.nodup_append.2 ⟨h2.1 (by omega), by simp, fun a ha b hb => ?_⟩
        simp at hb
        subst hb
        exact fun e2 => e (e2 ▸ ha)
      · have := h2.2 (List.nodup_append.1 h).1
        omega
abbrev idsX (X : List Rv) : List Id := X.map Rv.id
/-- block b is the map of places of these records -/
abbrev PMap (w : World) (b : Nat) (ids : List Id) (k : Nat) : Prop := w.ownsMap Tryz.prog 27 (plainElem (H := Unit) Tryz.prog 3) b k (pmap ids k)
set_option maxRecDepth 100000 in
set_option maxHeartbeats 4000000 in
theorem places_any (X : List Rv) (ao : Option Addr) (cap : Nat) (w : World) (h : RecsV w ao cap X) (hl : X.length ≤ 1000000) :
    Calls Tryz.prog 53 #[.slice ao X.length cap] w fun e w' => e = .returned (.map (some w.heap.size)) ∧ (PMap w' w.heap.size (idsX X) X.length ∧ Below w.heap.size w w') := by
  obtain ⟨hl1, hl2⟩ := h.le
  unfold maxLen at hl2
  have H := Lib.hid h
  clear h
  go_enter Tryz.func53, Tryz.ntmps53
  have hmk := run_makeMap (P := Tryz.prog) 81 w
  go_upto_region 2 with fail
  clear hmk
  obtain ⟨W, hW⟩ : ∃ W, W = w.alloc (.map #[] 0) := ⟨_, rfl⟩
  have HP := Lib.hid (show PMap W w.heap.size (idsX X) 0 by rw [hW]; exact World.ownsMap_made w _ _ _)
  have HB := Lib.hid (show Below w.heap.size w W by rw [hW]; exact (Below.refl _ _).alloc (Nat.le_refl _) _)
  rw [← hW]
  clear hW
  go_wp2_with fail
  go_loopw [4, 9] (fun _ kv wr => ∃ (k : Nat), kv = .int .i64 k ∧ k ≤ X.length ∧ PMap wr w.heap.size (idsX X) k ∧ Below w.heap.size w wr) (fun _ kv _ => X.length - (intOf kv).toNat)
  case atStart => exact ⟨0, rfl, Nat.zero_le _, HP.out, HB.out⟩
  case round =>
    obtain ⟨k, rfl, hk, hp, hb⟩ := hrel
    have HM := Lib.hid hp
    have HBR := Lib.hid hb
    clear hp hb HP HB
    have hWr := HBR.out.size
    by_cases hkl : k < X.length
    · have hii : (k : Int) < (X.length : Int) := by omega
      obtain ⟨x, hx⟩ : ∃ x, X[k]? = some x := ⟨_, List.getElem?_eq_getElem hkl⟩
      have HX := Lib.hid (show (idsX X)[k]? = some x.id by rw [List.getElem?_map, hx]; rfl)
      obtain ⟨b, off, e0, hbl, hrec⟩ := H.out.row k x hx
      have HI := Lib.hid (H.out.ok x (List.mem_of_getElem? hx)).id
      subst e0
      obtain ⟨c0, c1, c2, c3, c4, c5, c6, c7, c8, c9, c10, c11, c12, c13, c14, c15⟩ := hrec.below HBR.out hbl
      clear hx hrec
      go_upto_region 5 with fail
      obtain ⟨w1, hw1⟩ : ∃ w1, w1 = wr.alloc (recO x) := ⟨_, rfl⟩
      have HB1 := Lib.hid (show Below w.heap.size w w1 by rw [hw1]; exact HBR.out.alloc hWr _)
      have HM1 := Lib.hid (show PMap w1 w.heap.size (idsX X) k by rw [hw1]; exact HM.out.alloc _)
      have hba : w1.heap[wr.heap.size]? = some (recO x) := by rw [hw1]; exact heap_alloc_new wr _
      rw [← hw1]
      clear hw1 c0 c1 c2 c3 c4 c5 c6 c7 c8 c9 c10 c11 c12 c13 c14 c15
      obtain ⟨c0, c1, _⟩ := box16 hba
      have hs1 := HB1.out.size
      have HV := Lib.hid (plainElem_int (H := Unit) Tryz.underlying3 (wf_of64 (n := (k : Int)) ⟨by omega, by omega⟩))
      go_wp2_with (at_mapUpdate; refine wpList_mapUpdate_own _ rfl (.tmp 14) (.tmp 16) (.tmp 17) 81 rfl 27 3 id_keyed Tryz.underlying81 _ w.heap.size k (pmap (idsX X) k) rfl HM1.out (by unfold maxLen; omega) (idV x.id) (.int .i64 k) (klI x.id) rfl rfl (key_id x.id HI.out) (.lit (.int .i64 k)) [] HV.out ?_
                   intro w2 hown2 hgrow2
                   have HM2 := Lib.hid (show PMap w2 w.heap.size (idsX X) (k + 1) by unfold PMap; rw [pmap_succ HX.out]; exact hown2)
                   have HB2 := Lib.hid (HB1.out.grown hgrow2 hs1 (fun j e => by cases e; exact Nat.le_refl _))
                   clear hown2 hgrow2)
      clear c0 c1
      go_roundw
      case rel => exact ⟨k + 1, by go_num, by omega, HM2.out, HB2.out⟩
      case measure => simp [intOf]; omega
    · obtain rfl : k = X.length := by omega
      have hii : ¬ (X.length : Int) < (X.length : Int) := by omega
      go_wp2_with fail
      go_ret
      exact ⟨rfl, HM.out, HBR.out⟩
end Go.Proofs.YtndfhejfhfhbdaaGreatDoor.O

/- The engine's maps in memory. -/
namespace Go.Proofs.YtndfhejfhfhbdaaGreatDoor.O
open Go.RowKit Go.Proofs.YtndfhejfhfhbdaaGreatDoor.M Go.BigFrame Go.Maps
set_option linter.unusedVariables false
set_option linter.unusedSimpArgs false

abbrev tId : TypeId := 27
abbrev tMR : TypeId := 86
abbrev tMB : TypeId := 87
set_option maxRecDepth 100000 in
/-- what reads as an id is one -/
theorem key_id_inv {key : Value} {kl : Lit} (h : keyOf Tryz.prog tId key = some kl) : ∃ i, key = idV i ∧ kl = klI i ∧ IdI i := by
  have hc : Tryz.prog.cellsOf 27 = 2 := by kernel_rfl
  have hc3 : Tryz.prog.cellsOf 3 = 1 := by kernel_rfl
  have h0 : ∀ (d : Nat) (v : Value) (l : List Lit), Tryz.prog.keyLits (d + 1) 3 [v] = some l → ∃ x : Int, v = .int .i64 x ∧ (Lit.int .i64 x).wf = true ∧ l = [.int .i64 x] := fun d v l hv => by
    unfold Program.keyLits at hv
    rw [Tryz.underlying3] at hv
    cases v <;> simp at hv
    obtain ⟨⟨rfl, hw⟩, rfl⟩ := hv
    exact ⟨_, rfl, hw, rfl⟩
  cases key with
  | agg cs =>
    simp only [keyOf, Tryz.underlying27, Value.formed, hc] at h
    split at h
    · rename_i hk
      simp only [Bool.and_eq_true, beq_iff_eq] at hk
      obtain ⟨l⟩ := cs
      have hl : l.length = 2 := by simpa using hk.2
      match l, hl with
      | [a, b], _ =>
        obtain ⟨ls, hls, rfl⟩ := Option.map_eq_some_iff.1 h
        have hls : Tryz.prog.keyLits (219 + 1) 27 [a, b] = some ls := by simpa [Value.cells] using hls
        unfold Program.keyLits at hls
        rw [Tryz.underlying27] at hls
        simp [hc, hc3, Option.bind_eq_some_iff] at hls
        obtain ⟨la, ha, lb, ⟨lc, hb, rfl⟩, rfl⟩ := hls
        obtain ⟨x, rfl, hx, rfl⟩ := h0 218 _ _ ha
        obtain ⟨y, rfl, hy, rfl⟩ := h0 218 _ _ hb
        refine ⟨⟨x, y⟩, rfl, by simp [klI], ?_, ?_⟩
        · simp only [Lit.wf, Bool.and_eq_true, decide_eq_true_eq] at hx
          exact hx
        · simp only [Lit.wf, Bool.and_eq_true, decide_eq_true_eq] at hy
          exact hy
    · cases h
  | _ => simp [keyOf, Tryz.underlying27, Value.formed] at h
theorem mods_turned {w w1 : World} {b : Nat} (h : w.mapTurned w1 b) : M.Mods (fun k => k = b) w w1 :=
  ⟨h.grown.os, h.grown.tape, h.grown.output, h.grown.size, fun k hk hn => h.grown.block k hk (fun e => hn (Option.some.inj e))⟩

/-! A set of ids: a map to true. -/
noncomputable abbrev boolE : Value → Option (DataW Unit × List MemPlace) := plainElem Tryz.prog 4
theorem boolE_mk (x : Bool) : boolE (.bool x) = some (.lit (.bool x), []) := plainElem_bool Tryz.underlying4 x
set_option maxRecDepth 100000 in
theorem boolE_inv {v : Value} {x : Bool} {ps : List MemPlace} (h : boolE v = some (.lit (.bool x), ps)) : v = .bool x := by
  unfold boolE plainElem at h
  rw [Tryz.underlying4] at h
  cases v <;> simp at h
  rw [h.1]
structure BRel (D : DataW Unit) (O : List Id) : Prop where
  has : ∀ i, IdI i → Maps.has D (klI i) = decide (i ∈ O)
  at_ : ∀ i, IdI i → D.atKey (klI i) (.lit (.bool false)) = .lit (.bool (decide (i ∈ O)))
  sz : Maps.size D = O.length
theorem BRel.nil : BRel (.map []) [] := ⟨fun i _ => by simp [Maps.has], fun i _ => by simp; rfl, rfl⟩
theorem BRel.put {D : DataW Unit} {O : List Id} {i : Id} (h : BRel D O) (hm : Maps.Tidy D) (hi : IdI i) (hn : i ∉ O) : BRel (D.put (klI i) (.lit (.bool true))) (O ++ [i]) := by
  refine ⟨?_, ?_, ?_⟩
  · intro k hk
    by_cases e : k = i
    · subst e
      rw [has_put_same hm.isMap (klI_key _)]; simp
    · rw [has_put_other (fun e2 => e (klI_inj hk hi e2)), h.has k hk]
      simp [e]
  · intro k hk
    by_cases e : k = i
    · subst e
      rw [atKey_put_same hm.isMap (klI_key _)]; simp
    · rw [atKey_put_other (fun e2 => e (klI_inj hk hi e2)), h.at_ k hk]
      simp [e]
  · rw [Maps.size_put hm, h.has i hi, h.sz]
    simp [hn]
/-- how many entries a map has -/
def mapSz (w : World) (b : Nat) : Nat := match w.heap[b]? with
  | some (.map es _) => es.size
  | _ => 0
/-- block b is a set of at most n entries -/
def MapB (w : World) (b n : Nat) (O : List Id) : Prop := ∃ D, w.ownsMap Tryz.prog tId boolE b n D ∧ BRel D O
theorem MapB.lt {w : World} {b n : Nat} {O : List Id} (h : MapB w b n O) : b < w.heap.size := by
  obtain ⟨D, h1, _⟩ := h
  exact h1.lt
theorem MapB.mono {w : World} {b n m : Nat} {O : List Id} (h : MapB w b n O) (hm : n ≤ m) : MapB w b m O := by
  obtain ⟨D, h1, h2⟩ := h
  exact ⟨D, h1.mono hm, h2⟩
theorem MapB.keep {w w1 : World} {b n : Nat} {O : List Id} {S : Nat → Prop} (h : MapB w b n O) (hm : M.Mods S w w1) (hn : ¬ S b) : MapB w1 b n O := by
  have hlt := h.lt
  obtain ⟨D, ⟨es, clock, hb, r⟩, h2⟩ := h
  exact ⟨D, ⟨es, clock, (hm.block b hlt hn).trans hb, r⟩, h2⟩
theorem MapB.below {w w1 : World} {b n : Nat} {O : List Id} (h : MapB w b n O) (hm : Below w.heap.size w w1) : MapB w1 b n O :=
  h.keep (S := fun _ => False) (M.Mods.of_below hm) (fun h => h)
theorem MapB.made (w : World) : MapB (w.alloc (.map #[] 0)) w.heap.size 0 [] := ⟨.map [], World.ownsMap_made _ _ _ _, BRel.nil⟩
theorem MapB.sz {w : World} {b n : Nat} {O : List Id} (h : MapB w b n O) : mapSz w b = O.length := by
  obtain ⟨D, ⟨es, clock, hb, _, _, rfl⟩, h2⟩ := h
  rw [← h2.sz]
  unfold mapSz
  rw [hb]
  simp [Maps.size, length_sorted]
theorem MapB.look {w : World} {b n : Nat} {O : List Id} (h : MapB w b n O) {i : Id} (hi : IdI i) : (Instr.lookup tMB (.map (some b)) (idV i) false).run Tryz.prog w = .ok (.bool (decide (i ∈ O))) w := by
  obtain ⟨D, h1, h2⟩ := h
  obtain ⟨v, ps, hrun, hv⟩ := h1.lookup id_keyed Tryz.underlying87 (z := .bool false) (by kernel_rfl) (boolE_mk false) (key_id i hi)
  rw [h2.at_ i hi] at hv
  rw [hrun, boolE_inv hv]
theorem MapB.put {w : World} {b n : Nat} {O : List Id} (h : MapB w b n O) (hn : n < maxLen) {i : Id} (hi : IdI i) (hx : i ∉ O) :
    ∃ w1, (Instr.mapUpdate tMB (.map (some b)) (idV i) (.bool true)).run Tryz.prog w = .ok () w1 ∧ MapB w1 b (n + 1) (O ++ [i]) ∧ M.Mods (fun k => k = b) w w1 := by
  obtain ⟨D, h1, h2⟩ := h
  obtain ⟨w1, hrun, r1, r2⟩ := h1.store id_keyed Tryz.underlying87 hn (key_id i hi) (boolE_mk true)
  exact ⟨w1, hrun, ⟨_, r1, h2.put (h1.tidy id_keyed) hi hx⟩, mods_turned r2⟩

/-! Records by their ids. -/
def zeroR : Rv := ⟨⟨0, 0⟩, 0, ⟨0, 0⟩, ⟨0, 0⟩, ⟨0, 0, 0, P.nul, P.nul, 0⟩, [], 0, 0, none, 0⟩
open Classical in
noncomputable def recE (v : Value) : Option (DataW Value × List MemPlace) := if ∃ x : Rv, v = recV x then some (.held v, []) else none
theorem recE_mk (x : Rv) : recE (recV x) = some (.held (recV x), []) := if_pos ⟨x, rfl⟩
theorem recE_inv {v : Value} {y : DataW Value × List MemPlace} (h : recE v = some y) : ∃ x, v = recV x ∧ y = (.held (recV x), []) := by
  unfold recE at h
  split at h
  · rename_i hx
    obtain ⟨x, rfl⟩ := hx
    exact ⟨x, rfl, (Option.some.inj h).symm⟩
  · cases h
structure RRel (D : DataW Value) (W : List Rv) : Prop where
  has : ∀ i, IdI i → Maps.has D (klI i) = decide (i ∈ idsX W)
  at_ : ∀ x ∈ W, ∀ z, D.atKey (klI x.id) z = .held (recV x)
/-- what a look-up gives -/
def lookR (W : List Rv) (i : Id) : Rv := (W.find? fun x => decide (x.id = i)).getD zeroR
theorem RRel.look {D : DataW Value} {W : List Rv} (h : RRel D W) {i : Id} (hi : IdI i) : D.atKey (klI i) (.held (recV zeroR)) = .held (recV (lookR W i)) := by
  unfold lookR
  cases hf : W.find? (fun x => decide (x.id = i)) with
  | none =>
    have hn : i ∉ idsX W := fun hm => by
      obtain ⟨x, hx, e⟩ := List.mem_map.1 hm
      have := List.find?_eq_none.1 hf x hx
      simp [e] at this
    exact Maps.atKey_of_not_has (by rw [h.has i hi]; simpa using hn) _
  | some x =>
    have h1 := List.mem_of_find?_eq_some hf
    have h2 : x.id = i := by have := List.find?_some hf; simpa using this
    subst h2
    exact h.at_ x h1 _
theorem RRel.nil : RRel (.map []) [] := ⟨fun i _ => by simp [Maps.has], fun x hx => by cases hx⟩
theorem RRel.put {D : DataW Value} {W : List Rv} {x : Rv} (h : RRel D W) (hm : IsMap D) (hi : IdI x.id) (hok : ∀ y ∈ W, IdI y.id) (hn : x.id ∉ idsX W) : RRel (D.put (klI x.id) (.held (recV x))) (W ++ [x]) := by
  constructor
  · intro k hk
    by_cases e : k = x.id
    · subst e
      rw [has_put_same hm (klI_key _)]; simp
    · rw [has_put_other (fun e2 => e (klI_inj hk hi e2)), h.has k hk]
      simp [e]
  · intro y hy z
    rcases List.mem_append.1 hy with hy | hy
    · have hne : y.id ≠ x.id := fun e => hn (e ▸ List.mem_map.2 ⟨y, hy, rfl⟩)
      rw [atKey_put_other (fun e2 => hne (klI_inj (hok y hy) hi e2))]
      exact h.at_ y hy z
    · rw [List.mem_singleton.1 hy, atKey_put_same hm (klI_key _)]
theorem RRel.del {D : DataW Value} {W : List Rv} {j : Id} (h : RRel D W) (hj : IdI j) (hok : ∀ y ∈ W, IdI y.id) : RRel (D.del (klI j)) (W.filter fun x => !decide (x.id = j)) := by
  constructor
  · intro k hk
    by_cases e : k = j
    · subst e
      rw [has_del_same]
      symm
      rw [decide_eq_false_iff_not]
      intro hm
      obtain ⟨x, hx, e⟩ := List.mem_map.1 hm
      have := (List.mem_filter.1 hx).2
      simp [e] at this
    · rw [has_del_other (fun e2 => e (klI_inj hk hj e2)), h.has k hk]
      congr 1
      rw [eq_iff_iff]
      constructor
      · intro hm
        obtain ⟨x, hx, rfl⟩ := List.mem_map.1 hm
        exact List.mem_map.2 ⟨x, List.mem_filter.2 ⟨hx, by simpa using e⟩, rfl⟩
      · intro hm
        obtain ⟨x, hx, rfl⟩ := List.mem_map.1 hm
        exact List.mem_map.2 ⟨x, (List.mem_filter.1 hx).1, rfl⟩
  · intro y hy z
    obtain ⟨hy1, hy2⟩ := List.mem_filter.1 hy
    have hne : y.id ≠ j := by simpa using hy2
    rw [atKey_del_other (fun e2 => hne (klI_inj (hok y hy1) hj e2))]
    exact h.at_ y hy1 z
/-- block b is a map of at most n entries: these records by their ids -/
structure MapR (w : World) (b n : Nat) (W : List Rv) : Prop where
  own : ∃ D, w.ownsMap Tryz.prog tId recE b n D ∧ RRel D W
  nd : (idsX W).Nodup
  ok : ∀ x ∈ W, IdI x.id
theorem MapR.lt {w : World} {b n : Nat} {W : List Rv} (h : MapR w b n W) : b < w.heap.size := by
  obtain ⟨D, h1, _⟩ := h.own
  exact h1.lt
theorem MapR.mono {w : World} {b n m : Nat} {W : List Rv} (h : MapR w b n W) (hm : n ≤ m) : MapR w b m W := by
  obtain ⟨D, h1, h2⟩ := h.own
  exact ⟨⟨D, h1.mono hm, h2⟩, h.nd, h.ok⟩
theorem MapR.keep {w w1 : World} {b n : Nat} {W : List Rv} {S : Nat → Prop} (h : MapR w b n W) (hm : M.Mods S w w1) (hn : ¬ S b) : MapR w1 b n W := by
  have hlt := h.lt
  obtain ⟨D, ⟨es, clock, hb, r⟩, h2⟩ := h.own
  exact ⟨⟨D, ⟨es, clock, (hm.block b hlt hn).trans hb, r⟩, h2⟩, h.nd, h.ok⟩
theorem MapR.below {w w1 : World} {b n : Nat} {W : List Rv} (h : MapR w b n W) (hm : Below w.heap.size w w1) : MapR w1 b n W :=
  h.keep (S := fun _ => False) (M.Mods.of_below hm) (fun h => h)
theorem MapR.made (w : World) : MapR (w.alloc (.map #[] 0)) w.heap.size 0 [] := ⟨⟨.map [], World.ownsMap_made _ _ _ _, RRel.nil⟩, .nil, fun x h => by cases h⟩
theorem MapR.look_ok {w : World} {b n : Nat} {W : List Rv} (h : MapR w b n W) {i : Id} (hi : IdI i) : (Instr.lookup tMR (.map (some b)) (idV i) true).run Tryz.prog w = .ok (.tuple #[recV (lookR W i), .bool (decide (i ∈ idsX W))]) w := by
  obtain ⟨D, h1, h2⟩ := h.own
  obtain ⟨v, ps, hrun, hv⟩ := h1.look_ok id_keyed Tryz.underlying86 (z := recV zeroR) (by kernel_rfl) (recE_mk zeroR) (key_id i hi)
  rw [h2.look hi] at hv
  obtain ⟨x, rfl, hx⟩ := recE_inv hv
  have e : recV (lookR W i) = recV x := by simpa using congrArg Prod.fst hx
  rw [h2.has i hi] at hrun
  rw [hrun, e]
theorem MapR.put {w : World} {b n : Nat} {W : List Rv} (h : MapR w b n W) (hn : n < maxLen) {x : Rv} (hi : IdI x.id) (hx : x.id ∉ idsX W) :
    ∃ w1, (Instr.mapUpdate tMR (.map (some b)) (idV x.id) (recV x)).run Tryz.prog w = .ok () w1 ∧ MapR w1 b (n + 1) (W ++ [x]) ∧ M.Mods (fun k => k = b) w w1 := by
  obtain ⟨D, h1, h2⟩ := h.own
  obtain ⟨w1, hrun, r1, r2⟩ := h1.store id_keyed Tryz.underlying86 hn (key_id x.id hi) (recE_mk x)
  refine ⟨w1, hrun, ⟨⟨_, r1, h2.put h1.isMap hi h.ok hx⟩, ?_, fun y hy => ?_⟩, mods_turned r2⟩
  · unfold idsX
    rw [List.map_append]
    refine List.nodup_append.2 ⟨h.nd, by simp, fun a ha b hb => ?_⟩
    simp at hb
    subst hb
    exact fun e => hx (e ▸ ha)
  · rcases List.mem_append.1 hy with hy | hy
    · exact h.ok y hy
    · rw [List.mem_singleton.1 hy]; exact hi
theorem MapR.del {w : World} {b n : Nat} {W : List Rv} (h : MapR w b n W) {j : Id} (hj : IdI j) (ty : TypeId) :
    ∃ w1, (Builtin.delete_ #[tMR, tId] ty #[.map (some b), idV j]).run Tryz.prog w = .ok (.tuple #[]) w1 ∧ MapR w1 b n (W.filter fun x => !decide (x.id = j)) ∧ M.Mods (fun k => k = b) w w1 := by
  obtain ⟨D, h1, h2⟩ := h.own
  obtain ⟨w1, hrun, r1, r2⟩ := h1.drop id_keyed Tryz.underlying86 (key_id j hj) ty
  exact ⟨w1, hrun, ⟨⟨_, r1, h2.del hj h.ok⟩, h.nd.sublist (List.filter_sublist.map _), fun y hy => h.ok y (List.mem_filter.1 hy).1⟩, mods_turned r2⟩
/-- 'for i, r := range m' under way: left: which records are still to come -/
structure RngR (w : World) (b r n : Nat) (W : List Rv) (left : List Rv) (cnt : Nat) : Prop where
  own : ∃ D lf, w.ranges Tryz.prog tId recE b r n D lf cnt ∧ RRel D W ∧ ∀ x ∈ W, (lf (klI x.id) = true ↔ x ∈ left)
  nd : (idsX W).Nodup
  ok : ∀ x ∈ W, IdI x.id
  sub : left.Sublist W
theorem RngR.lt {w : World} {b r n : Nat} {W left : List Rv} {cnt : Nat} (h : RngR w b r n W left cnt) : r < w.heap.size ∧ b < w.heap.size := by
  obtain ⟨D, lf, h1, _⟩ := h.own
  exact ⟨h1.lt, h1.owns.lt⟩
theorem RngR.left_eq {w : World} {b r n : Nat} {W left : List Rv} {cnt : Nat} (h : RngR w b r n W left cnt) : w.rangeLeft b r = cnt := by
  obtain ⟨D, lf, h1, _⟩ := h.own
  exact h1.left_eq
theorem RngR.map {w : World} {b r n : Nat} {W left : List Rv} {cnt : Nat} (h : RngR w b r n W left cnt) : MapR w b n W := by
  obtain ⟨D, lf, h1, h2, _⟩ := h.own
  exact ⟨⟨D, h1.owns, h2⟩, h.nd, h.ok⟩
theorem RngR.keep {w w1 : World} {b r n : Nat} {W left : List Rv} {cnt : Nat} {S : Nat → Prop} (h : RngR w b r n W left cnt) (hm : M.Mods S w w1) (hb : ¬ S b) (hr : ¬ S r) : RngR w1 b r n W left cnt := by
  obtain ⟨h0, h00⟩ := h.lt
  obtain ⟨D, lf, h1, h2⟩ := h.own
  obtain ⟨es, clock, since, seen, c0, e1, F, hs, hD, e2, rest⟩ := h1
  exact ⟨⟨D, lf, ⟨es, clock, since, seen, c0, (hm.block b h00 hb).trans e1, F, hs, hD, (hm.block r h0 hr).trans e2, rest⟩, h2⟩, h.nd, h.ok, h.sub⟩
theorem RngR.below {w w1 : World} {b r n : Nat} {W left : List Rv} {cnt : Nat} (h : RngR w b r n W left cnt) (hm : Below w.heap.size w w1) : RngR w1 b r n W left cnt :=
  h.keep (S := fun _ => False) (M.Mods.of_below hm) (fun h => h) (fun h => h)
/-- what comes next -/
theorem RngR.next {w : World} {b r n : Nat} {W left : List Rv} {cnt : Nat} (h : RngR w b r n W left cnt) (ty : TypeId) :
    (cnt = 0 ∧ left = [] ∧ (Instr.next (.pointer (some ⟨r, 0, none⟩)) false ty).run Tryz.prog w = .ok (.tuple #[.bool false]) w) ∨
    ∃ x w' cnt', x ∈ left ∧ (Instr.next (.pointer (some ⟨r, 0, none⟩)) false ty).run Tryz.prog w = .ok (.tuple #[.bool true, idV x.id, recV x]) w' ∧ RngR w' b r n W (left.filter fun y => !decide (y.id = x.id)) cnt' ∧ cnt' < cnt ∧ M.Mods (fun k => k = r) w w' ∧
      (Instr.entry (.pointer (some ⟨r, 0, none⟩))).run Tryz.prog w' = .ok (.tuple #[idV x.id, recV x]) w' := by
  obtain ⟨D, lf, h1, h2, h3⟩ := h.own
  rcases h1.next id_keyed ty with ⟨h0, hl, hrun⟩ | ⟨key, v, kl, y, w', cnt', hkey, hlk, hv, hat, hrun, hrg, hlt, hgr, hsz, hen⟩
  · refine .inl ⟨h0, ?_, hrun⟩
    refine List.eq_nil_iff_forall_not_mem.2 fun x hx => ?_
    have := (h3 x (h.sub.subset hx)).2 hx
    rw [hl] at this; cases this
  · obtain ⟨i, rfl, rfl, hi⟩ := key_id_inv hkey
    have hh : Maps.has D (klI i) = true := Maps.has_true_of_atKey hat
    rw [h2.has i hi, decide_eq_true_eq] at hh
    obtain ⟨x, hx, rfl⟩ := List.mem_map.1 hh
    obtain ⟨x2, rfl, rfl⟩ := recE_inv hv
    have e1 : recV x = recV x2 := by
      have := (h2.at_ x hx (.lit (.bool false))).symm.trans (hat (.lit (.bool false)))
      simpa using this
    rw [← e1] at hrun hen
    refine .inr ⟨x, w', cnt', (h3 x hx).1 hlk, hrun, ⟨⟨D, _, hrg, h2, fun y hy => ?_⟩, h.nd, h.ok, List.filter_sublist.trans h.sub⟩, hlt, ⟨hgr.os, hgr.tape, hgr.output, hgr.size, fun k hk hn => hgr.block k hk (fun e => hn (Option.some.inj e))⟩, hen⟩
    rw [List.mem_filter, ← h3 y hy, Bool.and_eq_true]
    refine and_congr_right fun _ => ?_
    have key : (klI y.id).sameKey (klI x.id) = true ↔ y.id = x.id := by
     constructor
     · intro e; exact klI_inj (h.ok y hy) (h.ok x hx) (WideAt.sameKey_eq e)
     · intro e; rw [e]; exact WideAt.sameKey_self (klI_key _)
    cases hs : (klI y.id).sameKey (klI x.id) with
    | true => simp [key.1 hs]
    | false =>
      have : ¬ y.id = x.id := fun e => by rw [key.2 e] at hs; cases hs
      simp [this]
theorem MapR.range {w : World} {b n : Nat} {W : List Rv} (h : MapR w b n W) : ∃ w' cnt, (Instr.range tMR (.map (some b))).run Tryz.prog w = .ok (.pointer (some ⟨w.heap.size, 0, none⟩)) w' ∧ RngR w' b w.heap.size n W W cnt ∧ Below w.heap.size w w' := by
  obtain ⟨D, h1, h2⟩ := h.own
  obtain ⟨w', hrun, hrg, hgr, hsz⟩ := h1.range id_keyed Tryz.underlying86
  refine ⟨w', _, hrun, ⟨⟨D, _, hrg, h2, fun x hx => ?_⟩, h.nd, h.ok, List.Sublist.refl _⟩, ?_⟩
  · rw [h2.has x.id (h.ok x hx), decide_eq_true_eq]
    exact ⟨fun _ => hx, fun _ => List.mem_map.2 ⟨x, hx, rfl⟩⟩
  · exact (Below.refl _ _).grown hgr (Nat.le_refl _) (fun j e => by cases e)
end Go.Proofs.YtndfhejfhfhbdaaGreatDoor.O
