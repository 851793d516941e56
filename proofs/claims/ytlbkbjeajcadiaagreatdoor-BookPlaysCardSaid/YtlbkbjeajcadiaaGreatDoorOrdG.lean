/- ids.Set: Clone, Compact. -/
import Derived.Test.YtlbkbjeajcadiaaGreatDoorMrg13
namespace Go.Proofs.YtlbkbjeajcadiaaGreatDoor.O
open Go.RowKit Go.Proofs.YtlbkbjeajcadiaaGreatDoor.M Go.BigFrame
set_option linter.unusedVariables false
set_option linter.unusedSimpArgs false

theorem info_id : (Tryz.prog.info? 31).map (fun i => (i.zero, i.size, i.bytes)) = some (some (.agg #[.int .i64 0, .int .i64 0]), 2, 16) := by kernel_rfl
theorem zero_id (w : World) : (zeroValue 31).run Tryz.prog w = .ok (.agg #[.int .i64 0, .int .i64 0]) w := by kernel_rfl
theorem ret_val {a b : Value} (h : a = b) : Ending.returned a = .returned b := by rw [h]
theorem cellsI_one (l : List Id) : ∀ u ∈ cellsI l, u.oneCell' = true := by
  intro u hu
  unfold cellsI at hu
  obtain ⟨x, _, h⟩ := List.mem_flatMap.1 hu
  rcases List.mem_cons.1 h with rfl | h
  · rfl
  · rw [List.mem_singleton.1 h]; rfl
theorem cellsI_take (l : List Id) (i : Nat) : cellsI (l.take i) = (cellsI l).take (i * 2) := by
  induction l generalizing i with
  | nil => simp [cellsI]
  | cons x l ih =>
    cases i with
    | zero => simp [cellsI]
    | succ i =>
      have := ih i
      simp only [cellsI, List.take_succ_cons, List.flatMap_cons] at this ⊢
      rw [this, show (i + 1) * 2 = i * 2 + 2 by omega]
      rfl
theorem cellsI_set (M : List Id) (i : Nat) (x : Id) : cellsI (M.set i x) = ((cellsI M).set (i * 2) (.int .i64 x.r)).set (i * 2 + 1) (.int .i64 x.n) := by
  induction M generalizing i with
  | nil => simp [cellsI]
  | cons y M ih =>
    cases i with
    | zero => rfl
    | succ i =>
      have := ih i
      rw [show (i + 1) * 2 = i * 2 + 2 by omega]
      show idC y ++ cellsI (M.set i x) = _
      rw [this]
      rfl
theorem own_setcell {w : World} {B : Nat} {e : TypeId} {size g n cap : Nat} {xs : List Value} (h : w.ownsRow B e size (.slice (some ⟨g, 0, none⟩) n cap) n xs) (j : Nat) (hj : j < xs.length) (u : Value) :
    (w.setCell ⟨g, j, none⟩ u).ownsRow B e size (.slice (some ⟨g, 0, none⟩) n cap) n (xs.set j u) := by
  refine ⟨by rw [List.length_set]; exact h.1, ?_⟩
  rcases h.2 with ⟨h0, _⟩ | ⟨g', c, cur, e0, hb, hg, hnc, hm, hs, ht⟩
  · cases h0
  · cases e0
    refine .inr ⟨g, cap, cur.setIfInBounds j u, rfl, hb, ?_, hnc, hm, ?_, ?_⟩
    · have := heap_set w g j u g _ _ _ hg
      rwa [if_pos rfl] at this
    · simpa using hs
    · rw [Array.toList_setIfInBounds, List.take_set, ht]
set_option maxRecDepth 100000 in
set_option maxHeartbeats 4000000 in
theorem cloneI_any (l : List Id) (ao : Option Addr) (cap : Nat) (w : World) (h : IdsV w ao cap l) (hl : l.length ≤ 1000000) :
    Calls Tryz.prog 61 #[.slice ao l.length cap] w fun e w' => ∃ ao' cap', e = .returned (.slice ao' l.length cap') ∧ (w'.ownsRow w.heap.size 31 2 (.slice ao' l.length cap') l.length (cellsI l) ∧ Below w.heap.size w w') := by
  have q22 : ∀ (w : World) (a : Option Addr) (n c n' c' : Nat), (binOp .eql 36 (.slice a n c) (.slice none n' c')).run Tryz.prog w = .ok (.bool a.isNone) w := fun w a n c n' c' => Lib.run_eql_slice_nil w _ _ a n c n' c' Tryz.underlying36
  obtain ⟨hl1, hl2⟩ := h.le
  unfold maxLen at hl2
  cases ao with
  | none =>
    have hc := h.nz rfl
    subst hc
    have hl0 : l = [] := List.length_eq_zero_iff.1 (by omega)
    subst hl0
    clear h
    go_enter Tryz.func61, Tryz.ntmps61
    go_wp2_with fail
    go_ret
    exact ⟨none, 0, rfl, World.ownsRow_nil _ _ _ _, Below.refl _ _⟩
  | some a =>
    obtain ⟨i0, hi, hz0, hz1, hz2⟩ := info_parts info_id
    have hcell : ∀ (j : Nat) (u : Value), (cellsI l)[j]? = some u → w.cell? (a.add j) = some u := fun j u hu => by
      have hj : j < l.length * 2 := by rw [← cellsI_len]; exact (List.getElem?_eq_some_iff.1 hu).1
      obtain ⟨x, hx⟩ : ∃ x, l[j / 2]? = some x := ⟨_, List.getElem?_eq_getElem (by omega)⟩
      obtain ⟨b, off, e0, _, c0, c1⟩ := h.row (j / 2) x hx
      cases e0
      obtain ⟨q0, q1⟩ := cellsI_get l (j / 2) x hx
      rw [Addr.add_lit]
      rcases (by omega : j = j / 2 * 2 ∨ j = j / 2 * 2 + 1) with e | e
      · rw [e] at hu ⊢
        rw [q0] at hu
        rw [← hu]; exact c0
      · rw [e] at hu ⊢
        rw [q1] at hu
        rw [← hu]; exact c1
    have HC := Lib.hid (show ∀ j u, (cellsI l)[j]? = some u → (w.alloc (.cells #[] 31)).cell? (a.add j) = some u from fun j u hu => by
      have h := hcell j u hu
      rw [World.cell?_alloc_some _ _ _ (by rw [h]; rfl)]; exact h)
    have HO := Lib.hid (World.ownsRow_made (base := w.heap.size) (e := 31) (size := 2) w #[] 0 (Nat.le_refl _) (Nat.zero_le _) rfl)
    have HONE := Lib.hid (cellsI_one l)
    have HN := Lib.hid (cellsI_len l)
    clear hcell h
    go_enter Tryz.func61, Tryz.ntmps61
    go_wp2_with (at_builtin; refine wpList_append_own _ rfl _ _ 36 rfl w.heap.size 31 i0 (.agg #[.int .i64 0, .int .i64 0]) 2 16 Tryz.underlying36 hi hz0 hz1 hz2 rfl (by decide) _ 0 [] rfl HO.out a l.length cap (cellsI l) rfl HN.out HC.out HONE.out (by unfold maxLen; omega) (by omega) (by simp) ?_; intro v' w1 hown hgrow _)
    obtain ⟨ao', cap', rfl, _⟩ := own_view hown
    go_ret
    refine ⟨ao', cap', by simp, by simpa using hown, ?_⟩
    exact ((Below.refl _ w).alloc (Nat.le_refl _) _).grown hgrow (by simp) (fun k hk => Nat.le_of_eq (Option.some.inj hk))
/-- no neighbours are the same, up to k -/
def NA (l : List Id) (k : Nat) : Prop := ∀ j x y, j + 1 < k → l[j]? = some x → l[j + 1]? = some y → x ≠ y
/-- what is left of the first k -/
def kept (l : List Id) (k : Nat) : List Id := (l.take k).foldl keepN []
theorem keepN_same {o : List Id} {x : Id} (h : o.getLast? = some x) : keepN o x = o := by unfold keepN; rw [if_pos h]
theorem keepN_more {o : List Id} {x : Id} (h : o.getLast? ≠ some x) : keepN o x = o ++ [x] := by unfold keepN; rw [if_neg h]
theorem keepN_len (o : List Id) (x : Id) : (keepN o x).length ≤ o.length + 1 := by
  unfold keepN
  split
  · omega
  · simp
theorem kept_last (l : List Id) : ∀ k, (kept l k).getLast? = (l.take k).getLast? := by
  intro k
  induction k with
  | zero => simp [kept]
  | succ k ih =>
    unfold kept at *
    cases hx : l[k]? with
    | none =>
      have : l.take (k + 1) = l.take k := by rw [List.take_add_one, hx]; simp
      rw [this]; exact ih
    | some x =>
      rw [List.take_add_one, hx, List.foldl_append]
      show (keepN _ x).getLast? = _
      unfold keepN
      split
      · rename_i h; rw [h]; simp
      · simp
theorem take_last {l : List Id} {k : Nat} {y : Id} (hy : l[k]? = some y) : (l.take (k + 1)).getLast? = some y := by
  rw [List.take_add_one, hy]; simp
theorem kept_same {l : List Id} {k : Nat} {x : Id} (hy : l[k]? = some x) (hx : l[k + 1]? = some x) : kept l (k + 1 + 1) = kept l (k + 1) := by
  have h := (kept_last l (k + 1)).trans (take_last hy)
  unfold kept at *
  rw [List.take_add_one, hx, List.foldl_append]
  exact keepN_same h
theorem kept_more {l : List Id} {k : Nat} {x y : Id} (hy : l[k]? = some y) (hx : l[k + 1]? = some x) (hne : y ≠ x) : kept l (k + 1 + 1) = kept l (k + 1) ++ [x] := by
  have h := (kept_last l (k + 1)).trans (take_last hy)
  unfold kept at *
  rw [List.take_add_one, hx, List.foldl_append]
  exact keepN_more (by rw [h]; exact fun e => hne (Option.some.inj e))
theorem kept_len (l : List Id) : ∀ k, (kept l k).length ≤ k := by
  intro k
  induction k with
  | zero => simp [kept]
  | succ k ih =>
    unfold kept at *
    rw [List.take_add_one, List.foldl_append]
    cases hx : l[k]? with
    | none => simp; omega
    | some x =>
      exact Nat.le_trans (keepN_len _ x) (by omega)
theorem kept_all {l : List Id} : ∀ k, k ≤ l.length → NA l k → kept l k = l.take k := by
  intro k
  induction k with
  | zero => intro _ _; simp [kept]
  | succ k ih =>
    intro hk hn
    have h1 := ih (by omega) (fun j x y hj => hn j x y (by omega))
    cases k with
    | zero =>
      obtain ⟨x, hx⟩ : ∃ x, l[0]? = some x := ⟨_, List.getElem?_eq_getElem (by omega)⟩
      unfold kept
      rw [List.take_add_one, hx]
      rfl
    | succ k =>
      obtain ⟨x, hx⟩ : ∃ x, l[k + 1]? = some x := ⟨_, List.getElem?_eq_getElem (by omega)⟩
      obtain ⟨y, hy⟩ : ∃ x, l[k]? = some x := ⟨_, List.getElem?_eq_getElem (by omega)⟩
      rw [kept_more hy hx (hn k y x (by omega) hy hx), h1, List.take_add_one (i := k + 1), hx]
      rfl
/-- while neighbours are left out: the row R, the place K to write, t read -/
structure Cmp2 (l : List Id) (K t : Nat) (R : List Id) : Prop where
  len : R.length = l.length
  k : K = (kept l t).length
  lo : R.take K = kept l t
  hi : ∀ j, t ≤ j + 1 → R[j]? = l[j]?
theorem Cmp2.same {l R : List Id} {K k : Nat} {x : Id} (h : Cmp2 l K (k + 1) R) (hy : l[k]? = some x) (hx : l[k + 1]? = some x) : Cmp2 l K (k + 1 + 1) R :=
  ⟨h.len, by rw [kept_same hy hx]; exact h.k, by rw [kept_same hy hx]; exact h.lo, fun j hj => h.hi j (by omega)⟩
theorem Cmp2.more {l R : List Id} {K k : Nat} {x y : Id} (h : Cmp2 l K (k + 1) R) (hy : l[k]? = some y) (hx : l[k + 1]? = some x) (hne : y ≠ x) (hK : K ≤ k) : Cmp2 l (K + 1) (k + 1 + 1) (R.set K x) := by
  have hl : k + 1 < l.length := (List.getElem?_eq_some_iff.1 hx).1
  refine ⟨by rw [List.length_set]; exact h.len, ?_, ?_, fun j hj => ?_⟩
  · rw [kept_more hy hx hne, List.length_append, ← h.k]; rfl
  · rw [kept_more hy hx hne, List.take_add_one, List.take_set_of_le (by omega), h.lo, List.getElem?_set_self (by rw [h.len]; omega)]
    rfl
  · rw [List.getElem?_set_ne (by omega)]
    exact h.hi j (by omega)
abbrev OwnI (w : World) (B g n cap : Nat) (R : List Id) : Prop := w.ownsRow B 31 2 (.slice (some ⟨g, 0, none⟩) n cap) n (cellsI R)
theorem OwnI.cells {w : World} {B g n cap : Nat} {R : List Id} (h : OwnI w B g n cap R) {j : Nat} {x : Id} (hx : R[j]? = some x) : w.cell? ⟨g, j * 2, none⟩ = some (.int .i64 x.r) ∧ w.cell? ⟨g, j * 2 + 1, none⟩ = some (.int .i64 x.n) ∧ (∀ o, w.frozen? ⟨g, o, none⟩ = false) ∧ g < w.heap.size := by
  obtain ⟨hxl, h2⟩ := h
  rcases h2 with ⟨h0, _⟩ | ⟨g', c', cur, e0, hB, hg, hnc, hcm, hcs, htk⟩
  · cases h0
  cases e0
  obtain ⟨q0, q1⟩ := cellsI_get R j x hx
  have key : ∀ o u, (cellsI R)[o]? = some u → w.cell? ⟨g, o, none⟩ = some u := fun o u hu => by
    rw [cell_of_row w g o _ _ _ hg, ← Array.getElem?_toList]
    rw [← htk, List.getElem?_take] at hu
    split at hu
    · exact hu
    · cases hu
  exact ⟨key _ _ q0, key _ _ q1, fun o => by simp [World.frozen?, hg], M.heap_lt hg⟩
set_option maxRecDepth 100000 in
set_option maxHeartbeats 4000000 in
theorem compactI_any (B : Nat) (w : World) (g cap : Nat) (l : List Id) (h : OwnI w B g l.length cap l) (hl : l.length ≤ 1000000) :
    Calls Tryz.prog 74 #[.slice (some ⟨g, 0, none⟩) l.length cap] w fun e w' => ∃ m, e = .returned (.slice (some ⟨g, 0, none⟩) (m : List Id).length cap) ∧ (m = l.foldl keepN [] ∧ OwnI w' B g m.length cap m ∧ Mods (fun j => j = g) w w') := by
  obtain ⟨_, hcap, hcm⟩ : ∃ (_ : True), l.length ≤ cap ∧ cap ≤ maxLen := by
    obtain ⟨_, _, e0, h1, h2, _⟩ := own_view h
    cases e0
    exact ⟨trivial, h1, h2⟩
  unfold maxLen at hcm
  have HO := Lib.hid h
  have hgw := (h.lt g rfl).2
  clear h
  by_cases hs : l.length < 2
  · have hs2 : (l.length : Int) < 2 := by omega
    have HE := Lib.hid (show l = l.foldl keepN [] by
      match l, hs with
      | [], _ => rfl
      | [a], _ => rfl
      | a :: b :: t, h => simp at h; omega)
    go_enter Tryz.func74, Tryz.ntmps74
    go_wp2_with fail
    go_ret
    exact ⟨l, rfl, HE.out, HO.out, Mods.refl _ _⟩
  · have hs2 : ¬ (l.length : Int) < 2 := by omega
    go_enter Tryz.func74, Tryz.ntmps74
    go_wp2_with fail
    go_loopw [3] (fun kv wr => ∃ k : Nat, kv = .int .i64 k ∧ 1 ≤ k ∧ k ≤ l.length ∧ NA l k ∧ OwnI wr B g l.length cap l ∧ Mods (fun j => j = g) w wr) (fun kv _ => l.length - (intOf kv).toNat)
    case atStart => exact ⟨1, rfl, Nat.le_refl _, by omega, fun j x y hj => absurd hj (by omega), HO.out, Mods.refl _ _⟩
    case round =>
      obtain ⟨k, rfl, hk1, hk, hna, ho, hm⟩ := hrel
      have HNA := Lib.hid hna
      have HOR := Lib.hid ho
      have HM := Lib.hid hm
      clear hna ho hm
      by_cases hkl : k < l.length
      · have hii : (k : Int) < (l.length : Int) := by omega
        obtain ⟨j, hj⟩ : ∃ j, k = j + 1 := ⟨k - 1, by omega⟩
        obtain ⟨x, hx⟩ : ∃ x, l[k]? = some x := ⟨_, List.getElem?_eq_getElem hkl⟩
        obtain ⟨y, hy⟩ : ∃ x, l[j]? = some x := ⟨_, List.getElem?_eq_getElem (by omega)⟩
        obtain ⟨c0, c1, _, _⟩ := HOR.out.cells hx
        obtain ⟨d0, d1, _, _⟩ := HOR.out.cells hy
        have k0 := Kin.cell c0
        have k1 := Kin.cell c1
        have k2 := Kin.cell d0
        have k3 := Kin.cell d1
        have hkj : (k : Int) - 1 = (j : Int) := by omega
        have hjl : (j : Int) < (l.length : Int) := by omega
        have HJ := Lib.hid hj
        have HX := Lib.hid hx
        have HY := Lib.hid hy
        clear c0 c1 d0 d1 hj hx hy
        by_cases hxy : x = y
        · subst hxy
          have q := eql_yes x
          go_upto_region 6 with fail
          refine wp_region_kin (by kernel_rfl) (by kernel_rfl) ?_
          repeat (go_big_quiet_step (fail))
          refine wpQuiet_nil ?_
          intro _ hxx
          obtain ⟨xk, rfl⟩ := hxx
          have HOK := Lib.hid (own_kept HOR.out (Mods.of_below (S := fun _ => False) xk.h) (fun _ _ h => h))
          have HMK := Lib.hid (HM.out.trans (Mods.of_below xk.h))
          obtain ⟨w1, hw1⟩ : ∃ w1, w1 = xk.w := ⟨_, rfl⟩
          rw [← hw1] at HOK HMK ⊢
          clear k0 k1 k2 k3 q hw1
          have hkc : (k : Int) ≤ (cap : Int) := by omega
          have HST := Lib.hid (show Cmp2 l k (k + 1) l by
            have e1 : kept l (k + 1) = l.take k := by
              obtain rfl := HJ.out
              rw [kept_same HY.out HX.out, kept_all _ (by omega) HNA.out]
            exact ⟨rfl, by rw [e1, List.length_take]; omega, e1.symm, fun j _ => rfl⟩)
          go_wp2_with fail
          obtain ⟨n2, hn2⟩ : ∃ n2, l.length - k = n2 := ⟨_, rfl⟩
          obtain ⟨c2, hc2⟩ : ∃ c2, cap - k = c2 := ⟨_, rfl⟩
          rw [hn2, hc2]
          have HN2 := Lib.hid hn2
          clear hn2 hc2
          go_loopw [3, 5] (fun Kv tv wr => ∃ (K t : Nat) (R : List Id), Kv = .int .i64 K ∧ tv = .int .i64 t ∧ 1 ≤ t ∧ t ≤ n2 ∧ K + 1 ≤ k + t ∧ Cmp2 l K (k + t) R ∧ OwnI wr B g l.length cap R ∧ Mods (fun j => j = g) w wr) (fun _ tv _ => n2 - (intOf tv).toNat)
          case atStart => exact ⟨k, 1, l, rfl, rfl, Nat.le_refl _, by have := HN2.out; omega, Nat.le_refl _, HST.out, HOK.out, HMK.out⟩
          case round =>
            clear HST HOK HMK
            obtain ⟨K, t, R, rfl, rfl, ht1, ht2, hKt, hc, ho, hm⟩ := hrel
            have HC := Lib.hid hc
            have HO2 := Lib.hid ho
            have HM2 := Lib.hid hm
            have hn2 := HN2.out
            clear hc ho hm
            by_cases htn : t < n2
            · have htt : (t : Int) < (n2 : Int) := by omega
              obtain ⟨p, hp⟩ : ∃ p, t = p + 1 := ⟨t - 1, by omega⟩
              obtain ⟨a, ha⟩ : ∃ x, l[k + t]? = some x := ⟨_, List.getElem?_eq_getElem (by omega)⟩
              obtain ⟨b, hb⟩ : ∃ x, l[k + p]? = some x := ⟨_, List.getElem?_eq_getElem (by omega)⟩
              obtain ⟨c0, c1, hfz, hgl⟩ := HO2.out.cells ((HC.out.hi (k + t) (by omega)).trans ha)
              obtain ⟨d0, d1, _, _⟩ := HO2.out.cells ((HC.out.hi (k + p) (by omega)).trans hb)
              rw [Nat.add_mul] at c0 c1 d0 d1
              have k0 := Kin.cell c0
              have k1 := Kin.cell c1
              have k2 := Kin.cell d0
              have k3 := Kin.cell d1
              have htp : (t : Int) - 1 = (p : Int) := by omega
              have hpl : (p : Int) < (n2 : Int) := by omega
              have HA := Lib.hid (show l[k + p + 1]? = some a by rw [show k + p + 1 = k + t by omega]; exact ha)
              have HB2 := Lib.hid hb
              have HTP := Lib.hid hp
              clear c0 c1 d0 d1 ha hb hp
              by_cases hab : a = b
              · subst hab
                have HN := Lib.hid (show Cmp2 l K (k + (t + 1)) R by
                  have h1 := HC.out
                  rw [HTP.out] at h1
                  have h2 := Cmp2.same (k := k + p) h1 HB2.out HA.out
                  rw [HTP.out]
                  exact h2)
                have q := neq_no a
                go_upto_region 11 with fail
                refine wp_region_kin (by kernel_rfl) (by kernel_rfl) ?_
                repeat (go_big_quiet_step (fail))
                refine wpQuiet_nil ?_
                intro _ hxx
                obtain ⟨xk, rfl⟩ := hxx
                have HOK := Lib.hid (own_kept HO2.out (Mods.of_below (S := fun _ => False) xk.h) (fun _ _ h => h))
                have HMK := Lib.hid (HM2.out.trans (Mods.of_below xk.h))
                clear k0 k1 k2 k3 q hfz
                go_wp2_with fail
                go_roundw
                case rel => exact ⟨K, t + 1, R, rfl, by go_num, by omega, by omega, by omega, HN.out, HOK.out, HMK.out⟩
                case measure => simp [intOf]; omega
              · have HN := Lib.hid (show Cmp2 l (K + 1) (k + (t + 1)) (R.set K a) by
                  have h1 := HC.out
                  rw [HTP.out] at h1
                  have h2 := Cmp2.more (k := k + p) h1 HB2.out HA.out (fun e => hab e.symm) (by have := HTP.out; omega)
                  rw [HTP.out]
                  exact h2)
                have q := neq_yes hab
                go_upto_region 11 with fail
                refine wp_region_kin (by kernel_rfl) (by kernel_rfl) ?_
                repeat (go_big_quiet_step (fail))
                refine wpQuiet_nil ?_
                intro _ hxx
                obtain ⟨xk, rfl⟩ := hxx
                obtain ⟨w3, hw3⟩ : ∃ w1, w1 = xk.w := ⟨_, rfl⟩
                have HOK := Lib.hid (own_kept HO2.out (Mods.of_below (S := fun _ => False) xk.h) (fun _ _ h => h))
                have HMK := Lib.hid (HM2.out.trans (Mods.of_below xk.h))
                rw [← hw3] at HOK HMK ⊢
                clear k0 k1 k2 k3 q hfz hw3
                have hlen := HC.out.len
                obtain ⟨c0, c1, hfz, _⟩ := OwnI.cells HOK.out ((HC.out.hi (k + t) (by omega)).trans (show l[k + t]? = some a by have h := HA.out; rw [show k + p + 1 = k + t by have := HTP.out; omega] at h; exact h))
                rw [Nat.add_mul] at c0 c1
                obtain ⟨z, hz⟩ : ∃ z, R[K]? = some z := ⟨_, List.getElem?_eq_getElem (by omega)⟩
                obtain ⟨e0, e1, _, _⟩ := OwnI.cells HOK.out hz
                have f0 := hfz (K * 2)
                have f1 := hfz (K * 2 + 1)
                have hKl : (K : Int) < (l.length : Int) := by omega
                clear hfz hz
                go_wp2_with fail
                go_roundw
                case rel =>
                  refine ⟨K + 1, t + 1, R.set K a, by go_num, by go_num, by omega, by omega, by omega, HN.out, ?_, ?_⟩
                  · unfold OwnI
                    rw [cellsI_set]
                    have hcl := cellsI_len R
                    exact own_setcell (own_setcell HOK.out (K * 2) (by omega) _) (K * 2 + 1) (by rw [List.length_set]; omega) _
                  · exact (HMK.out.setCell (p := ⟨g, K * 2, none⟩) (fun _ => rfl) _).setCell (p := ⟨g, K * 2 + 1, none⟩) (fun _ => rfl) _
                case measure => simp [intOf]; omega
            · obtain rfl : t = n2 := by omega
              have htt : ¬ (t : Int) < (t : Int) := by omega
              have hkt : k + t = l.length := by omega
              have HE := Lib.hid (show kept l (k + t) = l.foldl keepN [] by
                unfold kept
                rw [hkt, List.take_of_length_le (Nat.le_refl _)])
              have HK := Lib.hid HC.out.k
              have HLO := Lib.hid HC.out.lo
              have hKl : K < l.length := by omega
              obtain ⟨hxl, h2⟩ := HO2.out
              rcases h2 with ⟨h0, _⟩ | ⟨g', c', cur, e0, hB, hg, hnc, hcm', hcs, htk⟩
              · cases h0
              cases e0
              obtain ⟨zs, hzs⟩ : ∃ zs, (Builtin.zeroCells (Value.agg #[.int .i64 0, .int .i64 0]).cells (l.length - K)).toList = zs := ⟨_, rfl⟩
              have hzl : zs.length = (l.length - K) * 2 := by rw [← hzs, Array.length_toList, size_zeroCells]; rfl
              have hz1 : ∀ u ∈ zs, u.oneCell' = true := by
                intro u hu
                rw [← hzs] at hu
                simp only [Builtin.zeroCells, Value.cells, Array.toList_map, List.mem_map, Array.mem_toList_iff, Array.mem_range] at hu
                obtain ⟨q, hq, rfl⟩ := hu
                have : q % 2 = 0 ∨ q % 2 = 1 := by omega
                rcases this with h | h <;> simp [h, Value.oneCell']
              obtain ⟨cur2, hcur2⟩ : ∃ cur2, cur2 = (cur.toList.take (K * 2) ++ zs ++ cur.toList.drop (K * 2 + zs.length)).toArray := ⟨_, rfl⟩
              have hcl : (Builtin.clear_ #[36] 0 #[.slice (some ⟨g, K * 2, none⟩) (l.length - K) (cap - K)]).run Tryz.prog wr = .ok (.tuple #[]) (wr.setRow g cur2) := by
                rw [hcur2]
                exact run_clear_row (P := Tryz.prog) wr 36 31 0 _ Tryz.underlying36 zero_id g (K * 2) (l.length - K) (cap - K) cur hg zs hzs (by rw [hzl, hcs]; omega) hz1 (by omega)
              have HEND := Lib.hid (show OwnI (wr.setRow g cur2) B g K cap (l.foldl keepN []) ∧ Mods (fun j => j = g) w (wr.setRow g cur2) from by
                rw [← HE.out]
                refine ⟨⟨by rw [cellsI_len, ← HK.out], .inr ⟨g, cap, cur2, rfl, hB, setRow_heap wr g cur cur2 _ (0, 0) hg, by omega, hcm', ?_, ?_⟩⟩, HM2.out.setRow (fun _ => rfl) _⟩
                · rw [hcur2]; simp only [List.size_toArray, List.length_append, List.length_take, List.length_drop, Array.length_toList, hcs, hzl]; omega
                · have h1 : (cur.toList.take (K * 2)).length = K * 2 := by rw [List.length_take, Array.length_toList, hcs]; omega
                  rw [hcur2]
                  show List.take (K * 2) (cur.toList.take (K * 2) ++ _ ++ _) = _
                  rw [List.append_assoc, List.take_append_of_le_length (by omega), List.take_take, Nat.min_self, ← HLO.out, cellsI_take, ← htk, List.take_take, Nat.min_eq_left (by omega)])
              have HKL := Lib.hid (show (l.foldl keepN []).length = K by rw [← HE.out]; exact HK.out.symm)
              have hKc : K ≤ cap := by omega
              have hcK : ¬ cap = K := by omega
              have hKl2 : K ≤ l.length := by omega
              clear hxl hg htk hzs hcur2 hz1 hcs hzl
              go_wp2_with fail
              go_ret
              refine ⟨l.foldl keepN [], ret_val (by rw [HKL.out]; rfl), rfl, ?_⟩
              rw [HKL.out]
              exact HEND.out
        · have HN := Lib.hid (show NA l (k + 1) from fun i a b hi ha hb => by
            by_cases e : i = j
            · subst e
              rw [HY.out] at ha
              rw [← HJ.out, HX.out] at hb
              cases ha; cases hb
              exact fun e => hxy e.symm
            · exact HNA.out i a b (by have := HJ.out; omega) ha hb)
          have q := eql_no hxy
          go_upto_region 6 with fail
          refine wp_region_kin (by kernel_rfl) (by kernel_rfl) ?_
          repeat (go_big_quiet_step (fail))
          refine wpQuiet_nil ?_
          intro _ hxx
          obtain ⟨xk, rfl⟩ := hxx
          have HOK := Lib.hid (own_kept HOR.out (Mods.of_below (S := fun _ => False) xk.h) (fun _ _ h => h))
          have HMK := Lib.hid (HM.out.trans (Mods.of_below xk.h))
          clear k0 k1 k2 k3 q
          go_wp2_with fail
          go_roundw
          case rel => exact ⟨k + 1, by go_num, by omega, by omega, HN.out, HOK.out, HMK.out⟩
          case measure => simp [intOf]; omega
      · obtain rfl : k = l.length := by omega
        have hii : ¬ (l.length : Int) < (l.length : Int) := by omega
        have HE := Lib.hid (show l = l.foldl keepN [] by
          have := kept_all l.length (Nat.le_refl _) HNA.out
          unfold kept at this
          rw [List.take_of_length_le (Nat.le_refl _)] at this
          exact this.symm)
        go_wp2_with fail
        go_ret
        exact ⟨l, rfl, HE.out, HOR.out, HM.out⟩
end Go.Proofs.YtlbkbjeajcadiaaGreatDoor.O
