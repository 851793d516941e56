/- Several texts in one. -/
import Derived.Test.YtndfhejfhfhbdaaGreatDoorMrg21
import Derived.Test.YtndfhejfhfhbdaaGreatDoorMrg18
import Derived.Test.YtndfhejfhfhbdaaGreatDoorMrg22
import Derived.Laws.Small
import Derived.Test.YtndfhejfhfhbdaaGreatDoorMrg7
import Derived.Test.YtndfhejfhfhbdaaGreatDoorCom
import Derived.OpenShut

/- The document's At, ahead, names. -/
namespace Go.Proofs.YtndfhejfhfhbdaaGreatDoor.O
open Go.RowKit Go.Proofs.YtndfhejfhfhbdaaGreatDoor.M Go.BigFrame Go.Proofs.YtndfhejfhfhbdaaGreatDoor.K
set_option linter.unusedVariables false
set_option linter.unusedSimpArgs false

theorem atI_here {l : List Id} {k : Nat} {i : Id} (hk : l[k]? = some i) (hno : ∀ j y, j < k → l[j]? = some y → y ≠ i) : atI l i = (k : Int) := by
  have hm := List.mem_of_getElem? hk
  unfold atI
  rw [if_pos hm]
  have h1 : l[l.idxOf i]? = some i := by rw [List.getElem?_eq_getElem (List.idxOf_lt_length_iff.2 hm), List.getElem_idxOf]
  have h2 : ¬ l.idxOf i < k := fun h => hno _ _ h h1 rfl
  have h3 : l.idxOf i ≤ k := by
    obtain ⟨hl, he⟩ := List.getElem?_eq_some_iff.1 hk
    refine Nat.not_lt.1 fun hlt => ?_
    have := List.not_of_lt_findIdx (xs := l) (p := (· == i)) hlt
    simp [he] at this
  have : l.idxOf i = k := by omega
  rw [this]
theorem atI_none {l : List Id} {i : Id} (hno : ∀ j y, j < l.length → l[j]? = some y → y ≠ i) : atI l i = -1 := by
  unfold atI
  rw [if_neg]
  intro hm
  obtain ⟨j, hj⟩ := List.mem_iff_getElem?.1 hm
  exact hno j i (List.getElem?_eq_some_iff.1 hj).1 hj rfl
set_option maxRecDepth 100000 in
set_option maxHeartbeats 4000000 in
theorem refat_any (X : List Rv) (ao : Option Addr) (cap : Nat) (i : Id) (w : World) (h : RecsV w ao cap X) (v : Int) (hv : atI (idsX X) i = v) :
    Calls Tryz.prog 14 #[.slice ao X.length cap, idV i] w fun e w' => e = .returned (.int .i64 v) ∧ Below w.heap.size w w' := by
  obtain ⟨hl1, hl2⟩ := h.le
  unfold maxLen at hl2
  have H := Lib.hid h
  have HV := Lib.hid hv
  clear h hv
  go_enter Tryz.func14, Tryz.ntmps14
  go_upto_region 1 with fail
  obtain ⟨W, hW⟩ : ∃ W, W = w.alloc (idO i) := ⟨_, rfl⟩
  rw [← hW]
  have HB : Hid (Below w.heap.size w W) := Lib.hid (by rw [hW]; exact (Below.refl _ _).alloc (Nat.le_refl _) _)
  have HX : Hid (W.heap[w.heap.size]? = some (idO i)) := Lib.hid (by rw [hW]; exact heap_alloc_new w _)
  clear hW
  have HL := Lib.hid (H.out.below HB.out)
  have hlt := M.heap_lt HX.out
  clear H
  go_wp2_with fail
  go_loopw [5] (fun iv wr => ∃ k : Nat, iv = .int .i64 k ∧ k ≤ X.length ∧ Below W.heap.size W wr ∧ (∀ j y, j < k → (idsX X)[j]? = some y → y ≠ i)) (fun iv _ => X.length - (intOf iv).toNat)
  case atStart => exact ⟨0, rfl, Nat.zero_le _, Below.refl _ _, fun j x hj => absurd hj (by omega)⟩
  case round =>
    obtain ⟨k, rfl, hk, hb, hno⟩ := hrel
    have HNO := Lib.hid hno
    have HBR := Lib.hid hb
    clear hno hb
    by_cases hkl : k < X.length
    · have hii : (k : Int) < (X.length : Int) := by omega
      obtain ⟨x, hx⟩ : ∃ x, X[k]? = some x := ⟨_, List.getElem?_eq_getElem hkl⟩
      obtain ⟨b, off, e0, hbl, hrec⟩ := HL.out.row k x hx
      subst e0
      have hrb := hrec.below HBR.out hbl
      obtain ⟨⟨d0, d1⟩, _⟩ := box2 HX.out
      have k0 := Kin.cell hrb.c0
      have k1 := Kin.cell hrb.c1
      have k2 := Kin.cell ((HBR.out.cell (p := ⟨w.heap.size, _, none⟩) hlt).trans d0)
      have k3 := Kin.cell ((HBR.out.cell (p := ⟨w.heap.size, _, none⟩) hlt).trans d1)
      have hxk : (idsX X)[k]? = some x.id := by rw [List.getElem?_map, hx]; rfl
      clear d0 d1 hrb hrec
      by_cases hxi : x.id = i
      · have HE := Lib.hid (show v = (k : Int) by rw [← HV.out]; exact atI_here (hxi ▸ hxk) HNO.out)
        subst hxi
        have q := eql_yes x.id
        clear hx hxk
        go_upto_region 4 with fail
        refine wp_region_kin (by kernel_rfl) (by kernel_rfl) ?_
        repeat (go_big_quiet_step (fail))
        refine wpQuiet_nil ?_
        intro _ hxx
        obtain ⟨xk, rfl⟩ := hxx
        have HBK := Lib.hid (HBR.out.trans (xk.h.mono HBR.out.size))
        clear k0 k1 k2 k3 q
        go_wp2_with fail
        go_ret
        exact ⟨by rw [HE.out]; rfl, HB.out.trans (HBK.out.mono HB.out.size)⟩
      · have HN := Lib.hid (show ∀ j y, j < k + 1 → (idsX X)[j]? = some y → y ≠ i from fun j y hj hy => by
          by_cases e : j = k
          · subst e; rw [hxk] at hy; cases hy; exact hxi
          · exact HNO.out j y (by omega) hy)
        have q := eql_no hxi
        clear hx hxk hxi
        go_upto_region 4 with fail
        refine wp_region_kin (by kernel_rfl) (by kernel_rfl) ?_
        repeat (go_big_quiet_step (fail))
        refine wpQuiet_nil ?_
        intro _ hxx
        obtain ⟨xk, rfl⟩ := hxx
        have HBK := Lib.hid (HBR.out.trans (xk.h.mono HBR.out.size))
        clear k0 k1 k2 k3 q
        go_wp2_with fail
        go_roundw
        case rel => exact ⟨k + 1, by go_num, by omega, HBK.out, HN.out⟩
        case measure => simp [intOf]; omega
    · obtain rfl : k = X.length := by omega
      have hii : ¬ (X.length : Int) < (X.length : Int) := by omega
      have HE := Lib.hid (show v = -1 by rw [← HV.out]; exact atI_none (fun j y hj => HNO.out j y (by simpa using hj)))
      go_wp2_with fail
      go_ret
      exact ⟨by rw [HE.out]; rfl, HB.out.trans (HBR.out.mono HB.out.size)⟩
set_option maxRecDepth 100000 in
set_option maxHeartbeats 4000000 in
theorem refahead_any (x y : Rv) (w : World) (v : Bool) (hv : wlt x.nd y.nd = v) :
    Calls Tryz.prog 83 #[recV x, recV y] w fun e w' => e = .returned (.bool v) ∧ Grew w w' := by
  have HV := Lib.hid hv
  clear hv
  go_enter Tryz.func83, Tryz.ntmps83
  go_upto_region 1 with fail
  obtain ⟨hba, hbb, hg⟩ := two_recs x y w
  obtain ⟨W, hW⟩ : ∃ W, W = (w.alloc (recO x)).alloc (recO y) := ⟨_, rfl⟩
  rw [← hW] at hba hbb hg ⊢
  have HG := Lib.hid hg
  have HBA := Lib.hid hba
  have HBB := Lib.hid hbb
  clear hW hg hba hbb
  obtain ⟨c0, c1, c2, c3, c4, c5, c6, c7, c8, c9, c10, c11, c12, c13, c14, c15⟩ := box16 (HBA.out)
  obtain ⟨d0, d1, d2, d3, d4, d5, d6, d7, d8, d9, d10, d11, d12, d13, d14, d15⟩ := box16 (HBB.out)
  cases e1 : (x.tag != y.tag) with
  | true =>
    have hne : ¬ x.tag = y.tag := by simpa using e1
    have HE := Lib.hid (show v = decide (x.tag < y.tag) by
      rw [← HV.out]
      unfold wlt Rv.nd
      simp [hne])
    go_wp2_with fail
    go_ret
    exact ⟨by rw [HE.out]; rfl, HG.out⟩
  | false =>
    have heq : x.tag = y.tag := by simpa using e1
    cases e2 : (x.tag == 1) with
    | true =>
      have h1 : x.tag = 1 := by simpa using e2
      have h1' : y.tag = 1 := heq ▸ h1
      cases e3 : (x.seq != y.seq) with
      | true =>
        have h3 : ¬ x.seq = y.seq := by simpa using e3
        have HE := Lib.hid (show v = decide (x.seq < y.seq) by
          rw [← HV.out]
          unfold wlt Rv.nd
          simp [h1, h1', h3])
        clear heq h1 h1' h3
        go_wp2_with fail
        go_ret
        exact ⟨by rw [HE.out]; rfl, HG.out⟩
      | false =>
        have h3 : x.seq = y.seq := by simpa using e3
        have HE := Lib.hid (show ilt x.id y.id = v by
          rw [← HV.out]
          unfold wlt Rv.nd
          simp [h1, h1', h3])
        clear heq h1 h1' h3
        go_wp2_with fail
        refine (refless_any x.id y.id W v HE.out).mono ?_
        rintro e w1 ⟨rfl, hg1⟩
        go_wp2_with fail
        go_ret
        exact ⟨rfl, HG.out.trans hg1⟩
    | false =>
      have h1 : ¬ x.tag = 1 := by simpa using e2
      have HE := Lib.hid (show ilt x.id y.id = v by
        rw [← HV.out]
        unfold wlt Rv.nd
        have h1' : ¬ y.tag = 1 := heq ▸ h1
        simp [heq, h1'])
      clear heq h1
      go_wp2_with fail
      refine (refless_any x.id y.id W v HE.out).mono ?_
      rintro e w1 ⟨rfl, hg1⟩
      go_wp2_with fail
      go_ret
      exact ⟨rfl, HG.out.trans hg1⟩
set_option maxRecDepth 100000 in
set_option maxHeartbeats 4000000 in
theorem refnames_any (X : List Rv) (ao : Option Addr) (cap : Nat) (w : World) (h : RecsV w ao cap X) (hl : X.length ≤ 1000000) :
    Calls Tryz.prog 61 #[.slice ao X.length cap] w fun e w' => ∃ oo oc, e = .returned (.slice oo X.length oc) ∧ (OwnL w' w.heap.size oo oc (X.map Rv.id) ∧ Below w.heap.size w w') := by
  obtain ⟨hl1, hl2⟩ := h.le
  unfold maxLen at hl2
  obtain ⟨i0, hi, hz0, hz1, hz2⟩ := info_parts info_id
  have H := Lib.hid h
  clear h
  go_enter Tryz.func61, Tryz.ntmps61
  go_wp2_with fail
  go_loopw [3, 4] (fun ov kv wr => ∃ (k : Nat) (M : List Id) (oo : Option Addr) (oc : Nat), ov = .slice oo M.length oc ∧ kv = .int .i64 k ∧ k ≤ X.length ∧ M = (X.take k).map Rv.id ∧ OwnL wr w.heap.size oo oc M ∧ Below w.heap.size w wr) (fun _ kv _ => X.length - (intOf kv).toNat)
  case atStart => exact ⟨0, [], none, 0, rfl, rfl, Nat.zero_le _, by simp, World.ownsRow_nil _ _ _ _, Below.refl _ _⟩
  case round =>
    obtain ⟨k, M, oo, oc, rfl, rfl, hk, hM, hown, hb⟩ := hrel
    have HM := Lib.hid hM
    have HOW := Lib.hid hown
    have HBR := Lib.hid hb
    have hMl : M.length = k := by rw [hM, List.length_map, List.length_take]; omega
    have hMl2 : M.length ≤ 1000000 := by omega
    clear hM hown hb
    have hWr := HBR.out.size
    by_cases hkl : k < X.length
    · have hii : (k : Int) < (X.length : Int) := by omega
      obtain ⟨x, hx⟩ : ∃ x, X[k]? = some x := ⟨_, List.getElem?_eq_getElem hkl⟩
      obtain ⟨b, off, e0, hbl, hrec⟩ := H.out.row k x hx
      subst e0
      have hrb := hrec.below HBR.out hbl
      obtain ⟨c0, c1⟩ := And.intro hrb.c0 hrb.c1
      have HL := Lib.hid hMl
      have HN := Lib.hid (show M ++ [x.id] = (X.take (k + 1)).map Rv.id by rw [HM.out, List.take_add_one, hx]; simp)
      clear hx hMl hrec hrb
      go_wp2_with (refine wpList_app idC 2 (fun _ => rfl) (by decide) idC_one (by rfl) (.tmp 11) (.tmp 17) 25 (by rfl) w.heap.size 27 i0 _ 16 Tryz.underlying25 hi hz0 hz1 hz2 (by decide) rfl oo oc M x.id #[.int .i64 (x.id).r, .int .i64 (x.id).n] rfl (by rfl) (by exact HOW.out) (by rfl) (by omega) (by omega) ?_; intro oo' oc' w7 hown hmod hbel; have HOW7 := Lib.hid hown; have HBE7 := Lib.hid hbel; clear hown hmod hbel)
      clear c0 c1
      go_roundw
      case rel => exact ⟨k + 1, M ++ [x.id], oo', oc', by simp, by go_num, by omega, HN.out, HOW7.out, HBR.out.trans HBE7.out⟩
      case measure => simp [intOf]; omega
    · obtain rfl : k = X.length := by omega
      have hii : ¬ (X.length : Int) < (X.length : Int) := by omega
      have HE := Lib.hid (show M = X.map Rv.id by rw [HM.out, List.take_length])
      have HFIN := Lib.hid (show OwnL wr w.heap.size oo oc M ∧ Below w.heap.size w wr from ⟨HOW.out, HBR.out⟩)
      have HL := Lib.hid hMl
      clear hMl
      go_wp2_with fail
      go_ret
      refine ⟨oo, oc, ret_val (by rw [← HL.out]; rfl), ?_⟩
      rw [← HE.out]
      exact HFIN.out
end Go.Proofs.YtndfhejfhfhbdaaGreatDoor.O

/- The law's place, turned. -/
namespace Go.Proofs.YtndfhejfhfhbdaaGreatDoor.O
open Go.RowKit Go.Proofs.YtndfhejfhfhbdaaGreatDoor.M Go.BigFrame Go.Proofs.YtndfhejfhfhbdaaGreatDoor.K
set_option linter.unusedVariables false
set_option linter.unusedSimpArgs false

set_option maxRecDepth 100000 in
set_option maxHeartbeats 4000000 in
theorem place_any (l : List Id) (ao : Option Addr) (cap : Nat) (i : Id) (w : World) (h : IdsV w ao cap l) (v : Int) (hv : atI l i = v) :
    Calls Tryz.prog 26 #[.slice ao l.length cap, idV i] w fun e w' => e = .returned (.int .i64 v) ∧ Below w.heap.size w w' := by
  obtain ⟨hl1, hl2⟩ := h.le
  unfold maxLen at hl2
  have H := Lib.hid h
  have HV := Lib.hid hv
  clear h hv
  go_enter Tryz.func26, Tryz.ntmps26
  go_upto_region 1 with fail
  obtain ⟨W, hW⟩ : ∃ W, W = w.alloc (idO i) := ⟨_, rfl⟩
  rw [← hW]
  have HB : Hid (Below w.heap.size w W) := Lib.hid (by rw [hW]; exact (Below.refl _ _).alloc (Nat.le_refl _) _)
  have HX : Hid (W.heap[w.heap.size]? = some (idO i)) := Lib.hid (by rw [hW]; exact heap_alloc_new w _)
  clear hW
  have HL := Lib.hid (H.out.below (B := 0) HB.out)
  have hlt := M.heap_lt HX.out
  clear H
  go_wp2_with fail
  go_loopw [5] (fun iv wr => ∃ k : Nat, iv = .int .i64 k ∧ k ≤ l.length ∧ Below W.heap.size W wr ∧ (∀ j x, j < k → l[j]? = some x → x ≠ i)) (fun iv _ => l.length - (intOf iv).toNat)
  case atStart => exact ⟨0, rfl, Nat.zero_le _, Below.refl _ _, fun j x hj => absurd hj (by omega)⟩
  case round =>
    obtain ⟨k, rfl, hk, hb, hno⟩ := hrel
    have HNO := Lib.hid hno
    have HBR := Lib.hid hb
    clear hno hb
    by_cases hkl : k < l.length
    · have hii : (k : Int) < (l.length : Int) := by omega
      obtain ⟨x, hx⟩ : ∃ x, l[k]? = some x := ⟨_, List.getElem?_eq_getElem hkl⟩
      obtain ⟨b, off, rfl, hbl, c0, c1⟩ := HL.out.row k x hx
      obtain ⟨⟨d0, d1⟩, _⟩ := box2 HX.out
      have k0 := Kin.cell ((HBR.out.cell (p := ⟨b, _, none⟩) hbl).trans c0)
      have k1 := Kin.cell ((HBR.out.cell (p := ⟨b, _, none⟩) hbl).trans c1)
      have k2 := Kin.cell ((HBR.out.cell (p := ⟨w.heap.size, _, none⟩) hlt).trans d0)
      have k3 := Kin.cell ((HBR.out.cell (p := ⟨w.heap.size, _, none⟩) hlt).trans d1)
      clear c0 c1 d0 d1
      by_cases hxi : x = i
      · have HE := Lib.hid (show v = (k : Int) by rw [← HV.out]; exact atI_here (hxi ▸ hx) HNO.out)
        subst hxi
        have q := eql_yes x
        clear hx
        go_upto_region 4 with fail
        refine wp_region_kin (by kernel_rfl) (by kernel_rfl) ?_
        repeat (go_big_quiet_step (fail))
        refine wpQuiet_nil ?_
        intro _ hxx
        obtain ⟨xk, rfl⟩ := hxx
        have HBK := Lib.hid (HBR.out.trans (xk.h.mono HBR.out.size))
        clear k0 k1 k2 k3 q
        go_wp2_with fail
        go_ret
        exact ⟨by rw [HE.out]; rfl, HB.out.trans (HBK.out.mono HB.out.size)⟩
      · have HN := Lib.hid (show ∀ j y, j < k + 1 → l[j]? = some y → y ≠ i from fun j y hj hy => by
          by_cases e : j = k
          · subst e; rw [hx] at hy; cases hy; exact hxi
          · exact HNO.out j y (by omega) hy)
        have q := eql_no hxi
        clear hx hxi
        go_upto_region 4 with fail
        refine wp_region_kin (by kernel_rfl) (by kernel_rfl) ?_
        repeat (go_big_quiet_step (fail))
        refine wpQuiet_nil ?_
        intro _ hxx
        obtain ⟨xk, rfl⟩ := hxx
        have HBK := Lib.hid (HBR.out.trans (xk.h.mono HBR.out.size))
        clear k0 k1 k2 k3 q
        go_wp2_with fail
        go_roundw
        case rel => exact ⟨k + 1, by go_num, by omega, HBK.out, HN.out⟩
        case measure => simp [intOf]; omega
    · obtain rfl : k = l.length := by omega
      have hii : ¬ (l.length : Int) < (l.length : Int) := by omega
      have HE := Lib.hid (show v = -1 by rw [← HV.out]; exact atI_none (fun j y hj => HNO.out j y hj))
      go_wp2_with fail
      go_ret
      exact ⟨by rw [HE.out]; rfl, HB.out.trans (HBR.out.mono HB.out.size)⟩
set_option maxRecDepth 100000 in
set_option maxHeartbeats 4000000 in
theorem pick_any (k : Int) (n : Nat) (w : World) (hk : P.InI k) (hn : n ≤ 1000) :
    Calls Tryz.prog 39 #[.int .i64 k, .int .i64 n] w fun e w' => ∃ j : Nat, e = .returned (.int .i64 j) ∧ (j ≤ n ∧ w = w') := by
  unfold P.InI at hk
  obtain ⟨hk1, hk2⟩ := hk
  go_enter Tryz.func39, Tryz.ntmps39
  by_cases h0 : n = 0
  · subst h0
    go_wp2_with fail
    go_ret
    exact ⟨0, rfl, Nat.le_refl _, rfl⟩
  · have e1 : ¬ (n : Int) < 1 := by omega
    have e2 : ¬ (n : Int) = 0 := by omega
    have hr1 : k.tmod n < n := Int.tmod_lt_of_pos _ (by omega)
    have hr2 : -(n : Int) < k.tmod n := by
      have := Int.tmod_lt_of_pos (-k) (b := (n : Int)) (by omega)
      rw [Int.neg_tmod] at this
      omega
    by_cases h3 : k.tmod n < 0
    · obtain ⟨j, hj⟩ : ∃ j : Nat, k.tmod n + n = (j : Int) := ⟨(k.tmod n + n).toNat, by omega⟩
      go_wp2_with fail
      go_ret
      exact ⟨j, by rw [← hj]; rfl, by omega, rfl⟩
    · obtain ⟨j, hj⟩ : ∃ j : Nat, k.tmod n = (j : Int) := ⟨(k.tmod n).toNat, by omega⟩
      go_wp2_with fail
      go_ret
      exact ⟨j, by rw [← hj]; rfl, by omega, rfl⟩
end Go.Proofs.YtndfhejfhfhbdaaGreatDoor.O

/- Rows of bools and of bytes that came in. -/
namespace Go.Proofs.YtndfhejfhfhbdaaGreatDoor.O
open Go.RowKit Go.Proofs.YtndfhejfhfhbdaaGreatDoor.M Go.WideShapes Go.ChangeShapes
set_option linter.unusedVariables false
set_option linter.unusedSimpArgs false

/-- a slice of elements of one cell each -/
structure OneV {α : Type} (mk : α → Value) (w : World) (ao : Option Addr) (cap : Nat) (l : List α) : Prop where
  le : l.length ≤ cap ∧ cap ≤ maxLen
  row : ∀ i x, l[i]? = some x → ∃ b off, ao = some ⟨b, off, none⟩ ∧ b < w.heap.size ∧ w.cell? ⟨b, off + i, none⟩ = some (mk x)
theorem OneV.below {α : Type} {mk : α → Value} {B : Nat} {w w1 : World} {ao : Option Addr} {cap : Nat} {l : List α} (h : OneV mk w ao cap l) (hb : Below w.heap.size w w1) : OneV mk w1 ao cap l :=
  ⟨h.le, fun i x hi => by
    obtain ⟨b, off, e1, hl, c0⟩ := h.row i x hi
    exact ⟨b, off, e1, Nat.lt_of_lt_of_le hl hb.size, (hb.cell (p := ⟨b, _, none⟩) hl).trans c0⟩⟩
abbrev boolV (x : Bool) : Value := .bool x
abbrev u8V (x : Nat) : Value := .int .u8 (x : Int)
theorem bools_view {H : Type} {enc : TypeId × Value → H} {w : World} {v : Value} {d : DataW H} {p : List MemPlace} (h : DataW.Trod enc Tryz.prog w 0 (fun _ => true) true 22 v d p)
    (hlt : ∀ y ∈ p, y.block < w.heap.size) (hs : ∃ a l c, v = .slice a l c) : ∃ ao cap l, v = .slice ao (l : List Bool).length cap ∧ OneV boolV w ao cap l := by
  obtain ⟨a, l, c, rfl⟩ := hs
  obtain ⟨fuel, hf⟩ := h
  obtain ⟨ao, b, off, len, cap, n, C, D, hcs, hl, hm, hz, h0, _, hC⟩ := C.slice_view2 Tryz.underlying22 (k := 1) (by kernel_rfl) (by decide) hf hlt
  have hcs' : (Value.slice a l c) = .slice ao len cap := by simpa [Value.cells] using hcs
  have hE : ∀ i, i < len → ∃ z : Bool, C i = [.bool z] := fun i hi => by
    obtain ⟨_, _, pi, ht, hp⟩ := hC i hi
    obtain ⟨z, e, _⟩ := DataW.trod_bool Tryz.underlying4 ht
    exact ⟨z, e⟩
  obtain ⟨Y, hY⟩ := @Go.Deep.choose_lt Bool _ _ _ hE
  have hlen : ((List.range len).map Y).length = len := by simp
  refine ⟨ao, cap, (List.range len).map Y, by rw [hlen]; exact hcs', by rw [hlen]; exact ⟨hl, hm⟩, fun i x hx => ?_⟩
  have hi : i < len := by have := (List.getElem?_eq_some_iff.1 hx).1; rwa [hlen] at this
  have e : Y i = x := by simpa [hi] using hx
  have hc := (hC i hi).2.1 0 (by decide)
  rw [hY i hi, e] at hc
  simp only [Nat.mul_one, Nat.add_zero] at hc
  exact ⟨b, off, (h0 (by omega)).1, (h0 (by omega)).2, hc⟩
theorem u8s_view {H : Type} {enc : TypeId × Value → H} {w : World} {v : Value} {d : DataW H} {p : List MemPlace} (h : DataW.Trod enc Tryz.prog w 0 (fun _ => true) true 23 v d p)
    (hlt : ∀ y ∈ p, y.block < w.heap.size) (hs : ∃ a l c, v = .slice a l c) : ∃ ao cap l, v = .slice ao (l : List Nat).length cap ∧ OneV u8V w ao cap l ∧ ∀ x ∈ l, x < 256 := by
  obtain ⟨a, l, c, rfl⟩ := hs
  obtain ⟨fuel, hf⟩ := h
  obtain ⟨ao, b, off, len, cap, n, C, D, hcs, hl, hm, hz, h0, _, hC⟩ := C.slice_view2 Tryz.underlying23 (k := 1) (by kernel_rfl) (by decide) hf hlt
  have hcs' : (Value.slice a l c) = .slice ao len cap := by simpa [Value.cells] using hcs
  have hE : ∀ i, i < len → ∃ z : Nat, C i = [.int .u8 (z : Int)] ∧ z < 256 := fun i hi => by
    obtain ⟨_, _, pi, ht, hp⟩ := hC i hi
    obtain ⟨z, e, _, hw⟩ := DataW.trod_int Tryz.underlying5 ht
    have hw2 : 0 ≤ z ∧ z ≤ 255 := by
      simp only [Lit.wf, Bool.and_eq_true, decide_eq_true_eq] at hw
      exact hw
    refine ⟨z.toNat, ?_, by omega⟩
    rw [e, Int.toNat_of_nonneg hw2.1]
  obtain ⟨Y, hY⟩ := @Go.Deep.choose_lt Nat _ _ _ hE
  have hlen : ((List.range len).map Y).length = len := by simp
  refine ⟨ao, cap, (List.range len).map Y, by rw [hlen]; exact hcs', ⟨by rw [hlen]; exact ⟨hl, hm⟩, fun i x hx => ?_⟩, fun x hx => ?_⟩
  · have hi : i < len := by have := (List.getElem?_eq_some_iff.1 hx).1; rwa [hlen] at this
    have e : Y i = x := by simpa [hi] using hx
    have hc := (hC i hi).2.1 0 (by decide)
    rw [(hY i hi).1, e] at hc
    simp only [Nat.mul_one, Nat.add_zero] at hc
    exact ⟨b, off, (h0 (by omega)).1, (h0 (by omega)).2, hc⟩
  · obtain ⟨i, hi, rfl⟩ := List.mem_map.1 hx
    exact (hY i (List.mem_range.1 hi)).2
end Go.Proofs.YtndfhejfhfhbdaaGreatDoor.O

/- The engine's law's place. -/
namespace Go.Proofs.YtndfhejfhfhbdaaGreatDoor.O
open Go.RowKit Go.Proofs.YtndfhejfhfhbdaaGreatDoor.M Go.BigFrame Go.Proofs.YtndfhejfhfhbdaaGreatDoor.K
set_option linter.unusedVariables false
set_option linter.unusedSimpArgs false

set_option maxRecDepth 100000 in
set_option maxHeartbeats 4000000 in
theorem place20_any (l : List Id) (ao : Option Addr) (cap : Nat) (i : Id) (w : World) (h : IdsV w ao cap l) (v : Int) (hv : atI l i = v) :
    Calls Tryz.prog 40 #[.slice ao l.length cap, idV i] w fun e w' => e = .returned (.int .i64 v) ∧ Below w.heap.size w w' := by
  obtain ⟨hl1, hl2⟩ := h.le
  unfold maxLen at hl2
  have H := Lib.hid h
  have HV := Lib.hid hv
  clear h hv
  go_enter Tryz.func40, Tryz.ntmps40
  go_upto_region 1 with fail
  obtain ⟨W, hW⟩ : ∃ W, W = w.alloc (idO i) := ⟨_, rfl⟩
  rw [← hW]
  have HB : Hid (Below w.heap.size w W) := Lib.hid (by rw [hW]; exact (Below.refl _ _).alloc (Nat.le_refl _) _)
  have HX : Hid (W.heap[w.heap.size]? = some (idO i)) := Lib.hid (by rw [hW]; exact heap_alloc_new w _)
  clear hW
  have HL := Lib.hid (H.out.below (B := 0) HB.out)
  have hlt := M.heap_lt HX.out
  clear H
  go_wp2_with fail
  go_loopw [5] (fun iv wr => ∃ k : Nat, iv = .int .i64 k ∧ k ≤ l.length ∧ Below W.heap.size W wr ∧ (∀ j x, j < k → l[j]? = some x → x ≠ i)) (fun iv _ => l.length - (intOf iv).toNat)
  case atStart => exact ⟨0, rfl, Nat.zero_le _, Below.refl _ _, fun j x hj => absurd hj (by omega)⟩
  case round =>
    obtain ⟨k, rfl, hk, hb, hno⟩ := hrel
    have HNO := Lib.hid hno
    have HBR := Lib.hid hb
    clear hno hb
    by_cases hkl : k < l.length
    · have hii : (k : Int) < (l.length : Int) := by omega
      obtain ⟨x, hx⟩ : ∃ x, l[k]? = some x := ⟨_, List.getElem?_eq_getElem hkl⟩
      obtain ⟨b, off, rfl, hbl, c0, c1⟩ := HL.out.row k x hx
      obtain ⟨⟨d0, d1⟩, _⟩ := box2 HX.out
      have k0 := Kin.cell ((HBR.out.cell (p := ⟨b, _, none⟩) hbl).trans c0)
      have k1 := Kin.cell ((HBR.out.cell (p := ⟨b, _, none⟩) hbl).trans c1)
      have k2 := Kin.cell ((HBR.out.cell (p := ⟨w.heap.size, _, none⟩) hlt).trans d0)
      have k3 := Kin.cell ((HBR.out.cell (p := ⟨w.heap.size, _, none⟩) hlt).trans d1)
      clear c0 c1 d0 d1
      by_cases hxi : x = i
      · have HE := Lib.hid (show v = (k : Int) by rw [← HV.out]; exact atI_here (hxi ▸ hx) HNO.out)
        subst hxi
        have q := eql_yes x
        clear hx
        go_upto_region 4 with fail
        refine wp_region_kin (by kernel_rfl) (by kernel_rfl) ?_
        repeat (go_big_quiet_step (fail))
        refine wpQuiet_nil ?_
        intro _ hxx
        obtain ⟨xk, rfl⟩ := hxx
        have HBK := Lib.hid (HBR.out.trans (xk.h.mono HBR.out.size))
        clear k0 k1 k2 k3 q
        go_wp2_with fail
        go_ret
        exact ⟨by rw [HE.out]; rfl, HB.out.trans (HBK.out.mono HB.out.size)⟩
      · have HN := Lib.hid (show ∀ j y, j < k + 1 → l[j]? = some y → y ≠ i from fun j y hj hy => by
          by_cases e : j = k
          · subst e; rw [hx] at hy; cases hy; exact hxi
          · exact HNO.out j y (by omega) hy)
        have q := eql_no hxi
        clear hx hxi
        go_upto_region 4 with fail
        refine wp_region_kin (by kernel_rfl) (by kernel_rfl) ?_
        repeat (go_big_quiet_step (fail))
        refine wpQuiet_nil ?_
        intro _ hxx
        obtain ⟨xk, rfl⟩ := hxx
        have HBK := Lib.hid (HBR.out.trans (xk.h.mono HBR.out.size))
        clear k0 k1 k2 k3 q
        go_wp2_with fail
        go_roundw
        case rel => exact ⟨k + 1, by go_num, by omega, HBK.out, HN.out⟩
        case measure => simp [intOf]; omega
    · obtain rfl : k = l.length := by omega
      have hii : ¬ (l.length : Int) < (l.length : Int) := by omega
      have HE := Lib.hid (show v = -1 by rw [← HV.out]; exact atI_none (fun j y hj => HNO.out j y hj))
      go_wp2_with fail
      go_ret
      exact ⟨by rw [HE.out]; rfl, HB.out.trans (HBR.out.mono HB.out.size)⟩
end Go.Proofs.YtndfhejfhfhbdaaGreatDoor.O
