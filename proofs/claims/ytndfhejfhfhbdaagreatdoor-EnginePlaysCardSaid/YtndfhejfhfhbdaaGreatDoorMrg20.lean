/- Several texts in one. -/
import Derived.Test.YtndfhejfhfhbdaaGreatDoorMrg19
import Derived.Test.YtndfhejfhfhbdaaGreatDoorMrg17
import Derived.Laws.OwnMore

/- The document's At, ahead, names. -/
namespace Go.Proofs.YtndfhejfhfhbdaaGreatDoor.O
open Go.RowKit Go.Proofs.YtndfhejfhfhbdaaGreatDoor.M Go.BigFrame Go.Proofs.YtndfhejfhfhbdaaGreatDoor.K
set_option linter.unusedVariables false
set_option linter.unusedSimpArgs false

theorem atI_here {l : List Id} {k : Nat} {i : Id} (hk : l[k]? = some i) (hno : ∀ j y, j < k → l[j]? = some y → y ≠ i) : atI l i = (k : Int) := by
  have hm := List.mem_of_getElem? hk
  unfold atI
  rw [if_pos hm]
  have h1 : l[l.idxOf i]? = some i := by rw [List.getElem?_eq_getElem (List.idxOf_lt_length_iff.2 hm), List.getElem_idxOf]
  have h2 : ¬ l.idxOf i < k := fun h => hno _ _ h h1 rfl
  have h3 : l.idxOf i ≤ k := by
    obtain ⟨hl, he⟩ := List.getElem?_eq_some_iff.1 hk
    refine Nat.not_lt.1 fun hlt => ?_
    have := List.not_of_lt_findIdx (xs := l) (p := (· == i)) hlt
    simp [he] at this
  have : l.idxOf i = k := by omega
  rw [this]
theorem atI_none {l : List Id} {i : Id} (hno : ∀ j y, j < l.length → l[j]? = some y → y ≠ i) : atI l i = -1 := by
  unfold atI
  rw [if_neg]
  intro hm
  obtain ⟨j, hj⟩ := List.mem_iff_getElem?.1 hm
  exact hno j i (List.getElem?_eq_some_iff.1 hj).1 hj rfl
set_option maxRecDepth 100000 in
set_option maxHeartbeats 4000000 in
theorem refat_any (X : List Rv) (ao : Option Addr) (cap : Nat) (i : Id) (w : World) (h : RecsV w ao cap X) (v : Int) (hv : atI (idsX X) i = v) :
    Calls Tryz.prog 14 #[.slice ao X.length cap, idV i] w fun e w' => e = .returned (.int .i64 v) ∧ Below w.heap.size w w' := by
  obtain ⟨hl1, hl2⟩ := h.le
  unfold maxLen at hl2
  have H := Lib.hid h
  have HV := Lib.hid hv
  clear h hv
  go_enter Tryz.func14, Tryz.ntmps14
  go_upto_region 1 with fail
  obtain ⟨W, hW⟩ : ∃ W, W = w.alloc (idO i) := ⟨_, rfl⟩
  rw [← hW]
  have HB : Hid (Below w.heap.size w W) := Lib.hid (by rw [hW]; exact (Below.refl _ _).alloc (Nat.le_refl _) _)
  have HX : Hid (W.heap[w.heap.size]? = some (idO i)) := Lib.hid (by rw [hW]; exact heap_alloc_new w _)
  clear hW
  have HL := Lib.hid (H.out.below HB.out)
  have hlt := M.heap_lt HX.out
  clear H
  go_wp2_with fail
  go_loopw [5] (fun iv wr => ∃ k : Nat, iv = .int .i64 k ∧ k ≤ X.length ∧ Below W.heap.size W wr ∧ (∀ j y, j < k → (idsX X)[j]? = some y → y ≠ i)) (fun iv _ => X.length - (intOf iv).toNat)
  case atStart => exact ⟨0, rfl, Nat.zero_le _, Below.refl _ _, fun j x hj => absurd hj (by omega)⟩
  case round =>
    obtain ⟨k, rfl, hk, hb, hno⟩ := hrel
    have HNO := Lib.hid hno
    have HBR := Lib.hid hb
    clear hno hb
    by_cases hkl : k < X.length
    · have hii : (k : Int) < (X.length : Int) := by omega
      obtain ⟨x, hx⟩ : ∃ x, X[k]? = some x := ⟨_, List.getElem?_eq_getElem hkl⟩
      obtain ⟨b, off, e0, hbl, hrec⟩ := HL.out.row k x hx
      subst e0
      have hrb := hrec.below HBR.out hbl
      obtain ⟨⟨d0, d1⟩, _⟩ := box2 HX.out
      have k0 := Kin.cell hrb.c0
      have k1 := Kin.cell hrb.c1
      have k2 := Kin.cell ((HBR.out.cell (p := ⟨w.heap.size, _, none⟩) hlt).trans d0)
      have k3 := Kin.cell ((HBR.out.cell (p := ⟨w.heap.size, _, none⟩) hlt).trans d1)
      have hxk : (idsX X)[k]? = some x.id := by rw [List.getElem?_map, hx]; rfl
      clear d0 d1 hrb hrec
      by_cases hxi : x.id = i
      · have HE := Lib.hid (show v = (k : Int) by rw [← HV.out]; exact atI_here (hxi ▸ hxk) HNO.out)
        subst hxi
        have q := eql_yes x.id
        clear hx hxk
        go_upto_region 4 with fail
        refine wp_region_kin (by kernel_rfl) (by kernel_rfl) ?_
        repeat (go_big_quiet_step (fail))
        refine wpQuiet_nil ?_
        intro _ hxx
        obtain ⟨xk, rfl⟩ := hxx
        have HBK := Lib.hid (HBR.out.trans (xk.h.mono HBR.out.size))
        clear k0 k1 k2 k3 q
        go_wp2_with fail
        go_ret
        exact ⟨by rw [HE.out]; rfl, HB.out.trans (HBK.out.mono HB.out.size)⟩
      · have HN := Lib.hid (show ∀ j y, j < k + 1 → (idsX X)[j]? = some y → y ≠ i from fun j y hj hy => by
          by_cases e : j = k
          · subst e; rw [hxk] at hy; cases hy; exact hxi
          · exact HNO.out j y (by omega) hy)
        have q := eql_no hxi
        clear hx hxk hxi
        go_upto_region 4 with fail
        refine wp_region_kin (by kernel_rfl) (by kernel_rfl) ?_
        repeat (go_big_quiet_step (fail))
        refine wpQuiet_nil ?_
        intro _ hxx
        obtain ⟨xk, rfl⟩ := hxx
        have HBK := Lib.hid (HBR.out.trans (xk.h.mono HBR.out.size))
        clear k0 k1 k2 k3 q
        go_wp2_with fail
        go_roundw
        case rel => exact ⟨k + 1, by go_num, by omega, HBK.out, HN.out⟩
        case measure => simp [intOf]; omega
    · obtain rfl : k = X.length := by omega
      have hii : ¬ (X.length : Int) < (X.length : Int) := by omega
      have HE := Lib.hid (show v = -1 by rw [← HV.out]; exact atI_none (fun j y hj => HNO.out j y (by simpa using hj)))
      go_wp2_with fail
      go_ret
      exact ⟨by rw [HE.out]; rfl, HB.out.trans (HBR.out.mono HB.out.size)⟩
set_option maxRecDepth 100000 in
set_option maxHeartbeats 4000000 in
theorem refahead_any (x y : Rv) (w : World) (v : Bool) (hv : wlt x.nd y.nd = v) :
    Calls Tryz.prog 83 #[recV x, recV y] w fun e w' => e = .returned (.bool v) ∧ Grew w w' := by
  have HV := Lib.hid hv
  clear hv
  go_enter Tryz.func83, Tryz.ntmps83
  go_upto_region 1 with fail
  obtain ⟨hba, hbb, hg⟩ := two_recs x y w
  obtain ⟨W, hW⟩ : ∃ W, W = (w.alloc (recO x)).alloc (recO y) := ⟨_, rfl⟩
  rw [← hW] at hba hbb hg ⊢
  have HG := Lib.hid hg
  have HBA := Lib.hid hba
  have HBB := Lib.hid hbb
  clear hW hg hba hbb
  obtain ⟨c0, c1, c2, c3, c4, c5, c6, c7, c8, c9, c10, c11, c12, c13, c14, c15⟩ := box16 (HBA.out)
  obtain ⟨d0, d1, d2, d3, d4, d5, d6, d7, d8, d9, d10, d11, d12, d13, d14, d15⟩ := box16 (HBB.out)
  cases e1 : (x.tag != y.tag) with
  | true =>
    have hne : ¬ x.tag = y.tag := by simpa using e1
    have HE := Lib.hid (show v = decide (x.tag < y.tag) by
      rw [← HV.out]
      unfold wlt Rv.nd
      simp [hne])
    go_wp2_with fail
    go_ret
    exact ⟨by rw [HE.out]; rfl, HG.out⟩
  | false =>
    have heq : x.tag = y.tag := by simpa using e1
    cases e2 : (x.tag == 1) with
    | true =>
      have h1 : x.tag = 1 := by simpa using e2
      have h1' : y.tag = 1 := heq ▸ h1
      cases e3 : (x.seq != y.seq) with
      | true =>
        have h3 : ¬ x.seq = y.seq := by simpa using e3
        have HE := Lib.hid (show v = decide (x.seq < y.seq) by
          rw [← HV.out]
          unfold wlt Rv.nd
          simp [h1, h1', h3])
        clear heq h1 h1' h3
        go_wp2_with fail
        go_ret
        exact ⟨by rw [HE.out]; rfl, HG.out⟩
      | false =>
        have h3 : x.seq = y.seq := by simpa using e3
        have HE := Lib.hid (show ilt x.id y.id = v by
          rw [← HV.out]
          unfold wlt Rv.nd
          simp [h1, h1', h3])
        clear heq h1 h1' h3
        go_wp2_with fail
        refine (refless_any x.id y.id W v HE.out).mono ?_
        rintro e w1 ⟨rfl, hg1⟩
        go_wp2_with fail
        go_ret
        exact ⟨rfl, HG.out.trans hg1⟩
    | false =>
      have h1 : ¬ x.tag = 1 := by simpa using e2
      have HE := Lib.hid (show ilt x.id y.id = v by
        rw [← HV.out]
        unfold wlt Rv.nd
        have h1' : ¬ y.tag = 1 := heq ▸ h1
        simp [heq, h1'])
      clear heq h1
      go_wp2_with fail
      refine (refless_any x.id y.id W v HE.out).mono ?_
      rintro e w1 ⟨rfl, hg1⟩
      go_wp2_with fail
      go_ret
      exact ⟨rfl, HG.out.trans hg1⟩
set_option maxRecDepth 100000 in
set_option maxHeartbeats 4000000 in
theorem refnames_any (X : List Rv) (ao : Option Addr) (cap : Nat) (w : World) (h : RecsV w ao cap X) (hl : X.length ≤ 1000000) :
    Calls Tryz.prog 61 #[.slice ao X.length cap] w fun e w' => ∃ oo oc, e = .returned (.slice oo X.length oc) ∧ (OwnL w' w.heap.size oo oc (X.map Rv.id) ∧ Below w.heap.size w w') := by
  obtain ⟨hl1, hl2⟩ := h.le
  unfold maxLen at hl2
  obtain ⟨i0, hi, hz0, hz1, hz2⟩ := info_parts info_id
  have H := Lib.hid h
  clear h
  go_enter Tryz.func61, Tryz.ntmps61
  go_wp2_with fail
  go_loopw [3, 4] (fun ov kv wr => ∃ (k : Nat) (M : List Id) (oo : Option Addr) (oc : Nat), ov = .slice oo M.length oc ∧ kv = .int .i64 k ∧ k ≤ X.length ∧ M = (X.take k).map Rv.id ∧ OwnL wr w.heap.size oo oc M ∧ Below w.heap.size w wr) (fun _ kv _ => X.length - (intOf kv).toNat)
  case atStart => exact ⟨0, [], none, 0, rfl, rfl, Nat.zero_le _, by simp, World.ownsRow_nil _ _ _ _, Below.refl _ _⟩
  case round =>
    obtain ⟨k, M, oo, oc, rfl, rfl, hk, hM, hown, hb⟩ := hrel
    have HM := Lib.hid hM
    have HOW := Lib.hid hown
    have HBR := Lib.hid hb
    have hMl : M.length = k := by rw [hM, List.length_map, List.length_take]; omega
    have hMl2 : M.length ≤ 1000000 := by omega
    clear hM hown hb
    have hWr := HBR.out.size
    by_cases hkl : k < X.length
    · have hii : (k : Int) < (X.length : Int) := by omega
      obtain ⟨x, hx⟩ : ∃ x, X[k]? = some x := ⟨_, List.getElem?_eq_getElem hkl⟩
      obtain ⟨b, off, e0, hbl, hrec⟩ := H.out.row k x hx
      subst e0
      have hrb := hrec.below HBR.out hbl
      obtain ⟨c0, c1⟩ := And.intro hrb.c0 hrb.c1
      have HL := Lib.hid hMl
      have HN := Lib.hid (show M ++ [x.id] = (X.take (k + 1)).map Rv.id by rw [HM.out, List.take_add_one, hx]; simp)
      clear hx hMl hrec hrb
      go_wp2_with (refine wpList_app idC 2 (fun _ => rfl) (by decide) idC_one (by rfl) (.tmp 11) (.tmp 17) 25 (by rfl) w.heap.size 27 i0 _ 16 Tryz.underlying25 hi hz0 hz1 hz2 (by decide) rfl oo oc M x.id #[.int .i64 (x.id).r, .int .i64 (x.id).n] rfl (by rfl) (by exact HOW.out) (by rfl) (by omega) (by omega) ?_; intro oo' oc' w7 hown hmod hbel; have HOW7 := Lib.hid hown; have HBE7 := Lib.hid hbel; clear hown hmod hbel)
      clear c0 c1
      go_roundw
      case rel => exact ⟨k + 1, M ++ [x.id], oo', oc', by simp, by go_num, by omega, HN.out, HOW7.out, HBR.out.trans HBE7.out⟩
      case measure => simp [intOf]; omega
    · obtain rfl : k = X.length := by omega
      have hii : ¬ (X.length : Int) < (X.length : Int) := by omega
      have HE := Lib.hid (show M = X.map Rv.id by rw [HM.out, List.take_length])
      have HFIN := Lib.hid (show OwnL wr w.heap.size oo oc M ∧ Below w.heap.size w wr from ⟨HOW.out, HBR.out⟩)
      have HL := Lib.hid hMl
      clear hMl
      go_wp2_with fail
      go_ret
      refine ⟨oo, oc, ret_val (by rw [← HL.out]; rfl), ?_⟩
      rw [← HE.out]
      exact HFIN.out
end Go.Proofs.YtndfhejfhfhbdaaGreatDoor.O

/- append of rows; order.Order. -/
namespace Go
section
variable {P : Program} {w : World}
/-- nothing is appended -/
theorem run_append_owned_empty (base : Nat) (t ty e : TypeId) (i : TypeInfo) (size : Nat) (ht : P.underlying t = some (.slice e)) (hi : P.info? e = some i)
    (v : Value) (n : Nat) (xs : List Value) (hown : w.ownsRow base e size v n xs) (ao : Option Addr) (c : Nat) :
    (Builtin.append_ #[t, t] ty #[v, .slice ao 0 c]).run P w = .ok v w := by
  rcases hown.2 with ⟨rfl, rfl⟩ | ⟨g, cap, cur, rfl, _, _, hnc, _⟩
  · cases ao <;> simp [Builtin.append_, run_underlying ht, sizeOf, typeInfo, hi, Builtin.lenOf, Builtin.firstCells, loadCells, loadCellsFrom]
  · cases ao <;> simp [Builtin.append_, run_underlying ht, sizeOf, typeInfo, hi, Builtin.lenOf, Builtin.firstCells, hnc, loadCells, loadCellsFrom, storeCells]
end
end Go
namespace Go.Proofs.YtndfhejfhfhbdaaGreatDoor.O
open Go.RowKit Go.Proofs.YtndfhejfhfhbdaaGreatDoor.M Go.BigFrame Go.Proofs.YtndfhejfhfhbdaaGreatDoor.K Go.Proofs.YtndfhejfhfhbdaaGreatDoor.T
set_option linter.unusedVariables false
set_option linter.unusedSimpArgs false

section
variable {P : Program} {w : World} {α : Type}
/-- what is appended lies here -/
def SrcAt (w : World) (so : Option Addr) (l : List Value) : Prop := l ≠ [] → ∃ ad, so = some ad ∧ ∀ j u, l[j]? = some u → w.cell? (ad.add j) = some u
theorem SrcAt.of_own {B : Nat} {e : TypeId} {k n : Nat} {so : Option Addr} {sc : Nat} {l : List Value} (h : w.ownsRow B e k (.slice so n sc) n l) : SrcAt w so l := by
  intro hne
  obtain ⟨ao', cap', e0, h1, h2, h3, h4⟩ := M.own_view h
  cases e0
  cases so with
  | none =>
    rcases h.2 with ⟨h5, h6⟩ | ⟨g, cap, cur, h5, _⟩
    · refine absurd (List.eq_nil_of_length_eq_zero ?_) hne
      rw [h.1, h6, Nat.zero_mul]
    · cases h5
  | some a =>
    obtain ⟨g, cur, rfl, _, hg, hsz, htk⟩ := h4 a rfl
    refine ⟨_, rfl, fun j u hj => ?_⟩
    have hjl : j < n * k := by
      have := (List.getElem?_eq_some_iff.1 hj).1
      rw [← htk, List.length_take] at this
      omega
    have ea : (⟨g, 0, none⟩ : Addr).add j = ⟨g, 0 + j, none⟩ := by
      unfold Addr.add
      split
      · next e => rw [e]
      · rfl
    rw [ea, cell_of_row w g _ _ _ _ hg, Nat.zero_add, ← Array.getElem?_toList, ← hj, ← htk, List.getElem?_take_of_lt hjl]
theorem wpList_apps (enc : α → List Value) (k : Nat) (hk : ∀ x, (enc x).length = k) (h0 : 0 < k) (h1 : ∀ x, ∀ v ∈ enc x, v.oneCell' = true) {ops : Array Oper} {rest : List Oper} {o : Oper} {a : Act} {Q : Exit → Act → World → Prop} (hgd : o.guard = none) (s x : Operand) (t : TypeId)
    (ho : o.op = .call { callee := .builtin .append, args := #[s, x], argTypes := #[t, t] }) (B : Nat) (e : TypeId) (i : TypeInfo) (z : Value) (bytes : Nat) (ht : P.underlying t = some (.slice e)) (hi : P.info? e = some i) (hz : i.zero = some z)
    (hsize : i.size = k) (hby : i.bytes = bytes) (hb2 : bytes ≤ 1000) (hzs : z.cells.size = k) (oo : Option Addr) (oc m : Nat) (M : List α) (hMl : M.length = m) (so : Option Addr) (sc n : Nat) (N : List α) (hNl : N.length = n) (hs : a.eval s = .slice oo m oc)
    (hown : w.ownsRow B e k (.slice oo m oc) m (M.flatMap enc)) (hx : a.eval x = .slice so n sc) (hsrc : SrcAt w so (N.flatMap enc)) (hM : m + n ≤ 100000000) (hB : B ≤ w.heap.size)
    (h : ∀ oo' oc' w', w'.ownsRow B e k (.slice oo' (m + n) oc') (m + n) ((M ++ N).flatMap enc) → Mods (fun j => ∃ a, oo = some a ∧ j = a.block) w w' → Below B w w' → wpList P ops Q rest (a.put o.dst (.slice oo' (m + n) oc')) w') :
    wpList P ops Q (o :: rest) a w := by
  cases N with
  | nil =>
    obtain rfl : n = 0 := by rw [← hNl]; rfl
    have hrun := run_append_owned_empty (P := P) (w := w) B t o.type e i k ht hi _ _ _ hown so sc
    have hK := h oo oc w (by simpa using hown) (Mods.refl _ _) (Below.refl _ _)
    rw [Nat.add_zero] at hK
    refine wpList_plain hgd fun K hKK => ?_
    unfold Oper.wp
    simp [execOp, ho, resolve, invoke, builtin, hs, hx, hrun, Result.andThen]
    exact hKK _ _ hK
  | cons y N' =>
    obtain ⟨N, hN⟩ : ∃ N, y :: N' = N := ⟨_, rfl⟩
    have hpos : 0 < n := by rw [← hNl]; simp
    rw [hN] at hNl hsrc h
    clear hN
    have hlen : (N.flatMap enc).length = n * k := by rw [← hNl]; exact flat_len enc k hk N
    have hne : N.flatMap enc ≠ [] := fun e0 => by
      rw [e0] at hlen
      have := Nat.mul_pos hpos h0
      simp at hlen
      omega
    obtain ⟨ad, rfl, hcells⟩ := hsrc hne
    refine wpList_append_lies _ hgd s x t ho B e i z k bytes ht hi hz hsize hby hzs h0 (.slice oo m oc) m (M.flatMap enc) hs hown ad n sc (N.flatMap enc) hx hlen hcells
      (fun u hu => by obtain ⟨x, hx1, hx2⟩ := List.mem_flatMap.1 hu; exact h1 x u hx2) hpos (by unfold maxLen; omega) ?_ hB w.heap.size rfl ?_
    · have : (m + n) * bytes ≤ 100000000 * 1000 := Nat.mul_le_mul (by omega) hb2
      omega
    · intro g cap w' hown' hgrow _ _
      have hm : Mods (fun j => ∃ a, oo = some a ∧ j = a.block) w w' := (Mods.refl _ w).then (Mods.of_grown hgrow) (fun k _ hk => by
        cases oo with
        | none => cases hk
        | some a => exact ⟨a, rfl, (Option.some.inj hk).symm⟩)
      have hb : Below B w w' := hm.below (fun j ⟨a, e1, e2⟩ => by
        subst e1
        rw [e2]
        exact (hown.lt a.block rfl).1) hB
      exact h (some ⟨g, 0, none⟩) cap w' (by rw [List.flatMap_append]; exact hown') hm hb
/-- what stands ahead of a place, and behind it -/
theorem flat_cut (enc : α → List Value) (k : Nat) (hk : ∀ x, (enc x).length = k) (l : List α) (i : Nat) : l.flatMap enc = (l.take i).flatMap enc ++ (l.drop i).flatMap enc ∧ (i < l.length → ((l.take i).flatMap enc).length = i * k) ∧ (l.length ≤ i → (l.flatMap enc).length ≤ i * k) := by
  refine ⟨by rw [← List.flatMap_append, List.take_append_drop], fun h => ?_, fun h => ?_⟩
  · rw [flat_len enc k hk, List.length_take, Nat.min_eq_left (Nat.le_of_lt h)]
  · rw [flat_len enc k hk]
    exact Nat.mul_le_mul_right k h
theorem flat_drop (enc : α → List Value) (k : Nat) (hk : ∀ x, (enc x).length = k) (l : List α) (i : Nat) : (l.drop i).flatMap enc = (l.flatMap enc).drop (i * k) := by
  obtain ⟨h1, h2, h3⟩ := flat_cut enc k hk l i
  rcases Nat.lt_or_ge i l.length with h | h
  · rw [h1, ← h2 h, List.drop_left]
  · rw [List.drop_eq_nil_of_le h, List.drop_eq_nil_of_le (h3 h)]
    rfl
theorem flat_take (enc : α → List Value) (k : Nat) (hk : ∀ x, (enc x).length = k) (l : List α) (i : Nat) : (l.take i).flatMap enc = (l.flatMap enc).take (i * k) := by
  obtain ⟨h1, h2, h3⟩ := flat_cut enc k hk l i
  rcases Nat.lt_or_ge i l.length with h | h
  · rw [h1, ← h2 h, List.take_left]
  · rw [List.take_of_length_le h, List.take_of_length_le (h3 h)]
theorem SrcAt.front {so : Option Addr} {l : List Value} (h : SrcAt w so l) (j : Nat) : SrcAt w so (l.take j) := by
  intro hne
  obtain ⟨ad, h1, h2⟩ := h (fun e => hne (by rw [e]; simp))
  refine ⟨ad, h1, fun i u hi => h2 i u ?_⟩
  have := (List.getElem?_eq_some_iff.1 hi).1
  rw [List.length_take] at this
  rwa [List.getElem?_take_of_lt (by omega)] at hi
theorem SrcAt.back {so : Option Addr} {l : List Value} (h : SrcAt w so l) (j : Nat) : SrcAt w (so.map (·.add j)) (l.drop j) := by
  intro hne
  obtain ⟨ad, h1, h2⟩ := h (fun e => hne (by rw [e]; simp))
  subst h1
  refine ⟨ad.add j, rfl, fun i u hi => ?_⟩
  rw [List.getElem?_drop] at hi
  have := h2 _ u hi
  rwa [Addr.add_add]
end
theorem part_ids {s : List Rv} {c : List Nat} (hn : (idsX s).Nodup) (hc : c.Pairwise (· < ·)) (hl : ∀ x ∈ c, x < s.length) : (idsX (partR s c)).Nodup := by
  have e : idsX (partR s c) = c.map fun i => (idsX s).getD i default := by
    show (c.map fun i => s.getD i default).map Rv.id = _
    rw [List.map_map]
    refine List.map_congr_left fun i hi => ?_
    obtain ⟨y, h1⟩ : ∃ y, s[i]? = some y := ⟨_, List.getElem?_eq_getElem (hl i hi)⟩
    simp [List.getD, h1]
  rw [e]
  unfold List.Nodup
  rw [List.pairwise_map]
  refine (List.Pairwise.and_mem.1 hc).imp fun {a b} ⟨ha, hb, hab⟩ => ?_
  have h1 := hl a ha
  have h2 := hl b hb
  obtain ⟨ya, e1⟩ : ∃ y, (idsX s)[a]? = some y := ⟨_, List.getElem?_eq_getElem (by simpa using h1)⟩
  obtain ⟨yb, e2⟩ : ∃ y, (idsX s)[b]? = some y := ⟨_, List.getElem?_eq_getElem (by simpa using h2)⟩
  simp only [List.getD, e1, e2, Option.getD_some]
  intro e3
  have e4 : (idsX s)[a]? = (idsX s)[b]? := by rw [e1, e2, e3]
  have := (List.getElem?_inj (by simpa using h1) hn).1 e4
  omega
theorem rowI_next (s : List Nd) {L : List (List Nat)} {k : Nat} {c : List Nat} (hc : L[k]? = some c) : rowI s (L.take (k + 1)) = rowI s (L.take k) ++ within (part s c) := by
  unfold rowI
  rw [List.take_add_one, hc]
  simp
theorem partR_len (s : List Rv) (c : List Nat) : (partR s c).length = c.length := List.length_map _
/-- the components of sorted records -/
theorem inorder_row {X S : List Rv} (hS : nds S = byIds (nds X)) (hU : Unl (nds X)) {L : List (List Nat)} {q : Nat → Nat} (h : InOrder (edP (nds S)) S.length L q) : Row (byIds (nds X)) (rowI (nds S) L) := by
  have hU2 : Unl (nds S) := by rw [hS]; exact hU.perm (byIds_perm _)
  have hl : (nds S).length = S.length := List.length_map _
  refine ⟨L, q, ?_, by rw [hS]⟩
  rw [← hS, hl]
  rw [← hl] at h ⊢
  exact inorder_ext (fun u w => (edgeP hU2).trans (edgeR hU2).symm) h
end Go.Proofs.YtndfhejfhfhbdaaGreatDoor.O

/- order.graph. -/
namespace Go.Proofs.YtndfhejfhfhbdaaGreatDoor.O
open Go.RowKit Go.Proofs.YtndfhejfhfhbdaaGreatDoor.M Go.BigFrame Go.Proofs.YtndfhejfhfhbdaaGreatDoor.K
set_option linter.unusedVariables false
set_option linter.unusedSimpArgs false

theorem PMap.below {w w1 : World} {b k : Nat} {ids : List Id} (h : PMap w b ids k) (hb : Below w.heap.size w w1) : PMap w1 b ids k := by
  have hl := h.lt
  obtain ⟨es, clock, h1, h2⟩ := h
  exact ⟨es, clock, (hb.block b hl).trans h1, h2⟩
theorem iv_flat (l : List Nat) : l.flatMap (fun n : Nat => [Value.int .i64 (n : Int)]) = iv l := by
  induction l with
  | nil => rfl
  | cons a l ih => rw [List.flatMap_cons, ih]; rfl
theorem own_empty (w : World) (e : TypeId) (s : Nat) (t : Nat × Nat) : (w.alloc (.cells #[] e)).ownsRow w.heap.size e s (.slice (some ⟨w.heap.size, 0, none⟩) 0 0) 0 [] := by
  have h := heap_alloc_new w (.cells #[] e)
  exact ⟨by simp, .inr ⟨w.heap.size, 0, #[], rfl, Nat.le_refl _, h, Nat.le_refl _, by simp, by simp, by simp⟩⟩
theorem at_idx {l : List Id} {d : Id} (h : d ∈ l) : l[l.idxOf d]? = some d := by
  rw [List.getElem?_eq_getElem (List.idxOf_lt_length_iff.2 h), List.getElem_idxOf]
theorem take_ids (X : List Rv) : (idsX X).take X.length = idsX X := List.take_of_length_le (by simp)
theorem own_some {w : World} {B : Nat} {e : TypeId} {s : Nat} {oo : Option Addr} {n c : Nat} {xs : List Value} (h : w.ownsRow B e s (.slice oo n c) n xs) (h0 : 0 < n) : ∃ g, oo = some ⟨g, 0, none⟩ := by
  obtain ⟨ao', cap', e0, h1, h2, h3, h4⟩ := M.own_view h
  cases e0
  cases oo with
  | none => have := (h3 rfl).1; omega
  | some a =>
    obtain ⟨g, cur, rfl, _⟩ := h4 a rfl
    exact ⟨g, rfl⟩
theorem OutAt.base {B B2 : Nat} {w : World} {oo : Option Addr} {oc : Nat} {R : List (Option Addr × Nat)} {L : List (List Nat)} (h : OutAt B w oo oc R L) (hb : B2 ≤ B) : OutAt B2 w oo oc R L :=
  ⟨own_base h.top (fun q hq => Nat.le_trans hb (h.top.lt q hq).1), h.rl, fun i c r hc hr => own_base (h.row i c r hc hr) (fun q hq => Nat.le_trans hb ((h.row i c r hc hr).lt q hq).1)⟩
/-- one round's row of edges -/
def GRow (w : World) (B g c : Nat) (M : List Nat) : Prop := w.ownsRow B 3 1 (.slice (some ⟨g, 0, none⟩) M.length c) M.length (iv M)
set_option maxRecDepth 100000 in
set_option maxHeartbeats 4000000 in
theorem graph_any (X : List Rv) (ao : Option Addr) (cap : Nat) (w : World) (h : RecsV w ao cap X) (hl : X.length ≤ 10000) (hn : (idsX X).Nodup) (hdl : ∀ x ∈ X, x.deps.length ≤ 10000) :
    Calls Tryz.prog 48 #[.slice ao X.length cap] w fun e w' => ∃ oo oc R, e = .returned (.slice oo X.length oc) ∧ (OutAt w.heap.size w' oo oc R (rowsG X X.length) ∧ Below w.heap.size w w') := by
  obtain ⟨hl1, hl2⟩ := h.le
  unfold maxLen at hl2
  obtain ⟨i0, hi, hz0, hz1, hz2⟩ := info_parts info_int
  obtain ⟨i1, hi1, hy0, hy1, hy2⟩ := info_parts info_ints
  have H0 := Lib.hid h
  have HND := Lib.hid hn
  have HDL := Lib.hid hdl
  have HPL := Lib.hid (places_any X ao cap w h (by omega))
  clear h hn hdl
  go_enter Tryz.func48, Tryz.ntmps48
  go_wp2_with fail
  refine HPL.out.mono ?_
  rintro e W ⟨rfl, hp, hb⟩
  have HP := Lib.hid hp
  have HB := Lib.hid hb
  have H := Lib.hid (H0.out.below hb)
  clear hp hb HPL H0
  go_wp2_with fail
  go_loopw [4, 16] (fun ov kv wr => ∃ (k : Nat) (oo : Option Addr) (oc : Nat) (R : List (Option Addr × Nat)), ov = .slice oo (rowsG X k).length oc ∧ kv = .int .i64 k ∧ k ≤ X.length ∧ OutAt W.heap.size wr oo oc R (rowsG X k) ∧ Below W.heap.size W wr) (fun _ kv _ => X.length - (intOf kv).toNat)
  case atStart => exact ⟨0, none, 0, [], rfl, rfl, Nat.zero_le _, OutAt.nil _ _, Below.refl _ _⟩
  case round =>
    obtain ⟨k, oo, oc, R, rfl, rfl, hk, ho, hb⟩ := hrel
    have HO := Lib.hid ho
    have HBR := Lib.hid hb
    clear ho hb
    have hWr := HBR.out.size
    by_cases hkl : k < X.length
    · have hii : (k : Int) < (X.length : Int) := by omega
      obtain ⟨x, hx⟩ : ∃ x, X[k]? = some x := ⟨_, List.getElem?_eq_getElem hkl⟩
      have HX := Lib.hid hx
      obtain ⟨b, off, e0, hbl, hrec⟩ := H.out.row k x hx
      subst e0
      obtain ⟨c0, c1, c2, c3, c4, c5, c6, c7, c8, c9, c10, c11, c12, c13, c14, c15⟩ := hrec.below HBR.out hbl
      clear hx hrec
      go_upto_region 6 with fail
      obtain ⟨w1, hw1⟩ : ∃ w1, w1 = wr.alloc (recO x) := ⟨_, rfl⟩
      have hba : w1.heap[wr.heap.size]? = some (recO x) := by rw [hw1]; exact heap_alloc_new wr _
      rw [← hw1]
      clear c0 c1 c2 c3 c4 c5 c6 c7 c8 c9 c10 c11 c12 c13 c14 c15
      obtain ⟨c0, c1, c2, c3, c4, c5, c6, c7, c8, c9, c10, c11, c12, c13, c14, c15⟩ := box16 hba
      go_upto_region 8 with fail
      obtain ⟨w2, hw2⟩ : ∃ w2, w2 = (wr.alloc (recO x)).alloc (.cells #[] 3) := ⟨_, rfl⟩
      obtain ⟨B1, hB1⟩ : ∃ B1, B1 = wr.heap.size + 1 := ⟨_, rfl⟩
      have HOW := Lib.hid (show w2.ownsRow B1 3 1 (.slice (some ⟨B1, 0, none⟩) 0 0) 0 [] by
        have := own_empty (wr.alloc (recO x)) 3 1 (0, 0)
        rw [← hw2] at this
        simpa [hB1] using this)
      have HB2 := Lib.hid (show Below wr.heap.size wr w2 by rw [hw2]; exact ((Below.refl _ _).alloc (Nat.le_refl _) _).alloc (by simp) _)
      have hs2 : w2.heap.size = B1 + 1 := by rw [hw2, hB1]; simp
      have HP2 := Lib.hid (HP.out.below HBR.out)
      have HD2 := Lib.hid ((H.out.ok x (List.mem_of_getElem? HX.out)).deps.below (B := 0) HBR.out)
      have HOK := Lib.hid (show ∀ y ∈ idsX X, IdI y from fun y hy => by
        obtain ⟨z, hz, rfl⟩ := List.mem_map.1 hy
        exact (H.out.ok z hz).id)
      have HBI := Lib.hid hB1
      have hdx := HDL.out x (List.mem_of_getElem? HX.out)
      rw [← hw2, ← hB1]
      clear hw1 hba hw2 hB1 c0 c1 c2 c3 c4 c5 c6 c7 c8 c9 c10 c11 c12 c13 c14 c15
      obtain ⟨wa, rfl⟩ : ∃ wa, wa = wr := ⟨_, rfl⟩
      obtain ⟨xo, hxo⟩ : ∃ xo, x.ao = xo := ⟨_, rfl⟩
      rw [hxo]
      have HXO := Lib.hid hxo
      clear hxo
      go_loopw [7, 25] (fun ev kv wq => ∃ (j : Nat) (M : List Nat) (g c : Nat), ev = .slice (some ⟨g, 0, none⟩) M.length c ∧ kv = .int .i64 j ∧ j ≤ x.deps.length ∧ M = plN (idsX X) (x.deps.take j) ∧ wq.ownsRow B1 3 1 (.slice (some ⟨g, 0, none⟩) M.length c) M.length (iv M) ∧ Below B1 w2 wq) (fun _ kv _ => x.deps.length - (intOf kv).toNat)
      case atStart => exact ⟨0, [], B1, 0, rfl, rfl, Nat.zero_le _, by simp [plN], HOW.out, Below.refl _ _⟩
      case round =>
        obtain ⟨j, M, g, c, rfl, rfl, hj, hM, hown, hbq⟩ := hrel
        have HM := Lib.hid hM
        have HOQ := Lib.hid hown
        have HBQ := Lib.hid hbq
        have hMl : M.length ≤ 10000 := by
          have h1 : M.length ≤ (x.deps.take j).length := by rw [hM]; exact List.length_filterMap_le _ _
          rw [List.length_take] at h1
          omega
        clear hM hown hbq
        have hsq := HBQ.out.size
        have HBA := Lib.hid (HB2.out.trans (HBQ.out.mono (B' := wa.heap.size) (by have := HBI.out; omega)))
        have HPQ := Lib.hid (HP2.out.below HBA.out)
        have HDQ := Lib.hid (HD2.out.below (B := 0) HBA.out)
        by_cases hjl : j < x.deps.length
        · have hjj : (j : Int) < (x.deps.length : Int) := by omega
          obtain ⟨d, hd⟩ : ∃ d, x.deps[j]? = some d := ⟨_, List.getElem?_eq_getElem hjl⟩
          have HD := Lib.hid hd
          obtain ⟨b2, off2, e2, hbl2, y0, y1⟩ := HDQ.out.row j d hd
          have HID := Lib.hid (HDQ.out.ok d (List.mem_of_getElem? hd))
          obtain rfl : xo = some ⟨b2, off2, none⟩ := HXO.out.symm.trans e2
          clear hd e2
          go_upto_region 10 with fail
          obtain ⟨w3, hw3⟩ : ∃ w3, w3 = wr.alloc (idO d) := ⟨_, rfl⟩
          have hb3 : Below wr.heap.size wr w3 := by rw [hw3]; exact (Below.refl _ _).alloc (Nat.le_refl _) _
          have HB3 := Lib.hid (HBQ.out.trans (hb3.mono (by omega)))
          have HO3 := Lib.hid (show w3.ownsRow B1 3 1 (.slice (some ⟨g, 0, none⟩) M.length c) M.length (iv M) by rw [hw3]; exact HOQ.out.alloc _)
          have HP3 := Lib.hid (HPQ.out.below hb3)
          obtain ⟨⟨z0, z1⟩, _⟩ := box2 (show w3.heap[wr.heap.size]? = some (idO d) by rw [hw3]; exact heap_alloc_new wr _)
          rw [← hw3]
          clear hw3 hb3 y0 y1
          have hs3 := HB3.out.size
          by_cases hdm : d ∈ idsX X
          · have hhas : Maps.has (pmap (idsX X) X.length) (klI d) = true := by rw [pmap_has HOK.out HID.out _ (by simp), take_ids]; exact decide_eq_true hdm
            have hidx : (idsX X)[(idsX X).idxOf d]? = some d := at_idx hdm
            have hat0 := pmap_at HOK.out HND.out hidx (.lit (.int .i64 0)) X.length (by have := List.idxOf_lt_length_iff.2 hdm; simpa using this) (by simp)
            have HHAS := Lib.hid hhas
            have HAT := Lib.hid hat0
            have HN := Lib.hid (show M ++ [(idsX X).idxOf d] = plN (idsX X) (x.deps.take (j + 1)) by rw [List.take_add_one, HD.out]; simp only [Option.toList_some]; rw [plN_app, ← HM.out, plN_in hdm])
            clear hhas hidx hat0 hdm
            go_upto_region 11 with (at_lookup; refine wpList_lookup_own_ok_int _ rfl (.tmp 30) (.tmp 31) 81 rfl 27 3 .i64 id_keyed Tryz.underlying81 Tryz.underlying3 (Tryz.zeroValue3 _) w.heap.size X.length (pmap (idsX X) X.length) rfl HP3.out (idV d) (klI d) rfl (key_id d HID.out) ?_; intro cc hat hwc; rw [HHAS.out]; obtain rfl : cc = ((idsX X).idxOf d : Int) := (by rw [HAT.out] at hat; cases hat; rfl); clear hat hwc)
            clear z0 z1
            go_wp2_with (refine wpList_app (fun n : Nat => [Value.int .i64 (n : Int)]) 1 (fun _ => rfl) (by decide) (fun n v hv => by rw [List.mem_singleton.1 hv]; rfl) (by rfl) (.tmp 36) (.tmp 38) 79 (by rfl) B1 3 i0 _ 8 Tryz.underlying79 hi hz0 hz1 hz2 (by decide) rfl (some ⟨g, 0, none⟩) c M ((idsX X).idxOf d) #[.int .i64 ((idsX X).idxOf d : Nat)] rfl (by rfl) (by rw [iv_flat]; exact HO3.out) (by rfl) (by omega) (by omega) ?_; intro oo' oc' w7 hown hmod hbel; rw [iv_flat] at hown; have HOW7 := Lib.hid hown; have HBE7 := Lib.hid hbel; clear hown hmod hbel)
            obtain ⟨g3, rfl⟩ := own_some HOW7.out (by simp)
            go_roundw
            case rel => exact ⟨j + 1, M ++ [(idsX X).idxOf d], g3, oc', by simp, by go_num, by omega, HN.out, HOW7.out, HB3.out.trans HBE7.out⟩
            case measure => simp [intOf]; omega
          · have hhas : Maps.has (pmap (idsX X) X.length) (klI d) = false := by rw [pmap_has HOK.out HID.out _ (by simp), take_ids]; exact decide_eq_false hdm
            have HHAS := Lib.hid hhas
            have HN := Lib.hid (show M = plN (idsX X) (x.deps.take (j + 1)) by rw [List.take_add_one, HD.out]; simp only [Option.toList_some]; rw [plN_app, ← HM.out, plN_out hdm, List.append_nil])
            clear hhas hdm
            go_upto_region 11 with (at_lookup; refine wpList_lookup_own_ok_int _ rfl (.tmp 30) (.tmp 31) 81 rfl 27 3 .i64 id_keyed Tryz.underlying81 Tryz.underlying3 (Tryz.zeroValue3 _) w.heap.size X.length (pmap (idsX X) X.length) rfl HP3.out (idV d) (klI d) rfl (key_id d HID.out) ?_; intro cc hat hwc; rw [HHAS.out]; clear hat hwc)
            clear z0 z1
            go_wp2_with fail
            go_roundw
            case rel => exact ⟨j + 1, M, g, c, rfl, by go_num, by omega, HN.out, HO3.out, HB3.out⟩
            case measure => simp [intOf]; omega
        · obtain rfl : j = x.deps.length := by omega
          have hjj : ¬ (x.deps.length : Int) < (x.deps.length : Int) := by omega
          have HN := Lib.hid (show rowsG X k ++ [M] = rowsG X (k + 1) by
            unfold rowsG
            rw [List.take_add_one, HX.out, HM.out, List.take_length]
            simp)
          have hB1 : w2.heap.size = B1 + 1 := hs2
          have HTOP := Lib.hid (show wr.ownsRow W.heap.size 79 1 (.slice oo (rowsG X k).length oc) (rowsG X k).length (hdrs R (rowsG X k)) from Go.Proofs.YtndfhejfhfhbdaaGreatDoor.R.own_below HO.out.top HBA.out)
          have HOA := Lib.hid (HO.out.below HBA.out)
          have hrl : (rowsG X k).length ≤ 10000 := by unfold rowsG; rw [List.length_map, List.length_take]; omega
          have hsa := HBA.out.size
          go_wp2_with (refine wpList_append_lies _ (by rfl) (.tmp 41) (.tmp 43) 76 (by rfl) W.heap.size 79 i1 _ 1 24 Tryz.underlying76 hi1 hy0 hy1 hy2 rfl (by decide) (.slice oo (rowsG X k).length oc) (rowsG X k).length (hdrs R (rowsG X k)) (by rfl) (by exact HTOP.out.alloc _) ⟨wr.heap.size, 0, none⟩ 1 1 [.slice (some ⟨g, 0, none⟩) M.length c] (by rfl) (by rfl) (World.news_of_block (cs := #[.slice (some ⟨g, 0, none⟩) M.length c]) (t := 79) (fr := (0, 0)) (heap_alloc_new wr _)) (by simp [Value.oneCell']) (by omega) (by unfold maxLen; omega) (by omega) (by simp; omega) (wr.heap.size + 1) (by simp) ?_; intro gg cg w7 hown hgrow hat hlt7; have HG7 := Lib.hid (And.intro hown (And.intro hgrow hat)); clear hown hgrow hat)
          have hmore := HOA.out.more (own_base HOQ.out (fun q hq => by have := (HOQ.out.lt q hq).1; have := HBI.out; omega)) HG7.out.1 HG7.out.2.1
          rw [HN.out] at hmore
          have HZ := Lib.hid hmore.1
          have HBZ := Lib.hid (show Below W.heap.size W w7 from (HBR.out.trans (HBA.out.mono hWr)).trans (hmore.2.below (fun q ⟨a, e1, e2⟩ => by subst e1; rw [e2]; exact (HTOP.out.lt a.block rfl).1) (Nat.le_trans hWr HBA.out.size)))
          clear hmore
          go_roundw
          case rel => exact ⟨k + 1, some ⟨gg, 0, none⟩, cg, _, by rw [← HN.out]; simp, by go_num, by omega, HZ.out, HBZ.out⟩
          case measure => simp [intOf]; omega
    · obtain rfl : k = X.length := by omega
      have hii : ¬ (X.length : Int) < (X.length : Int) := by omega
      have HF := Lib.hid (show OutAt w.heap.size wr oo oc R (rowsG X X.length) from HO.out.base HB.out.size)
      have HBF := Lib.hid (HB.out.trans (HBR.out.mono HB.out.size))
      have hrl : (rowsG X X.length).length = X.length := by unfold rowsG; simp
      go_wp2_with fail
      go_ret
      exact ⟨oo, oc, rfl, ⟨R, HF.out⟩, HBF.out⟩
end Go.Proofs.YtndfhejfhfhbdaaGreatDoor.O
