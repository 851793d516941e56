/- Several texts in one. -/
import Derived.Test.YtndfhejfhfhbdaaGreatDoorOrdAD
import Derived.Test.YtndfhejfhfhbdaaGreatDoorMrg24
import Derived.Test.YtndfhejfhfhbdaaGreatDoorMrg21

/- Plain law: what OrderParts and OrderOne ask of Order and Closed. -/
namespace Go.Proofs.YtndfhejfhfhbdaaGreatDoor.O
open Go.RowKit Go.Proofs.YtndfhejfhfhbdaaGreatDoor.M Go.BigFrame Go.Proofs.YtndfhejfhfhbdaaGreatDoor.K Go.Proofs.YtndfhejfhfhbdaaGreatDoor.T
set_option linter.unusedVariables false
set_option linter.unusedSimpArgs false

theorem nds_get {s : List Rv} {u : Nat} {x : Rv} (h : s[u]? = some x) : (nds s)[u]? = some x.nd := by unfold nds; rw [List.getElem?_map, h]; rfl
theorem ids_get {s : List Rv} {u : Nat} {x : Rv} (h : s[u]? = some x) : (idsX s)[u]? = some x.id := by rw [List.getElem?_map, h]; rfl
theorem nds_len (s : List Rv) : (nds s).length = s.length := List.length_map _
theorem unl_nds {s : List Rv} : Unl (nds s) ↔ (idsX s).Nodup := by unfold Unl; rw [nds_ids]
theorem mem_ids_get {s : List Rv} {i : Id} (h : i ∈ idsX s) : ∃ u x, s[u]? = some x ∧ x.id = i ∧ (idsX s).idxOf i = u := by
  have h1 := at_idx h
  have hl := List.idxOf_lt_length_iff.2 h
  rw [List.length_map] at hl
  exact ⟨_, s[(idsX s).idxOf i], List.getElem?_eq_getElem hl, by rw [List.getElem?_map, List.getElem?_eq_getElem hl] at h1; simpa using h1, rfl⟩
/-- sorted records whose ids differ -/
structure Sd (s : List Rv) : Prop where
  nd : (idsX s).Nodup
  st : srtR s = s
theorem Sd.of {X : List Rv} (h : (idsX X).Nodup) : Sd (srtR X) := ⟨srtR_ids h, srtR_same h (srtR_perm X)⟩
theorem Sd.ids {s : List Rv} (h : Sd s) : byIds (nds s) = nds s := by rw [← srtR_nd, h.st]
theorem Sd.unl {s : List Rv} (h : Sd s) : Unl (nds s) := unl_nds.2 h.nd
theorem Sd.pw {s : List Rv} (h : Sd s) : (nds s).Pairwise (fun a b => iln a b = true) := by
  rw [← h.ids]
  exact srt_sorted h.unl.iln h.unl.nodup
theorem leads_sub {s : List Rv} (h : (idsX s).Nodup) {f : Int} {l : List Nat} (hl : LeadsTo (edR (nds s)) s.length f l) : Sub (nds s) l := by
  refine ⟨fun x hx => by rw [nds_len]; exact ((hl.mem x).1 hx).1, hl.srt, fun u hu w hd => ?_⟩
  obtain ⟨h1, v, h2, h3, h4⟩ := (hl.mem u).1 hu
  have he := (edgeR (unl_nds.2 h)).2 hd
  rw [nds_len] at he
  exact (hl.mem w).2 ⟨he.2.1, v, h2, h3, h4.trans (.one he)⟩
/-- what one leads to, by itself -/
theorem cl_part {s : List Rv} (hs : Sd s) (hm : missB (nds s) = false) {i : Id} (hi : i ∈ idsX s) {inn : List Rv} {out : List Id} (h : ClO s i inn out) :
    ∃ l, LeadsTo (edR (nds s)) s.length ((idsX s).idxOf i : Nat) l ∧ inn = partR s l ∧ Sub (nds s) l ∧ nds inn = part (nds s) l ∧ out = [] ∧ Sd inn ∧ missB (nds inn) = false ∧ i ∈ idsX inn ∧ (∀ x ∈ inn, x ∈ s) ∧ inn.length ≤ s.length := by
  obtain ⟨l, h1, h2, h3⟩ := h.yes hi
  have hsub := leads_sub hs.nd h1
  have hn : nds inn = part (nds s) l := by rw [h2, partR_nd]
  have hU : Unl (nds inn) := by rw [hn]; exact part_unl hsub hs.unl
  have hmem : ∀ x ∈ inn, x ∈ s := fun x hx => by
    rw [h2] at hx
    obtain ⟨u, hu, rfl⟩ := List.mem_map.1 hx
    have := hsub.lt u hu
    rw [nds_len] at this
    rw [List.getD, List.getElem?_eq_getElem this]
    exact List.getElem_mem this
  have hlt : ∀ x ∈ l, x < s.length := fun x hx => by have := hsub.lt x hx; rwa [nds_len] at this
  refine ⟨l, h1, h2, hsub, hn, ?_, ⟨unl_nds.1 hU, ?_⟩, ?_, ?_, hmem, ?_⟩
  · rw [h3]
    have : missO s l = [] := by
      unfold missO
      rw [List.flatMap_eq_nil_iff]
      intro x hx
      rw [← h2] at hx
      refine List.filter_eq_nil_iff.2 fun d hd => ?_
      have := missB_no.1 hm x.nd (List.mem_map.2 ⟨x, hmem x hx, rfl⟩) d hd
      rw [nds_ids] at this
      simp [this]
    rw [this]
    rfl
  · have hp := part_sorted hsub hs.pw
    rw [← hn] at hp
    refine (srtR_one (unl_nds.1 hU) (List.Perm.refl _) ?_).symm
    unfold nds at hp
    rw [List.pairwise_map] at hp
    exact hp.imp fun h => ilt_asymm h
  · rw [hn]; exact part_closed hsub hm
  · obtain ⟨u, x, hu, hx, he⟩ := mem_ids_get hi
    have hul := (List.getElem?_eq_some_iff.1 hu).1
    have : u ∈ l := (h1.mem u).2 ⟨hul, u, by rw [he], hul, .refl _⟩
    refine List.mem_map.2 ⟨x, ?_, hx⟩
    rw [h2]
    exact List.mem_map.2 ⟨u, this, by rw [List.getD, hu]; rfl⟩
  · rw [h2, partR_len]
    exact nodup_le _ _ (sub_nodup hsub) hlt
theorem row_mem {s : List Rv} (hs : Sd s) {a : List Id} (h : Row (nds s) a) : a.Perm (idsX s) := by
  obtain ⟨L, q, h1, rfl⟩ := h.cmps
  rw [← nds_ids]
  exact rowI_perm h1 hs.unl
/-- the order among what one leads to is that of the whole -/
theorem parts_ok {s : List Rv} (hs : Sd s) (hm : missB (nds s) = false) {i : Id} (hi : i ∈ idsX s) {inn : List Rv} {out : List Id} (h : ClO s i inn out) {a b : List Id} (ha : Row (nds s) a) (hb : Row (nds inn) b)
    {x y : Nat} {bx b_y : Id} (hx : b[x]? = some bx) (hy : b[y]? = some b_y) {le : List Rv} {lo : List Id} (hle : ClO s bx le lo) (hin : b_y ∈ idsX le) : atI a bx < atI a b_y ↔ x < y := by
  obtain ⟨l, h1, h2, hsub, hn, _, hsi, hmi, hii, hmem, _⟩ := cl_part hs hm hi h
  have hpb := row_mem hsi hb
  have hnb : b.Nodup := hpb.nodup_iff.2 hsi.nd
  have e1 : atI b bx = (x : Int) := atI_some hnb hx
  have e2 : atI b b_y = (y : Int) := atI_some hnb hy
  have hfind : ∀ z ∈ b, ∃ u v, u ∈ l ∧ s[u]? = some v ∧ v.id = z := fun z hz => by
    have := hpb.mem_iff.1 hz
    obtain ⟨v, hv, rfl⟩ := List.mem_map.1 this
    rw [h2] at hv
    obtain ⟨u, hu, rfl⟩ := List.mem_map.1 hv
    have hl := hsub.lt u hu
    rw [nds_len] at hl
    exact ⟨u, s[u], hu, List.getElem?_eq_getElem hl, by rw [List.getD, List.getElem?_eq_getElem hl]; rfl⟩
  obtain ⟨u, vu, hul, hvu, hiu⟩ := hfind bx (List.mem_of_getElem? hx)
  obtain ⟨v, vv, hvl, hvv, hiv⟩ := hfind b_y (List.mem_of_getElem? hy)
  have hbs : bx ∈ idsX s := List.mem_map.2 ⟨vu, List.mem_of_getElem? hvu, hiu⟩
  have hfb : (idsX s).idxOf bx = u := by
    have h3 := ids_get hvu
    rw [hiu] at h3
    have h4 := at_idx hbs
    exact (List.getElem?_inj (List.getElem?_eq_some_iff.1 h4).1 hs.nd).1 (h4.trans h3.symm)
  obtain ⟨l2, g1, g2, _⟩ := hle.yes hbs
  rw [hfb] at g1
  have hvl2 : v ∈ l2 := by
    obtain ⟨z, hz, hz2⟩ := List.mem_map.1 hin
    rw [g2] at hz
    obtain ⟨k, hk, rfl⟩ := List.mem_map.1 hz
    have hks := ((g1.mem k).1 hk).1
    have hkg : s[k]? = some (s.getD k default) := by rw [List.getD, List.getElem?_eq_getElem hks]; rfl
    have h5 := ids_get hkg
    rw [hz2] at h5
    have h6 := ids_get hvv
    rw [hiv] at h6
    have : k = v := (List.getElem?_inj (List.getElem?_eq_some_iff.1 h5).1 hs.nd).1 (h5.trans h6.symm)
    rw [← this]; exact hk
  obtain ⟨_, u2, hu2, _, hpath⟩ := (g1.mem v).1 hvl2
  obtain rfl : u = u2 := by omega
  obtain ⟨L, q, c1, rfl⟩ := ha.cmps
  obtain ⟨L2, q2, c2, rfl⟩ := hb.cmps
  rw [hn] at c2 e1 e2
  rw [← nds_len] at hpath
  have := part_order hsub hs.unl c1 c2 (nds_get hvu) (nds_get hvv) hul hvl hpath
  rw [show vu.nd.id = bx from hiu, show vv.nd.id = b_y from hiv, e1, e2] at this
  rw [this]
  omega
/-- who hangs on another one that doesn't hang on it comes behind it -/
theorem one_ok {s : List Rv} (hs : Sd s) {a : List Id} (ha : Row (nds s) a) {x : Rv} (hx : x ∈ s) {d : Id} (hd : d ∈ x.deps) (hds : d ∈ idsX s) {le : List Rv} {lo : List Id} (hle : ClO s d le lo) (hno : x.id ∉ idsX le) : ¬ atI a x.id < atI a d := by
  intro hlt
  obtain ⟨u, hu⟩ := List.mem_iff_getElem?.1 hx
  obtain ⟨v, vv, hv, hvi, hvx⟩ := mem_ids_get hds
  obtain ⟨L, q, c1, rfl⟩ := ha.cmps
  have hp := one_dep c1 hs.unl (nds_get hu) (nds_get hv) (by show vv.id ∈ x.deps; rw [hvi]; exact hd) (by show atI _ x.id < atI _ vv.id; rw [hvi]; exact hlt)
  obtain ⟨l2, g1, g2, _⟩ := hle.yes hds
  rw [hvx] at g1
  rw [nds_len] at hp
  have hul := (List.getElem?_eq_some_iff.1 hu).1
  have : u ∈ l2 := (g1.mem u).2 ⟨hul, v, rfl, (List.getElem?_eq_some_iff.1 hv).1, hp⟩
  refine hno (List.mem_map.2 ⟨x, ?_, rfl⟩)
  rw [g2]
  exact List.mem_map.2 ⟨u, this, by rw [List.getD, hu]; rfl⟩
end Go.Proofs.YtndfhejfhfhbdaaGreatDoor.O

/- The document's At, ahead, names. -/
namespace Go.Proofs.YtndfhejfhfhbdaaGreatDoor.O
open Go.RowKit Go.Proofs.YtndfhejfhfhbdaaGreatDoor.M Go.BigFrame Go.Proofs.YtndfhejfhfhbdaaGreatDoor.K
set_option linter.unusedVariables false
set_option linter.unusedSimpArgs false

theorem atI_here {l : List Id} {k : Nat} {i : Id} (hk : l[k]? = some i) (hno : ∀ j y, j < k → l[j]? = some y → y ≠ i) : atI l i = (k : Int) := by
  have hm := List.mem_of_getElem? hk
  unfold atI
  rw [if_pos hm]
  have h1 : l[l.idxOf i]? = some i := by rw [List.getElem?_eq_getElem (List.idxOf_lt_length_iff.2 hm), List.getElem_idxOf]
  have h2 : ¬ l.idxOf i < k := fun h => hno _ _ h h1 rfl
  have h3 : l.idxOf i ≤ k := by
    obtain ⟨hl, he⟩ := List.getElem?_eq_some_iff.1 hk
    refine Nat.not_lt.1 fun hlt => ?_
    have := List.not_of_lt_findIdx (xs := l) (p := (· == i)) hlt
    simp [he] at this
  have : l.idxOf i = k := by omega
  rw [this]
theorem atI_none {l : List Id} {i : Id} (hno : ∀ j y, j < l.length → l[j]? = some y → y ≠ i) : atI l i = -1 := by
  unfold atI
  rw [if_neg]
  intro hm
  obtain ⟨j, hj⟩ := List.mem_iff_getElem?.1 hm
  exact hno j i (List.getElem?_eq_some_iff.1 hj).1 hj rfl
set_option maxRecDepth 100000 in
set_option maxHeartbeats 4000000 in
theorem refat_any (X : List Rv) (ao : Option Addr) (cap : Nat) (i : Id) (w : World) (h : RecsV w ao cap X) (v : Int) (hv : atI (idsX X) i = v) :
    Calls Tryz.prog 14 #[.slice ao X.length cap, idV i] w fun e w' => e = .returned (.int .i64 v) ∧ Below w.heap.size w w' := by
  obtain ⟨hl1, hl2⟩ := h.le
  unfold maxLen at hl2
  have H := Lib.hid h
  have HV := Lib.hid hv
  clear h hv
  go_enter Tryz.func14, Tryz.ntmps14
  go_upto_region 1 with fail
  obtain ⟨W, hW⟩ : ∃ W, W = w.alloc (idO i) := ⟨_, rfl⟩
  rw [← hW]
  have HB : Hid (Below w.heap.size w W) := Lib.hid (by rw [hW]; exact (Below.refl _ _).alloc (Nat.le_refl _) _)
  have HX : Hid (W.heap[w.heap.size]? = some (idO i)) := Lib.hid (by rw [hW]; exact heap_alloc_new w _)
  clear hW
  have HL := Lib.hid (H.out.below HB.out)
  have hlt := M.heap_lt HX.out
  clear H
  go_wp2_with fail
  go_loopw [5] (fun iv wr => ∃ k : Nat, iv = .int .i64 k ∧ k ≤ X.length ∧ Below W.heap.size W wr ∧ (∀ j y, j < k → (idsX X)[j]? = some y → y ≠ i)) (fun iv _ => X.length - (intOf iv).toNat)
  case atStart => exact ⟨0, rfl, Nat.zero_le _, Below.refl _ _, fun j x hj => absurd hj (by omega)⟩
  case round =>
    obtain ⟨k, rfl, hk, hb, hno⟩ := hrel
    have HNO := Lib.hid hno
    have HBR := Lib.hid hb
    clear hno hb
    by_cases hkl : k < X.length
    · have hii : (k : Int) < (X.length : Int) := by omega
      obtain ⟨x, hx⟩ : ∃ x, X[k]? = some x := ⟨_, List.getElem?_eq_getElem hkl⟩
      obtain ⟨b, off, e0, hbl, hrec⟩ := HL.out.row k x hx
      subst e0
      have hrb := hrec.below HBR.out hbl
      obtain ⟨⟨d0, d1⟩, _⟩ := box2 HX.out
      have k0 := Kin.cell hrb.c0
      have k1 := Kin.cell hrb.c1
      have k2 := Kin.cell ((HBR.out.cell (p := ⟨w.heap.size, _, none⟩) hlt).trans d0)
      have k3 := Kin.cell ((HBR.out.cell (p := ⟨w.heap.size, _, none⟩) hlt).trans d1)
      have hxk : (idsX X)[k]? = some x.id := by rw [List.getElem?_map, hx]; rfl
      clear d0 d1 hrb hrec
      by_cases hxi : x.id = i
      · have HE := Lib.hid (show v = (k : Int) by rw [← HV.out]; exact atI_here (hxi ▸ hxk) HNO.out)
        subst hxi
        have q := eql_yes x.id
        clear hx hxk
        go_upto_region 4 with fail
        refine wp_region_kin (by kernel_rfl) (by kernel_rfl) ?_
        repeat (go_big_quiet_step (fail))
        refine wpQuiet_nil ?_
        intro _ hxx
        obtain ⟨xk, rfl⟩ := hxx
        have HBK := Lib.hid (HBR.out.trans (xk.h.mono HBR.out.size))
        clear k0 k1 k2 k3 q
        go_wp2_with fail
        go_ret
        exact ⟨by rw [HE.out]; rfl, HB.out.trans (HBK.out.mono HB.out.size)⟩
      · have HN := Lib.hid (show ∀ j y, j < k + 1 → (idsX X)[j]? = some y → y ≠ i from fun j y hj hy => by
          by_cases e : j = k
          · subst e; rw [hxk] at hy; cases hy; exact hxi
          · exact HNO.out j y (by omega) hy)
        have q := eql_no hxi
        clear hx hxk hxi
        go_upto_region 4 with fail
        refine wp_region_kin (by kernel_rfl) (by kernel_rfl) ?_
        repeat (go_big_quiet_step (fail))
        refine wpQuiet_nil ?_
        intro _ hxx
        obtain ⟨xk, rfl⟩ := hxx
        have HBK := Lib.hid (HBR.out.trans (xk.h.mono HBR.out.size))
        clear k0 k1 k2 k3 q
        go_wp2_with fail
        go_roundw
        case rel => exact ⟨k + 1, by go_num, by omega, HBK.out, HN.out⟩
        case measure => simp [intOf]; omega
    · obtain rfl : k = X.length := by omega
      have hii : ¬ (X.length : Int) < (X.length : Int) := by omega
      have HE := Lib.hid (show v = -1 by rw [← HV.out]; exact atI_none (fun j y hj => HNO.out j y (by simpa using hj)))
      go_wp2_with fail
      go_ret
      exact ⟨by rw [HE.out]; rfl, HB.out.trans (HBR.out.mono HB.out.size)⟩
set_option maxRecDepth 100000 in
set_option maxHeartbeats 4000000 in
theorem refahead_any (x y : Rv) (w : World) (v : Bool) (hv : wlt x.nd y.nd = v) :
    Calls Tryz.prog 83 #[recV x, recV y] w fun e w' => e = .returned (.bool v) ∧ Grew w w' := by
  have HV := Lib.hid hv
  clear hv
  go_enter Tryz.func83, Tryz.ntmps83
  go_upto_region 1 with fail
  obtain ⟨hba, hbb, hg⟩ := two_recs x y w
  obtain ⟨W, hW⟩ : ∃ W, W = (w.alloc (recO x)).alloc (recO y) := ⟨_, rfl⟩
  rw [← hW] at hba hbb hg ⊢
  have HG := Lib.hid hg
  have HBA := Lib.hid hba
  have HBB := Lib.hid hbb
  clear hW hg hba hbb
  obtain ⟨c0, c1, c2, c3, c4, c5, c6, c7, c8, c9, c10, c11, c12, c13, c14, c15⟩ := box16 (HBA.out)
  obtain ⟨d0, d1, d2, d3, d4, d5, d6, d7, d8, d9, d10, d11, d12, d13, d14, d15⟩ := box16 (HBB.out)
  cases e1 : (x.tag != y.tag) with
  | true =>
    have hne : ¬ x.tag = y.tag := by simpa using e1
    have HE := Lib.hid (show v = decide (x.tag < y.tag) by
      rw [← HV.out]
      unfold wlt Rv.nd
      simp [hne])
    go_wp2_with fail
    go_ret
    exact ⟨by rw [HE.out]; rfl, HG.out⟩
  | false =>
    have heq : x.tag = y.tag := by simpa using e1
    cases e2 : (x.tag == 1) with
    | true =>
      have h1 : x.tag = 1 := by simpa using e2
      have h1' : y.tag = 1 := heq ▸ h1
      cases e3 : (x.seq != y.seq) with
      | true =>
        have h3 : ¬ x.seq = y.seq := by simpa using e3
        have HE := Lib.hid (show v = decide (x.seq < y.seq) by
          rw [← HV.out]
          unfold wlt Rv.nd
          simp [h1, h1', h3])
        clear heq h1 h1' h3
        go_wp2_with fail
        go_ret
        exact ⟨by rw [HE.out]; rfl, HG.out⟩
      | false =>
        have h3 : x.seq = y.seq := by simpa using e3
        have HE := Lib.hid (show ilt x.id y.id = v by
          rw [← HV.out]
          unfold wlt Rv.nd
          simp [h1, h1', h3])
        clear heq h1 h1' h3
        go_wp2_with fail
        refine (refless_any x.id y.id W v HE.out).mono ?_
        rintro e w1 ⟨rfl, hg1⟩
        go_wp2_with fail
        go_ret
        exact ⟨rfl, HG.out.trans hg1⟩
    | false =>
      have h1 : ¬ x.tag = 1 := by simpa using e2
      have HE := Lib.hid (show ilt x.id y.id = v by
        rw [← HV.out]
        unfold wlt Rv.nd
        have h1' : ¬ y.tag = 1 := heq ▸ h1
        simp [heq, h1'])
      clear heq h1
      go_wp2_with fail
      refine (refless_any x.id y.id W v HE.out).mono ?_
      rintro e w1 ⟨rfl, hg1⟩
      go_wp2_with fail
      go_ret
      exact ⟨rfl, HG.out.trans hg1⟩
set_option maxRecDepth 100000 in
set_option maxHeartbeats 4000000 in
theorem refnames_any (X : List Rv) (ao : Option Addr) (cap : Nat) (w : World) (h : RecsV w ao cap X) (hl : X.length ≤ 1000000) :
    Calls Tryz.prog 61 #[.slice ao X.length cap] w fun e w' => ∃ oo oc, e = .returned (.slice oo X.length oc) ∧ (OwnL w' w.heap.size oo oc (X.map Rv.id) ∧ Below w.heap.size w w') := by
  obtain ⟨hl1, hl2⟩ := h.le
  unfold maxLen at hl2
  obtain ⟨i0, hi, hz0, hz1, hz2⟩ := info_parts info_id
  have H := Lib.hid h
  clear h
  go_enter Tryz.func61, Tryz.ntmps61
  go_wp2_with fail
  go_loopw [3, 4] (fun ov kv wr => ∃ (k : Nat) (M : List Id) (oo : Option Addr) (oc : Nat), ov = .slice oo M.length oc ∧ kv = .int .i64 k ∧ k ≤ X.length ∧ M = (X.take k).map Rv.id ∧ OwnL wr w.heap.size oo oc M ∧ Below w.heap.size w wr) (fun _ kv _ => X.length - (intOf kv).toNat)
  case atStart => exact ⟨0, [], none, 0, rfl, rfl, Nat.zero_le _, by simp, World.ownsRow_nil _ _ _ _, Below.refl _ _⟩
  case round =>
    obtain ⟨k, M, oo, oc, rfl, rfl, hk, hM, hown, hb⟩ := hrel
    have HM := Lib.hid hM
    have HOW := Lib.hid hown
    have HBR := Lib.hid hb
    have hMl : M.length = k := by rw [hM, List.length_map, List.length_take]; omega
    have hMl2 : M.length ≤ 1000000 := by omega
    clear hM hown hb
    have hWr := HBR.out.size
    by_cases hkl : k < X.length
    · have hii : (k : Int) < (X.length : Int) := by omega
      obtain ⟨x, hx⟩ : ∃ x, X[k]? = some x := ⟨_, List.getElem?_eq_getElem hkl⟩
      obtain ⟨b, off, e0, hbl, hrec⟩ := H.out.row k x hx
      subst e0
      have hrb := hrec.below HBR.out hbl
      obtain ⟨c0, c1⟩ := And.intro hrb.c0 hrb.c1
      have HL := Lib.hid hMl
      have HN := Lib.hid (show M ++ [x.id] = (X.take (k + 1)).map Rv.id by rw [HM.out, List.take_add_one, hx]; simp)
      clear hx hMl hrec hrb
      go_wp2_with (refine wpList_app idC 2 (fun _ => rfl) (by decide) idC_one (by rfl) (.tmp 11) (.tmp 17) 25 (by rfl) w.heap.size 27 i0 _ 16 Tryz.underlying25 hi hz0 hz1 hz2 (by decide) rfl oo oc M x.id #[.int .i64 (x.id).r, .int .i64 (x.id).n] rfl (by rfl) (by exact HOW.out) (by rfl) (by omega) (by omega) ?_; intro oo' oc' w7 hown hmod hbel; have HOW7 := Lib.hid hown; have HBE7 := Lib.hid hbel; clear hown hmod hbel)
      clear c0 c1
      go_roundw
      case rel => exact ⟨k + 1, M ++ [x.id], oo', oc', by simp, by go_num, by omega, HN.out, HOW7.out, HBR.out.trans HBE7.out⟩
      case measure => simp [intOf]; omega
    · obtain rfl : k = X.length := by omega
      have hii : ¬ (X.length : Int) < (X.length : Int) := by omega
      have HE := Lib.hid (show M = X.map Rv.id by rw [HM.out, List.take_length])
      have HFIN := Lib.hid (show OwnL wr w.heap.size oo oc M ∧ Below w.heap.size w wr from ⟨HOW.out, HBR.out⟩)
      have HL := Lib.hid hMl
      clear hMl
      go_wp2_with fail
      go_ret
      refine ⟨oo, oc, ret_val (by rw [← HL.out]; rfl), ?_⟩
      rw [← HE.out]
      exact HFIN.out
end Go.Proofs.YtndfhejfhfhbdaaGreatDoor.O
