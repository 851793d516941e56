/- Several texts in one. -/
import Derived.Test.YtndfhejfhfhbdaaGreatDoorOrdAC
import Derived.Test.YtndfhejfhfhbdaaGreatDoorMrg25
import Derived.Test.YtndfhejfhfhbdaaGreatDoorMrg16
import Derived.Test.YtndfhejfhfhbdaaGreatDoorCompN

/- order.Closed. -/
namespace Go.Proofs.YtndfhejfhfhbdaaGreatDoor.O
open Go.RowKit Go.Proofs.YtndfhejfhfhbdaaGreatDoor.M Go.BigFrame Go.Proofs.YtndfhejfhfhbdaaGreatDoor.K Go.Proofs.YtndfhejfhfhbdaaGreatDoor.T
set_option linter.unusedVariables false
set_option linter.unusedSimpArgs false

theorem iv_cell {w : World} {B : Nat} {lo : Option Addr} {lc k u : Nat} {l : List Nat} (h : w.ownsRow B 3 1 (.slice lo l.length lc) l.length (iv l)) (hk : l[k]? = some u) : ∃ g, lo = some ⟨g, 0, none⟩ ∧ g < w.heap.size ∧ w.cell? ⟨g, k, none⟩ = some (.int .i64 (u : Int)) := by
  have hkl := (List.getElem?_eq_some_iff.1 hk).1
  obtain ⟨ao', cap', e0, h1, h2, h3, h4⟩ := M.own_view h
  cases e0
  cases lo with
  | none => have := (h3 rfl).1; omega
  | some a =>
    obtain ⟨g, cur, rfl, _, hg, hsz, htk⟩ := h4 a rfl
    refine ⟨g, rfl, M.heap_lt hg, ?_⟩
    have hh : (iv l)[k]? = some (.int .i64 (u : Int)) := by simp [iv, hk]
    rw [cell_of_row w g _ _ _ _ hg, ← Array.getElem?_toList]
    rw [← htk, List.getElem?_take_of_lt (by omega)] at hh
    exact hh
/-- what is missing of some records -/
def missO (s : List Rv) (l : List Nat) : List Id := (partR s l).flatMap fun x => x.deps.filter fun d => !decide (d ∈ idsX s)
/-- what an id leads to -/
structure ClO (s : List Rv) (i : Id) (inn : List Rv) (out : List Id) : Prop where
  no : i ∉ idsX s → inn = [] ∧ out = []
  yes : i ∈ idsX s → ∃ l, LeadsTo (edR (nds s)) s.length ((idsX s).idxOf i : Nat) l ∧ inn = partR s l ∧ out = setI (missO s l)
theorem ClO.one {s : List Rv} {i : Id} {a b : List Rv} {x y : List Id} (h : ClO s i a x) (h2 : ClO s i b y) : a = b ∧ x = y := by
  by_cases hi : i ∈ idsX s
  · obtain ⟨l, h3, rfl, rfl⟩ := h.yes hi
    obtain ⟨l2, h4, rfl, rfl⟩ := h2.yes hi
    rw [h3.one h4]
    exact ⟨rfl, rfl⟩
  · obtain ⟨rfl, rfl⟩ := h.no hi
    obtain ⟨rfl, rfl⟩ := h2.no hi
    exact ⟨rfl, rfl⟩
theorem fil_in {s : List Id} {d : Id} (h : d ∈ s) : [d].filter (fun d => !decide (d ∈ s)) = [] := by simp only [List.filter_cons, h, decide_true, Bool.not_true, Bool.false_eq_true, if_false, List.filter_nil]
theorem fil_out {s : List Id} {d : Id} (h : d ∉ s) : [d].filter (fun d => !decide (d ∈ s)) = [d] := by simp only [List.filter_cons, h, decide_false, Bool.not_false, if_true, List.filter_nil]
theorem missO_next {s : List Rv} {l : List Nat} {k i : Nat} {x : Rv} (hk : l[k]? = some i) (hx : s[i]? = some x) : missO s (l.take (k + 1)) = missO s (l.take k) ++ x.deps.filter fun d => !decide (d ∈ idsX s) := by
  unfold missO
  rw [List.take_add_one, hk]
  simp only [Option.toList_some]
  rw [partR_app, List.flatMap_append, partR_one hx]
  simp
theorem missO_len {s : List Rv} {l : List Nat} {n : Nat} (h : ∀ x ∈ s, x.deps.length ≤ n) (hl : ∀ i ∈ l, i < s.length) : (missO s l).length ≤ l.length * n := by
  unfold missO partR
  induction l with
  | nil => simp
  | cons a t ih =>
    rw [List.map_cons, List.flatMap_cons, List.length_append]
    have h1 := ih (fun i hi => hl i (List.mem_cons_of_mem _ hi))
    have h2 : s.getD a default ∈ s := by
      have := hl a List.mem_cons_self
      rw [List.getD, List.getElem?_eq_getElem this]; exact List.getElem_mem this
    have h3 := h _ h2
    have h4 := List.length_filter_le (fun d => !decide (d ∈ idsX s)) (s.getD a default).deps
    rw [List.length_cons, Nat.add_mul]
    omega
set_option maxRecDepth 100000 in
set_option maxHeartbeats 4000000 in
theorem closedd_any (X : List Rv) (ao : Option Addr) (cap : Nat) (i : Id) (w : World) (h : RecsV w ao cap X) (hi : IdI i) (hn : (idsX X).Nodup) (hl : X.length ≤ 20) (hdl : ∀ x ∈ X, x.deps.length ≤ 10000) :
    Calls Tryz.prog 20 #[.slice ao X.length cap, idV i] w fun e w' => ∃ (no : Option Addr) (nc : Nat) (inn : List Rv) (oo : Option Addr) (oc : Nat) (out : List Id), e = .returned (.tuple #[.slice no inn.length nc, .slice oo out.length oc]) ∧ (ClO (srtR X) i inn out ∧ OwnR w' w.heap.size no nc inn ∧ OwnL w' w.heap.size oo oc out ∧ Below w.heap.size w w') := by
  obtain ⟨i0, hi0, hz0, hz1, hz2⟩ := info_parts info_rec
  obtain ⟨i1, hi1, hy0, hy1, hy2⟩ := info_parts info_id
  have H0 := Lib.hid h
  have HI := Lib.hid hi
  have HN := Lib.hid hn
  have HDL := Lib.hid hdl
  clear h hi hn hdl
  go_enter Tryz.func20, Tryz.ntmps20
  go_upto_region 1 with fail
  obtain ⟨W, hW⟩ : ∃ W, W = w.alloc (idO i) := ⟨_, rfl⟩
  rw [← hW]
  have HB : Hid (Below w.heap.size w W) := Lib.hid (by rw [hW]; exact (Below.refl _ _).alloc (Nat.le_refl _) _)
  have HX : Hid (W.heap[w.heap.size]? = some (idO i)) := Lib.hid (by rw [hW]; exact heap_alloc_new w _)
  clear hW
  have H1 := Lib.hid (H0.out.below HB.out)
  clear H0
  have HI0 := Lib.hid HX
  have HBI := Lib.hid HB.out
  obtain ⟨w1, rfl⟩ : ∃ w1, w1 = W := ⟨_, rfl⟩
  go_wp2_with fail
  refine (valuesR_any _ _ _ _).mono ?_
  rintro e w2 ⟨rfl, hw2⟩
  have hb2 : Below w1.heap.size w1 w2 := by rw [hw2]; exact (Below.refl _ _).alloc (Nat.le_refl _) _
  have hg2 : w2.heap[w1.heap.size]? = some (.cells #[.slice ao X.length cap] 28 (0, 0)) := by rw [hw2]; exact heap_alloc_new w1 _
  have hc2 : w2.cell? ⟨w1.heap.size, 0, none⟩ = some (.slice ao X.length cap) := by simp [World.cell?, hg2]
  have HS := Lib.hid (sortedR_any w1.heap.size ao cap X w2 (by omega) (M.heap_lt hg2) hc2 (H1.out.below hb2))
  have HB2 := Lib.hid (HB.out.trans (hb2.mono HB.out.size))
  have HX2 := Lib.hid ((hb2.block _ (M.heap_lt HX.out)).trans HX.out)
  have H2 := Lib.hid (H1.out.below hb2)
  clear hw2 hb2 hg2 hc2 H1 HB HX HI0 HBI
  go_wp2_with fail
  refine HS.out.mono ?_
  rintro e w3 ⟨so, sc, m, rfl, hp, hs, hml, how, hb3⟩
  have HM := Lib.hid (srtR_one HN.out hp hs)
  have HB3 := Lib.hid (HB2.out.trans (hb3.mono HB2.out.size))
  have HX3 := Lib.hid ((hb3.block _ (M.heap_lt HX2.out)).trans HX2.out)
  have HSV := Lib.hid (RecsV.of_own how (fun x hx => (H2.out.ok x (hp.mem_iff.1 hx)).below hb3))
  have HML := Lib.hid hml
  have HND := Lib.hid (show (idsX m).Nodup by rw [HM.out]; exact srtR_ids HN.out)
  have HDM := Lib.hid (fun x (hx : x ∈ m) => HDL.out x (hp.mem_iff.1 hx))
  have HPL := Lib.hid (places_any m so sc w3 HSV.out (by omega))
  rw [hml] at HPL
  clear hp hs hml how hb3 HS H2 HB2 HX2 HDL
  go_wp2_with fail
  refine HPL.out.mono ?_
  rintro e w4 ⟨rfl, hpm, hb4⟩
  have HB4 := Lib.hid (HB3.out.trans (hb4.mono HB3.out.size))
  have HPM := Lib.hid hpm
  have HS4 := Lib.hid (HSV.out.below hb4)
  have HOK := Lib.hid (show ∀ y ∈ idsX m, IdI y from fun y hy => by
    obtain ⟨z, hz, rfl⟩ := List.mem_map.1 hy
    exact (HS4.out.ok z hz).id)
  have HX4 := Lib.hid ((hb4.block _ (M.heap_lt HX3.out)).trans HX3.out)
  obtain ⟨⟨x0, x1⟩, _⟩ := box2 HX4.out
  clear hpm hb4 HPL HSV HB3 HX3
  go_upto_region 3 with fail
  by_cases him : i ∈ idsX m
  · have hhas : Maps.has (pmap (idsX m) X.length) (klI i) = true := by rw [← HML.out, pmap_has HOK.out HI.out _ (by simp), take_ids]; exact decide_eq_true him
    have hidx : (idsX m)[(idsX m).idxOf i]? = some i := at_idx him
    have hlt : (idsX m).idxOf i < X.length := by have := List.idxOf_lt_length_iff.2 him; rw [← HML.out]; simpa using this
    have hat0 := pmap_at HOK.out HND.out hidx (.lit (.int .i64 0)) X.length hlt (by rw [List.length_map, HML.out]; omega)
    have HHAS := Lib.hid hhas
    have HAT := Lib.hid hat0
    have HIM := Lib.hid him
    obtain ⟨f, hf⟩ : ∃ f, (idsX m).idxOf i = f := ⟨_, rfl⟩
    rw [hf] at HAT hlt
    have HF := Lib.hid hf
    clear hhas hidx hat0 him hf
    go_wp2_with (at_lookup; refine wpList_lookup_own_ok_int _ rfl (.tmp 24) (.tmp 25) 81 rfl 27 3 .i64 id_keyed Tryz.underlying81 Tryz.underlying3 (Tryz.zeroValue3 _) w3.heap.size X.length (pmap (idsX m) X.length) rfl HPM.out (idV i) (klI i) rfl (key_id i HI.out) ?_; intro cc hat hwc; rw [HHAS.out]; obtain rfl : cc = (f : Int) := (by rw [HAT.out] at hat; cases hat; rfl); clear hat hwc)
    have HGR := Lib.hid (graph_any m so sc w4 HS4.out (by rw [HML.out]; omega) HND.out HDM.out)
    rw [HML.out] at HGR
    clear x0 x1 HHAS HAT
    refine HGR.out.mono ?_
    rintro e w5 ⟨go, gc, G, rfl, hout, hb5⟩
    have HB5 := Lib.hid (HB4.out.trans (hb5.mono HB4.out.size))
    have hed := OutAt.ed hout
    have hrl : (rowsG m X.length).length = X.length := by unfold rowsG; rw [List.length_map, List.length_take, HML.out]; omega
    rw [hrl] at hed
    have HLE := Lib.hid (leads_any (edP (nds m)) X.length go gc (f : Int) w5 (EdAt.ext hed fun j hj => by have := rows_ed m j (by rw [HML.out]; exact hj); rw [HML.out] at this; exact this) (by omega))
    have HS5 := Lib.hid (HS4.out.below hb5)
    have HP5 := Lib.hid (HPM.out.below hb5)
    clear hed hrl hout hb5 HGR HS4 HPM HB4
    go_wp2_with fail
    refine HLE.out.mono ?_
    rintro e W ⟨lo, lc, l, rfl, hle, hlo, hb6⟩
    have HB6 := Lib.hid (HB5.out.trans (hb6.mono HB5.out.size))
    have HSV := Lib.hid (HS5.out.below hb6)
    have HPW := Lib.hid (HP5.out.below hb6)
    have HLO := Lib.hid hlo
    have hll : ∀ v ∈ l, v < X.length := fun v hv => ((hle.mem v).1 hv).1
    have hlen : l.length ≤ 20 := Nat.le_trans (nodup_le X.length l (hle.srt.imp fun h => Nat.ne_of_lt h) hll) hl
    have HLL := Lib.hid hll
    have hUm : Unl (nds m) := by unfold Unl; rw [nds_ids]; exact HND.out
    have hlm : (nds m).length = X.length := by unfold nds; rw [List.length_map]; exact HML.out
    have HLT := Lib.hid (show LeadsTo (edR (nds m)) m.length ((idsX m).idxOf i : Nat) l by
      rw [HF.out, HML.out]
      exact leads_ext (fun u w => by rw [← hlm]; exact (edgeP hUm).trans (edgeR hUm).symm) hle)
    clear hle hlo hb6 hll hUm hlm HS5 HP5 HLE HB5
    go_wp2_with fail
    go_loopw [10, 11, 36] (fun pv mv kv wr => ∃ (k : Nat) (P : List Rv) (po : Option Addr) (pc : Nat) (D : List Id) (dn : Option Addr) (dc : Nat), pv = .slice po P.length pc ∧ mv = .slice dn D.length dc ∧ kv = .int .i64 k ∧ k ≤ l.length ∧ P = partR m (l.take k) ∧ D = missO m (l.take k) ∧ OwnR wr W.heap.size po pc P ∧ OwnL wr W.heap.size dn dc D ∧ Below W.heap.size W wr) (fun _ _ kv _ => l.length - (intOf kv).toNat)
    case atStart => exact ⟨0, [], none, 0, [], none, 0, rfl, rfl, rfl, Nat.zero_le _, by simp [partR], by simp [missO, partR], World.ownsRow_nil _ _ _ _, World.ownsRow_nil _ _ _ _, Below.refl _ _⟩
    case round =>
      obtain ⟨k, P, po, pc, D, dn, dc, rfl, rfl, rfl, hk, hP, hD, hpo, hdo, hb⟩ := hrel
      have hPl : P.length ≤ 20 := by rw [hP, partR_len, List.length_take]; omega
      have HDLE := Lib.hid (show D.length ≤ 200000 by
        rw [hD]
        have h1 := missO_len (s := m) (l := l.take k) (n := 10000) HDM.out (fun i hi => by rw [HML.out]; exact HLL.out i (List.mem_of_mem_take hi))
        have h2 : (l.take k).length ≤ 20 := by rw [List.length_take]; omega
        have := Nat.mul_le_mul_right 10000 h2
        omega)
      have HP := Lib.hid hP
      have HDD := Lib.hid hD
      have HPO := Lib.hid hpo
      have HDO := Lib.hid hdo
      have HBR := Lib.hid hb
      clear hP hD hpo hdo hb
      have hWr := HBR.out.size
      by_cases hkl : k < l.length
      · have hii : (k : Int) < (l.length : Int) := by omega
        obtain ⟨u, hu⟩ : ∃ u, l[k]? = some u := ⟨_, List.getElem?_eq_getElem hkl⟩
        obtain ⟨g, e1, hgl, hcell⟩ := iv_cell HLO.out hu
        subst e1
        have hcell2 := (HBR.out.cell (p := ⟨g, k, none⟩) hgl).trans hcell
        have hul := HLL.out u (List.mem_of_getElem? hu)
        have hul2 : u < m.length := by rw [HML.out]; exact hul
        obtain ⟨x, hx⟩ : ∃ x, m[u]? = some x := ⟨_, List.getElem?_eq_getElem hul2⟩
        obtain ⟨b, off, e2, hbl, hrec⟩ := HSV.out.row u x hx
        subst e2
        obtain ⟨c0, c1, c2, c3, c4, c5, c6, c7, c8, c9, c10, c11, c12, c13, c14, c15⟩ := hrec.below HBR.out hbl
        have HNP := Lib.hid (show P ++ [x] = partR m (l.take (k + 1)) by rw [List.take_add_one, hu]; simp only [Option.toList_some]; rw [partR_app, ← HP.out, partR_one hx])
        have HNM := Lib.hid (show missO m (l.take (k + 1)) = D ++ x.deps.filter fun d => !decide (d ∈ idsX m) by rw [missO_next hu hx, ← HDD.out])
        have huI : (u : Int) < (X.length : Int) := by omega
        have HSLE := HSV.out.le
        rw [HML.out] at HSLE
        unfold maxLen at HSLE
        obtain ⟨hsl1, hsl2⟩ := HSLE
        have hlo := HLO.out
        obtain ⟨ao', cap', e0, hlc1, hlc2, _, _⟩ := M.own_view hlo
        cases e0
        unfold maxLen at hlc2
        have hdx := HDM.out x (List.mem_of_getElem? hx)
        have HXD := Lib.hid (HSV.out.ok x (List.mem_of_getElem? hx)).deps
        have HREC := Lib.hid hrec
        clear hu hcell hx hrec hlo HP HDD
        go_upto_region 11 with fail
        clear hcell2
        go_upto_region 12 with (refine wpList_app recC 16 (fun _ => rfl) (by decide) recC_one (by rfl) (.tmp 40) (.tmp 45) 28 (by rfl) W.heap.size 38 i0 _ 160 Tryz.underlying28 hi0 hz0 hz1 hz2 (by decide) rfl po pc P x (recA x) rfl (by rfl) (by exact HPO.out) (by rfl) (by omega) (by omega) ?_; intro po' pc' w7 hown hmod hbel; have HPO7 := Lib.hid hown; have HDO7 := Lib.hid (own_beside HDO.out HPO.out (by decide) hmod); have HB7 := Lib.hid (HBR.out.trans hbel); clear hown hmod hbel)
        clear c0 c1 c2 c3 c4 c5 c6 c7 c8 c9 c10 c11 c12 c13 c14 c15
        obtain ⟨c0, c1, c2, c3, c4, c5, c6, c7, c8, c9, c10, c11, c12, c13, c14, c15⟩ := HREC.out.below HB7.out hbl
        obtain ⟨P2, hP2⟩ : ∃ P2, P2 = P ++ [x] := ⟨_, rfl⟩
        rw [← hP2] at HNP HPO7
        try rw [← hP2]
        have HPL2 := Lib.hid (show P2.length = P.length + 1 by rw [hP2]; simp)
        clear hP2 HPO HDO HBR
        go_upto_region 13 with fail
        clear c0 c1 c2 c3 c4 c5 c6 c7 c8 c9 c10 c11 c12 c13 c14 c15
        have hs7 := HB7.out.size
        obtain ⟨wa, rfl⟩ : ∃ wa, wa = w7 := ⟨_, rfl⟩
        obtain ⟨xo, hxo⟩ : ∃ xo, x.ao = xo := ⟨_, rfl⟩
        rw [hxo]
        have HXO := Lib.hid hxo
        clear hxo
        go_loopw [11, 54] (fun mv jv wr => ∃ (j : Nat) (E : List Id) (eo : Option Addr) (ec : Nat), mv = .slice eo E.length ec ∧ jv = .int .i64 j ∧ j ≤ x.deps.length ∧ E = D ++ (x.deps.take j).filter (fun d => !decide (d ∈ idsX m)) ∧ OwnL wr W.heap.size eo ec E ∧ OwnR wr W.heap.size po' pc' P2 ∧ Below W.heap.size W wr) (fun _ jv _ => x.deps.length - (intOf jv).toNat)
        case atStart => exact ⟨0, D, dn, dc, rfl, rfl, Nat.zero_le _, by simp, HDO7.out, HPO7.out, HB7.out⟩
        case round =>
          obtain ⟨j, E, eo, ec, rfl, rfl, hj, hE, heo, hpo, hbe⟩ := hrel
          have HEL := Lib.hid (show E.length ≤ 300000 by
            rw [hE, List.length_append]
            have h1 := List.length_filter_le (fun d => !decide (d ∈ idsX m)) (x.deps.take j)
            rw [List.length_take] at h1
            have := HDLE.out
            omega)
          have HE := Lib.hid hE
          have HEO := Lib.hid heo
          have HPO := Lib.hid hpo
          have HBE := Lib.hid hbe
          clear hE heo hpo hbe
          have hsq := HBE.out.size
          have HXQ := Lib.hid (HXD.out.below (B := 0) HBE.out)
          by_cases hjl : j < x.deps.length
          · have hjj : (j : Int) < (x.deps.length : Int) := by omega
            obtain ⟨d, hd⟩ : ∃ d, x.deps[j]? = some d := ⟨_, List.getElem?_eq_getElem hjl⟩
            have HD := Lib.hid hd
            obtain ⟨b2, off2, e2, hbl2, y0, y1⟩ := HXQ.out.row j d hd
            have HID := Lib.hid (HXQ.out.ok d (List.mem_of_getElem? hd))
            obtain rfl : xo = some ⟨b2, off2, none⟩ := HXO.out.symm.trans e2
            clear hd e2
            go_upto_region 15 with fail
            obtain ⟨w8, hw8⟩ : ∃ w8, w8 = wr.alloc (idO d) := ⟨_, rfl⟩
            have hb8 : Below wr.heap.size wr w8 := by rw [hw8]; exact (Below.refl _ _).alloc (Nat.le_refl _) _
            have HB8 := Lib.hid (HBE.out.trans (hb8.mono hsq))
            have HP8 := Lib.hid (HPW.out.below HB8.out)
            have HEO8 := Lib.hid (show OwnL w8 W.heap.size eo ec E by rw [hw8]; exact HEO.out.alloc _)
            have HPO8 := Lib.hid (show OwnR w8 W.heap.size po' pc' P2 by rw [hw8]; exact HPO.out.alloc _)
            obtain ⟨⟨z0, z1⟩, _⟩ := box2 (show w8.heap[wr.heap.size]? = some (idO d) by rw [hw8]; exact heap_alloc_new wr _)
            rw [← hw8]
            clear hw8 hb8 y0 y1
            have hs8 := HB8.out.size
            have hel := HEL.out
            by_cases hdm : d ∈ idsX m
            · have hhas : Maps.has (pmap (idsX m) X.length) (klI d) = true := by rw [← HML.out, pmap_has HOK.out HID.out _ (by simp), take_ids]; exact decide_eq_true hdm
              have HHAS := Lib.hid hhas
              have HN := Lib.hid (show E = D ++ (x.deps.take (j + 1)).filter (fun d => !decide (d ∈ idsX m)) by rw [List.take_add_one, HD.out, List.filter_append, ← List.append_assoc, ← HE.out, Option.toList_some, fil_in hdm, List.append_nil])
              clear hhas hdm
              go_wp2_with (at_lookup; refine wpList_lookup_own_ok_int _ rfl (.tmp 59) (.tmp 60) 81 rfl 27 3 .i64 id_keyed Tryz.underlying81 Tryz.underlying3 (Tryz.zeroValue3 _) w3.heap.size X.length (pmap (idsX m) X.length) rfl HP8.out (idV d) (klI d) rfl (key_id d HID.out) ?_; intro cc hat hwc; rw [HHAS.out]; clear hat hwc)
              go_roundw
              case rel => exact ⟨j + 1, E, eo, ec, rfl, by go_num, by omega, HN.out, HEO8.out, HPO8.out, HB8.out⟩
              case measure => simp [intOf]; omega
            · have hhas : Maps.has (pmap (idsX m) X.length) (klI d) = false := by rw [← HML.out, pmap_has HOK.out HID.out _ (by simp), take_ids]; exact decide_eq_false hdm
              have HHAS := Lib.hid hhas
              have HN := Lib.hid (show E ++ [d] = D ++ (x.deps.take (j + 1)).filter (fun d => !decide (d ∈ idsX m)) by rw [List.take_add_one, HD.out, List.filter_append, ← List.append_assoc, ← HE.out, Option.toList_some, fil_out hdm])
              clear hhas hdm
              go_upto_region 17 with (at_lookup; refine wpList_lookup_own_ok_int _ rfl (.tmp 59) (.tmp 60) 81 rfl 27 3 .i64 id_keyed Tryz.underlying81 Tryz.underlying3 (Tryz.zeroValue3 _) w3.heap.size X.length (pmap (idsX m) X.length) rfl HP8.out (idV d) (klI d) rfl (key_id d HID.out) ?_; intro cc hat hwc; rw [HHAS.out]; clear hat hwc)
              go_wp2_with (refine wpList_app idC 2 (fun _ => rfl) (by decide) idC_one (by rfl) (.tmp 66) (.tmp 68) 25 (by rfl) W.heap.size 27 i1 _ 16 Tryz.underlying25 hi1 hy0 hy1 hy2 (by decide) rfl eo ec E d #[.int .i64 d.r, .int .i64 d.n] rfl (by rfl) (by exact HEO8.out) (by rfl) (by omega) (by omega) ?_; intro eo' ec' w9 hown hmod hbel; have HEO9 := Lib.hid hown; have HPO9 := Lib.hid (own_beside HPO8.out HEO8.out (by decide) hmod); have HB9 := Lib.hid (HB8.out.trans hbel); clear hown hmod hbel)
              clear z0 z1
              go_roundw
              case rel => exact ⟨j + 1, E ++ [d], eo', ec', by simp, by go_num, by omega, HN.out, HEO9.out, HPO9.out, HB9.out⟩
              case measure => simp [intOf]; omega
          · obtain rfl : j = x.deps.length := by omega
            have hjj : ¬ (x.deps.length : Int) < (x.deps.length : Int) := by omega
            have HN := Lib.hid (show E = missO m (l.take (k + 1)) by rw [HNM.out, HE.out, List.take_length])
            go_wp2_with fail
            go_roundw
            case rel => exact ⟨k + 1, P2, po', pc', E, eo, ec, by first | rfl | rw [HPL2.out], rfl, by go_num, by omega, HNP.out, HN.out, HPO.out, HEO.out, HBE.out⟩
            case measure => simp [intOf]; omega
      · obtain rfl : k = l.length := by omega
        have hii : ¬ (l.length : Int) < (l.length : Int) := by omega
        have HPF := Lib.hid (show P = partR m l by rw [HP.out, List.take_length])
        have HDF := Lib.hid (show D = missO m l by rw [HDD.out, List.take_length])
        have HDV := Lib.hid (IdsV.of_own (B := W.heap.size) (l := D) (by have := HDO.out; unfold OwnL at this; exact this) (fun d hd => by
          rw [HDF.out] at hd
          obtain ⟨x, hx, hdx⟩ := List.mem_flatMap.1 hd
          obtain ⟨u, hu, rfl⟩ := List.mem_map.1 hx
          have hul : u < m.length := by rw [HML.out]; exact HLL.out u hu
          have hxm : m.getD u default ∈ m := by rw [List.getD, List.getElem?_eq_getElem hul]; exact List.getElem_mem hul
          exact (HSV.out.ok _ hxm).deps.ok d (List.mem_filter.1 hdx).1))
        have HSET := Lib.hid (set_any D dn dc wr HDV.out (by have := HDLE.out; omega))
        go_wp2_with fail
        refine HSET.out.mono ?_
        rintro e wf ⟨fo, fc, rfl, hfo, hbf⟩
        have HF1 := Lib.hid (show OwnR wf w.heap.size po pc P from own_base (Go.Proofs.YtndfhejfhfhbdaaGreatDoor.R.own_below HPO.out hbf) (fun q hq => Nat.le_trans HB6.out.size (HPO.out.lt q hq).1))
        have HF2 := Lib.hid (show OwnL wf w.heap.size fo fc (setI D) from own_base hfo (fun q hq => Nat.le_trans (Nat.le_trans HB6.out.size hWr) (hfo.lt q hq).1))
        have HF3 := Lib.hid ((HB6.out.trans (HBR.out.mono HB6.out.size)).trans (hbf.mono (Nat.le_trans HB6.out.size hWr)))
        have HCL := Lib.hid (show ClO (srtR X) i P (setI D) by
          rw [← HM.out]
          exact ⟨fun h => absurd HIM.out h, fun _ => ⟨l, HLT.out, HPF.out, by rw [HDF.out]⟩⟩)
        clear hfo hbf HSET
        go_wp2_with fail
        go_ret2
        exact ⟨po, pc, P, fo, fc, setI D, rfl, HCL.out, HF1.out, HF2.out, HF3.out⟩
  · have hhas : Maps.has (pmap (idsX m) X.length) (klI i) = false := by rw [← HML.out, pmap_has HOK.out HI.out _ (by simp), take_ids]; exact decide_eq_false him
    have HHAS := Lib.hid hhas
    have HIM := Lib.hid (show ClO (srtR X) i [] [] by
      rw [← HM.out]
      exact ⟨fun _ => ⟨rfl, rfl⟩, fun h => absurd h him⟩)
    clear hhas him
    go_wp2_with (at_lookup; refine wpList_lookup_own_ok_int _ rfl (.tmp 24) (.tmp 25) 81 rfl 27 3 .i64 id_keyed Tryz.underlying81 Tryz.underlying3 (Tryz.zeroValue3 _) w3.heap.size X.length (pmap (idsX m) X.length) rfl HPM.out (idV i) (klI i) rfl (key_id i HI.out) ?_; intro cc hat hwc; rw [HHAS.out]; clear hat hwc)
    go_ret2
    exact ⟨none, 0, [], none, 0, [], rfl, HIM.out, World.ownsRow_nil _ _ _ _, World.ownsRow_nil _ _ _ _, HB4.out⟩
end Go.Proofs.YtndfhejfhfhbdaaGreatDoor.O

/- Plain law: ways over nodes that were looked at; the sum of the components. -/
namespace Go.Proofs.YtndfhejfhfhbdaaGreatDoor.K
open Go.RowKit M T
set_option linter.unusedVariables false
set_option linter.unusedSimpArgs false

/-- a way over nodes below k alone -/
def Rk (E : Nat → List Int) (n : Nat) : Nat → Nat → Nat → Prop
  | 0, i, j => i = j ∨ T.Edge E n i j
  | k + 1, i, j => Rk E n k i j ∨ (Rk E n k i k ∧ Rk E n k k j)
section
variable {E : Nat → List Int} {n : Nat}
theorem Rk.path : ∀ {k i j : Nat}, Rk E n k i j → Path E n i j
  | 0, i, j, h => by
    rcases h with h | h
    · subst h; exact .refl i
    · exact .one h
  | k + 1, i, j, h => by
    rcases h with h | h
    · exact Rk.path h
    · exact (Rk.path h.1).trans (Rk.path h.2)
theorem Rk.refl : ∀ (k i : Nat), Rk E n k i i
  | 0, i => .inl rfl
  | k + 1, i => .inl (Rk.refl k i)
theorem Rk.edge {i j : Nat} (h : T.Edge E n i j) : ∀ k, Rk E n k i j
  | 0 => .inr h
  | k + 1 => .inl (Rk.edge h k)
theorem Rk.trans : ∀ {k i v j : Nat}, v < k → Rk E n k i v → Rk E n k v j → Rk E n k i j
  | 0, i, v, j, hv, _, _ => by omega
  | k + 1, i, v, j, hv, h1, h2 => by
    by_cases e : v = k
    · subst e
      have a : Rk E n v i v := by
        rcases h1 with h | h
        · exact h
        · exact h.1
      have b : Rk E n v v j := by
        rcases h2 with h | h
        · exact h
        · exact h.2
      exact .inr ⟨a, b⟩
    · have hv : v < k := by omega
      rcases h1 with h1 | h1 <;> rcases h2 with h2 | h2
      · exact .inl (Rk.trans hv h1 h2)
      · exact .inr ⟨Rk.trans hv h1 h2.1, h2.2⟩
      · exact .inr ⟨h1.1, Rk.trans hv h1.2 h2⟩
      · exact .inr ⟨h1.1, h2.2⟩
theorem Rk.of {i j : Nat} (h : Path E n i j) : Rk E n n i j := by
  induction h with
  | refl u => exact Rk.refl n u
  | step e _ ih => exact Rk.trans e.2.1 (Rk.edge e n) ih

theorem cover_ge : ∀ (n : Nat) (l : List Nat), (∀ v, v < n → v ∈ l) → n ≤ l.length := by
  intro n
  induction n with
  | zero => intro l _; omega
  | succ n ih =>
    intro l h
    have h1 := ih (l.erase n) (fun v hv => (List.mem_erase_of_ne (by omega)).2 (h v (by omega)))
    have h2 := h n (by omega)
    rw [List.length_erase_of_mem h2] at h1
    have := List.length_pos_of_mem h2
    omega
variable {L : List (List Nat)} {q : Nat → Nat}
theorem Comp.path_le (h : Comp E n L q) {u v : Nat} (hp : Path E n u v) : q v ≤ q u := by
  induction hp with
  | refl => exact Nat.le_refl _
  | step e _ ih => exact Nat.le_trans ih (h.d4 _ _ e)
theorem Path.lt {u v : Nat} (hp : Path E n u v) (hu : u < n) : v < n := by
  induction hp with
  | refl => exact hu
  | step e _ ih => exact ih e.2.1
theorem Comp.mem_iff (h : Comp E n L q) {i : Nat} {c : List Nat} (hc : L[i]? = some c) (v : Nat) : v ∈ c ↔ v < n ∧ q v = i := by
  refine ⟨fun hv => h.d2 i c v hc hv, fun ⟨hv, e⟩ => ?_⟩
  obtain ⟨c', hc', hm⟩ := h.d1 v hv
  rw [e, hc] at hc'
  rw [Option.some.inj hc']; exact hm
/-- one of the two is in the other's component just if each leads to the other -/
theorem Comp.both (h : Comp E n L q) {u v : Nat} (hu : u < n) (hv : v < n) : q u = q v ↔ Path E n u v ∧ Path E n v u :=
  ⟨fun e => ⟨h.d5 u v hu hv e, h.d5 v u hv hu e.symm⟩, fun ⟨h1, h2⟩ => by have a := h.path_le h1; have b := h.path_le h2; omega⟩
theorem flat_nodup (h : Comp E n L q) : L.flatten.Nodup := by
  unfold List.Nodup
  rw [List.pairwise_flatten]
  refine ⟨fun c hc => (h.d3 c hc).1.imp (fun hlt => by omega), ?_⟩
  rw [List.pairwise_iff_getElem]
  intro i j hi hj hij x hx y hy e
  have h1 := (h.d2 i _ x (List.getElem?_eq_getElem hi) hx).2
  have h2 := (h.d2 j _ y (List.getElem?_eq_getElem hj) hy).2
  rw [e] at h1
  omega
theorem Comp.sum (h : Comp E n L q) : L.flatten.length = n := by
  have h1 : L.flatten.length ≤ n := by
    have key : ∀ (n : Nat) (l : List Nat), l.Nodup → (∀ v ∈ l, v < n) → l.length ≤ n := by
      intro n
      induction n with
      | zero =>
        intro l _ h
        cases l with
        | nil => exact Nat.le_refl _
        | cons a t => have := h a List.mem_cons_self; omega
      | succ n ih =>
        intro l hd h
        have h1 := ih (l.erase n) (hd.erase n) (fun v hv => by
          have h2 := h v (List.mem_of_mem_erase hv)
          have h3 : v ≠ n := fun e => (hd.mem_erase_iff.1 hv).1 e
          omega)
        have h4 : l.length - 1 ≤ (l.erase n).length := by
          by_cases e : n ∈ l
          · rw [List.length_erase_of_mem e]; exact Nat.le_refl _
          · rw [List.erase_of_not_mem e]; omega
        omega
    refine key n _ (flat_nodup h) fun v hv => ?_
    obtain ⟨c, hc, hvc⟩ := List.mem_flatten.1 hv
    obtain ⟨i, hi⟩ := List.mem_iff_getElem?.1 hc
    exact (h.d2 i c v hi hvc).1
  have h2 : n ≤ L.flatten.length := cover_ge n _ fun v hv => by
    obtain ⟨c, hc, hm⟩ := h.d1 v hv
    exact List.mem_flatten.2 ⟨c, List.mem_of_getElem? hc, hm⟩
  omega

/-- the document's choice: it hasn't come, and what it leads to has, or leads back -/
def okV (E : Nat → List Int) (n : Nat) (come : Nat → Bool) (v : Nat) : Prop := come v = false ∧ ∀ w, w < n → Path E n v w → come w = true ∨ Path E n w v
def comeP (q : Nat → Nat) (p : Nat) (v : Nat) : Bool := decide (q v < p)
theorem comp_head (h : Comp E n L q) {p : Nat} {c : List Nat} (hc : L[p]? = some c) : c.headD 0 < n ∧ q (c.headD 0) = p ∧ headOf L p = c.headD 0 ∧ ∀ v ∈ c, c.headD 0 ≤ v := by
  have h3 := h.d3 c (List.mem_of_getElem? hc)
  cases c with
  | nil => exact absurd rfl h3.2
  | cons a t =>
    have h2 := h.d2 p _ a hc List.mem_cons_self
    refine ⟨h2.1, h2.2, ?_, fun v hv => ?_⟩
    · unfold headOf; simp [List.getD, hc]
    · rcases List.mem_cons.1 hv with e | e
      · subst e; exact Nat.le_refl _
      · exact Nat.le_of_lt ((List.pairwise_cons.1 h3.1).1 v e)
theorem InOrder.ok_head (h : InOrder E n L q) {p : Nat} {c : List Nat} (hc : L[p]? = some c) : okV E n (comeP q p) (c.headD 0) := by
  obtain ⟨h1, h2, _, _⟩ := comp_head h.co hc
  refine ⟨by unfold comeP; rw [decide_eq_false]; omega, fun w hw hp => ?_⟩
  have hle := h.co.path_le hp
  by_cases e : q w < p
  · left; unfold comeP; exact decide_eq_true e
  · right; exact h.co.d5 w _ hw h1 (by omega)
theorem InOrder.ok_below (h : InOrder E n L q) {p : Nat} {c : List Nat} (hc : L[p]? = some c) {v : Nat} (hv : v < c.headD 0) : ¬ okV E n (comeP q p) v := by
  obtain ⟨h1, h2, h3, h4⟩ := comp_head h.co hc
  rintro ⟨a1, a2⟩
  have hvn : v < n := by omega
  unfold comeP at a1
  have hqp : p ≤ q v := by have := of_decide_eq_false a1; omega
  obtain ⟨c', hc', hvc⟩ := h.co.d1 v hvn
  obtain ⟨g1, g2, g3, g4⟩ := comp_head h.co hc'
  have hvh := g4 v hvc
  have hpp : p < q v := by
    rcases Nat.lt_or_ge p (q v) with e | e
    · exact e
    · have e : q v = p := by omega
      rw [e, hc] at hc'
      obtain rfl := Option.some.inj hc'
      omega
  obtain ⟨u, x, hu, he, hpx, hx⟩ := h.le p (q v) hpp (List.getElem?_eq_some_iff.1 hc').1 (by omega)
  have hvx : Path E n v x := (h.co.d5 v u hvn he.1 hu.symm).trans (.one he)
  rcases a2 x he.2.1 hvx with b | b
  · unfold comeP at b
    have := of_decide_eq_true b
    omega
  · have b1 := h.co.path_le b
    have b2 := h.co.path_le hvx
    exact hx (by omega)
theorem InOrder.cls (h : InOrder E n L q) {p : Nat} {c : List Nat} (hc : L[p]? = some c) (w : Nat) : w ∈ c ↔ w < n ∧ Path E n (c.headD 0) w ∧ Path E n w (c.headD 0) := by
  obtain ⟨h1, h2, _, _⟩ := comp_head h.co hc
  rw [h.co.mem_iff hc]
  refine ⟨fun ⟨a, b⟩ => ⟨a, (h.co.both h1 a).1 (by omega)⟩, fun ⟨a, b⟩ => ⟨a, ?_⟩⟩
  have := (h.co.both h1 a).2 b
  omega
theorem comeP_next (h : Comp E n L q) {p : Nat} {c : List Nat} (hc : L[p]? = some c) {v : Nat} (hv : v < n) : (comeP q p v || decide (v ∈ c)) = comeP q (p + 1) v := by
  have := h.mem_iff hc v
  unfold comeP
  rw [Bool.eq_iff_iff, Bool.or_eq_true, decide_eq_true_eq, decide_eq_true_eq, decide_eq_true_eq, this]
  constructor
  · rintro (a | a) <;> omega
  · intro a
    by_cases e : q v < p
    · exact .inl e
    · exact .inr ⟨hv, by omega⟩
theorem sum_drop {p : Nat} {c : List Nat} (hc : L[p]? = some c) : (L.drop p).flatten.length = c.length + (L.drop (p + 1)).flatten.length := by
  have hp := (List.getElem?_eq_some_iff.1 hc)
  rw [List.drop_eq_getElem_cons hp.1, hp.2, List.flatten_cons, List.length_append]
theorem sum_zero (h : Comp E n L q) {p : Nat} (hp : (L.drop p).flatten.length = 0) : L.length ≤ p := by
  rcases Nat.lt_or_ge p L.length with e | e
  · obtain ⟨c, hc⟩ : ∃ c, L[p]? = some c := ⟨_, List.getElem?_eq_getElem e⟩
    have h1 := sum_drop hc
    have h2 := List.length_pos_iff.2 (h.d3 c (List.mem_of_getElem? hc)).2
    omega
  · exact e
end
end Go.Proofs.YtndfhejfhfhbdaaGreatDoor.K
