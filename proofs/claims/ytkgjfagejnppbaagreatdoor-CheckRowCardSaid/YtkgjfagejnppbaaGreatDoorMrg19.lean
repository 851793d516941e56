/- Several texts in one. -/
import Derived.Test.YtkgjfagejnppbaaGreatDoorMrg18
import Derived.Test.YtkgjfagejnppbaaGreatDoorOrdAA
import Derived.Test.YtkgjfagejnppbaaGreatDoorMrg11

/- order.Order. -/
namespace Go.Proofs.YtkgjfagejnppbaaGreatDoor.O
open Go.RowKit Go.Proofs.YtkgjfagejnppbaaGreatDoor.M Go.BigFrame Go.Proofs.YtkgjfagejnppbaaGreatDoor.K Go.Proofs.YtkgjfagejnppbaaGreatDoor.T Go.Proofs.YtkgjfagejnppbaaGreatDoor.R
set_option linter.unusedVariables false
set_option linter.unusedSimpArgs false

theorem comps_len {E : Nat → List Int} {n : Nat} {L : List (List Nat)} {q : Nat → Nat} (h : Comp E n L q) : L.length ≤ n := by
  have hhd : ∀ (i : Nat) (c : List Nat), L[i]? = some c → c.headD 0 ∈ c := fun i c hc => by
    cases c with
    | nil => exact absurd rfl (h.d3 _ (List.mem_of_getElem? hc)).2
    | cons a t => exact List.mem_cons_self
  have := nodup_le n (L.map fun c => c.headD 0) ?_ ?_
  · simpa using this
  · unfold List.Nodup
    rw [List.pairwise_iff_getElem]
    intro i j hi hj hij e
    rw [List.length_map] at hi hj
    rw [List.getElem_map, List.getElem_map] at e
    have h1 := List.getElem?_eq_getElem hi
    have h2 := List.getElem?_eq_getElem hj
    have q1 := (h.d2 i _ _ h1 (hhd i _ h1)).2
    have q2 := (h.d2 j _ _ h2 (hhd j _ h2)).2
    rw [e] at q1
    omega
  · intro v hv
    obtain ⟨c, hc, rfl⟩ := List.mem_map.1 hv
    obtain ⟨i, hi⟩ := List.mem_iff_getElem?.1 hc
    exact (h.d2 i _ _ hi (hhd i _ hi)).1
theorem rowI_pre (s : List Nd) (L : List (List Nat)) (k : Nat) : (rowI s (L.take k)).length ≤ (rowI s L).length := by
  have : rowI s L = rowI s (L.take k) ++ rowI s (L.drop k) := by
    unfold rowI
    rw [← List.flatMap_append, List.take_append_drop]
  rw [this, List.length_append]
  omega
theorem comp_rows {E : Nat → List Int} {n : Nat} {L : List (List Nat)} {q : Nat → Nat} (h : Comp E n L q) {k : Nat} {c : List Nat} (hc : L[k]? = some c) : c.Pairwise (· < ·) ∧ (∀ x ∈ c, x < n) ∧ c.length ≤ n :=
  ⟨(h.d3 c (List.mem_of_getElem? hc)).1, fun x hx => (h.d2 k c x hc hx).1, nodup_le n c ((h.d3 c (List.mem_of_getElem? hc)).1.imp fun h => Nat.ne_of_lt h) fun x hx => (h.d2 k c x hc hx).1⟩
/-- a row of numbers: its cells -/
theorem OutAt.get {B : Nat} {w w2 : World} {oo : Option Addr} {oc : Nat} {R : List (Option Addr × Nat)} {L : List (List Nat)} (h : OutAt B w oo oc R L) (hb : Below w.heap.size w w2) {k : Nat} {c : List Nat} (hc : L[k]? = some c) :
    ∃ g ro rc, oo = some ⟨g, 0, none⟩ ∧ w2.cell? ⟨g, k, none⟩ = some (.slice ro c.length rc) ∧ c.length ≤ rc ∧ rc ≤ maxLen ∧ ∀ (j x : Nat), c[j]? = some x → ∃ p, ro = some ⟨p, 0, none⟩ ∧ p < w.heap.size ∧ w2.cell? ⟨p, j, none⟩ = some (.int .i64 (x : Int)) := by
  have hk := (List.getElem?_eq_some_iff.1 hc).1
  obtain ⟨ao', cap', e0, h1, h2, h3, h4⟩ := M.own_view h.top
  cases e0
  cases oo with
  | none => have := (h3 rfl).1; omega
  | some a =>
    obtain ⟨g, cur, rfl, _, hg, hsz, htk⟩ := h4 a rfl
    obtain ⟨r, hr⟩ : ∃ r, R[k]? = some r := ⟨_, List.getElem?_eq_getElem (by rw [h.rl]; exact hk)⟩
    have hrow := h.row k c r hc hr
    obtain ⟨ro, rc⟩ := r
    obtain ⟨ao2, cap2, e2, k1, k2, k3, k4⟩ := M.own_view hrow
    cases e2
    refine ⟨g, ro, rc, rfl, (hb.cell (p := ⟨g, k, none⟩) (M.heap_lt hg)).trans ?_, k1, k2, fun j x hj => ?_⟩
    · have hh : (hdrs R L)[k]? = some (.slice ro c.length rc) := hdrs_get hr hc
      rw [cell_of_row w g _ _ _ _ hg, ← Array.getElem?_toList]
      rw [← htk, List.getElem?_take_of_lt (by omega)] at hh
      exact hh
    · have hjl := (List.getElem?_eq_some_iff.1 hj).1
      cases ro with
      | none => have := (k3 rfl).1; omega
      | some a =>
        obtain ⟨p, cur2, rfl, _, hp, hsz2, htk2⟩ := k4 a rfl
        refine ⟨p, rfl, M.heap_lt hp, (hb.cell (p := ⟨p, j, none⟩) (M.heap_lt hp)).trans ?_⟩
        have hh : (iv c)[j]? = some (.int .i64 (x : Int)) := by simp [iv, hj]
        rw [cell_of_row w p _ _ _ _ hp, ← Array.getElem?_toList]
        rw [← htk2, List.getElem?_take_of_lt (by omega)] at hh
        exact hh
set_option maxRecDepth 100000 in
set_option maxHeartbeats 4000000 in
theorem Order_any (X : List Rv) (ao : Option Addr) (cap : Nat) (w : World) (h : RecsV w ao cap X) (hT : Tabs w) (hl : X.length ≤ 20) (hdl : ∀ x ∈ X, x.deps.length ≤ 10000) (hkl : ∀ x ∈ X, x.cmd.key.size ≤ 1000000) (v : Int) (hv : errO (okR X) (nds X) = v) :
    Calls Tryz.prog 47 #[.slice ao X.length cap] w fun e w' => ∃ (oo : Option Addr) (oc : Nat) (out : List Id), e = .returned (.tuple #[.slice oo out.length oc, .int .i64 v]) ∧ ((v = 0 → Row (byIds (nds X)) out) ∧ (v ≠ 0 → out = []) ∧ OwnL w' w.heap.size oo oc out ∧ Below w.heap.size w w') := by
  obtain ⟨i0, hi, hz0, hz1, hz2⟩ := info_parts info_rec
  obtain ⟨i1, hi1, hy0, hy1, hy2⟩ := info_parts info_id
  have hcl := closed_any X ao cap w h hT (by omega) hdl hkl v hv
  have HV := Lib.hid hv
  have H0 := Lib.hid h
  have HDL := Lib.hid hdl
  clear h hT hdl hkl hv
  go_enter Tryz.func47, Tryz.ntmps47
  go_wp2_with fail
  refine hcl.mono ?_
  rintro e w1 ⟨rfl, hb1⟩
  have HB1 := Lib.hid hb1
  have H1 := Lib.hid (H0.out.below hb1)
  clear hb1 hcl H0
  by_cases hv0 : v = 0
  · subst hv0
    obtain ⟨hok, hU, hms⟩ := errO_ok.1 HV.out
    have HU := Lib.hid hU
    have HN := Lib.hid (show (idsX X).Nodup by rw [← nds_ids]; exact hU)
    clear HV hok hU hms
    go_wp2_with fail
    refine (valuesR_any _ _ _ _).mono ?_
    rintro e w2 ⟨rfl, hw2⟩
    have hb2 : Below w1.heap.size w1 w2 := by rw [hw2]; exact (Below.refl _ _).alloc (Nat.le_refl _) _
    have hg2 : w2.heap[w1.heap.size]? = some (.cells #[.slice ao X.length cap] 26 (0, 0)) := by rw [hw2]; exact heap_alloc_new w1 _
    have hc2 : w2.cell? ⟨w1.heap.size, 0, none⟩ = some (.slice ao X.length cap) := by simp [World.cell?, hg2]
    have HS := Lib.hid (sortedR_any w1.heap.size ao cap X w2 (by omega) (M.heap_lt hg2) hc2 (H1.out.below hb2))
    have HB2 := Lib.hid (HB1.out.trans (hb2.mono HB1.out.size))
    have H2 := Lib.hid (H1.out.below hb2)
    clear hw2 hb2 hg2 hc2 H1 HB1
    go_wp2_with fail
    refine HS.out.mono ?_
    rintro e w3 ⟨so, sc, m, rfl, hp, hs, hml, how, hb3⟩
    have HM := Lib.hid (srtR_one HN.out hp hs)
    have HP := Lib.hid hp
    have HB3 := Lib.hid (HB2.out.trans (hb3.mono HB2.out.size))
    have HSV := Lib.hid (RecsV.of_own how (fun x hx => (H2.out.ok x (hp.mem_iff.1 hx)).below hb3))
    have HML := Lib.hid hml
    have HGR := Lib.hid (graph_any m so sc w3 HSV.out (by omega) (by rw [HM.out]; exact srtR_ids HN.out) (fun x hx => HDL.out x (hp.mem_iff.1 hx)))
    rw [hml] at HGR
    clear hp hs hml how hb3 HS H2 HB2
    go_wp2_with fail
    refine HGR.out.mono ?_
    rintro e w4 ⟨go, gc, G, rfl, hout, hb4⟩
    have HB4 := Lib.hid (HB3.out.trans (hb4.mono HB3.out.size))
    have hed := OutAt.ed hout
    have hrl : (rowsG m X.length).length = X.length := by unfold rowsG; rw [List.length_map, List.length_take, HML.out]; omega
    rw [hrl] at hed
    have HCO := Lib.hid (comps_any (edP (nds m)) X.length go gc w4 (EdAt.ext hed fun j hj => by have := rows_ed m j (by rw [HML.out]; exact hj); rw [HML.out] at this; exact this) (by omega))
    have HS4 := Lib.hid (HSV.out.below hb4)
    clear hed hrl hout hb4 HGR HSV HB3
    go_wp2_with fail
    refine HCO.out.mono ?_
    rintro e W ⟨co, cc, R, L, q, rfl, hio, hou, hb5⟩
    have HB5 := Lib.hid (HB4.out.trans (hb5.mono HB4.out.size))
    have HSV := Lib.hid (HS4.out.below hb5)
    have HIO := Lib.hid hio
    have HOU := Lib.hid hou
    have HL := Lib.hid (show L.length ≤ 20 from Nat.le_trans (comps_len hio.co) hl)
    have HIS := Lib.hid (show (idsX m).Nodup by rw [HM.out]; exact srtR_ids HN.out)
    have HRL := Lib.hid (show (rowI (nds m) L).length ≤ 20 by
      have hU2 : Unl (nds m) := by unfold Unl; rw [nds_ids, HM.out]; exact srtR_ids HN.out
      have hlm : (nds m).length = X.length := by unfold nds; rw [List.length_map]; exact HML.out
      have h1 : Cmps (edR (nds m)) X.length L q := Cmps.ext (Cmps.of hio.co) (fun u w => by rw [← hlm]; exact (edgeP hU2).trans (edgeR hU2).symm)
      rw [← hlm] at h1
      have := rowI_len h1 hU2
      omega)
    have HCE := Lib.hid (fun (k : Nat) (c : List Nat) (hc : L[k]? = some c) => comp_rows hio.co hc)
    have HROW := Lib.hid (show Row (byIds (nds X)) (rowI (nds m) L) from inorder_row (by rw [HM.out]; exact srtR_nd X) HU.out (by rw [HML.out]; exact hio))
    clear hio hou hb5 HS4 HCO HB4
    go_wp2_with fail
    have hLl := HL.out
    go_loopw [6, 24] (fun ov kv wr => ∃ (k : Nat) (out : List Id) (oo : Option Addr) (oc : Nat), ov = .slice oo out.length oc ∧ kv = .int .i64 k ∧ k ≤ L.length ∧ out = rowI (nds m) (L.take k) ∧ OwnL wr W.heap.size oo oc out ∧ Below W.heap.size W wr) (fun _ kv _ => L.length - (intOf kv).toNat)
    case atStart => exact ⟨0, [], none, 0, rfl, rfl, Nat.zero_le _, by simp [rowI], World.ownsRow_nil _ _ _ _, Below.refl _ _⟩
    case round =>
      obtain ⟨k, out, oo, oc, rfl, rfl, hk, hout, hown, hb⟩ := hrel
      have HO := Lib.hid hout
      have HOW := Lib.hid hown
      have HBR := Lib.hid hb
      have hol : out.length ≤ 20 := by rw [hout]; exact Nat.le_trans (rowI_pre _ _ _) HRL.out
      clear hout hown hb
      have hWr := HBR.out.size
      by_cases hkl : k < L.length
      · have hii : (k : Int) < (L.length : Int) := by omega
        obtain ⟨c, hc⟩ : ∃ c, L[k]? = some c := ⟨_, List.getElem?_eq_getElem hkl⟩
        have HC := Lib.hid hc
        obtain ⟨g, ro, rc, e0, hcell, hrc1, hrc2, hrow⟩ := OutAt.get HOU.out HBR.out hc
        obtain ⟨hcp, hcx, hcl⟩ := HCE.out k c hc
        have HCP := Lib.hid (And.intro hcp hcx)
        have HROWC := Lib.hid hrow
        subst e0
        unfold maxLen at hrc2
        have hcl20 : c.length ≤ 20 := by omega
        clear hc hcp hcx hrow
        go_upto_region 10 with fail
        clear hcell
        go_wp2_with fail
        obtain ⟨wa, rfl⟩ : ∃ wa, wa = wr := ⟨_, rfl⟩
        go_loopw [9, 30] (fun pv jv wr => ∃ (j : Nat) (P : List Rv) (po : Option Addr) (pc : Nat), pv = .slice po P.length pc ∧ jv = .int .i64 j ∧ j ≤ c.length ∧ P = partR m (c.take j) ∧ OwnR wr wa.heap.size po pc P ∧ Below wa.heap.size wa wr) (fun _ jv _ => c.length - (intOf jv).toNat)
        case atStart => exact ⟨0, [], none, 0, rfl, rfl, Nat.zero_le _, by simp [partR], World.ownsRow_nil _ _ _ _, Below.refl _ _⟩
        case round =>
          obtain ⟨j, P, po, pc, rfl, rfl, hj, hP, hpo, hbp⟩ := hrel
          have HPP := Lib.hid hP
          have HPO := Lib.hid hpo
          have HBP := Lib.hid hbp
          have hPl : P.length = j := by rw [hP, partR_len, List.length_take]; omega
          have hPl2 : P.length ≤ 20 := by omega
          have HPL := Lib.hid hPl
          clear hP hpo hbp hPl
          have hsp := HBP.out.size
          have HBA := Lib.hid (HBR.out.trans (HBP.out.mono hWr))
          by_cases hjl : j < c.length
          · have hjj : (j : Int) < (c.length : Int) := by omega
            obtain ⟨i, hi0⟩ : ∃ i, c[j]? = some i := ⟨_, List.getElem?_eq_getElem hjl⟩
            obtain ⟨p, e1, hpl, hcell⟩ := HROWC.out j i hi0
            subst e1
            have hcell2 := (HBP.out.cell (p := ⟨p, j, none⟩) (Nat.lt_of_lt_of_le hpl hWr)).trans hcell
            have hil := HCP.out.2 i (List.mem_of_getElem? hi0)
            have hil2 : i < m.length := by rw [HML.out]; exact hil
            obtain ⟨x, hx⟩ : ∃ x, m[i]? = some x := ⟨_, List.getElem?_eq_getElem hil2⟩
            obtain ⟨b, off, e2, hbl, hrec⟩ := HSV.out.row i x hx
            subst e2
            obtain ⟨c0, c1, c2, c3, c4, c5, c6, c7, c8, c9, c10, c11, c12, c13, c14, c15⟩ := hrec.below HBA.out hbl
            have HN := Lib.hid (show P ++ [x] = partR m (c.take (j + 1)) by rw [List.take_add_one, hi0]; simp only [Option.toList_some]; rw [partR_app, ← HPP.out, partR_one hx])
            have hiI : (i : Int) < (X.length : Int) := by omega
            have HSLE := HSV.out.le
            rw [HML.out] at HSLE
            unfold maxLen at HSLE
            obtain ⟨hsl1, hsl2⟩ := HSLE
            clear hi0 hcell hx hrec
            go_upto_region 13 with fail
            clear hcell2
            go_wp2_with (refine wpList_app recC 16 (fun _ => rfl) (by decide) recC_one (by rfl) (.tmp 34) (.tmp 39) 26 (by rfl) wa.heap.size 43 i0 _ 160 Tryz.underlying26 hi hz0 hz1 hz2 (by decide) rfl po pc P x (recA x) rfl (by rfl) (by exact HPO.out) (by rfl) (by omega) (by omega) ?_; intro oo' oc' w7 hown hmod hbel; have HOW7 := Lib.hid hown; have HBE7 := Lib.hid hbel; clear hown hmod hbel)
            clear c0 c1 c2 c3 c4 c5 c6 c7 c8 c9 c10 c11 c12 c13 c14 c15
            go_roundw
            case rel => exact ⟨j + 1, P ++ [x], oo', oc', by simp, by go_num, by omega, HN.out, HOW7.out, HBP.out.trans HBE7.out⟩
            case measure => simp [intOf]; omega
          · obtain rfl : j = c.length := by omega
            have hjj : ¬ (c.length : Int) < (c.length : Int) := by omega
            have hPm : P = partR m c := by rw [HPP.out, List.take_length]
            have HPM := Lib.hid hPm
            have HPV := Lib.hid (RecsV.of_own HPO.out (fun x hx => by
              rw [hPm] at hx
              obtain ⟨i, hi1, rfl⟩ := List.mem_map.1 hx
              have hil2 : i < m.length := by rw [HML.out]; exact HCP.out.2 i hi1
              have : m.getD i default ∈ m := by rw [List.getD, List.getElem?_eq_getElem hil2]; exact List.getElem_mem hil2
              exact (HSV.out.ok _ this).below HBA.out))
            have HPI := Lib.hid (show (idsX P).Nodup by rw [hPm]; exact part_ids HIS.out HCP.out.1 (fun x hx => by rw [HML.out]; exact HCP.out.2 x hx))
            have HWI := Lib.hid (Within_any P po pc wr HPV.out hPl2)
            clear hPm HPP
            go_wp2_with fail
            refine HWI.out.mono ?_
            rintro e w6 ⟨no, nc, wm, rfl, hwp, hws, hwo, hwb⟩
            have HWE := Lib.hid (show wm.map Rv.id = within (part (nds m) c) by rw [within_one HPI.out hwp hws, HPM.out, partR_nd])
            obtain ⟨N, hN⟩ : ∃ N, N = wm.map Rv.id := ⟨_, rfl⟩
            rw [← hN] at HWE hwo
            have hNl : N.length = P.length := by rw [hN, List.length_map]; exact hwp.length_eq
            rw [← hNl]
            have HNO := Lib.hid (SrcAt.of_own hwo)
            have HB6 := Lib.hid (HBP.out.trans (hwb.mono hsp))
            have hNl2 : N.length ≤ 20 := by omega
            have HOW6 := Lib.hid (show OwnL w6 W.heap.size oo oc out from Go.Proofs.YtkgjfagejnppbaaGreatDoor.R.own_below HOW.out HB6.out)
            have hs6 := HB6.out.size
            have HNX := Lib.hid (show out ++ N = rowI (nds m) (L.take (k + 1)) by rw [rowI_next _ HC.out, ← HO.out, ← HWE.out])
            clear hwp hws hwo hwb hN hNl HWI
            go_wp2_with (refine wpList_apps idC 2 (fun _ => rfl) (by decide) idC_one (by rfl) (.tmp 42) (.tmp 44) 28 (by rfl) W.heap.size 37 i1 _ 16 Tryz.underlying28 hi1 hy0 hy1 hy2 (by decide) rfl oo oc out.length out rfl no nc N.length N rfl (by rfl) (by exact HOW6.out) (by rfl) (by exact HNO.out) (by omega) (by omega) ?_; intro oo' oc' w7 hown hmod hbel; have HOW7 := Lib.hid hown; have HBE7 := Lib.hid hbel; clear hown hmod hbel)
            have HBZ := Lib.hid ((HBR.out.trans (HB6.out.mono hWr)).trans HBE7.out)
            go_roundw
            case rel => exact ⟨k + 1, out ++ N, oo', oc', by simp, by go_num, by omega, HNX.out, by unfold OwnL; rw [List.length_append]; exact HOW7.out, HBZ.out⟩
            case measure => simp [intOf]; omega
      · obtain rfl : k = L.length := by omega
        have hii : ¬ (L.length : Int) < (L.length : Int) := by omega
        have HE := Lib.hid (show out = rowI (nds m) L by rw [HO.out, List.take_length])
        have HF := Lib.hid (show OwnL wr w.heap.size oo oc out from own_base HOW.out (fun g hg => Nat.le_trans HB5.out.size (HOW.out.lt g hg).1))
        have HBF := Lib.hid (HB5.out.trans (HBR.out.mono HB5.out.size))
        go_wp2_with fail
        go_ret2
        refine ⟨oo, oc, out, rfl, ?_, HF.out, HBF.out⟩
        rw [HE.out]
        exact HROW.out
  · have hne : (v != 0) = true := by simpa using hv0
    have HF := Lib.hid (show OwnL w1 w.heap.size none 0 [] from World.ownsRow_nil _ _ _ _)
    have HNE := Lib.hid hv0
    clear hv0
    go_wp2_with fail
    go_ret2
    exact ⟨none, 0, [], rfl, fun h => absurd h HNE.out, fun _ => rfl, HF.out, HB1.out⟩
end Go.Proofs.YtkgjfagejnppbaaGreatDoor.O

/- Rows of two kinds: one stays where the other grows. -/
namespace Go.Proofs.YtkgjfagejnppbaaGreatDoor.O
open Go.RowKit Go.Proofs.YtkgjfagejnppbaaGreatDoor.M Go.BigFrame
set_option linter.unusedVariables false

theorem own_apart {w : World} {B1 B2 : Nat} {e1 e2 : TypeId} {s1 s2 : Nat} {v1 v2 : Value} {n1 n2 : Nat} {xs1 xs2 : List Value} (h1 : w.ownsRow B1 e1 s1 v1 n1 xs1) (h2 : w.ownsRow B2 e2 s2 v2 n2 xs2) (he : e1 ≠ e2) : ∀ k, v1.ownBlock = some k → v2.ownBlock = some k → False := by
  intro k hk1 hk2
  rcases h1.2 with ⟨rfl, _⟩ | ⟨g, cap, cur, rfl, _, hg, _⟩
  · cases hk1
  · rcases h2.2 with ⟨rfl, _⟩ | ⟨g2, cap2, cur2, rfl, _, hg2, _⟩
    · cases hk2
    · obtain rfl := Option.some.inj hk1
      obtain rfl := Option.some.inj hk2
      rw [hg] at hg2
      simp only [Option.some.injEq, Obj.cells.injEq] at hg2
      exact he hg2.2.1
/-- a row of one kind stays, where one of another kind grows -/
theorem own_beside {w w1 : World} {B1 B2 : Nat} {e1 e2 : TypeId} {s1 s2 : Nat} {v1 : Value} {oo : Option Addr} {oc l n1 n2 : Nat} {xs1 xs2 : List Value} (h1 : w.ownsRow B1 e1 s1 v1 n1 xs1) (h2 : w.ownsRow B2 e2 s2 (.slice oo l oc) n2 xs2) (he : e1 ≠ e2)
    (hm : Mods (fun j => ∃ a, oo = some a ∧ j = a.block) w w1) : w1.ownsRow B1 e1 s1 v1 n1 xs1 :=
  own_kept h1 hm fun k hk ⟨a, e, ek⟩ => own_apart h1 h2 he k hk (by subst e; rw [ek]; rfl)
end Go.Proofs.YtkgjfagejnppbaaGreatDoor.O

/- order.Closed. -/
namespace Go.Proofs.YtkgjfagejnppbaaGreatDoor.O
open Go.RowKit Go.Proofs.YtkgjfagejnppbaaGreatDoor.M Go.BigFrame Go.Proofs.YtkgjfagejnppbaaGreatDoor.K Go.Proofs.YtkgjfagejnppbaaGreatDoor.T
set_option linter.unusedVariables false
set_option linter.unusedSimpArgs false

/-- what is missing of some records -/
def missO (s : List Rv) (l : List Nat) : List Id := (partR s l).flatMap fun x => x.deps.filter fun d => !decide (d ∈ idsX s)
/-- what an id leads to -/
structure ClO (s : List Rv) (i : Id) (inn : List Rv) (out : List Id) : Prop where
  no : i ∉ idsX s → inn = [] ∧ out = []
  yes : i ∈ idsX s → ∃ l, LeadsTo (edR (nds s)) s.length ((idsX s).idxOf i : Nat) l ∧ inn = partR s l ∧ out = setI (missO s l)
theorem ClO.one {s : List Rv} {i : Id} {a b : List Rv} {x y : List Id} (h : ClO s i a x) (h2 : ClO s i b y) : a = b ∧ x = y := by
  by_cases hi : i ∈ idsX s
  · obtain ⟨l, h3, rfl, rfl⟩ := h.yes hi
    obtain ⟨l2, h4, rfl, rfl⟩ := h2.yes hi
    rw [h3.one h4]
    exact ⟨rfl, rfl⟩
  · obtain ⟨rfl, rfl⟩ := h.no hi
    obtain ⟨rfl, rfl⟩ := h2.no hi
    exact ⟨rfl, rfl⟩
end Go.Proofs.YtkgjfagejnppbaaGreatDoor.O

/- Plain law: what OrderParts and OrderOne ask of Order and Closed. -/
namespace Go.Proofs.YtkgjfagejnppbaaGreatDoor.O
open Go.RowKit Go.Proofs.YtkgjfagejnppbaaGreatDoor.M Go.BigFrame Go.Proofs.YtkgjfagejnppbaaGreatDoor.K Go.Proofs.YtkgjfagejnppbaaGreatDoor.T
set_option linter.unusedVariables false
set_option linter.unusedSimpArgs false

theorem nds_get {s : List Rv} {u : Nat} {x : Rv} (h : s[u]? = some x) : (nds s)[u]? = some x.nd := by unfold nds; rw [List.getElem?_map, h]; rfl
theorem ids_get {s : List Rv} {u : Nat} {x : Rv} (h : s[u]? = some x) : (idsX s)[u]? = some x.id := by rw [List.getElem?_map, h]; rfl
theorem nds_len (s : List Rv) : (nds s).length = s.length := List.length_map _
theorem unl_nds {s : List Rv} : Unl (nds s) ↔ (idsX s).Nodup := by unfold Unl; rw [nds_ids]
theorem mem_ids_get {s : List Rv} {i : Id} (h : i ∈ idsX s) : ∃ u x, s[u]? = some x ∧ x.id = i ∧ (idsX s).idxOf i = u := by
  have h1 := at_idx h
  have hl := List.idxOf_lt_length_iff.2 h
  rw [List.length_map] at hl
  exact ⟨_, s[(idsX s).idxOf i], List.getElem?_eq_getElem hl, by rw [List.getElem?_map, List.getElem?_eq_getElem hl] at h1; simpa using h1, rfl⟩
/-- sorted records whose ids differ -/
structure Sd (s : List Rv) : Prop where
  nd : (idsX s).Nodup
  st : srtR s = s
theorem Sd.of {X : List Rv} (h : (idsX X).Nodup) : Sd (srtR X) := ⟨srtR_ids h, srtR_same h (srtR_perm X)⟩
theorem Sd.ids {s : List Rv} (h : Sd s) : byIds (nds s) = nds s := by rw [← srtR_nd, h.st]
theorem Sd.unl {s : List Rv} (h : Sd s) : Unl (nds s) := unl_nds.2 h.nd
theorem Sd.pw {s : List Rv} (h : Sd s) : (nds s).Pairwise (fun a b => iln a b = true) := by
  rw [← h.ids]
  exact srt_sorted h.unl.iln h.unl.nodup
theorem row_mem {s : List Rv} (hs : Sd s) {a : List Id} (h : Row (nds s) a) : a.Perm (idsX s) := by
  obtain ⟨L, q, h1, rfl⟩ := h.cmps
  rw [← nds_ids]
  exact rowI_perm h1 hs.unl
/-- who hangs on another one that doesn't hang on it comes behind it -/
theorem one_ok {s : List Rv} (hs : Sd s) {a : List Id} (ha : Row (nds s) a) {x : Rv} (hx : x ∈ s) {d : Id} (hd : d ∈ x.deps) (hds : d ∈ idsX s) {le : List Rv} {lo : List Id} (hle : ClO s d le lo) (hno : x.id ∉ idsX le) : ¬ atI a x.id < atI a d := by
  intro hlt
  obtain ⟨u, hu⟩ := List.mem_iff_getElem?.1 hx
  obtain ⟨v, vv, hv, hvi, hvx⟩ := mem_ids_get hds
  obtain ⟨L, q, c1, rfl⟩ := ha.cmps
  have hp := one_dep c1 hs.unl (nds_get hu) (nds_get hv) (by show vv.id ∈ x.deps; rw [hvi]; exact hd) (by show atI _ x.id < atI _ vv.id; rw [hvi]; exact hlt)
  obtain ⟨l2, g1, g2, _⟩ := hle.yes hds
  rw [hvx] at g1
  rw [nds_len] at hp
  have hul := (List.getElem?_eq_some_iff.1 hu).1
  have : u ∈ l2 := (g1.mem u).2 ⟨hul, v, rfl, (List.getElem?_eq_some_iff.1 hv).1, hp⟩
  refine hno (List.mem_map.2 ⟨x, ?_, rfl⟩)
  rw [g2]
  exact List.mem_map.2 ⟨u, this, by rw [List.getD, hu]; rfl⟩
end Go.Proofs.YtkgjfagejnppbaaGreatDoor.O

/- Plain law of the engine: what is stuck, what is ready, what runs. -/
namespace Go.Proofs.YtkgjfagejnppbaaGreatDoor.O
open Go.RowKit Go.Proofs.YtkgjfagejnppbaaGreatDoor.M Go.BigFrame Go.Proofs.YtkgjfagejnppbaaGreatDoor.K Go.Proofs.YtkgjfagejnppbaaGreatDoor.T
set_option linter.unusedVariables false
set_option linter.unusedSimpArgs false

/-- is an id there? -/
def thereB (W : List Rv) (D : List Id) (d : Id) : Bool := decide (d ∈ idsX W) || decide (d ∈ D)
theorem thereB_iff {W : List Rv} {D : List Id} {d : Id} : thereB W D d = true ↔ d ∈ idsX W ∨ d ∈ D := by unfold thereB; simp
/-- is an id not there, or known to be stuck? -/
def lostB (W : List Rv) (D O : List Id) (d : Id) : Bool := !thereB W D d || decide (d ∈ O)
theorem lostB_iff {W : List Rv} {D O : List Id} {d : Id} : lostB W D O d = true ↔ (¬ (d ∈ idsX W ∨ d ∈ D)) ∨ d ∈ O := by
  unfold lostB
  rw [Bool.or_eq_true, Bool.not_eq_true', ← Bool.not_eq_true, thereB_iff, decide_eq_true_eq]
/-- records that lead to something that isn't there -/
inductive Stuck (W : List Rv) (D : List Id) : Id → Prop
  | miss {x : Rv} {d : Id} : x ∈ W → d ∈ x.deps → ¬ (d ∈ idsX W ∨ d ∈ D) → Stuck W D x.id
  | step {x : Rv} {d : Id} : x ∈ W → d ∈ x.deps → Stuck W D d → Stuck W D x.id
theorem Stuck.mem {W : List Rv} {D : List Id} {i : Id} (h : Stuck W D i) : i ∈ idsX W := by
  cases h with
  | miss hx _ _ => exact List.mem_map.2 ⟨_, hx, rfl⟩
  | step hx _ _ => exact List.mem_map.2 ⟨_, hx, rfl⟩
/-- what a pass over the records makes of the stuck ones: sound so far -/
def Sound (W : List Rv) (D O : List Id) : Prop := ∀ i ∈ O, Stuck W D i
theorem Sound.add {W : List Rv} {D O : List Id} (h : Sound W D O) {x : Rv} (hx : x ∈ W) (hl : x.deps.any (lostB W D O) = true) : Sound W D (O ++ [x.id]) := fun i hi => by
  rcases List.mem_append.1 hi with hi | hi
  · exact h i hi
  · rw [List.mem_singleton.1 hi]
    obtain ⟨d, hd, hl⟩ := List.any_eq_true.1 hl
    rcases lostB_iff.1 hl with h1 | h1
    · exact .miss hx hd h1
    · exact .step hx hd (h d h1)
/-- nothing more is found -/
def Shut (W : List Rv) (D O : List Id) : Prop := ∀ x ∈ W, x.id ∉ O → x.deps.any (lostB W D O) = false
theorem stuck_iff {W : List Rv} {D O : List Id} (hn : (idsX W).Nodup) (h : Sound W D O) (hs : Shut W D O) (i : Id) : i ∈ O ↔ Stuck W D i := by
  refine ⟨h i, fun hi => ?_⟩
  have key : ∀ {x : Rv} {d : Id}, x ∈ W → d ∈ x.deps → lostB W D O d = true → x.id ∈ O := fun {x d} hx hd hl => by
    by_cases ho : x.id ∈ O
    · exact ho
    · have := List.any_eq_false.1 (hs x hx ho) d hd
      exact absurd hl this
  induction hi with
  | miss hx hd hm => exact key hx hd (lostB_iff.2 (.inl hm))
  | step hx hd _ ih => exact key hx hd (lostB_iff.2 (.inr ih))
/-- a record, on what isn't done alone, wherever what it hangs on lies -/
def core (x : Rv) : Rv := { x with ao := none, cap := 0 }
def rest (D : List Id) (x : Rv) : Rv := { x with deps := x.deps.filter fun d => !decide (d ∈ D), ao := none, cap := 0 }
/-- those that may be executed -/
def readyL (W : List Rv) (D O : List Id) : List Rv := (W.filter fun x => !decide (x.id ∈ O)).map (rest D)
def stayL (W : List Rv) (O : List Id) : List Rv := W.filter fun x => decide (x.id ∈ O)
theorem core_good (x : Rv) : goodR (core x) = goodR x := rfl
theorem nds_core (X : List Rv) : nds (X.map core) = nds X := by unfold nds; rw [List.map_map]; rfl
theorem ids_core (X : List Rv) : idsX (X.map core) = idsX X := by unfold idsX; rw [List.map_map]; rfl
theorem okR_core (X : List Rv) : okR (X.map core) = okR X := by unfold okR; rw [List.all_map]; rfl
theorem ready_ids (W : List Rv) (D O : List Id) : idsX (readyL W D O) = idsX (W.filter fun x => !decide (x.id ∈ O)) := by unfold readyL idsX; rw [List.map_map]; rfl
theorem stepB_pair {l : List Id} (h : ∀ k, k < l.length → stepB l k = true) : l.Pairwise (fun a b => ilt a b = true) ∧ ∀ x ∈ l, idOk x = true := by
  have h1 : ∀ k (hk : k + 1 < l.length), idOk l[k + 1] = true ∧ ilt l[k] l[k + 1] = true := fun k hk => by
    have := h (k + 1) hk
    rw [stepB_succ (List.getElem?_eq_getElem hk) (List.getElem?_eq_getElem (by omega)), Bool.and_eq_true] at this
    exact this
  constructor
  · rw [List.pairwise_iff_getElem]
    intro i j hi hj hij
    induction j with
    | zero => omega
    | succ j ih =>
      rcases Nat.lt_or_ge i j with h2 | h2
      · exact ilt_trans (ih (by omega) h2) (h1 j hj).2
      · obtain rfl : i = j := by omega
        exact (h1 i hj).2
  · intro x hx
    obtain ⟨k, hk, rfl⟩ := List.mem_iff_getElem.1 hx
    cases k with
    | zero =>
      have := h 0 hk
      rw [stepB_zero (List.getElem?_eq_getElem hk)] at this
      exact this
    | succ k => exact (h1 k hk).1
theorem setOk_iff {l : List Id} : setOk l = true ↔ l.Pairwise (fun a b => ilt a b = true) ∧ (∀ x ∈ l, idOk x = true) ∧ l.length ≤ 4096 := by
  unfold setOk
  rw [Bool.and_eq_true, List.all_eq_true, decide_eq_true_eq]
  constructor
  · rintro ⟨h1, h2⟩
    obtain ⟨h3, h4⟩ := stepB_pair (fun k hk => h1 k (List.mem_range.2 hk))
    exact ⟨h3, h4, h2⟩
  · rintro ⟨h1, h2, h3⟩
    refine ⟨fun k hk => ?_, h3⟩
    have hk := List.mem_range.1 hk
    cases k with
    | zero => rw [stepB_zero (List.getElem?_eq_getElem hk)]; exact h2 _ (List.getElem_mem hk)
    | succ k =>
      rw [stepB_succ (List.getElem?_eq_getElem hk) (List.getElem?_eq_getElem (by omega)), Bool.and_eq_true]
      exact ⟨h2 _ (List.getElem_mem hk), List.pairwise_iff_getElem.1 h1 k (k + 1) (by omega) hk (by omega)⟩
theorem setOk_sub {l : List Id} (p : Id → Bool) (h : setOk l = true) : setOk (l.filter p) = true := by
  rw [setOk_iff] at *
  exact ⟨h.1.sublist List.filter_sublist, fun x hx => h.2.1 x (List.mem_filter.1 hx).1, Nat.le_trans (List.length_filter_le _ _) h.2.2⟩
theorem good_rest {D : List Id} {x : Rv} (h : goodR x = true) : goodR (rest D x) = true := by
  unfold goodR recOk restOk at *
  simp only [Bool.and_eq_true, decide_eq_true_eq] at h
  obtain ⟨⟨h1, h2, h3⟩, h4⟩ := h
  have h5 : ¬ x.st = 0 := by omega
  rw [if_neg h5] at h3
  simp only [Bool.and_eq_true, beq_iff_eq, Bool.not_eq_true', decide_eq_false_iff_not] at h3
  have h6 := setOk_sub (fun d => !decide (d ∈ D)) (attrChk_ok h3.2.1)
  have h7 : attrChk (rest D x).deps x.seq x.tag = 0 := by
    have h8 := h3.2.1
    unfold attrChk at h8 ⊢
    rw [attrChk_ok h3.2.1] at h8
    rw [show setOk (rest D x).deps = true from h6]
    exact h8
  have h9 : x.id ∉ (rest D x).deps := fun h => h3.2.2 (List.mem_filter.1 h).1
  have e1 : headBad (rest D x) = headBad x := rfl
  have e2 : balBad (rest D x) = balBad x := rfl
  have e3 : (rest D x).st = x.st := rfl
  have e4 : (rest D x).cmd = x.cmd := rfl
  have e5 : (rest D x).seq = x.seq := rfl
  have e6 : (rest D x).tag = x.tag := rfl
  have e7 : (rest D x).id = x.id := rfl
  rw [e1, e2, e3, e4, e5, e6, e7, if_neg h5]
  simp [h1, h2, h3.1, h7, h9, h4]
section
variable {W : List Rv} {D O : List Id}
/-- what is ready is right, and closed -/
theorem ready_err (hn : (idsX W).Nodup) (hg : ∀ x ∈ W, goodR x = true) (hs : Shut W D O) {R : List Rv} (hp : (R.map core).Perm (readyL W D O)) : errO (okR R) (nds R) = 0 := by
  have hids : (idsX R).Perm (idsX (W.filter fun x => !decide (x.id ∈ O))) := by
    rw [← ids_core, ← ready_ids (D := D)]
    exact hp.map _
  refine errO_ok.2 ⟨?_, ?_, ?_⟩
  · rw [← okR_core, okR_perm hp]
    refine List.all_eq_true.2 fun x hx => ?_
    unfold readyL at hx
    obtain ⟨y, hy, rfl⟩ := List.mem_map.1 hx
    exact good_rest (hg y (List.mem_filter.1 hy).1)
  · rw [unl_nds]
    exact hids.nodup_iff.2 (hn.sublist (List.filter_sublist.map _))
  · have : missB (nds R) = missB (nds (readyL W D O)) := by rw [← nds_core R]; exact missB_perm (hp.map _)
    rw [this, missB_no]
    intro a ha d hd
    obtain ⟨x, hx, rfl⟩ := List.mem_map.1 ha
    unfold readyL at hx
    obtain ⟨y, hy, rfl⟩ := List.mem_map.1 hx
    obtain ⟨hyW, hyO⟩ := List.mem_filter.1 hy
    obtain ⟨hd1, hd2⟩ := List.mem_filter.1 (show d ∈ y.deps.filter _ from hd)
    have hyO' : y.id ∉ O := by simpa using hyO
    have hdD : d ∉ D := by simpa using hd2
    have := List.any_eq_false.1 (hs y hyW hyO') d hd1
    rw [lostB_iff] at this
    have h1 : d ∈ idsX W := Classical.byContradiction fun h => this (.inl fun h2 => h2.elim h hdD)
    have h2 : d ∉ O := fun h => this (.inr h)
    obtain ⟨z, hz, rfl⟩ := List.mem_map.1 h1
    rw [nds_ids, ready_ids]
    exact List.mem_map.2 ⟨z, List.mem_filter.2 ⟨hz, by simpa using h2⟩, rfl⟩
/-- what runs -/
theorem run_mem (hn : (idsX W).Nodup) {R : List Rv} (hp : (R.map core).Perm (readyL W D O)) {out : List Id} (hr : Row (byIds (nds R)) out) : out.Perm (idsX (W.filter fun x => !decide (x.id ∈ O))) := by
  have hids : (idsX R).Perm (idsX (W.filter fun x => !decide (x.id ∈ O))) := by
    rw [← ids_core, ← ready_ids (D := D)]
    exact hp.map _
  have hU : Unl (nds R) := unl_nds.2 (hids.nodup_iff.2 (hn.sublist (List.filter_sublist.map _)))
  obtain ⟨L, q, hc, rfl⟩ := hr.cmps
  refine (rowI_perm hc (hU.perm (byIds_perm _))).trans ?_
  refine ((byIds_perm (nds R)).map (·.id)).trans ?_
  have : (nds R).map (·.id) = idsX R := nds_ids R
  rw [this]
  exact hids
end
end Go.Proofs.YtkgjfagejnppbaaGreatDoor.O
