/- order.Order. -/
import Derived.Test.YtndfhejfhfhbdaaGreatDoorMrg24
import Derived.Test.YtndfhejfhfhbdaaGreatDoorMrg25
namespace Go.Proofs.YtndfhejfhfhbdaaGreatDoor.O
open Go.RowKit Go.Proofs.YtndfhejfhfhbdaaGreatDoor.M Go.BigFrame Go.Proofs.YtndfhejfhfhbdaaGreatDoor.K Go.Proofs.YtndfhejfhfhbdaaGreatDoor.T Go.Proofs.YtndfhejfhfhbdaaGreatDoor.R
set_option linter.unusedVariables false
set_option linter.unusedSimpArgs false

theorem comps_len {E : Nat → List Int} {n : Nat} {L : List (List Nat)} {q : Nat → Nat} (h : Comp E n L q) : L.length ≤ n := by
  have hhd : ∀ (i : Nat) (c : List Nat), L[i]? = some c → c.headD 0 ∈ c := fun i c hc => by
    cases c with
    | nil => exact absurd rfl (h.d3 _ (List.mem_of_getElem? hc)).2
    | cons a t => exact List.mem_cons_self
  have := nodup_le n (L.map fun c => c.headD 0) ?_ ?_
  · simpa using this
  · unfold List.Nodup
    rw [List.pairwise_iff_getElem]
    intro i j hi hj hij e
    rw [List.length_map] at hi hj
    rw [List.getElem_map, List.getElem_map] at e
    have h1 := List.getElem?_eq_getElem hi
    have h2 := List.getElem?_eq_getElem hj
    have q1 := (h.d2 i _ _ h1 (hhd i _ h1)).2
    have q2 := (h.d2 j _ _ h2 (hhd j _ h2)).2
    rw [e] at q1
    omega
  · intro v hv
    obtain ⟨c, hc, rfl⟩ := List.mem_map.1 hv
    obtain ⟨i, hi⟩ := List.mem_iff_getElem?.1 hc
    exact (h.d2 i _ _ hi (hhd i _ hi)).1
theorem rowI_pre (s : List Nd) (L : List (List Nat)) (k : Nat) : (rowI s (L.take k)).length ≤ (rowI s L).length := by
  have : rowI s L = rowI s (L.take k) ++ rowI s (L.drop k) := by
    unfold rowI
    rw [← List.flatMap_append, List.take_append_drop]
  rw [this, List.length_append]
  omega
theorem comp_rows {E : Nat → List Int} {n : Nat} {L : List (List Nat)} {q : Nat → Nat} (h : Comp E n L q) {k : Nat} {c : List Nat} (hc : L[k]? = some c) : c.Pairwise (· < ·) ∧ (∀ x ∈ c, x < n) ∧ c.length ≤ n :=
  ⟨(h.d3 c (List.mem_of_getElem? hc)).1, fun x hx => (h.d2 k c x hc hx).1, nodup_le n c ((h.d3 c (List.mem_of_getElem? hc)).1.imp fun h => Nat.ne_of_lt h) fun x hx => (h.d2 k c x hc hx).1⟩
/-- a row of numbers: its cells -/
theorem OutAt.get {B : Nat} {w w2 : World} {oo : Option Addr} {oc : Nat} {R : List (Option Addr × Nat)} {L : List (List Nat)} (h : OutAt B w oo oc R L) (hb : Below w.heap.size w w2) {k : Nat} {c : List Nat} (hc : L[k]? = some c) :
    ∃ g ro rc, oo = some ⟨g, 0, none⟩ ∧ w2.cell? ⟨g, k, none⟩ = some (.slice ro c.length rc) ∧ c.length ≤ rc ∧ rc ≤ maxLen ∧ ∀ (j x : Nat), c[j]? = some x → ∃ p, ro = some ⟨p, 0, none⟩ ∧ p < w.heap.size ∧ w2.cell? ⟨p, j, none⟩ = some (.int .i64 (x : Int)) := by
  have hk := (List.getElem?_eq_some_iff.1 hc).1
  obtain ⟨ao', cap', e0, h1, h2, h3, h4⟩ := M.own_view h.top
  cases e0
  cases oo with
  | none => have := (h3 rfl).1; omega
  | some a =>
    obtain ⟨g, cur, rfl, _, hg, hsz, htk⟩ := h4 a rfl
    obtain ⟨r, hr⟩ : ∃ r, R[k]? = some r := ⟨_, List.getElem?_eq_getElem (by rw [h.rl]; exact hk)⟩
    have hrow := h.row k c r hc hr
    obtain ⟨ro, rc⟩ := r
    obtain ⟨ao2, cap2, e2, k1, k2, k3, k4⟩ := M.own_view hrow
    cases e2
    refine ⟨g, ro, rc, rfl, (hb.cell (p := ⟨g, k, none⟩) (M.heap_lt hg)).trans ?_, k1, k2, fun j x hj => ?_⟩
    · have hh : (hdrs R L)[k]? = some (.slice ro c.length rc) := hdrs_get hr hc
      rw [cell_of_row w g _ _ _ _ hg, ← Array.getElem?_toList]
      rw [← htk, List.getElem?_take_of_lt (by omega)] at hh
      exact hh
    · have hjl := (List.getElem?_eq_some_iff.1 hj).1
      cases ro with
      | none => have := (k3 rfl).1; omega
      | some a =>
        obtain ⟨p, cur2, rfl, _, hp, hsz2, htk2⟩ := k4 a rfl
        refine ⟨p, rfl, M.heap_lt hp, (hb.cell (p := ⟨p, j, none⟩) (M.heap_lt hp)).trans ?_⟩
        have hh : (iv c)[j]? = some (.int .i64 (x : Int)) := by simp [iv, hj]
        rw [cell_of_row w p _ _ _ _ hp, ← Array.getElem?_toList]
        rw [← htk2, List.getElem?_take_of_lt (by omega)] at hh
        exact hh
set_option maxRecDepth 100000 in
set_option maxHeartbeats 4000000 in
theorem Order_any (X : List Rv) (ao : Option Addr) (cap : Nat) (w : World) (h : RecsV w ao cap X) (hT : Tabs w) (hl : X.length ≤ 20) (hdl : ∀ x ∈ X, x.deps.length ≤ 10000) (hkl : ∀ x ∈ X, x.cmd.key.size ≤ 1000000) (v : Int) (hv : errO (okR X) (nds X) = v) :
    Calls Tryz.prog 13 #[.slice ao X.length cap] w fun e w' => ∃ (oo : Option Addr) (oc : Nat) (out : List Id), e = .returned (.tuple #[.slice oo out.length oc, .int .i64 v]) ∧ ((v = 0 → Row (byIds (nds X)) out) ∧ (v ≠ 0 → out = []) ∧ OwnL w' w.heap.size oo oc out ∧ Below w.heap.size w w') := by
  obtain ⟨i0, hi, hz0, hz1, hz2⟩ := info_parts info_rec
  obtain ⟨i1, hi1, hy0, hy1, hy2⟩ := info_parts info_id
  have hcl := closed_any X ao cap w h hT (by omega) hdl hkl v hv
  have HV := Lib.hid hv
  have H0 := Lib.hid h
  have HDL := Lib.hid hdl
  clear h hT hdl hkl hv
  go_enter Tryz.func13, Tryz.ntmps13
  go_wp2_with fail
  refine hcl.mono ?_
  rintro e w1 ⟨rfl, hb1⟩
  have HB1 := Lib.hid hb1
  have H1 := Lib.hid (H0.out.below hb1)
  clear hb1 hcl H0
  by_cases hv0 : v = 0
  · subst hv0
    obtain ⟨hok, hU, hms⟩ := errO_ok.1 HV.out
    have HU := Lib.hid hU
    have HN := Lib.hid (show (idsX X).Nodup by rw [← nds_ids]; exact hU)
    clear HV hok hU hms
    go_wp2_with fail
    refine (valuesR_any _ _ _ _).mono ?_
    rintro e w2 ⟨rfl, hw2⟩
    have hb2 : Below w1.heap.size w1 w2 := by rw [hw2]; exact (Below.refl _ _).alloc (Nat.le_refl _) _
    have hg2 : w2.heap[w1.heap.size]? = some (.cells #[.slice ao X.length cap] 28 (0, 0)) := by rw [hw2]; exact heap_alloc_new w1 _
    have hc2 : w2.cell? ⟨w1.heap.size, 0, none⟩ = some (.slice ao X.length cap) := by simp [World.cell?, hg2]
    have HS := Lib.hid (sortedR_any w1.heap.size ao cap X w2 (by omega) (M.heap_lt hg2) hc2 (H1.out.below hb2))
    have HB2 := Lib.hid (HB1.out.trans (hb2.mono HB1.out.size))
    have H2 := Lib.hid (H1.out.below hb2)
    clear hw2 hb2 hg2 hc2 H1 HB1
    go_wp2_with fail
    refine HS.out.mono ?_
    rintro e w3 ⟨so, sc, m, rfl, hp, hs, hml, how, hb3⟩
    have HM := Lib.hid (srtR_one HN.out hp hs)
    have HP := Lib.hid hp
    have HB3 := Lib.hid (HB2.out.trans (hb3.mono HB2.out.size))
    have HSV := Lib.hid (RecsV.of_own how (fun x hx => (H2.out.ok x (hp.mem_iff.1 hx)).below hb3))
    have HML := Lib.hid hml
    have HGR := Lib.hid (graph_any m so sc w3 HSV.out (by omega) (by rw [HM.out]; exact srtR_ids HN.out) (fun x hx => HDL.out x (hp.mem_iff.1 hx)))
    rw [hml] at HGR
    clear hp hs hml how hb3 HS H2 HB2
    go_wp2_with fail
    refine HGR.out.mono ?_
    rintro e w4 ⟨go, gc, G, rfl, hout, hb4⟩
    have HB4 := Lib.hid (HB3.out.trans (hb4.mono HB3.out.size))
    have hed := OutAt.ed hout
    have hrl : (rowsG m X.length).length = X.length := by unfold rowsG; rw [List.length_map, List.length_take, HML.out]; omega
    rw [hrl] at hed
    have HCO := Lib.hid (comps_any (edP (nds m)) X.length go gc w4 (EdAt.ext hed fun j hj => by have := rows_ed m j (by rw [HML.out]; exact hj); rw [HML.out] at this; exact this) (by omega))
    have HS4 := Lib.hid (HSV.out.below hb4)
    clear hed hrl hout hb4 HGR HSV HB3
    go_wp2_with fail
    refine HCO.out.mono ?_
    rintro e W ⟨co, cc, R, L, q, rfl, hio, hou, hb5⟩
    have HB5 := Lib.hid (HB4.out.trans (hb5.mono HB4.out.size))
    have HSV := Lib.hid (HS4.out.below hb5)
    have HIO := Lib.hid hio
    have HOU := Lib.hid hou
    have HL := Lib.hid (show L.length ≤ 20 from Nat.le_trans (comps_len hio.co) hl)
    have HIS := Lib.hid (show (idsX m).Nodup by rw [HM.out]; exact srtR_ids HN.out)
    have HRL := Lib.hid (show (rowI (nds m) L).length ≤ 20 by
      have hU2 : Unl (nds m) := by unfold Unl; rw [nds_ids, HM.out]; exact srtR_ids HN.out
      have hlm : (nds m).length = X.length := by unfold nds; rw [List.length_map]; exact HML.out
      have h1 : Cmps (edR (nds m)) X.length L q := Cmps.ext (Cmps.of hio.co) (fun u w => by rw [← hlm]; exact (edgeP hU2).trans (edgeR hU2).symm)
      rw [← hlm] at h1
      have := rowI_len h1 hU2
      omega)
    have HCE := Lib.hid (fun (k : Nat) (c : List Nat) (hc : L[k]? = some c) => comp_rows hio.co hc)
    have HROW := Lib.hid (show Row (byIds (nds X)) (rowI (nds m) L) from inorder_row (by rw [HM.out]; exact srtR_nd X) HU.out (by rw [HML.out]; exact hio))
    clear hio hou hb5 HS4 HCO HB4
    go_wp2_with fail
    have hLl := HL.out
    go_loopw [6, 24] (fun ov kv wr => ∃ (k : Nat) (out : List Id) (oo : Option Addr) (oc : Nat), ov = .slice oo out.length oc ∧ kv = .int .i64 k ∧ k ≤ L.length ∧ out = rowI (nds m) (L.take k) ∧ OwnL wr W.heap.size oo oc out ∧ Below W.heap.size W wr) (fun _ kv _ => L.length - (intOf kv).toNat)
    case atStart => exact ⟨0, [], none, 0, rfl, rfl, Nat.zero_le _, by simp [rowI], World.ownsRow_nil _ _ _ _, Below.refl _ _⟩
    case round =>
      obtain ⟨k, out, oo, oc, rfl, rfl, hk, hout, hown, hb⟩ := hrel
      have HO := Lib.hid hout
      have HOW := Lib.hid hown
      have HBR := Lib.hid hb
      have hol : out.length ≤ 20 := by rw [hout]; exact Nat.le_trans (rowI_pre _ _ _) HRL.out
      clear hout hown hb
      have hWr := HBR.out.size
      by_cases hkl : k < L.length
      · have hii : (k : Int) < (L.length : Int) := by omega
        obtain ⟨c, hc⟩ : ∃ c, L[k]? = some c := ⟨_, List.getElem?_eq_getElem hkl⟩
        have HC := Lib.hid hc
        obtain ⟨g, ro, rc, e0, hcell, hrc1, hrc2, hrow⟩ := OutAt.get HOU.out HBR.out hc
        obtain ⟨hcp, hcx, hcl⟩ := HCE.out k c hc
        have HCP := Lib.hid (And.intro hcp hcx)
        have HROWC := Lib.hid hrow
        subst e0
        unfold maxLen at hrc2
        have hcl20 : c.length ≤ 20 := by omega
        clear hc hcp hcx hrow
        go_upto_region 10 with fail
        clear hcell
        go_wp2_with fail
        obtain ⟨wa, rfl⟩ : ∃ wa, wa = wr := ⟨_, rfl⟩
        go_loopw [9, 30] (fun pv jv wr => ∃ (j : Nat) (P : List Rv) (po : Option Addr) (pc : Nat), pv = .slice po P.length pc ∧ jv = .int .i64 j ∧ j ≤ c.length ∧ P = partR m (c.take j) ∧ OwnR wr wa.heap.size po pc P ∧ Below wa.heap.size wa wr) (fun _ jv _ => c.length - (intOf jv).toNat)
        case atStart => exact ⟨0, [], none, 0, rfl, rfl, Nat.zero_le _, by simp [partR], World.ownsRow_nil _ _ _ _, Below.refl _ _⟩
        case round =>
          obtain ⟨j, P, po, pc, rfl, rfl, hj, hP, hpo, hbp⟩ := hrel
          have HPP := Lib.hid hP
          have HPO := Lib.hid hpo
          have HBP := Lib.hid hbp
          have hPl : P.length = j := by rw [hP, partR_len, List.length_take]; omega
          have hPl2 : P.length ≤ 20 := by omega
          have HPL := Lib.hid hPl
          clear hP hpo hbp hPl
          have hsp := HBP.out.size
          have HBA := Lib.hid (HBR.out.trans (HBP.out.mono hWr))
          by_cases hjl : j < c.length
          · have hjj : (j : Int) < (c.length : Int) := by omega
            obtain ⟨i, hi0⟩ : ∃ i, c[j]? = some i := ⟨_, List.getElem?_eq_getElem hjl⟩
            obtain ⟨p, e1, hpl, hcell⟩ := HROWC.out j i hi0
            subst e1
            have hcell2 := (HBP.out.cell (p := ⟨p, j, none⟩) (Nat.lt_of_lt_of_le hpl hWr)).trans hcell
            have hil := HCP.out.2 i (List.mem_of_getElem? hi0)
            have hil2 : i < m.length := by rw [HML.out]; exact hil
            obtain ⟨x, hx⟩ : ∃ x, m[i]? = some x := ⟨_, List.getElem?_eq_getElem hil2⟩
            obtain ⟨b, off, e2, hbl, hrec⟩ := HSV.out.row i x hx
            subst e2
            obtain ⟨c0, c1, c2, c3, c4, c5, c6, c7, c8, c9, c10, c11, c12, c13, c14, c15⟩ := hrec.below HBA.out hbl
            have HN := Lib.hid (show P ++ [x] = partR m (c.take (j + 1)) by rw [List.take_add_one, hi0]; simp only [Option.toList_some]; rw [partR_app, ← HPP.out, partR_one hx])
            have hiI : (i : Int) < (X.length : Int) := by omega
            have HSLE := HSV.out.le
            rw [HML.out] at HSLE
            unfold maxLen at HSLE
            obtain ⟨hsl1, hsl2⟩ := HSLE
            clear hi0 hcell hx hrec
            go_upto_region 13 with fail
            clear hcell2
            go_wp2_with (refine wpList_app recC 16 (fun _ => rfl) (by decide) recC_one (by rfl) (.tmp 34) (.tmp 39) 28 (by rfl) wa.heap.size 38 i0 _ 160 Tryz.underlying28 hi hz0 hz1 hz2 (by decide) rfl po pc P x (recA x) rfl (by rfl) (by exact HPO.out) (by rfl) (by omega) (by omega) ?_; intro oo' oc' w7 hown hmod hbel; have HOW7 := Lib.hid hown; have HBE7 := Lib.hid hbel; clear hown hmod hbel)
            clear c0 c1 c2 c3 c4 c5 c6 c7 c8 c9 c10 c11 c12 c13 c14 c15
            go_roundw
            case rel => exact ⟨j + 1, P ++ [x], oo', oc', by simp, by go_num, by omega, HN.out, HOW7.out, HBP.out.trans HBE7.out⟩
            case measure => simp [intOf]; omega
          · obtain rfl : j = c.length := by omega
            have hjj : ¬ (c.length : Int) < (c.length : Int) := by omega
            have hPm : P = partR m c := by rw [HPP.out, List.take_length]
            have HPM := Lib.hid hPm
            have HPV := Lib.hid (RecsV.of_own HPO.out (fun x hx => by
              rw [hPm] at hx
              obtain ⟨i, hi1, rfl⟩ := List.mem_map.1 hx
              have hil2 : i < m.length := by rw [HML.out]; exact HCP.out.2 i hi1
              have : m.getD i default ∈ m := by rw [List.getD, List.getElem?_eq_getElem hil2]; exact List.getElem_mem hil2
              exact (HSV.out.ok _ this).below HBA.out))
            have HPI := Lib.hid (show (idsX P).Nodup by rw [hPm]; exact part_ids HIS.out HCP.out.1 (fun x hx => by rw [HML.out]; exact HCP.out.2 x hx))
            have HWI := Lib.hid (Within_any P po pc wr HPV.out hPl2)
            clear hPm HPP
            go_wp2_with fail
            refine HWI.out.mono ?_
            rintro e w6 ⟨no, nc, wm, rfl, hwp, hws, hwo, hwb⟩
            have HWE := Lib.hid (show wm.map Rv.id = within (part (nds m) c) by rw [within_one HPI.out hwp hws, HPM.out, partR_nd])
            obtain ⟨N, hN⟩ : ∃ N, N = wm.map Rv.id := ⟨_, rfl⟩
            rw [← hN] at HWE hwo
            have hNl : N.length = P.length := by rw [hN, List.length_map]; exact hwp.length_eq
            rw [← hNl]
            have HNO := Lib.hid (SrcAt.of_own hwo)
            have HB6 := Lib.hid (HBP.out.trans (hwb.mono hsp))
            have hNl2 : N.length ≤ 20 := by omega
            have HOW6 := Lib.hid (show OwnL w6 W.heap.size oo oc out from Go.Proofs.YtndfhejfhfhbdaaGreatDoor.R.own_below HOW.out HB6.out)
            have hs6 := HB6.out.size
            have HNX := Lib.hid (show out ++ N = rowI (nds m) (L.take (k + 1)) by rw [rowI_next _ HC.out, ← HO.out, ← HWE.out])
            clear hwp hws hwo hwb hN hNl HWI
            go_wp2_with (refine wpList_apps idC 2 (fun _ => rfl) (by decide) idC_one (by rfl) (.tmp 42) (.tmp 44) 25 (by rfl) W.heap.size 27 i1 _ 16 Tryz.underlying25 hi1 hy0 hy1 hy2 (by decide) rfl oo oc out.length out rfl no nc N.length N rfl (by rfl) (by exact HOW6.out) (by rfl) (by exact HNO.out) (by omega) (by omega) ?_; intro oo' oc' w7 hown hmod hbel; have HOW7 := Lib.hid hown; have HBE7 := Lib.hid hbel; clear hown hmod hbel)
            have HBZ := Lib.hid ((HBR.out.trans (HB6.out.mono hWr)).trans HBE7.out)
            go_roundw
            case rel => exact ⟨k + 1, out ++ N, oo', oc', by simp, by go_num, by omega, HNX.out, by unfold OwnL; rw [List.length_append]; exact HOW7.out, HBZ.out⟩
            case measure => simp [intOf]; omega
      · obtain rfl : k = L.length := by omega
        have hii : ¬ (L.length : Int) < (L.length : Int) := by omega
        have HE := Lib.hid (show out = rowI (nds m) L by rw [HO.out, List.take_length])
        have HF := Lib.hid (show OwnL wr w.heap.size oo oc out from own_base HOW.out (fun g hg => Nat.le_trans HB5.out.size (HOW.out.lt g hg).1))
        have HBF := Lib.hid (HB5.out.trans (HBR.out.mono HB5.out.size))
        go_wp2_with fail
        go_ret2
        refine ⟨oo, oc, out, rfl, ?_, HF.out, HBF.out⟩
        rw [HE.out]
        exact HROW.out
  · have hne : (v != 0) = true := by simpa using hv0
    have HF := Lib.hid (show OwnL w1 w.heap.size none 0 [] from World.ownsRow_nil _ _ _ _)
    have HNE := Lib.hid hv0
    clear hv0
    go_wp2_with fail
    go_ret2
    exact ⟨none, 0, [], rfl, fun h => absurd h HNE.out, fun _ => rfl, HF.out, HB1.out⟩
end Go.Proofs.YtndfhejfhfhbdaaGreatDoor.O
