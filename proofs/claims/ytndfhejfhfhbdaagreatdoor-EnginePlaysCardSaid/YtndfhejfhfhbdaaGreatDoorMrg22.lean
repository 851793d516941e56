/- Several texts in one. -/
import Derived.Test.YtndfhejfhfhbdaaGreatDoorMrg20
import Derived.Test.YtndfhejfhfhbdaaGreatDoorMrg21
import Derived.Test.YtndfhejfhfhbdaaGreatDoorMrg13
import Derived.Test.YtndfhejfhfhbdaaGreatDoorCompN

/- order.Order. -/
namespace Go.Proofs.YtndfhejfhfhbdaaGreatDoor.O
open Go.RowKit Go.Proofs.YtndfhejfhfhbdaaGreatDoor.M Go.BigFrame Go.Proofs.YtndfhejfhfhbdaaGreatDoor.K Go.Proofs.YtndfhejfhfhbdaaGreatDoor.T Go.Proofs.YtndfhejfhfhbdaaGreatDoor.R
set_option linter.unusedVariables false
set_option linter.unusedSimpArgs false

theorem comps_len {E : Nat → List Int} {n : Nat} {L : List (List Nat)} {q : Nat → Nat} (h : Comp E n L q) : L.length ≤ n := by
  have hhd : ∀ (i : Nat) (c : List Nat), L[i]? = some c → c.headD 0 ∈ c := fun i c hc => by
    cases c with
    | nil => exact absurd rfl (h.d3 _ (List.mem_of_getElem? hc)).2
    | cons a t => exact List.mem_cons_self
  have := nodup_le n (L.map fun c => c.headD 0) ?_ ?_
  · simpa using this
  · unfold List.Nodup
    rw [List.pairwise_iff_getElem]
    intro i j hi hj hij e
    rw [List.length_map] at hi hj
    rw [List.getElem_map, List.getElem_map] at e
    have h1 := List.getElem?_eq_getElem hi
    have h2 := List.getElem?_eq_getElem hj
    have q1 := (h.d2 i _ _ h1 (hhd i _ h1)).2
    have q2 := (h.d2 j _ _ h2 (hhd j _ h2)).2
    rw [e] at q1
    omega
  · intro v hv
    obtain ⟨c, hc, rfl⟩ := List.mem_map.1 hv
    obtain ⟨i, hi⟩ := List.mem_iff_getElem?.1 hc
    exact (h.d2 i _ _ hi (hhd i _ hi)).1
theorem rowI_pre (s : List Nd) (L : List (List Nat)) (k : Nat) : (rowI s (L.take k)).length ≤ (rowI s L).length := by
  have : rowI s L = rowI s (L.take k) ++ rowI s (L.drop k) := by
    unfold rowI
    rw [← List.flatMap_append, List.take_append_drop]
  rw [this, List.length_append]
  omega
theorem comp_rows {E : Nat → List Int} {n : Nat} {L : List (List Nat)} {q : Nat → Nat} (h : Comp E n L q) {k : Nat} {c : List Nat} (hc : L[k]? = some c) : c.Pairwise (· < ·) ∧ (∀ x ∈ c, x < n) ∧ c.length ≤ n :=
  ⟨(h.d3 c (List.mem_of_getElem? hc)).1, fun x hx => (h.d2 k c x hc hx).1, nodup_le n c ((h.d3 c (List.mem_of_getElem? hc)).1.imp fun h => Nat.ne_of_lt h) fun x hx => (h.d2 k c x hc hx).1⟩
/-- a row of numbers: its cells -/
theorem OutAt.get {B : Nat} {w w2 : World} {oo : Option Addr} {oc : Nat} {R : List (Option Addr × Nat)} {L : List (List Nat)} (h : OutAt B w oo oc R L) (hb : Below w.heap.size w w2) {k : Nat} {c : List Nat} (hc : L[k]? = some c) :
    ∃ g ro rc, oo = some ⟨g, 0, none⟩ ∧ w2.cell? ⟨g, k, none⟩ = some (.slice ro c.length rc) ∧ c.length ≤ rc ∧ rc ≤ maxLen ∧ ∀ (j x : Nat), c[j]? = some x → ∃ p, ro = some ⟨p, 0, none⟩ ∧ p < w.heap.size ∧ w2.cell? ⟨p, j, none⟩ = some (.int .i64 (x : Int)) := by
  have hk := (List.getElem?_eq_some_iff.1 hc).1
  obtain ⟨ao', cap', e0, h1, h2, h3, h4⟩ := M.own_view h.top
  cases e0
  cases oo with
  | none => have := (h3 rfl).1; omega
  | some a =>
    obtain ⟨g, cur, rfl, _, hg, hsz, htk⟩ := h4 a rfl
    obtain ⟨r, hr⟩ : ∃ r, R[k]? = some r := ⟨_, List.getElem?_eq_getElem (by rw [h.rl]; exact hk)⟩
    have hrow := h.row k c r hc hr
    obtain ⟨ro, rc⟩ := r
    obtain ⟨ao2, cap2, e2, k1, k2, k3, k4⟩ := M.own_view hrow
    cases e2
    refine ⟨g, ro, rc, rfl, (hb.cell (p := ⟨g, k, none⟩) (M.heap_lt hg)).trans ?_, k1, k2, fun j x hj => ?_⟩
    · have hh : (hdrs R L)[k]? = some (.slice ro c.length rc) := hdrs_get hr hc
      rw [cell_of_row w g _ _ _ _ hg, ← Array.getElem?_toList]
      rw [← htk, List.getElem?_take_of_lt (by omega)] at hh
      exact hh
    · have hjl := (List.getElem?_eq_some_iff.1 hj).1
      cases ro with
      | none => have := (k3 rfl).1; omega
      | some a =>
        obtain ⟨p, cur2, rfl, _, hp, hsz2, htk2⟩ := k4 a rfl
        refine ⟨p, rfl, M.heap_lt hp, (hb.cell (p := ⟨p, j, none⟩) (M.heap_lt hp)).trans ?_⟩
        have hh : (iv c)[j]? = some (.int .i64 (x : Int)) := by simp [iv, hj]
        rw [cell_of_row w p _ _ _ _ hp, ← Array.getElem?_toList]
        rw [← htk2, List.getElem?_take_of_lt (by omega)] at hh
        exact hh
set_option maxRecDepth 100000 in
set_option maxHeartbeats 4000000 in
theorem Order_any (X : List Rv) (ao : Option Addr) (cap : Nat) (w : World) (h : RecsV w ao cap X) (hT : Tabs w) (hl : X.length ≤ 20) (hdl : ∀ x ∈ X, x.deps.length ≤ 10000) (hkl : ∀ x ∈ X, x.cmd.key.size ≤ 1000000) (v : Int) (hv : errO (okR X) (nds X) = v) :
    Calls Tryz.prog 13 #[.slice ao X.length cap] w fun e w' => ∃ (oo : Option Addr) (oc : Nat) (out : List Id), e = .returned (.tuple #[.slice oo out.length oc, .int .i64 v]) ∧ ((v = 0 → Row (byIds (nds X)) out) ∧ (v ≠ 0 → out = []) ∧ OwnL w' w.heap.size oo oc out ∧ Below w.heap.size w w') := by
  obtain ⟨i0, hi, hz0, hz1, hz2⟩ := info_parts info_rec
  obtain ⟨i1, hi1, hy0, hy1, hy2⟩ := info_parts info_id
  have hcl := closed_any X ao cap w h hT (by omega) hdl hkl v hv
  have HV := Lib.hid hv
  have H0 := Lib.hid h
  have HDL := Lib.hid hdl
  clear h hT hdl hkl hv
  go_enter Tryz.func13, Tryz.ntmps13
  go_wp2_with fail
  refine hcl.mono ?_
  rintro e w1 ⟨rfl, hb1⟩
  have HB1 := Lib.hid hb1
  have H1 := Lib.hid (H0.out.below hb1)
  clear hb1 hcl H0
  by_cases hv0 : v = 0
  · subst hv0
    obtain ⟨hok, hU, hms⟩ := errO_ok.1 HV.out
    have HU := Lib.hid hU
    have HN := Lib.hid (show (idsX X).Nodup by rw [← nds_ids]; exact hU)
    clear HV hok hU hms
    go_wp2_with fail
    refine (valuesR_any _ _ _ _).mono ?_
    rintro e w2 ⟨rfl, hw2⟩
    have hb2 : Below w1.heap.size w1 w2 := by rw [hw2]; exact (Below.refl _ _).alloc (Nat.le_refl _) _
    have hg2 : w2.heap[w1.heap.size]? = some (.cells #[.slice ao X.length cap] 28 (0, 0)) := by rw [hw2]; exact heap_alloc_new w1 _
    have hc2 : w2.cell? ⟨w1.heap.size, 0, none⟩ = some (.slice ao X.length cap) := by simp [World.cell?, hg2]
    have HS := Lib.hid (sortedR_any w1.heap.size ao cap X w2 (by omega) (M.heap_lt hg2) hc2 (H1.out.below hb2))
    have HB2 := Lib.hid (HB1.out.trans (hb2.mono HB1.out.size))
    have H2 := Lib.hid (H1.out.below hb2)
    clear hw2 hb2 hg2 hc2 H1 HB1
    go_wp2_with fail
    refine HS.out.mono ?_
    rintro e w3 ⟨so, sc, m, rfl, hp, hs, hml, how, hb3⟩
    have HM := Lib.hid (srtR_one HN.out hp hs)
    have HP := Lib.hid hp
    have HB3 := Lib.hid (HB2.out.trans (hb3.mono HB2.out.size))
    have HSV := Lib.hid (RecsV.of_own how (fun x hx => (H2.out.ok x (hp.mem_iff.1 hx)).below hb3))
    have HML := Lib.hid hml
    have HGR := Lib.hid (graph_any m so sc w3 HSV.out (by omega) (by rw [HM.out]; exact srtR_ids HN.out) (fun x hx => HDL.out x (hp.mem_iff.1 hx)))
    rw [hml] at HGR
    clear hp hs hml how hb3 HS H2 HB2
    go_wp2_with fail
    refine HGR.out.mono ?_
    rintro e w4 ⟨go, gc, G, rfl, hout, hb4⟩
    have HB4 := Lib.hid (HB3.out.trans (hb4.mono HB3.out.size))
    have hed := OutAt.ed hout
    have hrl : (rowsG m X.length).length = X.length := by unfold rowsG; rw [List.length_map, List.length_take, HML.out]; omega
    rw [hrl] at hed
    have HCO := Lib.hid (comps_any (edP (nds m)) X.length go gc w4 (EdAt.ext hed fun j hj => by have := rows_ed m j (by rw [HML.out]; exact hj); rw [HML.out] at this; exact this) (by omega))
    have HS4 := Lib.hid (HSV.out.below hb4)
    clear hed hrl hout hb4 HGR HSV HB3
    go_wp2_with fail
    refine HCO.out.mono ?_
    rintro e W ⟨co, cc, R, L, q, rfl, hio, hou, hb5⟩
    have HB5 := Lib.hid (HB4.out.trans (hb5.mono HB4.out.size))
    have HSV := Lib.hid (HS4.out.below hb5)
    have HIO := Lib.hid hio
    have HOU := Lib.hid hou
    have HL := Lib.hid (show L.length ≤ 20 from Nat.le_trans (comps_len hio.co) hl)
    have HIS := Lib.hid (show (idsX m).Nodup by rw [HM.out]; exact srtR_ids HN.out)
    have HRL := Lib.hid (show (rowI (nds m) L).length ≤ 20 by
      have hU2 : Unl (nds m) := by unfold Unl; rw [nds_ids, HM.out]; exact srtR_ids HN.out
      have hlm : (nds m).length = X.length := by unfold nds; rw [List.length_map]; exact HML.out
      have h1 : Cmps (edR (nds m)) X.length L q := Cmps.ext (Cmps.of hio.co) (fun u w => by rw [← hlm]; exact (edgeP hU2).trans (edgeR hU2).symm)
      rw [← hlm] at h1
      have := rowI_len h1 hU2
      omega)
    have HCE := Lib.hid (fun (k : Nat) (c : List Nat) (hc : L[k]? = some c) => comp_rows hio.co hc)
    have HROW := Lib.hid (show Row (byIds (nds X)) (rowI (nds m) L) from inorder_row (by rw [HM.out]; exact srtR_nd X) HU.out (by rw [HML.out]; exact hio))
    clear hio hou hb5 HS4 HCO HB4
    go_wp2_with fail
    have hLl := HL.out
    go_loopw [6, 24] (fun ov kv wr => ∃ (k : Nat) (out : List Id) (oo : Option Addr) (oc : Nat), ov = .slice oo out.length oc ∧ kv = .int .i64 k ∧ k ≤ L.length ∧ out = rowI (nds m) (L.take k) ∧ OwnL wr W.heap.size oo oc out ∧ Below W.heap.size W wr) (fun _ kv _ => L.length - (intOf kv).toNat)
    case atStart => exact ⟨0, [], none, 0, rfl, rfl, Nat.zero_le _, by simp [rowI], World.ownsRow_nil _ _ _ _, Below.refl _ _⟩
    case round =>
      obtain ⟨k, out, oo, oc, rfl, rfl, hk, hout, hown, hb⟩ := hrel
      have HO := Lib.hid hout
      have HOW := Lib.hid hown
      have HBR := Lib.hid hb
      have hol : out.length ≤ 20 := by rw [hout]; exact Nat.le_trans (rowI_pre _ _ _) HRL.out
      clear hout hown hb
      have hWr := HBR.out.size
      by_cases hkl : k < L.length
      · have hii : (k : Int) < (L.length : Int) := by omega
        obtain ⟨c, hc⟩ : ∃ c, L[k]? = some c := ⟨_, List.getElem?_eq_getElem hkl⟩
        have HC := Lib.hid hc
        obtain ⟨g, ro, rc, e0, hcell, hrc1, hrc2, hrow⟩ := OutAt.get HOU.out HBR.out hc
        obtain ⟨hcp, hcx, hcl⟩ := HCE.out k c hc
        have HCP := Lib.hid (And.intro hcp hcx)
        have HROWC := Lib.hid hrow
        subst e0
        unfold maxLen at hrc2
        have hcl20 : c.length ≤ 20 := by omega
        clear hc hcp hcx hrow
        go_upto_region 10 with fail
        clear hcell
        go_wp2_with fail
        obtain ⟨wa, rfl⟩ : ∃ wa, wa = wr := ⟨_, rfl⟩
        go_loopw [9, 30] (fun pv jv wr => ∃ (j : Nat) (P : List Rv) (po : Option Addr) (pc : Nat), pv = .slice po P.length pc ∧ jv = .int .i64 j ∧ j ≤ c.length ∧ P = partR m (c.take j) ∧ OwnR wr wa.heap.size po pc P ∧ Below wa.heap.size wa wr) (fun _ jv _ => c.length - (intOf jv).toNat)
        case atStart => exact ⟨0, [], none, 0, rfl, rfl, Nat.zero_le _, by simp [partR], World.ownsRow_nil _ _ _ _, Below.refl _ _⟩
        case round =>
          obtain ⟨j, P, po, pc, rfl, rfl, hj, hP, hpo, hbp⟩ := hrel
          have HPP := Lib.hid hP
          have HPO := Lib.hid hpo
          have HBP := Lib.hid hbp
          have hPl : P.length = j := by rw [hP, partR_len, List.length_take]; omega
          have hPl2 : P.length ≤ 20 := by omega
          have HPL := Lib.hid hPl
          clear hP hpo hbp hPl
          have hsp := HBP.out.size
          have HBA := Lib.hid (HBR.out.trans (HBP.out.mono hWr))
          by_cases hjl : j < c.length
          · have hjj : (j : Int) < (c.length : Int) := by omega
            obtain ⟨i, hi0⟩ : ∃ i, c[j]? = some i := ⟨_, List.getElem?_eq_getElem hjl⟩
            obtain ⟨p, e1, hpl, hcell⟩ := HROWC.out j i hi0
            subst e1
            have hcell2 := (HBP.out.cell (p := ⟨p, j, none⟩) (Nat.lt_of_lt_of_le hpl hWr)).trans hcell
            have hil := HCP.out.2 i (List.mem_of_getElem? hi0)
            have hil2 : i < m.length := by rw [HML.out]; exact hil
            obtain ⟨x, hx⟩ : ∃ x, m[i]? = some x := ⟨_, List.getElem?_eq_getElem hil2⟩
            obtain ⟨b, off, e2, hbl, hrec⟩ := HSV.out.row i x hx
            subst e2
            obtain ⟨c0, c1, c2, c3, c4, c5, c6, c7, c8, c9, c10, c11, c12, c13, c14, c15⟩ := hrec.below HBA.out hbl
            have HN := Lib.hid (show P ++ [x] = partR m (c.take (j + 1)) by rw [List.take_add_one, hi0]; simp only [Option.toList_some]; rw [partR_app, ← HPP.out, partR_one hx])
            have hiI : (i : Int) < (X.length : Int) := by omega
            have HSLE := HSV.out.le
            rw [HML.out] at HSLE
            unfold maxLen at HSLE
            obtain ⟨hsl1, hsl2⟩ := HSLE
            clear hi0 hcell hx hrec
            go_upto_region 13 with fail
            clear hcell2
            go_wp2_with (refine wpList_app recC 16 (fun _ => rfl) (by decide) recC_one (by rfl) (.tmp 34) (.tmp 39) 28 (by rfl) wa.heap.size 38 i0 _ 160 Tryz.underlying28 hi hz0 hz1 hz2 (by decide) rfl po pc P x (recA x) rfl (by rfl) (by exact HPO.out) (by rfl) (by omega) (by omega) ?_; intro oo' oc' w7 hown hmod hbel; have HOW7 := Lib.hid hown; have HBE7 := Lib.hid hbel; clear hown hmod hbel)
            clear c0 c1 c2 c3 c4 c5 c6 c7 c8 c9 c10 c11 c12 c13 c14 c15
            go_roundw
            case rel => exact ⟨j + 1, P ++ [x], oo', oc', by simp, by go_num, by omega, HN.out, HOW7.out, HBP.out.trans HBE7.out⟩
            case measure => simp [intOf]; omega
          · obtain rfl : j = c.length := by omega
            have hjj : ¬ (c.length : Int) < (c.length : Int) := by omega
            have hPm : P = partR m c := by rw [HPP.out, List.take_length]
            have HPM := Lib.hid hPm
            have HPV := Lib.hid (RecsV.of_own HPO.out (fun x hx => by
              rw [hPm] at hx
              obtain ⟨i, hi1, rfl⟩ := List.mem_map.1 hx
              have hil2 : i < m.length := by rw [HML.out]; exact HCP.out.2 i hi1
              have : m.getD i default ∈ m := by rw [List.getD, List.getElem?_eq_getElem hil2]; exact List.getElem_mem hil2
              exact (HSV.out.ok _ this).below HBA.out))
            have HPI := Lib.hid (show (idsX P).Nodup by rw [hPm]; exact part_ids HIS.out HCP.out.1 (fun x hx => by rw [HML.out]; exact HCP.out.2 x hx))
            have HWI := Lib.hid (Within_any P po pc wr HPV.out hPl2)
            clear hPm HPP
            go_wp2_with fail
            refine HWI.out.mono ?_
            rintro e w6 ⟨no, nc, wm, rfl, hwp, hws, hwo, hwb⟩
            have HWE := Lib.hid (show wm.map Rv.id = within (part (nds m) c) by rw [within_one HPI.out hwp hws, HPM.out, partR_nd])
            obtain ⟨N, hN⟩ : ∃ N, N = wm.map Rv.id := ⟨_, rfl⟩
            rw [← hN] at HWE hwo
            have hNl : N.length = P.length := by rw [hN, List.length_map]; exact hwp.length_eq
            rw [← hNl]
            have HNO := Lib.hid (SrcAt.of_own hwo)
            have HB6 := Lib.hid (HBP.out.trans (hwb.mono hsp))
            have hNl2 : N.length ≤ 20 := by omega
            have HOW6 := Lib.hid (show OwnL w6 W.heap.size oo oc out from Go.Proofs.YtndfhejfhfhbdaaGreatDoor.R.own_below HOW.out HB6.out)
            have hs6 := HB6.out.size
            have HNX := Lib.hid (show out ++ N = rowI (nds m) (L.take (k + 1)) by rw [rowI_next _ HC.out, ← HO.out, ← HWE.out])
            clear hwp hws hwo hwb hN hNl HWI
            go_wp2_with (refine wpList_apps idC 2 (fun _ => rfl) (by decide) idC_one (by rfl) (.tmp 42) (.tmp 44) 25 (by rfl) W.heap.size 27 i1 _ 16 Tryz.underlying25 hi1 hy0 hy1 hy2 (by decide) rfl oo oc out.length out rfl no nc N.length N rfl (by rfl) (by exact HOW6.out) (by rfl) (by exact HNO.out) (by omega) (by omega) ?_; intro oo' oc' w7 hown hmod hbel; have HOW7 := Lib.hid hown; have HBE7 := Lib.hid hbel; clear hown hmod hbel)
            have HBZ := Lib.hid ((HBR.out.trans (HB6.out.mono hWr)).trans HBE7.out)
            go_roundw
            case rel => exact ⟨k + 1, out ++ N, oo', oc', by simp, by go_num, by omega, HNX.out, by unfold OwnL; rw [List.length_append]; exact HOW7.out, HBZ.out⟩
            case measure => simp [intOf]; omega
      · obtain rfl : k = L.length := by omega
        have hii : ¬ (L.length : Int) < (L.length : Int) := by omega
        have HE := Lib.hid (show out = rowI (nds m) L by rw [HO.out, List.take_length])
        have HF := Lib.hid (show OwnL wr w.heap.size oo oc out from own_base HOW.out (fun g hg => Nat.le_trans HB5.out.size (HOW.out.lt g hg).1))
        have HBF := Lib.hid (HB5.out.trans (HBR.out.mono HB5.out.size))
        go_wp2_with fail
        go_ret2
        refine ⟨oo, oc, out, rfl, ?_, HF.out, HBF.out⟩
        rw [HE.out]
        exact HROW.out
  · have hne : (v != 0) = true := by simpa using hv0
    have HF := Lib.hid (show OwnL w1 w.heap.size none 0 [] from World.ownsRow_nil _ _ _ _)
    have HNE := Lib.hid hv0
    clear hv0
    go_wp2_with fail
    go_ret2
    exact ⟨none, 0, [], rfl, fun h => absurd h HNE.out, fun _ => rfl, HF.out, HB1.out⟩
end Go.Proofs.YtndfhejfhfhbdaaGreatDoor.O

/- order.Closed. -/
namespace Go.Proofs.YtndfhejfhfhbdaaGreatDoor.O
open Go.RowKit Go.Proofs.YtndfhejfhfhbdaaGreatDoor.M Go.BigFrame Go.Proofs.YtndfhejfhfhbdaaGreatDoor.K Go.Proofs.YtndfhejfhfhbdaaGreatDoor.T
set_option linter.unusedVariables false
set_option linter.unusedSimpArgs false

theorem iv_cell {w : World} {B : Nat} {lo : Option Addr} {lc k u : Nat} {l : List Nat} (h : w.ownsRow B 3 1 (.slice lo l.length lc) l.length (iv l)) (hk : l[k]? = some u) : ∃ g, lo = some ⟨g, 0, none⟩ ∧ g < w.heap.size ∧ w.cell? ⟨g, k, none⟩ = some (.int .i64 (u : Int)) := by
  have hkl := (List.getElem?_eq_some_iff.1 hk).1
  obtain ⟨ao', cap', e0, h1, h2, h3, h4⟩ := M.own_view h
  cases e0
  cases lo with
  | none => have := (h3 rfl).1; omega
  | some a =>
    obtain ⟨g, cur, rfl, _, hg, hsz, htk⟩ := h4 a rfl
    refine ⟨g, rfl, M.heap_lt hg, ?_⟩
    have hh : (iv l)[k]? = some (.int .i64 (u : Int)) := by simp [iv, hk]
    rw [cell_of_row w g _ _ _ _ hg, ← Array.getElem?_toList]
    rw [← htk, List.getElem?_take_of_lt (by omega)] at hh
    exact hh
/-- what is missing of some records -/
def missO (s : List Rv) (l : List Nat) : List Id := (partR s l).flatMap fun x => x.deps.filter fun d => !decide (d ∈ idsX s)
/-- what an id leads to -/
structure ClO (s : List Rv) (i : Id) (inn : List Rv) (out : List Id) : Prop where
  no : i ∉ idsX s → inn = [] ∧ out = []
  yes : i ∈ idsX s → ∃ l, LeadsTo (edR (nds s)) s.length ((idsX s).idxOf i : Nat) l ∧ inn = partR s l ∧ out = setI (missO s l)
theorem ClO.one {s : List Rv} {i : Id} {a b : List Rv} {x y : List Id} (h : ClO s i a x) (h2 : ClO s i b y) : a = b ∧ x = y := by
  by_cases hi : i ∈ idsX s
  · obtain ⟨l, h3, rfl, rfl⟩ := h.yes hi
    obtain ⟨l2, h4, rfl, rfl⟩ := h2.yes hi
    rw [h3.one h4]
    exact ⟨rfl, rfl⟩
  · obtain ⟨rfl, rfl⟩ := h.no hi
    obtain ⟨rfl, rfl⟩ := h2.no hi
    exact ⟨rfl, rfl⟩
theorem fil_in {s : List Id} {d : Id} (h : d ∈ s) : [d].filter (fun d => !decide (d ∈ s)) = [] := by simp only [List.filter_cons, h, decide_true, Bool.not_true, Bool.false_eq_true, if_false, List.filter_nil]
theorem fil_out {s : List Id} {d : Id} (h : d ∉ s) : [d].filter (fun d => !decide (d ∈ s)) = [d] := by simp only [List.filter_cons, h, decide_false, Bool.not_false, if_true, List.filter_nil]
theorem missO_next {s : List Rv} {l : List Nat} {k i : Nat} {x : Rv} (hk : l[k]? = some i) (hx : s[i]? = some x) : missO s (l.take (k + 1)) = missO s (l.take k) ++ x.deps.filter fun d => !decide (d ∈ idsX s) := by
  unfold missO
  rw [List.take_add_one, hk]
  simp only [Option.toList_some]
  rw [partR_app, List.flatMap_append, partR_one hx]
  simp
theorem missO_len {s : List Rv} {l : List Nat} {n : Nat} (h : ∀ x ∈ s, x.deps.length ≤ n) (hl : ∀ i ∈ l, i < s.length) : (missO s l).length ≤ l.length * n := by
  unfold missO partR
  induction l with
  | nil => simp
  | cons a t ih =>
    rw [List.map_cons, List.flatMap_cons, List.length_append]
    have h1 := ih (fun i hi => hl i (List.mem_cons_of_mem _ hi))
    have h2 : s.getD a default ∈ s := by
      have := hl a List.mem_cons_self
      rw [List.getD, List.getElem?_eq_getElem this]; exact List.getElem_mem this
    have h3 := h _ h2
    have h4 := List.length_filter_le (fun d => !decide (d ∈ idsX s)) (s.getD a default).deps
    rw [List.length_cons, Nat.add_mul]
    omega
end Go.Proofs.YtndfhejfhfhbdaaGreatDoor.O

/- Plain law: ways over nodes that were looked at; the sum of the components. -/
namespace Go.Proofs.YtndfhejfhfhbdaaGreatDoor.K
open Go.RowKit M T
set_option linter.unusedVariables false
set_option linter.unusedSimpArgs false

/-- a way over nodes below k alone -/
def Rk (E : Nat → List Int) (n : Nat) : Nat → Nat → Nat → Prop
  | 0, i, j => i = j ∨ T.Edge E n i j
  | k + 1, i, j => Rk E n k i j ∨ (Rk E n k i k ∧ Rk E n k k j)
section
variable {E : Nat → List Int} {n : Nat}
theorem Rk.path : ∀ {k i j : Nat}, Rk E n k i j → Path E n i j
  | 0, i, j, h => by
    rcases h with h | h
    · subst h; exact .refl i
    · exact .one h
  | k + 1, i, j, h => by
    rcases h with h | h
    · exact Rk.path h
    · exact (Rk.path h.1).trans (Rk.path h.2)
theorem Rk.refl : ∀ (k i : Nat), Rk E n k i i
  | 0, i => .inl rfl
  | k + 1, i => .inl (Rk.refl k i)
theorem Rk.edge {i j : Nat} (h : T.Edge E n i j) : ∀ k, Rk E n k i j
  | 0 => .inr h
  | k + 1 => .inl (Rk.edge h k)
theorem Rk.trans : ∀ {k i v j : Nat}, v < k → Rk E n k i v → Rk E n k v j → Rk E n k i j
  | 0, i, v, j, hv, _, _ => by omega
  | k + 1, i, v, j, hv, h1, h2 => by
    by_cases e : v = k
    · subst e
      have a : Rk E n v i v := by
        rcases h1 with h | h
        · exact h
        · exact h.1
      have b : Rk E n v v j := by
        rcases h2 with h | h
        · exact h
        · exact h.2
      exact .inr ⟨a, b⟩
    · have hv : v < k := by omega
      rcases h1 with h1 | h1 <;> rcases h2 with h2 | h2
      · exact .inl (Rk.trans hv h1 h2)
      · exact .inr ⟨Rk.trans hv h1 h2.1, h2.2⟩
      · exact .inr ⟨h1.1, Rk.trans hv h1.2 h2⟩
      · exact .inr ⟨h1.1, h2.2⟩
theorem Rk.of {i j : Nat} (h : Path E n i j) : Rk E n n i j := by
  induction h with
  | refl u => exact Rk.refl n u
  | step e _ ih => exact Rk.trans e.2.1 (Rk.edge e n) ih

theorem cover_ge : ∀ (n : Nat) (l : List Nat), (∀ v, v < n → v ∈ l) → n ≤ l.length := by
  intro n
  induction n with
  | zero => intro l _; omega
  | succ n ih =>
    intro l h
    have h1 := ih (l.erase n) (fun v hv => (List.mem_erase_of_ne (by omega)).2 (h v (by omega)))
    have h2 := h n (by omega)
    rw [List.length_erase_of_mem h2] at h1
    have := List.length_pos_of_mem h2
    omega
variable {L : List (List Nat)} {q : Nat → Nat}
theorem Comp.path_le (h : Comp E n L q) {u v : Nat} (hp : Path E n u v) : q v ≤ q u := by
  induction hp with
  | refl => exact Nat.le_refl _
  | step e _ ih => exact Nat.le_trans ih (h.d4 _ _ e)
theorem Path.lt {u v : Nat} (hp : Path E n u v) (hu : u < n) : v < n := by
  induction hp with
  | refl => exact hu
  | step e _ ih => exact ih e.2.1
theorem Comp.mem_iff (h : Comp E n L q) {i : Nat} {c : List Nat} (hc : L[i]? = some c) (v : Nat) : v ∈ c ↔ v < n ∧ q v = i := by
  refine ⟨fun hv => h.d2 i c v hc hv, fun ⟨hv, e⟩ => ?_⟩
  obtain ⟨c', hc', hm⟩ := h.d1 v hv
  rw [e, hc] at hc'
  rw [Option.some.inj hc']; exact hm
/-- one of the two is in the other's component just if each leads to the other -/
theorem Comp.both (h : Comp E n L q) {u v : Nat} (hu : u < n) (hv : v < n) : q u = q v ↔ Path E n u v ∧ Path E n v u :=
  ⟨fun e => ⟨h.d5 u v hu hv e, h.d5 v u hv hu e.symm⟩, fun ⟨h1, h2⟩ => by have a := h.path_le h1; have b := h.path_le h2; omega⟩
theorem flat_nodup (h : Comp E n L q) : L.flatten.Nodup := by
  unfold List.Nodup
  rw [List.pairwise_flatten]
  refine ⟨fun c hc => (h.d3 c hc).1.imp (fun hlt => by omega), ?_⟩
  rw [List.pairwise_iff_getElem]
  intro i j hi hj hij x hx y hy e
  have h1 := (h.d2 i _ x (List.getElem?_eq_getElem hi) hx).2
  have h2 := (h.d2 j _ y (List.getElem?_eq_getElem hj) hy).2
  rw [e] at h1
  omega
theorem Comp.sum (h : Comp E n L q) : L.flatten.length = n := by
  have h1 : L.flatten.length ≤ n := by
    have key : ∀ (n : Nat) (l : List Nat), l.Nodup → (∀ v ∈ l, v < n) → l.length ≤ n := by
      intro n
      induction n with
      | zero =>
        intro l _ h
        cases l with
        | nil => exact Nat.le_refl _
        | cons a t => have := h a List.mem_cons_self; omega
      | succ n ih =>
        intro l hd h
        have h1 := ih (l.erase n) (hd.erase n) (fun v hv => by
          have h2 := h v (List.mem_of_mem_erase hv)
          have h3 : v ≠ n := fun e => (hd.mem_erase_iff.1 hv).1 e
          omega)
        have h4 : l.length - 1 ≤ (l.erase n).length := by
          by_cases e : n ∈ l
          · rw [List.length_erase_of_mem e]; exact Nat.le_refl _
          · rw [List.erase_of_not_mem e]; omega
        omega
    refine key n _ (flat_nodup h) fun v hv => ?_
    obtain ⟨c, hc, hvc⟩ := List.mem_flatten.1 hv
    obtain ⟨i, hi⟩ := List.mem_iff_getElem?.1 hc
    exact (h.d2 i c v hi hvc).1
  have h2 : n ≤ L.flatten.length := cover_ge n _ fun v hv => by
    obtain ⟨c, hc, hm⟩ := h.d1 v hv
    exact List.mem_flatten.2 ⟨c, List.mem_of_getElem? hc, hm⟩
  omega

/-- the document's choice: it hasn't come, and what it leads to has, or leads back -/
def okV (E : Nat → List Int) (n : Nat) (come : Nat → Bool) (v : Nat) : Prop := come v = false ∧ ∀ w, w < n → Path E n v w → come w = true ∨ Path E n w v
def comeP (q : Nat → Nat) (p : Nat) (v : Nat) : Bool := decide (q v < p)
theorem comp_head (h : Comp E n L q) {p : Nat} {c : List Nat} (hc : L[p]? = some c) : c.headD 0 < n ∧ q (c.headD 0) = p ∧ headOf L p = c.headD 0 ∧ ∀ v ∈ c, c.headD 0 ≤ v := by
  have h3 := h.d3 c (List.mem_of_getElem? hc)
  cases c with
  | nil => exact absurd rfl h3.2
  | cons a t =>
    have h2 := h.d2 p _ a hc List.mem_cons_self
    refine ⟨h2.1, h2.2, ?_, fun v hv => ?_⟩
    · unfold headOf; simp [List.getD, hc]
    · rcases List.mem_cons.1 hv with e | e
      · subst e; exact Nat.le_refl _
      · exact Nat.le_of_lt ((List.pairwise_cons.1 h3.1).1 v e)
theorem InOrder.ok_head (h : InOrder E n L q) {p : Nat} {c : List Nat} (hc : L[p]? = some c) : okV E n (comeP q p) (c.headD 0) := by
  obtain ⟨h1, h2, _, _⟩ := comp_head h.co hc
  refine ⟨by unfold comeP; rw [decide_eq_false]; omega, fun w hw hp => ?_⟩
  have hle := h.co.path_le hp
  by_cases e : q w < p
  · left; unfold comeP; exact decide_eq_true e
  · right; exact h.co.d5 w _ hw h1 (by omega)
theorem InOrder.ok_below (h : InOrder E n L q) {p : Nat} {c : List Nat} (hc : L[p]? = some c) {v : Nat} (hv : v < c.headD 0) : ¬ okV E n (comeP q p) v := by
  obtain ⟨h1, h2, h3, h4⟩ := comp_head h.co hc
  rintro ⟨a1, a2⟩
  have hvn : v < n := by omega
  unfold comeP at a1
  have hqp : p ≤ q v := by have := of_decide_eq_false a1; omega
  obtain ⟨c', hc', hvc⟩ := h.co.d1 v hvn
  obtain ⟨g1, g2, g3, g4⟩ := comp_head h.co hc'
  have hvh := g4 v hvc
  have hpp : p < q v := by
    rcases Nat.lt_or_ge p (q v) with e | e
    · exact e
    · have e : q v = p := by omega
      rw [e, hc] at hc'
      obtain rfl := Option.some.inj hc'
      omega
  obtain ⟨u, x, hu, he, hpx, hx⟩ := h.le p (q v) hpp (List.getElem?_eq_some_iff.1 hc').1 (by omega)
  have hvx : Path E n v x := (h.co.d5 v u hvn he.1 hu.symm).trans (.one he)
  rcases a2 x he.2.1 hvx with b | b
  · unfold comeP at b
    have := of_decide_eq_true b
    omega
  · have b1 := h.co.path_le b
    have b2 := h.co.path_le hvx
    exact hx (by omega)
theorem InOrder.cls (h : InOrder E n L q) {p : Nat} {c : List Nat} (hc : L[p]? = some c) (w : Nat) : w ∈ c ↔ w < n ∧ Path E n (c.headD 0) w ∧ Path E n w (c.headD 0) := by
  obtain ⟨h1, h2, _, _⟩ := comp_head h.co hc
  rw [h.co.mem_iff hc]
  refine ⟨fun ⟨a, b⟩ => ⟨a, (h.co.both h1 a).1 (by omega)⟩, fun ⟨a, b⟩ => ⟨a, ?_⟩⟩
  have := (h.co.both h1 a).2 b
  omega
theorem comeP_next (h : Comp E n L q) {p : Nat} {c : List Nat} (hc : L[p]? = some c) {v : Nat} (hv : v < n) : (comeP q p v || decide (v ∈ c)) = comeP q (p + 1) v := by
  have := h.mem_iff hc v
  unfold comeP
  rw [Bool.eq_iff_iff, Bool.or_eq_true, decide_eq_true_eq, decide_eq_true_eq, decide_eq_true_eq, this]
  constructor
  · rintro (a | a) <;> omega
  · intro a
    by_cases e : q v < p
    · exact .inl e
    · exact .inr ⟨hv, by omega⟩
theorem sum_drop {p : Nat} {c : List Nat} (hc : L[p]? = some c) : (L.drop p).flatten.length = c.length + (L.drop (p + 1)).flatten.length := by
  have hp := (List.getElem?_eq_some_iff.1 hc)
  rw [List.drop_eq_getElem_cons hp.1, hp.2, List.flatten_cons, List.length_append]
end
end Go.Proofs.YtndfhejfhfhbdaaGreatDoor.K
