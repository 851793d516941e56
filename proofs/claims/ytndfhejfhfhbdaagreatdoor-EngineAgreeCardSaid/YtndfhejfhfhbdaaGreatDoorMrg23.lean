/- Several texts in one. -/
import Derived.Test.YtndfhejfhfhbdaaGreatDoorMrg21
import Derived.Test.YtndfhejfhfhbdaaGreatDoorMrg22
import Derived.Test.YtndfhejfhfhbdaaGreatDoorMrg14

/- order.Order. -/
namespace Go.Proofs.YtndfhejfhfhbdaaGreatDoor.O
open Go.RowKit Go.Proofs.YtndfhejfhfhbdaaGreatDoor.M Go.BigFrame Go.Proofs.YtndfhejfhfhbdaaGreatDoor.K Go.Proofs.YtndfhejfhfhbdaaGreatDoor.T Go.Proofs.YtndfhejfhfhbdaaGreatDoor.R
set_option linter.unusedVariables false
set_option linter.unusedSimpArgs false

theorem comps_len {E : Nat → List Int} {n : Nat} {L : List (List Nat)} {q : Nat → Nat} (h : Comp E n L q) : L.length ≤ n := by
  have hhd : ∀ (i : Nat) (c : List Nat), L[i]? = some c → c.headD 0 ∈ c := fun i c hc => by
    cases c with
    | nil => exact absurd rfl (h.d3 _ (List.mem_of_getElem? hc)).2
    | cons a t => exact List.mem_cons_self
  have := nodup_le n (L.map fun c => c.headD 0) ?_ ?_
  · simpa using this
  · unfold List.Nodup
    rw [List.pairwise_iff_getElem]
    intro i j hi hj hij e
    rw [List.length_map] at hi hj
    rw [List.getElem_map, List.getElem_map] at e
    have h1 := List.getElem?_eq_getElem hi
    have h2 := List.getElem?_eq_getElem hj
    have q1 := (h.d2 i _ _ h1 (hhd i _ h1)).2
    have q2 := (h.d2 j _ _ h2 (hhd j _ h2)).2
    rw [e] at q1
    omega
  · intro v hv
    obtain ⟨c, hc, rfl⟩ := List.mem_map.1 hv
    obtain ⟨i, hi⟩ := List.mem_iff_getElem?.1 hc
    exact (h.d2 i _ _ hi (hhd i _ hi)).1
theorem rowI_pre (s : List Nd) (L : List (List Nat)) (k : Nat) : (rowI s (L.take k)).length ≤ (rowI s L).length := by
  have : rowI s L = rowI s (L.take k) ++ rowI s (L.drop k) := by
    unfold rowI
    rw [← List.flatMap_append, List.take_append_drop]
  rw [this, List.length_append]
  omega
theorem comp_rows {E : Nat → List Int} {n : Nat} {L : List (List Nat)} {q : Nat → Nat} (h : Comp E n L q) {k : Nat} {c : List Nat} (hc : L[k]? = some c) : c.Pairwise (· < ·) ∧ (∀ x ∈ c, x < n) ∧ c.length ≤ n :=
  ⟨(h.d3 c (List.mem_of_getElem? hc)).1, fun x hx => (h.d2 k c x hc hx).1, nodup_le n c ((h.d3 c (List.mem_of_getElem? hc)).1.imp fun h => Nat.ne_of_lt h) fun x hx => (h.d2 k c x hc hx).1⟩
/-- a row of numbers: its cells -/
theorem OutAt.get {B : Nat} {w w2 : World} {oo : Option Addr} {oc : Nat} {R : List (Option Addr × Nat)} {L : List (List Nat)} (h : OutAt B w oo oc R L) (hb : Below w.heap.size w w2) {k : Nat} {c : List Nat} (hc : L[k]? = some c) :
    ∃ g ro rc, oo = some ⟨g, 0, none⟩ ∧ w2.cell? ⟨g, k, none⟩ = some (.slice ro c.length rc) ∧ c.length ≤ rc ∧ rc ≤ maxLen ∧ ∀ (j x : Nat), c[j]? = some x → ∃ p, ro = some ⟨p, 0, none⟩ ∧ p < w.heap.size ∧ w2.cell? ⟨p, j, none⟩ = some (.int .i64 (x : Int)) := by
  have hk := (List.getElem?_eq_some_iff.1 hc).1
  obtain ⟨ao', cap', e0, h1, h2, h3, h4⟩ := M.own_view h.top
  cases e0
  cases oo with
  | none => have := (h3 rfl).1; omega
  | some a =>
    obtain ⟨g, cur, rfl, _, hg, hsz, htk⟩ := h4 a rfl
    obtain ⟨r, hr⟩ : ∃ r, R[k]? = some r := ⟨_, List.getElem?_eq_getElem (by rw [h.rl]; exact hk)⟩
    have hrow := h.row k c r hc hr
    obtain ⟨ro, rc⟩ := r
    obtain ⟨ao2, cap2, e2, k1, k2, k3, k4⟩ := M.own_view hrow
    cases e2
    refine ⟨g, ro, rc, rfl, (hb.cell (p := ⟨g, k, none⟩) (M.heap_lt hg)).trans ?_, k1, k2, fun j x hj => ?_⟩
    · have hh : (hdrs R L)[k]? = some (.slice ro c.length rc) := hdrs_get hr hc
      rw [cell_of_row w g _ _ _ _ hg, ← Array.getElem?_toList]
      rw [← htk, List.getElem?_take_of_lt (by omega)] at hh
      exact hh
    · have hjl := (List.getElem?_eq_some_iff.1 hj).1
      cases ro with
      | none => have := (k3 rfl).1; omega
      | some a =>
        obtain ⟨p, cur2, rfl, _, hp, hsz2, htk2⟩ := k4 a rfl
        refine ⟨p, rfl, M.heap_lt hp, (hb.cell (p := ⟨p, j, none⟩) (M.heap_lt hp)).trans ?_⟩
        have hh : (iv c)[j]? = some (.int .i64 (x : Int)) := by simp [iv, hj]
        rw [cell_of_row w p _ _ _ _ hp, ← Array.getElem?_toList]
        rw [← htk2, List.getElem?_take_of_lt (by omega)] at hh
        exact hh
set_option maxRecDepth 100000 in
set_option maxHeartbeats 4000000 in
theorem Order_any (X : List Rv) (ao : Option Addr) (cap : Nat) (w : World) (h : RecsV w ao cap X) (hT : Tabs w) (hl : X.length ≤ 20) (hdl : ∀ x ∈ X, x.deps.length ≤ 10000) (hkl : ∀ x ∈ X, x.cmd.key.size ≤ 1000000) (v : Int) (hv : errO (okR X) (nds X) = v) :
    Calls Tryz.prog 13 #[.slice ao X.length cap] w fun e w' => ∃ (oo : Option Addr) (oc : Nat) (out : List Id), e = .returned (.tuple #[.slice oo out.length oc, .int .i64 v]) ∧ ((v = 0 → Row (byIds (nds X)) out) ∧ (v ≠ 0 → out = []) ∧ OwnL w' w.heap.size oo oc out ∧ Below w.heap.size w w') := by
  obtain ⟨i0, hi, hz0, hz1, hz2⟩ := info_parts info_rec
  obtain ⟨i1, hi1, hy0, hy1, hy2⟩ := info_parts info_id
  have hcl := closed_any X ao cap w h hT (by omega) hdl hkl v hv
  have HV := Lib.hid hv
  have H0 := Lib.hid h
  have HDL := Lib.hid hdl
  clear h hT hdl hkl hv
  go_enter Tryz.func13, Tryz.ntmps13
  go_wp2_with fail
  refine hcl.mono ?_
  rintro e w1 ⟨rfl, hb1⟩
  have HB1 := Lib.hid hb1
  have H1 := Lib.hid (H0.out.below hb1)
  clear hb1 hcl H0
  by_cases hv0 : v = 0
  · subst hv0
    obtain ⟨hok, hU, hms⟩ := errO_ok.1 HV.out
    have HU := Lib.hid hU
    have HN := Lib.hid (show (idsX X).Nodup by rw [← nds_ids]; exact hU)
    clear HV hok hU hms
    go_wp2_with fail
    refine (valuesR_any _ _ _ _).mono ?_
    rintro e w2 ⟨rfl, hw2⟩
    have hb2 : Below w1.heap.size w1 w2 := by rw [hw2]; exact (Below.refl _ _).alloc (Nat.le_refl _) _
    have hg2 : w2.heap[w1.heap.size]? = some (.cells #[.slice ao X.length cap] 28 (0, 0)) := by rw [hw2]; exact heap_alloc_new w1 _
    have hc2 : w2.cell? ⟨w1.heap.size, 0, none⟩ = some (.slice ao X.length cap) := by simp [World.cell?, hg2]
    have HS := Lib.hid (sortedR_any w1.heap.size ao cap X w2 (by omega) (M.heap_lt hg2) hc2 (H1.out.below hb2))
    have HB2 := Lib.hid (HB1.out.trans (hb2.mono HB1.out.size))
    have H2 := Lib.hid (H1.out.below hb2)
    clear hw2 hb2 hg2 hc2 H1 HB1
    go_wp2_with fail
    refine HS.out.mono ?_
    rintro e w3 ⟨so, sc, m, rfl, hp, hs, hml, how, hb3⟩
    have HM := Lib.hid (srtR_one HN.out hp hs)
    have HP := Lib.hid hp
    have HB3 := Lib.hid (HB2.out.trans (hb3.mono HB2.out.size))
    have HSV := Lib.hid (RecsV.of_own how (fun x hx => (H2.out.ok x (hp.mem_iff.1 hx)).below hb3))
    have HML := Lib.hid hml
    have HGR := Lib.hid (graph_any m so sc w3 HSV.out (by omega) (by rw [HM.out]; exact srtR_ids HN.out) (fun x hx => HDL.out x (hp.mem_iff.1 hx)))
    rw [hml] at HGR
    clear hp hs hml how hb3 HS H2 HB2
    go_wp2_with fail
    refine HGR.out.mono ?_
    rintro e w4 ⟨go, gc, G, rfl, hout, hb4⟩
    have HB4 := Lib.hid (HB3.out.trans (hb4.mono HB3.out.size))
    have hed := OutAt.ed hout
    have hrl : (rowsG m X.length).length = X.length := by unfold rowsG; rw [List.length_map, List.length_take, HML.out]; omega
    rw [hrl] at hed
    have HCO := Lib.hid (comps_any (edP (nds m)) X.length go gc w4 (EdAt.ext hed fun j hj => by have := rows_ed m j (by rw [HML.out]; exact hj); rw [HML.out] at this; exact this) (by omega))
    have HS4 := Lib.hid (HSV.out.below hb4)
    clear hed hrl hout hb4 HGR HSV HB3
    go_wp2_with fail
    refine HCO.out.mono ?_
    rintro e W ⟨co, cc, R, L, q, rfl, hio, hou, hb5⟩
    have HB5 := Lib.hid (HB4.out.trans (hb5.mono HB4.out.size))
    have HSV := Lib.hid (HS4.out.below hb5)
    have HIO := Lib.hid hio
    have HOU := Lib.hid hou
    have HL := Lib.hid (show L.length ≤ 20 from Nat.le_trans (comps_len hio.co) hl)
    have HIS := Lib.hid (show (idsX m).Nodup by rw [HM.out]; exact srtR_ids HN.out)
    have HRL := Lib.hid (show (rowI (nds m) L).length ≤ 20 by
      have hU2 : Unl (nds m) := by unfold Unl; rw [nds_ids, HM.out]; exact srtR_ids HN.out
      have hlm : (nds m).length = X.length := by unfold nds; rw [List.length_map]; exact HML.out
      have h1 : Cmps (edR (nds m)) X.length L q := Cmps.ext (Cmps.of hio.co) (fun u w => by rw [← hlm]; exact (edgeP hU2).trans (edgeR hU2).symm)
      rw [← hlm] at h1
      have := rowI_len h1 hU2
      omega)
    have HCE := Lib.hid (fun (k : Nat) (c : List Nat) (hc : L[k]? = some c) => comp_rows hio.co hc)
    have HROW := Lib.hid (show Row (byIds (nds X)) (rowI (nds m) L) from inorder_row (by rw [HM.out]; exact srtR_nd X) HU.out (by rw [HML.out]; exact hio))
    clear hio hou hb5 HS4 HCO HB4
    go_wp2_with fail
    have hLl := HL.out
    go_loopw [6, 24] (fun ov kv wr => ∃ (k : Nat) (out : List Id) (oo : Option Addr) (oc : Nat), ov = .slice oo out.length oc ∧ kv = .int .i64 k ∧ k ≤ L.length ∧ out = rowI (nds m) (L.take k) ∧ OwnL wr W.heap.size oo oc out ∧ Below W.heap.size W wr) (fun _ kv _ => L.length - (intOf kv).toNat)
    case atStart => exact ⟨0, [], none, 0, rfl, rfl, Nat.zero_le _, by simp [rowI], World.ownsRow_nil _ _ _ _, Below.refl _ _⟩
    case round =>
      obtain ⟨k, out, oo, oc, rfl, rfl, hk, hout, hown, hb⟩ := hrel
      have HO := Lib.hid hout
      have HOW := Lib.hid hown
      have HBR := Lib.hid hb
      have hol : out.length ≤ 20 := by rw [hout]; exact Nat.le_trans (rowI_pre _ _ _) HRL.out
      clear hout hown hb
      have hWr := HBR.out.size
      by_cases hkl : k < L.length
      · have hii : (k : Int) < (L.length : Int) := by omega
        obtain ⟨c, hc⟩ : ∃ c, L[k]? = some c := ⟨_, List.getElem?_eq_getElem hkl⟩
        have HC := Lib.hid hc
        obtain ⟨g, ro, rc, e0, hcell, hrc1, hrc2, hrow⟩ := OutAt.get HOU.out HBR.out hc
        obtain ⟨hcp, hcx, hcl⟩ := HCE.out k c hc
        have HCP := Lib.hid (And.intro hcp hcx)
        have HROWC := Lib.hid hrow
        subst e0
        unfold maxLen at hrc2
        have hcl20 : c.length ≤ 20 := by omega
        clear hc hcp hcx hrow
        go_upto_region 10 with fail
        clear hcell
        go_wp2_with fail
        obtain ⟨wa, rfl⟩ : ∃ wa, wa = wr := ⟨_, rfl⟩
        go_loopw [9, 30] (fun pv jv wr => ∃ (j : Nat) (P : List Rv) (po : Option Addr) (pc : Nat), pv = .slice po P.length pc ∧ jv = .int .i64 j ∧ j ≤ c.length ∧ P = partR m (c.take j) ∧ OwnR wr wa.heap.size po pc P ∧ Below wa.heap.size wa wr) (fun _ jv _ => c.length - (intOf jv).toNat)
        case atStart => exact ⟨0, [], none, 0, rfl, rfl, Nat.zero_le _, by simp [partR], World.ownsRow_nil _ _ _ _, Below.refl _ _⟩
        case round =>
          obtain ⟨j, P, po, pc, rfl, rfl, hj, hP, hpo, hbp⟩ := hrel
          have HPP := Lib.hid hP
          have HPO := Lib.hid hpo
          have HBP := Lib.hid hbp
          have hPl : P.length = j := by rw [hP, partR_len, List.length_take]; omega
          have hPl2 : P.length ≤ 20 := by omega
          have HPL := Lib.hid hPl
          clear hP hpo hbp hPl
          have hsp := HBP.out.size
          have HBA := Lib.hid (HBR.out.trans (HBP.out.mono hWr))
          by_cases hjl : j < c.length
          · have hjj : (j : Int) < (c.length : Int) := by omega
            obtain ⟨i, hi0⟩ : ∃ i, c[j]? = some i := ⟨_, List.getElem?_eq_getElem hjl⟩
            obtain ⟨p, e1, hpl, hcell⟩ := HROWC.out j i hi0
            subst e1
            have hcell2 := (HBP.out.cell (p := ⟨p, j, none⟩) (Nat.lt_of_lt_of_le hpl hWr)).trans hcell
            have hil := HCP.out.2 i (List.mem_of_getElem? hi0)
            have hil2 : i < m.length := by rw [HML.out]; exact hil
            obtain ⟨x, hx⟩ : ∃ x, m[i]? = some x := ⟨_, List.getElem?_eq_getElem hil2⟩
            obtain ⟨b, off, e2, hbl, hrec⟩ := HSV.out.row i x hx
            subst e2
            obtain ⟨c0, c1, c2, c3, c4, c5, c6, c7, c8, c9, c10, c11, c12, c13, c14, c15⟩ := hrec.below HBA.out hbl
            have HN := Lib.hid (show P ++ [x] = partR m (c.take (j + 1)) by rw [List.take_add_one, hi0]; simp only [Option.toList_some]; rw [partR_app, ← HPP.out, partR_one hx])
            have hiI : (i : Int) < (X.length : Int) := by omega
            have HSLE := HSV.out.le
            rw [HML.out] at HSLE
            unfold maxLen at HSLE
            obtain ⟨hsl1, hsl2⟩ := HSLE
            clear hi0 hcell hx hrec
            go_upto_region 13 with fail
            clear hcell2
            go_wp2_with (refine wpList_app recC 16 (fun _ => rfl) (by decide) recC_one (by rfl) (.tmp 34) (.tmp 39) 28 (by rfl) wa.heap.size 38 i0 _ 160 Tryz.underlying28 hi hz0 hz1 hz2 (by decide) rfl po pc P x (recA x) rfl (by rfl) (by exact HPO.out) (by rfl) (by omega) (by omega) ?_; intro oo' oc' w7 hown hmod hbel; have HOW7 := Lib.hid hown; have HBE7 := Lib.hid hbel; clear hown hmod hbel)
            clear c0 c1 c2 c3 c4 c5 c6 c7 c8 c9 c10 c11 c12 c13 c14 c15
            go_roundw
            case rel => exact ⟨j + 1, P ++ [x], oo', oc', by simp, by go_num, by omega, HN.out, HOW7.out, HBP.out.trans HBE7.out⟩
            case measure => simp [intOf]; omega
          · obtain rfl : j = c.length := by omega
            have hjj : ¬ (c.length : Int) < (c.length : Int) := by omega
            have hPm : P = partR m c := by rw [HPP.out, List.take_length]
            have HPM := Lib.hid hPm
            have HPV := Lib.hid (RecsV.of_own HPO.out (fun x hx => by
              rw [hPm] at hx
              obtain ⟨i, hi1, rfl⟩ := List.mem_map.1 hx
              have hil2 : i < m.length := by rw [HML.out]; exact HCP.out.2 i hi1
              have : m.getD i default ∈ m := by rw [List.getD, List.getElem?_eq_getElem hil2]; exact List.getElem_mem hil2
              exact (HSV.out.ok _ this).below HBA.out))
            have HPI := Lib.hid (show (idsX P).Nodup by rw [hPm]; exact part_ids HIS.out HCP.out.1 (fun x hx => by rw [HML.out]; exact HCP.out.2 x hx))
            have HWI := Lib.hid (Within_any P po pc wr HPV.out hPl2)
            clear hPm HPP
            go_wp2_with fail
            refine HWI.out.mono ?_
            rintro e w6 ⟨no, nc, wm, rfl, hwp, hws, hwo, hwb⟩
            have HWE := Lib.hid (show wm.map Rv.id = within (part (nds m) c) by rw [within_one HPI.out hwp hws, HPM.out, partR_nd])
            obtain ⟨N, hN⟩ : ∃ N, N = wm.map Rv.id := ⟨_, rfl⟩
            rw [← hN] at HWE hwo
            have hNl : N.length = P.length := by rw [hN, List.length_map]; exact hwp.length_eq
            rw [← hNl]
            have HNO := Lib.hid (SrcAt.of_own hwo)
            have HB6 := Lib.hid (HBP.out.trans (hwb.mono hsp))
            have hNl2 : N.length ≤ 20 := by omega
            have HOW6 := Lib.hid (show OwnL w6 W.heap.size oo oc out from Go.Proofs.YtndfhejfhfhbdaaGreatDoor.R.own_below HOW.out HB6.out)
            have hs6 := HB6.out.size
            have HNX := Lib.hid (show out ++ N = rowI (nds m) (L.take (k + 1)) by rw [rowI_next _ HC.out, ← HO.out, ← HWE.out])
            clear hwp hws hwo hwb hN hNl HWI
            go_wp2_with (refine wpList_apps idC 2 (fun _ => rfl) (by decide) idC_one (by rfl) (.tmp 42) (.tmp 44) 25 (by rfl) W.heap.size 27 i1 _ 16 Tryz.underlying25 hi1 hy0 hy1 hy2 (by decide) rfl oo oc out.length out rfl no nc N.length N rfl (by rfl) (by exact HOW6.out) (by rfl) (by exact HNO.out) (by omega) (by omega) ?_; intro oo' oc' w7 hown hmod hbel; have HOW7 := Lib.hid hown; have HBE7 := Lib.hid hbel; clear hown hmod hbel)
            have HBZ := Lib.hid ((HBR.out.trans (HB6.out.mono hWr)).trans HBE7.out)
            go_roundw
            case rel => exact ⟨k + 1, out ++ N, oo', oc', by simp, by go_num, by omega, HNX.out, by unfold OwnL; rw [List.length_append]; exact HOW7.out, HBZ.out⟩
            case measure => simp [intOf]; omega
      · obtain rfl : k = L.length := by omega
        have hii : ¬ (L.length : Int) < (L.length : Int) := by omega
        have HE := Lib.hid (show out = rowI (nds m) L by rw [HO.out, List.take_length])
        have HF := Lib.hid (show OwnL wr w.heap.size oo oc out from own_base HOW.out (fun g hg => Nat.le_trans HB5.out.size (HOW.out.lt g hg).1))
        have HBF := Lib.hid (HB5.out.trans (HBR.out.mono HB5.out.size))
        go_wp2_with fail
        go_ret2
        refine ⟨oo, oc, out, rfl, ?_, HF.out, HBF.out⟩
        rw [HE.out]
        exact HROW.out
  · have hne : (v != 0) = true := by simpa using hv0
    have HF := Lib.hid (show OwnL w1 w.heap.size none 0 [] from World.ownsRow_nil _ _ _ _)
    have HNE := Lib.hid hv0
    clear hv0
    go_wp2_with fail
    go_ret2
    exact ⟨none, 0, [], rfl, fun h => absurd h HNE.out, fun _ => rfl, HF.out, HB1.out⟩
end Go.Proofs.YtndfhejfhfhbdaaGreatDoor.O

/- Rows of two kinds: one stays where the other grows. -/
namespace Go.Proofs.YtndfhejfhfhbdaaGreatDoor.O
open Go.RowKit Go.Proofs.YtndfhejfhfhbdaaGreatDoor.M Go.BigFrame
set_option linter.unusedVariables false

theorem own_apart {w : World} {B1 B2 : Nat} {e1 e2 : TypeId} {s1 s2 : Nat} {v1 v2 : Value} {n1 n2 : Nat} {xs1 xs2 : List Value} (h1 : w.ownsRow B1 e1 s1 v1 n1 xs1) (h2 : w.ownsRow B2 e2 s2 v2 n2 xs2) (he : e1 ≠ e2) : ∀ k, v1.ownBlock = some k → v2.ownBlock = some k → False := by
  intro k hk1 hk2
  rcases h1.2 with ⟨rfl, _⟩ | ⟨g, cap, cur, rfl, _, hg, _⟩
  · cases hk1
  · rcases h2.2 with ⟨rfl, _⟩ | ⟨g2, cap2, cur2, rfl, _, hg2, _⟩
    · cases hk2
    · obtain rfl := Option.some.inj hk1
      obtain rfl := Option.some.inj hk2
      rw [hg] at hg2
      simp only [Option.some.injEq, Obj.cells.injEq] at hg2
      exact he hg2.2.1
/-- a row of one kind stays, where one of another kind grows -/
theorem own_beside {w w1 : World} {B1 B2 : Nat} {e1 e2 : TypeId} {s1 s2 : Nat} {v1 : Value} {oo : Option Addr} {oc l n1 n2 : Nat} {xs1 xs2 : List Value} (h1 : w.ownsRow B1 e1 s1 v1 n1 xs1) (h2 : w.ownsRow B2 e2 s2 (.slice oo l oc) n2 xs2) (he : e1 ≠ e2)
    (hm : Mods (fun j => ∃ a, oo = some a ∧ j = a.block) w w1) : w1.ownsRow B1 e1 s1 v1 n1 xs1 :=
  own_kept h1 hm fun k hk ⟨a, e, ek⟩ => own_apart h1 h2 he k hk (by subst e; rw [ek]; rfl)
end Go.Proofs.YtndfhejfhfhbdaaGreatDoor.O

/- order.Closed. -/
namespace Go.Proofs.YtndfhejfhfhbdaaGreatDoor.O
open Go.RowKit Go.Proofs.YtndfhejfhfhbdaaGreatDoor.M Go.BigFrame Go.Proofs.YtndfhejfhfhbdaaGreatDoor.K Go.Proofs.YtndfhejfhfhbdaaGreatDoor.T
set_option linter.unusedVariables false
set_option linter.unusedSimpArgs false

theorem iv_cell {w : World} {B : Nat} {lo : Option Addr} {lc k u : Nat} {l : List Nat} (h : w.ownsRow B 3 1 (.slice lo l.length lc) l.length (iv l)) (hk : l[k]? = some u) : ∃ g, lo = some ⟨g, 0, none⟩ ∧ g < w.heap.size ∧ w.cell? ⟨g, k, none⟩ = some (.int .i64 (u : Int)) := by
  have hkl := (List.getElem?_eq_some_iff.1 hk).1
  obtain ⟨ao', cap', e0, h1, h2, h3, h4⟩ := M.own_view h
  cases e0
  cases lo with
  | none => have := (h3 rfl).1; omega
  | some a =>
    obtain ⟨g, cur, rfl, _, hg, hsz, htk⟩ := h4 a rfl
    refine ⟨g, rfl, M.heap_lt hg, ?_⟩
    have hh : (iv l)[k]? = some (.int .i64 (u : Int)) := by simp [iv, hk]
    rw [cell_of_row w g _ _ _ _ hg, ← Array.getElem?_toList]
    rw [← htk, List.getElem?_take_of_lt (by omega)] at hh
    exact hh
/-- what is missing of some records -/
def missO (s : List Rv) (l : List Nat) : List Id := (partR s l).flatMap fun x => x.deps.filter fun d => !decide (d ∈ idsX s)
/-- what an id leads to -/
structure ClO (s : List Rv) (i : Id) (inn : List Rv) (out : List Id) : Prop where
  no : i ∉ idsX s → inn = [] ∧ out = []
  yes : i ∈ idsX s → ∃ l, LeadsTo (edR (nds s)) s.length ((idsX s).idxOf i : Nat) l ∧ inn = partR s l ∧ out = setI (missO s l)
theorem ClO.one {s : List Rv} {i : Id} {a b : List Rv} {x y : List Id} (h : ClO s i a x) (h2 : ClO s i b y) : a = b ∧ x = y := by
  by_cases hi : i ∈ idsX s
  · obtain ⟨l, h3, rfl, rfl⟩ := h.yes hi
    obtain ⟨l2, h4, rfl, rfl⟩ := h2.yes hi
    rw [h3.one h4]
    exact ⟨rfl, rfl⟩
  · obtain ⟨rfl, rfl⟩ := h.no hi
    obtain ⟨rfl, rfl⟩ := h2.no hi
    exact ⟨rfl, rfl⟩
theorem fil_in {s : List Id} {d : Id} (h : d ∈ s) : [d].filter (fun d => !decide (d ∈ s)) = [] := by simp only [List.filter_cons, h, decide_true, Bool.not_true, Bool.false_eq_true, if_false, List.filter_nil]
theorem fil_out {s : List Id} {d : Id} (h : d ∉ s) : [d].filter (fun d => !decide (d ∈ s)) = [d] := by simp only [List.filter_cons, h, decide_false, Bool.not_false, if_true, List.filter_nil]
theorem missO_next {s : List Rv} {l : List Nat} {k i : Nat} {x : Rv} (hk : l[k]? = some i) (hx : s[i]? = some x) : missO s (l.take (k + 1)) = missO s (l.take k) ++ x.deps.filter fun d => !decide (d ∈ idsX s) := by
  unfold missO
  rw [List.take_add_one, hk]
  simp only [Option.toList_some]
  rw [partR_app, List.flatMap_append, partR_one hx]
  simp
theorem missO_len {s : List Rv} {l : List Nat} {n : Nat} (h : ∀ x ∈ s, x.deps.length ≤ n) (hl : ∀ i ∈ l, i < s.length) : (missO s l).length ≤ l.length * n := by
  unfold missO partR
  induction l with
  | nil => simp
  | cons a t ih =>
    rw [List.map_cons, List.flatMap_cons, List.length_append]
    have h1 := ih (fun i hi => hl i (List.mem_cons_of_mem _ hi))
    have h2 : s.getD a default ∈ s := by
      have := hl a List.mem_cons_self
      rw [List.getD, List.getElem?_eq_getElem this]; exact List.getElem_mem this
    have h3 := h _ h2
    have h4 := List.length_filter_le (fun d => !decide (d ∈ idsX s)) (s.getD a default).deps
    rw [List.length_cons, Nat.add_mul]
    omega
set_option maxRecDepth 100000 in
set_option maxHeartbeats 4000000 in
theorem closedd_any (X : List Rv) (ao : Option Addr) (cap : Nat) (i : Id) (w : World) (h : RecsV w ao cap X) (hi : IdI i) (hn : (idsX X).Nodup) (hl : X.length ≤ 20) (hdl : ∀ x ∈ X, x.deps.length ≤ 10000) :
    Calls Tryz.prog 20 #[.slice ao X.length cap, idV i] w fun e w' => ∃ (no : Option Addr) (nc : Nat) (inn : List Rv) (oo : Option Addr) (oc : Nat) (out : List Id), e = .returned (.tuple #[.slice no inn.length nc, .slice oo out.length oc]) ∧ (ClO (srtR X) i inn out ∧ OwnR w' w.heap.size no nc inn ∧ OwnL w' w.heap.size oo oc out ∧ Below w.heap.size w w') := by
  obtain ⟨i0, hi0, hz0, hz1, hz2⟩ := info_parts info_rec
  obtain ⟨i1, hi1, hy0, hy1, hy2⟩ := info_parts info_id
  have H0 := Lib.hid h
  have HI := Lib.hid hi
  have HN := Lib.hid hn
  have HDL := Lib.hid hdl
  clear h hi hn hdl
  go_enter Tryz.func20, Tryz.ntmps20
  go_upto_region 1 with fail
  obtain ⟨W, hW⟩ : ∃ W, W = w.alloc (idO i) := ⟨_, rfl⟩
  rw [← hW]
  have HB : Hid (Below w.heap.size w W) := Lib.hid (by rw [hW]; exact (Below.refl _ _).alloc (Nat.le_refl _) _)
  have HX : Hid (W.heap[w.heap.size]? = some (idO i)) := Lib.hid (by rw [hW]; exact heap_alloc_new w _)
  clear hW
  have H1 := Lib.hid (H0.out.below HB.out)
  clear H0
  have HI0 := Lib.hid HX
  have HBI := Lib.hid HB.out
  obtain ⟨w1, rfl⟩ : ∃ w1, w1 = W := ⟨_, rfl⟩
  go_wp2_with fail
  refine (valuesR_any _ _ _ _).mono ?_
  rintro e w2 ⟨rfl, hw2⟩
  have hb2 : Below w1.heap.size w1 w2 := by rw [hw2]; exact (Below.refl _ _).alloc (Nat.le_refl _) _
  have hg2 : w2.heap[w1.heap.size]? = some (.cells #[.slice ao X.length cap] 28 (0, 0)) := by rw [hw2]; exact heap_alloc_new w1 _
  have hc2 : w2.cell? ⟨w1.heap.size, 0, none⟩ = some (.slice ao X.length cap) := by simp [World.cell?, hg2]
  have HS := Lib.hid (sortedR_any w1.heap.size ao cap X w2 (by omega) (M.heap_lt hg2) hc2 (H1.out.below hb2))
  have HB2 := Lib.hid (HB.out.trans (hb2.mono HB.out.size))
  have HX2 := Lib.hid ((hb2.block _ (M.heap_lt HX.out)).trans HX.out)
  have H2 := Lib.hid (H1.out.below hb2)
  clear hw2 hb2 hg2 hc2 H1 HB HX HI0 HBI
  go_wp2_with fail
  refine HS.out.mono ?_
  rintro e w3 ⟨so, sc, m, rfl, hp, hs, hml, how, hb3⟩
  have HM := Lib.hid (srtR_one HN.out hp hs)
  have HB3 := Lib.hid (HB2.out.trans (hb3.mono HB2.out.size))
  have HX3 := Lib.hid ((hb3.block _ (M.heap_lt HX2.out)).trans HX2.out)
  have HSV := Lib.hid (RecsV.of_own how (fun x hx => (H2.out.ok x (hp.mem_iff.1 hx)).below hb3))
  have HML := Lib.hid hml
  have HND := Lib.hid (show (idsX m).Nodup by rw [HM.out]; exact srtR_ids HN.out)
  have HDM := Lib.hid (fun x (hx : x ∈ m) => HDL.out x (hp.mem_iff.1 hx))
  have HPL := Lib.hid (places_any m so sc w3 HSV.out (by omega))
  rw [hml] at HPL
  clear hp hs hml how hb3 HS H2 HB2 HX2 HDL
  go_wp2_with fail
  refine HPL.out.mono ?_
  rintro e w4 ⟨rfl, hpm, hb4⟩
  have HB4 := Lib.hid (HB3.out.trans (hb4.mono HB3.out.size))
  have HPM := Lib.hid hpm
  have HS4 := Lib.hid (HSV.out.below hb4)
  have HOK := Lib.hid (show ∀ y ∈ idsX m, IdI y from fun y hy => by
    obtain ⟨z, hz, rfl⟩ := List.mem_map.1 hy
    exact (HS4.out.ok z hz).id)
  have HX4 := Lib.hid ((hb4.block _ (M.heap_lt HX3.out)).trans HX3.out)
  obtain ⟨⟨x0, x1⟩, _⟩ := box2 HX4.out
  clear hpm hb4 HPL HSV HB3 HX3
  go_upto_region 3 with fail
  by_cases him : i ∈ idsX m
  · have hhas : Maps.has (pmap (idsX m) X.length) (klI i) = true := by rw [← HML.out, pmap_has HOK.out HI.out _ (by simp), take_ids]; exact decide_eq_true him
    have hidx : (idsX m)[(idsX m).idxOf i]? = some i := at_idx him
    have hlt : (idsX m).idxOf i < X.length := by have := List.idxOf_lt_length_iff.2 him; rw [← HML.out]; simpa using this
    have hat0 := pmap_at HOK.out HND.out hidx (.lit (.int .i64 0)) X.length hlt (by rw [List.length_map, HML.out]; omega)
    have HHAS := Lib.hid hhas
    have HAT := Lib.hid hat0
    have HIM := Lib.hid him
    obtain ⟨f, hf⟩ : ∃ f, (idsX m).idxOf i = f := ⟨_, rfl⟩
    rw [hf] at HAT hlt
    have HF := Lib.hid hf
    clear hhas hidx hat0 him hf
    go_wp2_with (at_lookup; refine wpList_lookup_own_ok_int _ rfl (.tmp 24) (.tmp 25) 81 rfl 27 3 .i64 id_keyed Tryz.underlying81 Tryz.underlying3 (Tryz.zeroValue3 _) w3.heap.size X.length (pmap (idsX m) X.length) rfl HPM.out (idV i) (klI i) rfl (key_id i HI.out) ?_; intro cc hat hwc; rw [HHAS.out]; obtain rfl : cc = (f : Int) := (by rw [HAT.out] at hat; cases hat; rfl); clear hat hwc)
    have HGR := Lib.hid (graph_any m so sc w4 HS4.out (by rw [HML.out]; omega) HND.out HDM.out)
    rw [HML.out] at HGR
    clear x0 x1 HHAS HAT
    refine HGR.out.mono ?_
    rintro e w5 ⟨go, gc, G, rfl, hout, hb5⟩
    have HB5 := Lib.hid (HB4.out.trans (hb5.mono HB4.out.size))
    have hed := OutAt.ed hout
    have hrl : (rowsG m X.length).length = X.length := by unfold rowsG; rw [List.length_map, List.length_take, HML.out]; omega
    rw [hrl] at hed
    have HLE := Lib.hid (leads_any (edP (nds m)) X.length go gc (f : Int) w5 (EdAt.ext hed fun j hj => by have := rows_ed m j (by rw [HML.out]; exact hj); rw [HML.out] at this; exact this) (by omega))
    have HS5 := Lib.hid (HS4.out.below hb5)
    have HP5 := Lib.hid (HPM.out.below hb5)
    clear hed hrl hout hb5 HGR HS4 HPM HB4
    go_wp2_with fail
    refine HLE.out.mono ?_
    rintro e W ⟨lo, lc, l, rfl, hle, hlo, hb6⟩
    have HB6 := Lib.hid (HB5.out.trans (hb6.mono HB5.out.size))
    have HSV := Lib.hid (HS5.out.below hb6)
    have HPW := Lib.hid (HP5.out.below hb6)
    have HLO := Lib.hid hlo
    have hll : ∀ v ∈ l, v < X.length := fun v hv => ((hle.mem v).1 hv).1
    have hlen : l.length ≤ 20 := Nat.le_trans (nodup_le X.length l (hle.srt.imp fun h => Nat.ne_of_lt h) hll) hl
    have HLL := Lib.hid hll
    have hUm : Unl (nds m) := by unfold Unl; rw [nds_ids]; exact HND.out
    have hlm : (nds m).length = X.length := by unfold nds; rw [List.length_map]; exact HML.out
    have HLT := Lib.hid (show LeadsTo (edR (nds m)) m.length ((idsX m).idxOf i : Nat) l by
      rw [HF.out, HML.out]
      exact leads_ext (fun u w => by rw [← hlm]; exact (edgeP hUm).trans (edgeR hUm).symm) hle)
    clear hle hlo hb6 hll hUm hlm HS5 HP5 HLE HB5
    go_wp2_with fail
    go_loopw [10, 11, 36] (fun pv mv kv wr => ∃ (k : Nat) (P : List Rv) (po : Option Addr) (pc : Nat) (D : List Id) (dn : Option Addr) (dc : Nat), pv = .slice po P.length pc ∧ mv = .slice dn D.length dc ∧ kv = .int .i64 k ∧ k ≤ l.length ∧ P = partR m (l.take k) ∧ D = missO m (l.take k) ∧ OwnR wr W.heap.size po pc P ∧ OwnL wr W.heap.size dn dc D ∧ Below W.heap.size W wr) (fun _ _ kv _ => l.length - (intOf kv).toNat)
    case atStart => exact ⟨0, [], none, 0, [], none, 0, rfl, rfl, rfl, Nat.zero_le _, by simp [partR], by simp [missO, partR], World.ownsRow_nil _ _ _ _, World.ownsRow_nil _ _ _ _, Below.refl _ _⟩
    case round =>
      obtain ⟨k, P, po, pc, D, dn, dc, rfl, rfl, rfl, hk, hP, hD, hpo, hdo, hb⟩ := hrel
      have hPl : P.length ≤ 20 := by rw [hP, partR_len, List.length_take]; omega
      have HDLE := Lib.hid (show D.length ≤ 200000 by
        rw [hD]
        have h1 := missO_len (s := m) (l := l.take k) (n := 10000) HDM.out (fun i hi => by rw [HML.out]; exact HLL.out i (List.mem_of_mem_take hi))
        have h2 : (l.take k).length ≤ 20 := by rw [List.length_take]; omega
        have := Nat.mul_le_mul_right 10000 h2
        omega)
      have HP := Lib.hid hP
      have HDD := Lib.hid hD
      have HPO := Lib.hid hpo
      have HDO := Lib.hid hdo
      have HBR := Lib.hid hb
      clear hP hD hpo hdo hb
      have hWr := HBR.out.size
      by_cases hkl : k < l.length
      · have hii : (k : Int) < (l.length : Int) := by omega
        obtain ⟨u, hu⟩ : ∃ u, l[k]? = some u := ⟨_, List.getElem?_eq_getElem hkl⟩
        obtain ⟨g, e1, hgl, hcell⟩ := iv_cell HLO.out hu
        subst e1
        have hcell2 := (HBR.out.cell (p := ⟨g, k, none⟩) hgl).trans hcell
        have hul := HLL.out u (List.mem_of_getElem? hu)
        have hul2 : u < m.length := by rw [HML.out]; exact hul
        obtain ⟨x, hx⟩ : ∃ x, m[u]? = some x := ⟨_, List.getElem?_eq_getElem hul2⟩
        obtain ⟨b, off, e2, hbl, hrec⟩ := HSV.out.row u x hx
        subst e2
        obtain ⟨c0, c1, c2, c3, c4, c5, c6, c7, c8, c9, c10, c11, c12, c13, c14, c15⟩ := hrec.below HBR.out hbl
        have HNP := Lib.hid (show P ++ [x] = partR m (l.take (k + 1)) by rw [List.take_add_one, hu]; simp only [Option.toList_some]; rw [partR_app, ← HP.out, partR_one hx])
        have HNM := Lib.hid (show missO m (l.take (k + 1)) = D ++ x.deps.filter fun d => !decide (d ∈ idsX m) by rw [missO_next hu hx, ← HDD.out])
        have huI : (u : Int) < (X.length : Int) := by omega
        have HSLE := HSV.out.le
        rw [HML.out] at HSLE
        unfold maxLen at HSLE
        obtain ⟨hsl1, hsl2⟩ := HSLE
        have hlo := HLO.out
        obtain ⟨ao', cap', e0, hlc1, hlc2, _, _⟩ := M.own_view hlo
        cases e0
        unfold maxLen at hlc2
        have hdx := HDM.out x (List.mem_of_getElem? hx)
        have HXD := Lib.hid (HSV.out.ok x (List.mem_of_getElem? hx)).deps
        have HREC := Lib.hid hrec
        clear hu hcell hx hrec hlo HP HDD
        go_upto_region 11 with fail
        clear hcell2
        go_upto_region 12 with (refine wpList_app recC 16 (fun _ => rfl) (by decide) recC_one (by rfl) (.tmp 40) (.tmp 45) 28 (by rfl) W.heap.size 38 i0 _ 160 Tryz.underlying28 hi0 hz0 hz1 hz2 (by decide) rfl po pc P x (recA x) rfl (by rfl) (by exact HPO.out) (by rfl) (by omega) (by omega) ?_; intro po' pc' w7 hown hmod hbel; have HPO7 := Lib.hid hown; have HDO7 := Lib.hid (own_beside HDO.out HPO.out (by decide) hmod); have HB7 := Lib.hid (HBR.out.trans hbel); clear hown hmod hbel)
        clear c0 c1 c2 c3 c4 c5 c6 c7 c8 c9 c10 c11 c12 c13 c14 c15
        obtain ⟨c0, c1, c2, c3, c4, c5, c6, c7, c8, c9, c10, c11, c12, c13, c14, c15⟩ := HREC.out.below HB7.out hbl
        obtain ⟨P2, hP2⟩ : ∃ P2, P2 = P ++ [x] := ⟨_, rfl⟩
        rw [← hP2] at HNP HPO7
        try rw [← hP2]
        have HPL2 := Lib.hid (show P2.length = P.length + 1 by rw [hP2]; simp)
        clear hP2 HPO HDO HBR
        go_upto_region 13 with fail
        clear c0 c1 c2 c3 c4 c5 c6 c7 c8 c9 c10 c11 c12 c13 c14 c15
        have hs7 := HB7.out.size
        obtain ⟨wa, rfl⟩ : ∃ wa, wa = w7 := ⟨_, rfl⟩
        obtain ⟨xo, hxo⟩ : ∃ xo, x.ao = xo := ⟨_, rfl⟩
        rw [hxo]
        have HXO := Lib.hid hxo
        clear hxo
        go_loopw [11, 54] (fun mv jv wr => ∃ (j : Nat) (E : List Id) (eo : Option Addr) (ec : Nat), mv = .slice eo E.length ec ∧ jv = .int .i64 j ∧ j ≤ x.deps.length ∧ E = D ++ (x.deps.take j).filter (fun d => !decide (d ∈ idsX m)) ∧ OwnL wr W.heap.size eo ec E ∧ OwnR wr W.heap.size po' pc' P2 ∧ Below W.heap.size W wr) (fun _ jv _ => x.deps.length - (intOf jv).toNat)
        case atStart => exact ⟨0, D, dn, dc, rfl, rfl, Nat.zero_le _, by simp, HDO7.out, HPO7.out, HB7.out⟩
        case round =>
          obtain ⟨j, E, eo, ec, rfl, rfl, hj, hE, heo, hpo, hbe⟩ := hrel
          have HEL := Lib.hid (show E.length ≤ 300000 by
            rw [hE, List.length_append]
            have h1 := List.length_filter_le (fun d => !decide (d ∈ idsX m)) (x.deps.take j)
            rw [List.length_take] at h1
            have := HDLE.out
            omega)
          have HE := Lib.hid hE
          have HEO := Lib.hid heo
          have HPO := Lib.hid hpo
          have HBE := Lib.hid hbe
          clear hE heo hpo hbe
          have hsq := HBE.out.size
          have HXQ := Lib.hid (HXD.out.below (B := 0) HBE.out)
          by_cases hjl : j < x.deps.length
          · have hjj : (j : Int) < (x.deps.length : Int) := by omega
            obtain ⟨d, hd⟩ : ∃ d, x.deps[j]? = some d := ⟨_, List.getElem?_eq_getElem hjl⟩
            have HD := Lib.hid hd
            obtain ⟨b2, off2, e2, hbl2, y0, y1⟩ := HXQ.out.row j d hd
            have HID := Lib.hid (HXQ.out.ok d (List.mem_of_getElem? hd))
            obtain rfl : xo = some ⟨b2, off2, none⟩ := HXO.out.symm.trans e2
            clear hd e2
            go_upto_region 15 with fail
            obtain ⟨w8, hw8⟩ : ∃ w8, w8 = wr.alloc (idO d) := ⟨_, rfl⟩
            have hb8 : Below wr.heap.size wr w8 := by rw [hw8]; exact (Below.refl _ _).alloc (Nat.le_refl _) _
            have HB8 := Lib.hid (HBE.out.trans (hb8.mono hsq))
            have HP8 := Lib.hid (HPW.out.below HB8.out)
            have HEO8 := Lib.hid (show OwnL w8 W.heap.size eo ec E by rw [hw8]; exact HEO.out.alloc _)
            have HPO8 := Lib.hid (show OwnR w8 W.heap.size po' pc' P2 by rw [hw8]; exact HPO.out.alloc _)
            obtain ⟨⟨z0, z1⟩, _⟩ := box2 (show w8.heap[wr.heap.size]? = some (idO d) by rw [hw8]; exact heap_alloc_new wr _)
            rw [← hw8]
            clear hw8 hb8 y0 y1
            have hs8 := HB8.out.size
            have hel := HEL.out
            by_cases hdm : d ∈ idsX m
            · have hhas : Maps.has (pmap (idsX m) X.length) (klI d) = true := by rw [← HML.out, pmap_has HOK.out HID.out _ (by simp), take_ids]; exact decide_eq_true hdm
              have HHAS := Lib.hid hhas
              have HN := Lib.hid (show E = D ++ (x.deps.take (j + 1)).filter (fun d => !decide (d ∈ idsX m)) by rw [List.take_add_one, HD.out, List.filter_append, ← List.append_assoc, ← HE.out, Option.toList_some, fil_in hdm, List.append_nil])
              clear hhas hdm
              go_wp2_with (at_lookup; refine wpList_lookup_own_ok_int _ rfl (.tmp 59) (.tmp 60) 81 rfl 27 3 .i64 id_keyed Tryz.underlying81 Tryz.underlying3 (Tryz.zeroValue3 _) w3.heap.size X.length (pmap (idsX m) X.length) rfl HP8.out (idV d) (klI d) rfl (key_id d HID.out) ?_; intro cc hat hwc; rw [HHAS.out]; clear hat hwc)
              go_roundw
              case rel => exact ⟨j + 1, E, eo, ec, rfl, by go_num, by omega, HN.out, HEO8.out, HPO8.out, HB8.out⟩
              case measure => simp [intOf]; omega
            · have hhas : Maps.has (pmap (idsX m) X.length) (klI d) = false := by rw [← HML.out, pmap_has HOK.out HID.out _ (by simp), take_ids]; exact decide_eq_false hdm
              have HHAS := Lib.hid hhas
              have HN := Lib.hid (show E ++ [d] = D ++ (x.deps.take (j + 1)).filter (fun d => !decide (d ∈ idsX m)) by rw [List.take_add_one, HD.out, List.filter_append, ← List.append_assoc, ← HE.out, Option.toList_some, fil_out hdm])
              clear hhas hdm
              go_upto_region 17 with (at_lookup; refine wpList_lookup_own_ok_int _ rfl (.tmp 59) (.tmp 60) 81 rfl 27 3 .i64 id_keyed Tryz.underlying81 Tryz.underlying3 (Tryz.zeroValue3 _) w3.heap.size X.length (pmap (idsX m) X.length) rfl HP8.out (idV d) (klI d) rfl (key_id d HID.out) ?_; intro cc hat hwc; rw [HHAS.out]; clear hat hwc)
              go_wp2_with (refine wpList_app idC 2 (fun _ => rfl) (by decide) idC_one (by rfl) (.tmp 66) (.tmp 68) 25 (by rfl) W.heap.size 27 i1 _ 16 Tryz.underlying25 hi1 hy0 hy1 hy2 (by decide) rfl eo ec E d #[.int .i64 d.r, .int .i64 d.n] rfl (by rfl) (by exact HEO8.out) (by rfl) (by omega) (by omega) ?_; intro eo' ec' w9 hown hmod hbel; have HEO9 := Lib.hid hown; have HPO9 := Lib.hid (own_beside HPO8.out HEO8.out (by decide) hmod); have HB9 := Lib.hid (HB8.out.trans hbel); clear hown hmod hbel)
              clear z0 z1
              go_roundw
              case rel => exact ⟨j + 1, E ++ [d], eo', ec', by simp, by go_num, by omega, HN.out, HEO9.out, HPO9.out, HB9.out⟩
              case measure => simp [intOf]; omega
          · obtain rfl : j = x.deps.length := by omega
            have hjj : ¬ (x.deps.length : Int) < (x.deps.length : Int) := by omega
            have HN := Lib.hid (show E = missO m (l.take (k + 1)) by rw [HNM.out, HE.out, List.take_length])
            go_wp2_with fail
            go_roundw
            case rel => exact ⟨k + 1, P2, po', pc', E, eo, ec, by first | rfl | rw [HPL2.out], rfl, by go_num, by omega, HNP.out, HN.out, HPO.out, HEO.out, HBE.out⟩
            case measure => simp [intOf]; omega
      · obtain rfl : k = l.length := by omega
        have hii : ¬ (l.length : Int) < (l.length : Int) := by omega
        have HPF := Lib.hid (show P = partR m l by rw [HP.out, List.take_length])
        have HDF := Lib.hid (show D = missO m l by rw [HDD.out, List.take_length])
        have HDV := Lib.hid (IdsV.of_own (B := W.heap.size) (l := D) (by have := HDO.out; unfold OwnL at this; exact this) (fun d hd => by
          rw [HDF.out] at hd
          obtain ⟨x, hx, hdx⟩ := List.mem_flatMap.1 hd
          obtain ⟨u, hu, rfl⟩ := List.mem_map.1 hx
          have hul : u < m.length := by rw [HML.out]; exact HLL.out u hu
          have hxm : m.getD u default ∈ m := by rw [List.getD, List.getElem?_eq_getElem hul]; exact List.getElem_mem hul
          exact (HSV.out.ok _ hxm).deps.ok d (List.mem_filter.1 hdx).1))
        have HSET := Lib.hid (set_any D dn dc wr HDV.out (by have := HDLE.out; omega))
        go_wp2_with fail
        refine HSET.out.mono ?_
        rintro e wf ⟨fo, fc, rfl, hfo, hbf⟩
        have HF1 := Lib.hid (show OwnR wf w.heap.size po pc P from own_base (Go.Proofs.YtndfhejfhfhbdaaGreatDoor.R.own_below HPO.out hbf) (fun q hq => Nat.le_trans HB6.out.size (HPO.out.lt q hq).1))
        have HF2 := Lib.hid (show OwnL wf w.heap.size fo fc (setI D) from own_base hfo (fun q hq => Nat.le_trans (Nat.le_trans HB6.out.size hWr) (hfo.lt q hq).1))
        have HF3 := Lib.hid ((HB6.out.trans (HBR.out.mono HB6.out.size)).trans (hbf.mono (Nat.le_trans HB6.out.size hWr)))
        have HCL := Lib.hid (show ClO (srtR X) i P (setI D) by
          rw [← HM.out]
          exact ⟨fun h => absurd HIM.out h, fun _ => ⟨l, HLT.out, HPF.out, by rw [HDF.out]⟩⟩)
        clear hfo hbf HSET
        go_wp2_with fail
        go_ret2
        exact ⟨po, pc, P, fo, fc, setI D, rfl, HCL.out, HF1.out, HF2.out, HF3.out⟩
  · have hhas : Maps.has (pmap (idsX m) X.length) (klI i) = false := by rw [← HML.out, pmap_has HOK.out HI.out _ (by simp), take_ids]; exact decide_eq_false him
    have HHAS := Lib.hid hhas
    have HIM := Lib.hid (show ClO (srtR X) i [] [] by
      rw [← HM.out]
      exact ⟨fun _ => ⟨rfl, rfl⟩, fun h => absurd h him⟩)
    clear hhas him
    go_wp2_with (at_lookup; refine wpList_lookup_own_ok_int _ rfl (.tmp 24) (.tmp 25) 81 rfl 27 3 .i64 id_keyed Tryz.underlying81 Tryz.underlying3 (Tryz.zeroValue3 _) w3.heap.size X.length (pmap (idsX m) X.length) rfl HPM.out (idV i) (klI i) rfl (key_id i HI.out) ?_; intro cc hat hwc; rw [HHAS.out]; clear hat hwc)
    go_ret2
    exact ⟨none, 0, [], none, 0, [], rfl, HIM.out, World.ownsRow_nil _ _ _ _, World.ownsRow_nil _ _ _ _, HB4.out⟩
end Go.Proofs.YtndfhejfhfhbdaaGreatDoor.O
