/- The document's Order. -/
import Derived.Test.YtndfhejfhfhbdaaGreatDoorMrg24
import Derived.Test.YtndfhejfhfhbdaaGreatDoorMrg21
import Derived.Test.YtndfhejfhfhbdaaGreatDoorMrg15
namespace Go.Proofs.YtndfhejfhfhbdaaGreatDoor.O
open Go.RowKit Go.Proofs.YtndfhejfhfhbdaaGreatDoor.M Go.BigFrame Go.Proofs.YtndfhejfhfhbdaaGreatDoor.K Go.Proofs.YtndfhejfhfhbdaaGreatDoor.T
set_option linter.unusedVariables false
set_option linter.unusedSimpArgs false

theorem all_ids {X : List Rv} (h : ∀ j y, j < X.length → (idsX X)[j]? = some y → atI (idsX X) y = (j : Int)) : (idsX X).Nodup := by
  rw [List.nodup_iff_pairwise_ne, List.pairwise_iff_getElem]
  intro i j hi hj hij e
  have h1 := h i _ (by simpa using hi) (List.getElem?_eq_getElem hi)
  have h2 := h j _ (by simpa using hj) (List.getElem?_eq_getElem hj)
  rw [e] at h1
  omega
set_option maxRecDepth 100000 in
set_option maxHeartbeats 40000000 in
theorem reforder_any (X : List Rv) (ao : Option Addr) (cap : Nat) (w : World) (h : RecsV w ao cap X) (hl : X.length ≤ 20) (hdl : ∀ x ∈ X, x.deps.length ≤ 10000) (hkl : ∀ x ∈ X, x.cmd.key.size ≤ 1000000) (v : Int) (hv : errO (okR X) (nds X) = v) (a : List Id) (ha : v = 0 → Row (byIds (nds X)) a) :
    Calls Tryz.prog 17 #[.slice ao X.length cap] w fun e w' => ∃ (oo : Option Addr) (oc : Nat) (out : List Id), e = .returned (.tuple #[.slice oo out.length oc, .int .i64 v]) ∧ ((v = 0 → out = a) ∧ (v ≠ 0 → out = []) ∧ OwnL w' w.heap.size oo oc out ∧ Below w.heap.size w w') := by
  obtain ⟨hl1, hl2⟩ := h.le
  unfold maxLen at hl2
  obtain ⟨i0, hi, hz0, hz1, hz2⟩ := info_parts info_rec
  obtain ⟨i1, hi1, hy0, hy1, hy2⟩ := info_parts info_id
  have HV := Lib.hid hv
  have HROW := Lib.hid ha
  have H := Lib.hid h
  have HDL := Lib.hid hdl
  have HKL := Lib.hid hkl
  clear h hdl hkl hv ha
  go_enter Tryz.func17, Tryz.ntmps17
  go_wp2_with fail
  go_loopw [4] (fun kv wr => ∃ (k : Nat), kv = .int .i64 k ∧ k ≤ X.length ∧ (∀ x ∈ X.take k, goodR x = true) ∧ Below w.heap.size w wr) (fun kv _ => X.length - (intOf kv).toNat)
  case atStart => exact ⟨0, rfl, Nat.zero_le _, by simp, Below.refl _ _⟩
  case round =>
    obtain ⟨k, rfl, hk, hg, hb⟩ := hrel
    have HG := Lib.hid hg
    have HBR := Lib.hid hb
    clear hg hb
    have hWr := HBR.out.size
    by_cases hkl : k < X.length
    · have hii : (k : Int) < (X.length : Int) := by omega
      obtain ⟨x, hx⟩ : ∃ x, X[k]? = some x := ⟨_, List.getElem?_eq_getElem hkl⟩
      have HX := Lib.hid hx
      obtain ⟨b, off, e0, hbl, hrec⟩ := H.out.row k x hx
      subst e0
      have HREC := Lib.hid hrec
      obtain ⟨c0, c1, c2, c3, c4, c5, c6, c7, c8, c9, c10, c11, c12, c13, c14, c15⟩ := hrec.below HBR.out hbl
      have hxm := List.mem_of_getElem? hx
      obtain ⟨rb, hrb⟩ : ∃ b, recOk x = b := ⟨_, rfl⟩
      obtain ⟨sb, hsb⟩ : ∃ b, decide (x.st = 3) = b := ⟨_, rfl⟩
      have HGD := Lib.hid (show goodR x = (rb && sb) by unfold goodR; rw [hrb, hsb])
      have HC := Lib.hid (refright9_any x wr ((H.out.ok x hxm).below HBR.out) (by have := HDL.out x hxm; omega) (HKL.out x hxm) _ hrb)
      clear hrb hxm hx hrec
      cases rb with
      | false =>
        have HE := Lib.hid (show v = 4 by rw [← HV.out, okR_no (List.mem_of_getElem? HX.out) (by rw [HGD.out]; rfl), errO_form])
        clear hsb
        go_wp2_with fail
        refine HC.out.mono ?_
        rintro e w2 ⟨rfl, hb2⟩
        have HB2 := Lib.hid (HBR.out.trans (hb2.mono hWr))
        clear hb2 c0 c1 c2 c3 c4 c5 c6 c7 c8 c9 c10 c11 c12 c13 c14 c15
        go_wp2_with fail
        go_ret2
        exact ⟨none, 0, [], ret_val (by rw [HE.out]; rfl), fun h => absurd h (by rw [HE.out]; decide), fun _ => rfl, World.ownsRow_nil _ _ _ _, HB2.out⟩
      | true =>
        go_wp2_with fail
        refine HC.out.mono ?_
        rintro e w2 ⟨rfl, hb2⟩
        have HB2 := Lib.hid (HBR.out.trans (hb2.mono hWr))
        clear hb2 c0 c1 c2 c3 c4 c5 c6 c7 c8 c9 c10 c11 c12 c13 c14 c15
        obtain ⟨c0, c1, c2, c3, c4, c5, c6, c7, c8, c9, c10, c11, c12, c13, c14, c15⟩ := HREC.out.below HB2.out hbl
        cases sb with
        | false =>
          have hst : ¬ x.st = 3 := of_decide_eq_false hsb
          have HE := Lib.hid (show v = 4 by rw [← HV.out, okR_no (List.mem_of_getElem? HX.out) (by rw [HGD.out]; rfl), errO_form])
          clear hsb
          go_wp2_with fail
          go_ret2
          exact ⟨none, 0, [], ret_val (by rw [HE.out]; rfl), fun h => absurd h (by rw [HE.out]; decide), fun _ => rfl, World.ownsRow_nil _ _ _ _, HB2.out⟩
        | true =>
          have hst : x.st = 3 := of_decide_eq_true hsb
          have HN := Lib.hid (take_next HG.out HX.out HGD.out)
          clear hsb
          go_wp2_with fail
          go_roundw
          case rel => exact ⟨k + 1, by go_num, by omega, HN.out, HB2.out⟩
          case measure => simp [intOf]; omega
    · obtain rfl : k = X.length := by omega
      have hii : ¬ (X.length : Int) < (X.length : Int) := by omega
      have HOKR := Lib.hid (show okR X = true from List.all_eq_true.2 fun x hx => HG.out x (by rw [List.take_length]; exact hx))
      have HBR0 := Lib.hid HBR.out
      clear HG HBR
      go_wp2_with fail
      clear hii
      obtain ⟨wa, rfl⟩ : ∃ wa, wa = wr := ⟨_, rfl⟩
      go_loopw [5] (fun iv wr => ∃ k : Nat, iv = .int .i64 k ∧ k ≤ X.length ∧ Below w.heap.size w wr ∧ (∀ j y, j < k → (idsX X)[j]? = some y → atI (idsX X) y = (j : Int))) (fun iv _ => X.length - (intOf iv).toNat)
      case atStart => exact ⟨0, rfl, Nat.zero_le _, HBR0.out, fun _ _ h => absurd h (by omega)⟩
      case round =>
        obtain ⟨k, rfl, hk, hb, hno⟩ := hrel
        have HNO := Lib.hid hno
        have HBR := Lib.hid hb
        clear hno hb HBR0
        by_cases hkl : k < X.length
        · have hii : (k : Int) < (X.length : Int) := by omega
          obtain ⟨x, hx⟩ : ∃ x, X[k]? = some x := ⟨_, List.getElem?_eq_getElem hkl⟩
          obtain ⟨b, off, e0, hbl, hrec⟩ := H.out.row k x hx
          subst e0
          have hrb := hrec.below HBR.out hbl
          obtain ⟨c0, c1⟩ := And.intro hrb.c0 hrb.c1
          have hxk : (idsX X)[k]? = some x.id := by rw [List.getElem?_map, hx]; rfl
          have HXK := Lib.hid hxk
          obtain ⟨a, ha⟩ : ∃ a, atI (idsX X) x.id = a := ⟨_, rfl⟩
          have HA := Lib.hid ha
          have HC := Lib.hid (refat_any X _ cap x.id wr (H.out.below HBR.out) a ha)
          clear hx hxk hrec hrb ha
          by_cases hak : a = (k : Int)
          · subst hak
            have hne : ((k : Int) != (k : Int)) = false := by simp
            go_wp2_with fail
            refine HC.out.mono ?_
            rintro e w1 ⟨rfl, hb1⟩
            have HB1 := Lib.hid (HBR.out.trans (hb1.mono HBR.out.size))
            have HN := Lib.hid (show ∀ j y, j < k + 1 → (idsX X)[j]? = some y → atI (idsX X) y = (j : Int) from fun j y hj hy => by
              by_cases e : j = k
              · subst e; rw [HXK.out] at hy; cases hy; exact HA.out
              · exact HNO.out j y (by omega) hy)
            clear hb1 c0 c1
            go_wp2_with fail
            go_roundw
            case rel => exact ⟨k + 1, by go_num, by omega, HB1.out, HN.out⟩
            case measure => simp [intOf]; omega
          · have hne : (a != (k : Int)) = true := by simpa using hak
            have HE := Lib.hid (show v = 9 by
              rw [← HV.out, HOKR.out]
              refine errO_there fun hn => hak ?_
              rw [← HA.out]
              exact atI_some (unl_nds.1 hn) HXK.out)
            clear hak
            go_wp2_with fail
            refine HC.out.mono ?_
            rintro e w1 ⟨rfl, hb1⟩
            have HB1 := Lib.hid (HBR.out.trans (hb1.mono HBR.out.size))
            clear hb1 c0 c1
            go_wp2_with fail
            go_ret2
            exact ⟨none, 0, [], ret_val (by rw [HE.out]; rfl), fun h => absurd h (by rw [HE.out]; decide), fun _ => rfl, World.ownsRow_nil _ _ _ _, HB1.out⟩
        · obtain rfl : k = X.length := by omega
          have hii : ¬ (X.length : Int) < (X.length : Int) := by omega
          have HN := Lib.hid (all_ids HNO.out)
          have HBR0 := Lib.hid HBR.out
          clear HNO HBR
          go_wp2_with fail
          clear hii
          obtain ⟨wa, rfl⟩ : ∃ wa, wa = wr := ⟨_, rfl⟩
          go_loopw [6] (fun iv wr => ∃ k : Nat, iv = .int .i64 k ∧ k ≤ X.length ∧ Below w.heap.size w wr ∧ (∀ x ∈ X.take k, ∀ d ∈ x.deps, d ∈ idsX X)) (fun iv _ => X.length - (intOf iv).toNat)
          case atStart => exact ⟨0, rfl, Nat.zero_le _, HBR0.out, by simp⟩
          case round =>
            obtain ⟨k, rfl, hk, hb, hg⟩ := hrel
            have HG := Lib.hid hg
            have HBR := Lib.hid hb
            clear hg hb HBR0
            have hWr := HBR.out.size
            by_cases hkl : k < X.length
            · have hii : (k : Int) < (X.length : Int) := by omega
              obtain ⟨x, hx⟩ : ∃ x, X[k]? = some x := ⟨_, List.getElem?_eq_getElem hkl⟩
              have HX := Lib.hid hx
              obtain ⟨b, off, e0, hbl, hrec⟩ := H.out.row k x hx
              subst e0
              have HREC := Lib.hid hrec
              have HD := Lib.hid ((H.out.ok x (List.mem_of_getElem? hx)).deps)
              have hdx := HDL.out x (List.mem_of_getElem? hx)
              obtain ⟨hdl1, hdl2⟩ := HD.out.le
              unfold maxLen at hdl2
              obtain ⟨xo, hxo⟩ : ∃ xo, x.ao = xo := ⟨_, rfl⟩
              have HXO := Lib.hid hxo
              clear hx hrec hxo
              obtain ⟨wb, rfl⟩ : ∃ wb, wb = wr := ⟨_, rfl⟩
              go_wp2_with fail
              go_loopw [7] (fun kv wr => ∃ (j : Nat), kv = .int .i64 j ∧ j ≤ x.deps.length ∧ (∀ d ∈ x.deps.take j, d ∈ idsX X) ∧ Below wb.heap.size wb wr) (fun kv _ => x.deps.length - (intOf kv).toNat)
              case atStart => exact ⟨0, rfl, Nat.zero_le _, by simp, Below.refl _ _⟩
              case round =>
                obtain ⟨j, rfl, hj, hgj, hbq⟩ := hrel
                have HGJ := Lib.hid hgj
                have HBQ := Lib.hid hbq
                clear hgj hbq
                have HBA := Lib.hid (HBR.out.trans (HBQ.out.mono hWr))
                have hsq := HBA.out.size
                have c13 := (HREC.out.below HBA.out hbl).c13
                rw [HXO.out] at c13
                by_cases hjl : j < x.deps.length
                · have hjj : (j : Int) < (x.deps.length : Int) := by omega
                  obtain ⟨d, hd⟩ : ∃ d, x.deps[j]? = some d := ⟨_, List.getElem?_eq_getElem hjl⟩
                  have HDJ := Lib.hid hd
                  obtain ⟨b2, off2, e2, hbl2, y0, y1⟩ := (HD.out.below (B := 0) HBA.out).row j d hd
                  obtain rfl : xo = some ⟨b2, off2, none⟩ := HXO.out.symm.trans e2
                  obtain ⟨a, ha⟩ : ∃ a, atI (idsX X) d = a := ⟨_, rfl⟩
                  have HA := Lib.hid ha
                  have HC := Lib.hid (refat_any X _ cap d wr (H.out.below HBA.out) a ha)
                  clear hd e2 ha
                  by_cases ha0 : a < 0
                  · have HE := Lib.hid (show v = 8 by
                      rw [← HV.out, HOKR.out]
                      refine errO_none (unl_nds.2 HN.out) (miss_yes (List.mem_of_getElem? HX.out) (List.mem_of_getElem? HDJ.out) ?_)
                      exact atI_neg.1 (by rw [HA.out]; exact ha0))
                    go_wp2_with fail
                    refine HC.out.mono ?_
                    rintro e w1 ⟨rfl, hb1⟩
                    have HB1 := Lib.hid (HBA.out.trans (hb1.mono hsq))
                    clear hb1 c13 y0 y1
                    go_wp2_with fail
                    go_ret2
                    exact ⟨none, 0, [], ret_val (by rw [HE.out]; rfl), fun h => absurd h (by rw [HE.out]; decide), fun _ => rfl, World.ownsRow_nil _ _ _ _, HB1.out⟩
                  · have HNJ := Lib.hid (take_next (p := fun d => d ∈ idsX X) HGJ.out HDJ.out (Classical.byContradiction fun hno => ha0 (by rw [← HA.out]; exact atI_neg.2 hno)))
                    go_wp2_with fail
                    refine HC.out.mono ?_
                    rintro e w1 ⟨rfl, hb1⟩
                    have HB1 := Lib.hid (HBQ.out.trans (hb1.mono HBQ.out.size))
                    clear hb1 c13 y0 y1
                    go_wp2_with fail
                    go_roundw
                    case rel => exact ⟨j + 1, by go_num, by omega, HNJ.out, HB1.out⟩
                    case measure => simp [intOf]; omega
                · obtain rfl : j = x.deps.length := by omega
                  have hjj : ¬ (x.deps.length : Int) < (x.deps.length : Int) := by omega
                  have HNK := Lib.hid (take_next (p := fun x => ∀ d ∈ x.deps, d ∈ idsX X) HG.out HX.out (fun d hd => HGJ.out d (by rw [List.take_length]; exact hd)))
                  go_wp2_with fail
                  go_roundw
                  case rel => exact ⟨k + 1, by go_num, by omega, HBA.out, HNK.out⟩
                  case measure => simp [intOf]; omega
            · obtain rfl : k = X.length := by omega
              have hii : ¬ (X.length : Int) < (X.length : Int) := by omega
              have HU := Lib.hid (unl_nds.2 HN.out)
              have HV0 := Lib.hid (show v = 0 by
                rw [← HV.out, HOKR.out]
                exact errO_fine HU.out (miss_no fun x hx => HG.out x (by rw [List.take_length]; exact hx)))
              have HB1 := Lib.hid HBR.out
              have H1 := Lib.hid (H.out.below HBR.out)
              have HS := Lib.hid (refsorted_any X ao cap false wr H1.out (by omega))
              clear HG HBR
              go_wp2_with fail
              clear hii
              refine HS.out.mono ?_
              rintro e w3 ⟨so, sc, m, rfl, hp, hs, hml, how, hb3⟩
              have HM := Lib.hid (srtR_one HN.out hp hs)
              have HP := Lib.hid hp
              have HB3 := Lib.hid (HB1.out.trans (hb3.mono HB1.out.size))
              have HSV := Lib.hid (RecsV.of_own how (fun x hx => (H1.out.ok x (hp.mem_iff.1 hx)).below hb3))
              have HML := Lib.hid hml
              have HGR := Lib.hid (refgraph_any m so sc w3 HSV.out (by omega) (fun x hx => HDL.out x (hp.mem_iff.1 hx)))
              rw [hml] at HGR
              clear hp hs hml how hb3 HS H1 HB1
              go_wp2_with fail
              refine HGR.out.mono ?_
              rintro e w4 ⟨go, gc, rfl, ⟨G, hout⟩, hb4⟩
              have HB4 := Lib.hid (HB3.out.trans (hb4.mono HB3.out.size))
              have hed := OutZ.ed hout
              have hrl : (rowsZ m X.length).length = X.length := by unfold rowsZ; rw [List.length_map, List.length_take, HML.out]; omega
              rw [hrl] at hed
              obtain ⟨L, q, hio, haL⟩ := HROW.out HV0.out
              have hnm : byIds (nds X) = nds m := by rw [HM.out, srtR_nd]
              rw [hnm] at hio haL
              have hlm : (nds m).length = X.length := by unfold nds; rw [List.length_map]; exact HML.out
              rw [hlm] at hio
              have HAL := Lib.hid haL
              have HCO := Lib.hid (refcomps_any (edR (nds m)) X.length go gc w4 L q (EdAt.ext hed fun j hj => by have := rowsZ_ed m j (by rw [HML.out]; exact hj); rw [HML.out] at this; exact this) (by omega) hio)
              have HS4 := Lib.hid (HSV.out.below hb4)
              clear hed hrl hout hb4 HGR HSV HB3
              go_wp2_with fail
              refine HCO.out.mono ?_
              rintro e W ⟨co, cc, R, rfl, hou, hb5⟩
              have HB5 := Lib.hid (HB4.out.trans (hb5.mono HB4.out.size))
              have HSV := Lib.hid (HS4.out.below hb5)
              have HIO := Lib.hid hio
              have HOU := Lib.hid hou
              have HL := Lib.hid (show L.length ≤ 20 from Nat.le_trans (comps_len hio.co) hl)
              have HIS := Lib.hid (show (idsX m).Nodup by rw [HM.out]; exact srtR_ids HN.out)
              have HRL := Lib.hid (show (rowI (nds m) L).length ≤ 20 by
                have hU2 : Unl (nds m) := by unfold Unl; rw [nds_ids, HM.out]; exact srtR_ids HN.out
                have h1 : Cmps (edR (nds m)) X.length L q := Cmps.of hio.co
                rw [← hlm] at h1
                have := rowI_len h1 hU2
                omega)
              have HCE := Lib.hid (fun (k : Nat) (c : List Nat) (hc : L[k]? = some c) => comp_rows hio.co hc)
              clear hio haL hnm hlm hou hb5 HS4 HCO HB4 HROW
              go_wp2_with fail
              have hLl := HL.out
              obtain ⟨wa, rfl⟩ : ∃ wa, wa = wr := ⟨_, rfl⟩
              go_loopw [10, 11] (fun ov kv wr => ∃ (k : Nat) (out : List Id) (oo : Option Addr) (oc : Nat), ov = .slice oo out.length oc ∧ kv = .int .i64 k ∧ k ≤ L.length ∧ out = rowI (nds m) (L.take k) ∧ OwnL wr W.heap.size oo oc out ∧ Below W.heap.size W wr) (fun _ kv _ => L.length - (intOf kv).toNat)
              case atStart => exact ⟨0, [], none, 0, rfl, rfl, Nat.zero_le _, by simp [rowI], World.ownsRow_nil _ _ _ _, Below.refl _ _⟩
              case round =>
                obtain ⟨k, out, oo, oc, rfl, rfl, hk, hout, hown, hb⟩ := hrel
                have HO := Lib.hid hout
                have HOW := Lib.hid hown
                have HBR := Lib.hid hb
                have hol : out.length ≤ 20 := by rw [hout]; exact Nat.le_trans (rowI_pre _ _ _) HRL.out
                clear hout hown hb
                have hWr := HBR.out.size
                by_cases hkl : k < L.length
                · have hii : (k : Int) < (L.length : Int) := by omega
                  obtain ⟨c, hc⟩ : ∃ c, L[k]? = some c := ⟨_, List.getElem?_eq_getElem hkl⟩
                  have HC := Lib.hid hc
                  obtain ⟨g, ro, rc, e0, hcell, hrc1, hrc2, hrow⟩ := OutAt.get HOU.out (Below.refl _ _) hc
                  obtain ⟨hcp, hcx, hcl⟩ := HCE.out k c hc
                  have HCP := Lib.hid (And.intro hcp hcx)
                  have HROWC := Lib.hid hrow
                  subst e0
                  have hgl := World.block_lt_of_cell? _ _ hcell
                  have HCELL := Lib.hid hcell
                  unfold maxLen at hrc2
                  have hcl20 : c.length ≤ 20 := by omega
                  clear hc hcp hcx hrow hcell
                  go_wp2_with fail
                  obtain ⟨wb, rfl⟩ : ∃ wb, wb = wr := ⟨_, rfl⟩
                  go_loopw [12, 13] (fun pv jv wr => ∃ (j : Nat) (P : List Rv) (po : Option Addr) (pc : Nat), pv = .slice po P.length pc ∧ jv = .int .i64 j ∧ j ≤ c.length ∧ P = partR m (c.take j) ∧ OwnR wr wb.heap.size po pc P ∧ Below wb.heap.size wb wr) (fun _ jv _ => c.length - (intOf jv).toNat)
                  case atStart => exact ⟨0, [], none, 0, rfl, rfl, Nat.zero_le _, by simp [partR], World.ownsRow_nil _ _ _ _, Below.refl _ _⟩
                  case round =>
                    obtain ⟨j, P, po, pc, rfl, rfl, hj, hP, hpo, hbp⟩ := hrel
                    have HPP := Lib.hid hP
                    have HPO := Lib.hid hpo
                    have HBP := Lib.hid hbp
                    have hPl : P.length = j := by rw [hP, partR_len, List.length_take]; omega
                    have hPl2 : P.length ≤ 20 := by omega
                    have HPL := Lib.hid hPl
                    clear hP hpo hbp hPl
                    have hsp := HBP.out.size
                    have HBA := Lib.hid (HBR.out.trans (HBP.out.mono hWr))
                    have hcell := (HBA.out.cell (p := ⟨g, k, none⟩) hgl).trans HCELL.out
                    by_cases hjl : j < c.length
                    · have hjj : (j : Int) < (c.length : Int) := by omega
                      obtain ⟨i, hi0⟩ : ∃ i, c[j]? = some i := ⟨_, List.getElem?_eq_getElem hjl⟩
                      obtain ⟨p, e1, hpl, hcell2⟩ := HROWC.out j i hi0
                      subst e1
                      have hcell3 := (HBA.out.cell (p := ⟨p, j, none⟩) hpl).trans hcell2
                      have hil := HCP.out.2 i (List.mem_of_getElem? hi0)
                      have hil2 : i < m.length := by rw [HML.out]; exact hil
                      obtain ⟨x, hx⟩ : ∃ x, m[i]? = some x := ⟨_, List.getElem?_eq_getElem hil2⟩
                      obtain ⟨b, off, e2, hbl, hrec⟩ := HSV.out.row i x hx
                      subst e2
                      obtain ⟨c0, c1, c2, c3, c4, c5, c6, c7, c8, c9, c10, c11, c12, c13, c14, c15⟩ := hrec.below HBA.out hbl
                      have HN := Lib.hid (show P ++ [x] = partR m (c.take (j + 1)) by rw [List.take_add_one, hi0]; simp only [Option.toList_some]; rw [partR_app, ← HPP.out, partR_one hx])
                      have hiI : (i : Int) < (X.length : Int) := by omega
                      have HSLE := HSV.out.le
                      rw [HML.out] at HSLE
                      unfold maxLen at HSLE
                      obtain ⟨hsl1, hsl2⟩ := HSLE
                      clear hi0 hcell2 hx hrec
                      go_wp2_with (refine wpList_app recC 16 (fun _ => rfl) (by decide) recC_one (by rfl) (.tmp 98) (.tmp 109) 28 (by rfl) wb.heap.size 38 i0 _ 160 Tryz.underlying28 hi hz0 hz1 hz2 (by decide) rfl po pc P x (recA x) rfl (by rfl) (by exact HPO.out) (by rfl) (by omega) (by omega) ?_; intro oo' oc' w7 hown hmod hbel; have HOW7 := Lib.hid hown; have HBE7 := Lib.hid hbel; clear hown hmod hbel)
                      clear c0 c1 c2 c3 c4 c5 c6 c7 c8 c9 c10 c11 c12 c13 c14 c15 hcell3
                      go_roundw
                      case rel => exact ⟨j + 1, P ++ [x], oo', oc', by simp, by go_num, by omega, HN.out, HOW7.out, HBP.out.trans HBE7.out⟩
                      case measure => simp [intOf]; omega
                    · obtain rfl : j = c.length := by omega
                      have hjj : ¬ (c.length : Int) < (c.length : Int) := by omega
                      have hPm : P = partR m c := by rw [HPP.out, List.take_length]
                      have HPM := Lib.hid hPm
                      have HPV := Lib.hid (RecsV.of_own HPO.out (fun x hx => by
                        rw [hPm] at hx
                        obtain ⟨i, hi1, rfl⟩ := List.mem_map.1 hx
                        have hil2 : i < m.length := by rw [HML.out]; exact HCP.out.2 i hi1
                        have : m.getD i default ∈ m := by rw [List.getD, List.getElem?_eq_getElem hil2]; exact List.getElem_mem hil2
                        exact (HSV.out.ok _ this).below HBA.out))
                      have HPI := Lib.hid (show (idsX P).Nodup by rw [hPm]; exact part_ids HIS.out HCP.out.1 (fun x hx => by rw [HML.out]; exact HCP.out.2 x hx))
                      have HWI := Lib.hid (refwithin_any P po pc wr HPV.out (by omega))
                      clear hPm HPP
                      go_wp2_with fail
                      refine HWI.out.mono ?_
                      rintro e w6 ⟨no, nc, wm, rfl, hwp, hws, hwo, hwb⟩
                      have HWE := Lib.hid (show wm.map Rv.id = within (part (nds m) c) by rw [within_one HPI.out hwp hws, HPM.out, partR_nd])
                      obtain ⟨N, hN⟩ : ∃ N, N = wm.map Rv.id := ⟨_, rfl⟩
                      rw [← hN] at HWE hwo
                      have hNl : N.length = P.length := by rw [hN, List.length_map]; exact hwp.length_eq
                      rw [← hNl]
                      have HNO := Lib.hid (SrcAt.of_own hwo)
                      have HB6 := Lib.hid (HBP.out.trans (hwb.mono hsp))
                      have hNl2 : N.length ≤ 20 := by omega
                      have HOW6 := Lib.hid (show OwnL w6 W.heap.size oo oc out from Go.Proofs.YtndfhejfhfhbdaaGreatDoor.R.own_below HOW.out HB6.out)
                      have hs6 := HB6.out.size
                      have HNX := Lib.hid (show out ++ N = rowI (nds m) (L.take (k + 1)) by rw [rowI_next _ HC.out, ← HO.out, ← HWE.out])
                      clear hwp hws hwo hwb hN hNl HWI hcell
                      go_wp2_with (refine wpList_apps idC 2 (fun _ => rfl) (by decide) idC_one (by rfl) (.tmp 111) (.tmp 113) 25 (by rfl) W.heap.size 27 i1 _ 16 Tryz.underlying25 hi1 hy0 hy1 hy2 (by decide) rfl oo oc out.length out rfl no nc N.length N rfl (by rfl) (by exact HOW6.out) (by rfl) (by exact HNO.out) (by omega) (by omega) ?_; intro oo' oc' w7 hown hmod hbel; have HOW7 := Lib.hid hown; have HBE7 := Lib.hid hbel; clear hown hmod hbel)
                      have HBZ := Lib.hid ((HBR.out.trans (HB6.out.mono hWr)).trans HBE7.out)
                      go_roundw
                      case rel => exact ⟨k + 1, out ++ N, oo', oc', by simp, by go_num, by omega, HNX.out, by unfold OwnL; rw [List.length_append]; exact HOW7.out, HBZ.out⟩
                      case measure => simp [intOf]; omega
                · obtain rfl : k = L.length := by omega
                  have hii : ¬ (L.length : Int) < (L.length : Int) := by omega
                  have HE := Lib.hid (show out = a by rw [HAL.out, HO.out, List.take_length])
                  have HF := Lib.hid (show OwnL wr w.heap.size oo oc out from own_base HOW.out (fun g hg => Nat.le_trans HB5.out.size (HOW.out.lt g hg).1))
                  have HBF := Lib.hid (HB5.out.trans (HBR.out.mono HB5.out.size))
                  go_wp2_with fail
                  go_ret2
                  exact ⟨oo, oc, out, ret_val (by rw [HV0.out]; rfl), fun _ => HE.out, fun h => absurd HV0.out h, HF.out, HBF.out⟩
end Go.Proofs.YtndfhejfhfhbdaaGreatDoor.O
