/- order.closed. -/
import Derived.Test.YtkgjfagejnppbaaGreatDoorMrg18
import Derived.Test.YtkgjfagejnppbaaGreatDoorMrg13
namespace Go.Proofs.YtkgjfagejnppbaaGreatDoor.O
open Go.RowKit Go.Proofs.YtkgjfagejnppbaaGreatDoor.M Go.BigFrame Go.Proofs.YtkgjfagejnppbaaGreatDoor.K Go.Proofs.YtkgjfagejnppbaaGreatDoor.R
set_option linter.unusedVariables false
set_option linter.unusedSimpArgs false

def goodR (x : Rv) : Bool := recOk x && decide (x.st = 3)
def okR (X : List Rv) : Bool := X.all goodR
theorem okR_no {X : List Rv} {x : Rv} (hx : x ∈ X) (h : goodR x = false) : okR X = false := by
  cases e : okR X with
  | false => rfl
  | true => rw [List.all_eq_true.1 e x hx] at h; cases h
theorem okR_perm {X Y : List Rv} (hp : X.Perm Y) : okR X = okR Y := by
  unfold okR
  rw [Bool.eq_iff_iff, List.all_eq_true, List.all_eq_true]
  exact ⟨fun h x hx => h x (hp.mem_iff.2 hx), fun h x hx => h x (hp.mem_iff.1 hx)⟩
theorem errO_form (l : List Nd) : errO false l = 4 := by simp [errO]
theorem errO_there {l : List Nd} (h : ¬ Unl l) : errO true l = 9 := by simp [errO, h]
theorem errO_none {l : List Nd} (h : Unl l) (hm : missB l = true) : errO true l = 8 := by simp [errO, h, hm]
theorem errO_fine {l : List Nd} (h : Unl l) (hm : missB l = false) : errO true l = 0 := by simp [errO, h, hm]
theorem take_next {α : Type} {p : α → Prop} {l : List α} {k : Nat} {x : α} (h : ∀ y ∈ l.take k, p y) (hx : l[k]? = some x) (hp : p x) : ∀ y ∈ l.take (k + 1), p y := by
  intro y hy
  rw [List.take_add_one, hx] at hy
  rcases List.mem_append.1 hy with h1 | h1
  · exact h y h1
  · simp at h1; subst h1; exact hp
theorem miss_yes {X : List Rv} {x : Rv} {d : Id} (hx : x ∈ X) (hd : d ∈ x.deps) (hn : d ∉ idsX X) : missB (nds X) = true := by
  cases e : missB (nds X) with
  | true => rfl
  | false => exact absurd (nds_ids X ▸ missB_no.1 e x.nd (List.mem_map.2 ⟨x, hx, rfl⟩) d hd) hn
theorem miss_no {X : List Rv} (h : ∀ x ∈ X, ∀ d ∈ x.deps, d ∈ idsX X) : missB (nds X) = false :=
  missB_no.2 fun a ha d hd => by
    obtain ⟨x, hx, rfl⟩ := List.mem_map.1 ha
    rw [nds_ids]
    exact h x hx d hd
set_option maxRecDepth 100000 in
set_option maxHeartbeats 4000000 in
theorem closed_any (X : List Rv) (ao : Option Addr) (cap : Nat) (w : World) (h : RecsV w ao cap X) (hT : Tabs w) (hl : X.length ≤ 10000) (hdl : ∀ x ∈ X, x.deps.length ≤ 10000) (hkl : ∀ x ∈ X, x.cmd.key.size ≤ 1000000) (v : Int) (hv : errO (okR X) (nds X) = v) :
    Calls Tryz.prog 76 #[.slice ao X.length cap] w fun e w' => e = .returned (.int .i64 v) ∧ Below w.heap.size w w' := by
  obtain ⟨hl1, hl2⟩ := h.le
  unfold maxLen at hl2
  have HV := Lib.hid hv
  have H0 := Lib.hid h
  have HT0 := Lib.hid hT
  have HDL := Lib.hid hdl
  have HKL := Lib.hid hkl
  have HPL := Lib.hid (places_any X ao cap w h (by omega))
  clear h hT hdl hkl hv
  go_enter Tryz.func76, Tryz.ntmps76
  go_wp2_with fail
  refine HPL.out.mono ?_
  rintro e W ⟨rfl, hp, hb⟩
  have HP := Lib.hid hp
  have HB := Lib.hid hb
  have H := Lib.hid (H0.out.below hb)
  have HT := Lib.hid (HT0.out.next hb)
  have HOK := Lib.hid (show ∀ y ∈ idsX X, IdI y from fun y hy => by
    obtain ⟨z, hz, rfl⟩ := List.mem_map.1 hy
    exact (H.out.ok z hz).id)
  clear hp hb HPL H0 HT0
  go_wp2_with fail
  go_loopw [16] (fun kv wr => ∃ (k : Nat), kv = .int .i64 k ∧ k ≤ X.length ∧ (∀ x ∈ X.take k, goodR x = true) ∧ Below W.heap.size W wr) (fun kv _ => X.length - (intOf kv).toNat)
  case atStart => exact ⟨0, rfl, Nat.zero_le _, by simp, Below.refl _ _⟩
  case round =>
    obtain ⟨k, rfl, hk, hg, hb⟩ := hrel
    have HG := Lib.hid hg
    have HBR := Lib.hid hb
    clear hg hb
    have hWr := HBR.out.size
    by_cases hkl : k < X.length
    · have hii : (k : Int) < (X.length : Int) := by omega
      obtain ⟨x, hx⟩ : ∃ x, X[k]? = some x := ⟨_, List.getElem?_eq_getElem hkl⟩
      have HX := Lib.hid hx
      obtain ⟨b, off, e0, hbl, hrec⟩ := H.out.row k x hx
      subst e0
      obtain ⟨c0, c1, c2, c3, c4, c5, c6, c7, c8, c9, c10, c11, c12, c13, c14, c15⟩ := hrec.below HBR.out hbl
      clear hx hrec
      go_upto_region 5 with fail
      obtain ⟨w1, hw1⟩ : ∃ w1, w1 = wr.alloc (recO x) := ⟨_, rfl⟩
      have HB1 := Lib.hid (show Below W.heap.size W w1 by rw [hw1]; exact HBR.out.alloc hWr _)
      have HX1 : Hid (Boxed x wr.heap.size w1) := Lib.hid ⟨by rw [hw1]; exact heap_alloc_new wr _, (H.out.ok x (List.mem_of_getElem? HX.out)).deps.below (B := 0) HB1.out, HT.out.next HB1.out⟩
      rw [← hw1]
      clear hw1 c0 c1 c2 c3 c4 c5 c6 c7 c8 c9 c10 c11 c12 c13 c14 c15
      obtain ⟨c0, c1, c2, c3, c4, c5, c6, c7, c8, c9, c10, c11, c12, c13, c14, c15⟩ := box16 (HX1.out).box
      have hxm := List.mem_of_getElem? HX.out
      obtain ⟨rb, hrb⟩ : ∃ b, recOk x = b := ⟨_, rfl⟩
      obtain ⟨sb, hsb⟩ : ∃ b, decide (x.st = 3) = b := ⟨_, rfl⟩
      have HGD := Lib.hid (show goodR x = (rb && sb) by unfold goodR; rw [hrb, hsb])
      have HC := Lib.hid (reccheck_any x w1 ⟨(H.out.ok x hxm).cmd, HX1.out.deps, (H.out.ok x hxm).id⟩ HX1.out.tab (by have := HDL.out x hxm; omega) (HKL.out x hxm) _ rfl)
      rw [hrb] at HC
      clear hrb hxm
      cases rb with
      | false =>
        have HE := Lib.hid (show v = 4 by rw [← HV.out, okR_no (List.mem_of_getElem? HX.out) (by rw [HGD.out]; rfl), errO_form])
        clear hsb
        go_wp2_with fail
        refine HC.out.mono ?_
        rintro e w2 ⟨rfl, hb2⟩
        have HB2 := Lib.hid (HB.out.trans ((HB1.out.trans (hb2.mono HB1.out.size)).mono HB.out.size))
        clear hb2 c0 c1 c2 c3 c4 c5 c6 c7 c8 c9 c10 c11 c12 c13 c14 c15
        go_wp2_with fail
        go_ret
        exact ⟨by rw [HE.out]; rfl, HB2.out⟩
      | true =>
        go_wp2_with fail
        refine HC.out.mono ?_
        rintro e w2 ⟨rfl, hb2⟩
        have HB2 := Lib.hid (HB1.out.trans (hb2.mono HB1.out.size))
        have HX2 := Lib.hid (HX1.out.next hb2)
        clear hb2 c0 c1 c2 c3 c4 c5 c6 c7 c8 c9 c10 c11 c12 c13 c14 c15
        obtain ⟨c0, c1, c2, c3, c4, c5, c6, c7, c8, c9, c10, c11, c12, c13, c14, c15⟩ := box16 (HX2.out).box
        cases sb with
        | false =>
          have hst : ¬ x.st = 3 := of_decide_eq_false hsb
          have HE := Lib.hid (show v = 4 by rw [← HV.out, okR_no (List.mem_of_getElem? HX.out) (by rw [HGD.out]; rfl), errO_form])
          have HB3 := Lib.hid (HB.out.trans (HB2.out.mono HB.out.size))
          clear hsb
          go_wp2_with fail
          go_ret
          exact ⟨by rw [HE.out]; rfl, HB3.out⟩
        | true =>
          have hst : x.st = 3 := of_decide_eq_true hsb
          have HN := Lib.hid (take_next HG.out HX.out HGD.out)
          clear hsb
          go_wp2_with fail
          go_roundw
          case rel => exact ⟨k + 1, by go_num, by omega, HN.out, HB2.out⟩
          case measure => simp [intOf]; omega
    · obtain rfl : k = X.length := by omega
      have hii : ¬ (X.length : Int) < (X.length : Int) := by omega
      have HOKR := Lib.hid (show okR X = true from List.all_eq_true.2 fun x hx => HG.out x (by rw [List.take_length]; exact hx))
      have HP1 := Lib.hid (HP.out.below HBR.out)
      have hsz := pmap_size HOK.out X.length (by simp)
      rw [take_ids] at hsz
      obtain ⟨m, hm⟩ : ∃ m, Maps.size (pmap (idsX X) X.length) = m := ⟨_, rfl⟩
      rw [hm] at hsz
      have HM := Lib.hid hm
      obtain ⟨hs1, hs2⟩ := hsz
      have HS2 := Lib.hid hs2
      clear hm hs2 HG
      go_upto_region 8 with fail
      by_cases hml : m = X.length
      · as_aux_lemma =>
        have HU := Lib.hid (show Unl (nds X) by unfold Unl; rw [nds_ids]; exact HS2.out.1 hml)
        subst hml
        have hne : ((X.length : Int) != (X.length : Int)) = false := by simp
        go_wp2_with (at_len; refine wpList_len_own _ rfl _ _ rfl 37 3 Tryz.underlying171 _ w.heap.size X.length (pmap (idsX X) X.length) rfl HP1.out ?_; rw [HM.out])
        clear hne hii
        have HBR0 := Lib.hid HBR.out
        clear HBR HP1
        obtain ⟨wa, rfl⟩ : ∃ wa, wa = wr := ⟨_, rfl⟩
        go_loopw [36] (fun kv wr => ∃ (k : Nat), kv = .int .i64 k ∧ k ≤ X.length ∧ (∀ x ∈ X.take k, ∀ d ∈ x.deps, d ∈ idsX X) ∧ Below W.heap.size W wr) (fun kv _ => X.length - (intOf kv).toNat)
        case atStart => exact ⟨0, rfl, Nat.zero_le _, by simp, HBR0.out⟩
        case round =>
          obtain ⟨k, rfl, hk, hg, hb⟩ := hrel
          have HG := Lib.hid hg
          have HBR := Lib.hid hb
          clear hg hb HBR0
          have hWr := HBR.out.size
          by_cases hkl : k < X.length
          · have hii : (k : Int) < (X.length : Int) := by omega
            obtain ⟨x, hx⟩ : ∃ x, X[k]? = some x := ⟨_, List.getElem?_eq_getElem hkl⟩
            have HX := Lib.hid hx
            obtain ⟨b, off, e0, hbl, hrec⟩ := H.out.row k x hx
            subst e0
            obtain ⟨c0, c1, c2, c3, c4, c5, c6, c7, c8, c9, c10, c11, c12, c13, c14, c15⟩ := hrec.below HBR.out hbl
            clear hx hrec
            go_upto_region 13 with fail
            obtain ⟨w1, hw1⟩ : ∃ w1, w1 = wr.alloc (recO x) := ⟨_, rfl⟩
            have HB1 := Lib.hid (show Below W.heap.size W w1 by rw [hw1]; exact HBR.out.alloc hWr _)
            have HX1 : Hid (Boxed x wr.heap.size w1) := Lib.hid ⟨by rw [hw1]; exact heap_alloc_new wr _, (H.out.ok x (List.mem_of_getElem? HX.out)).deps.below (B := 0) HB1.out, HT.out.next HB1.out⟩
            rw [← hw1]
            clear hw1 c0 c1 c2 c3 c4 c5 c6 c7 c8 c9 c10 c11 c12 c13 c14 c15
            obtain ⟨c0, c1, c2, c3, c4, c5, c6, c7, c8, c9, c10, c11, c12, c13, c14, c15⟩ := box16 (HX1.out).box
            have hdx := HDL.out x (List.mem_of_getElem? HX.out)
            go_wp2_with fail
            obtain ⟨wb, rfl⟩ : ∃ wb, wb = wr := ⟨_, rfl⟩
            obtain ⟨xo, hxo⟩ : ∃ xo, x.ao = xo := ⟨_, rfl⟩
            rw [hxo]
            have HXO := Lib.hid hxo
            clear hxo
            go_loopw [44] (fun kv wr => ∃ (j : Nat), kv = .int .i64 j ∧ j ≤ x.deps.length ∧ (∀ d ∈ x.deps.take j, d ∈ idsX X) ∧ Below w1.heap.size w1 wr) (fun kv _ => x.deps.length - (intOf kv).toNat)
            case atStart => exact ⟨0, rfl, Nat.zero_le _, by simp, Below.refl _ _⟩
            case round =>
              obtain ⟨j, rfl, hj, hgj, hbq⟩ := hrel
              have HGJ := Lib.hid hgj
              have HBQ := Lib.hid hbq
              clear hgj hbq
              have hsq := HBQ.out.size
              have HXQ := Lib.hid (HX1.out.next HBQ.out)
              have HBW := Lib.hid (HB1.out.trans (HBQ.out.mono HB1.out.size))
              by_cases hjl : j < x.deps.length
              · have hjj : (j : Int) < (x.deps.length : Int) := by omega
                obtain ⟨d, hd⟩ : ∃ d, x.deps[j]? = some d := ⟨_, List.getElem?_eq_getElem hjl⟩
                have HD := Lib.hid hd
                obtain ⟨b2, off2, e2, hbl2, y0, y1⟩ := HXQ.out.deps.row j d hd
                have HID := Lib.hid (HXQ.out.deps.ok d (List.mem_of_getElem? hd))
                obtain rfl : xo = some ⟨b2, off2, none⟩ := HXO.out.symm.trans e2
                clear hd e2
                go_upto_region 16 with fail
                obtain ⟨w3, hw3⟩ : ∃ w3, w3 = wr.alloc (idO d) := ⟨_, rfl⟩
                have hb3 : Below wr.heap.size wr w3 := by rw [hw3]; exact (Below.refl _ _).alloc (Nat.le_refl _) _
                have HB3 := Lib.hid (HBQ.out.trans (hb3.mono hsq))
                have HP3 := Lib.hid (HP.out.below (HBW.out.trans (hb3.mono HBW.out.size)))
                obtain ⟨⟨z0, z1⟩, _⟩ := box2 (show w3.heap[wr.heap.size]? = some (idO d) by rw [hw3]; exact heap_alloc_new wr _)
                rw [← hw3]
                clear hw3 hb3 y0 y1
                have hs3 := HB3.out.size
                by_cases hdm : d ∈ idsX X
                · have hhas : Maps.has (pmap (idsX X) X.length) (klI d) = true := by rw [pmap_has HOK.out HID.out _ (by simp), take_ids]; exact decide_eq_true hdm
                  have HHAS := Lib.hid hhas
                  have HN := Lib.hid (take_next HGJ.out HD.out hdm)
                  clear hhas hdm
                  go_wp2_with (at_lookup; refine wpList_lookup_own_ok_int _ rfl (.tmp 49) (.tmp 50) 171 rfl 37 3 .i64 id_keyed Tryz.underlying171 Tryz.underlying3 (Tryz.zeroValue3 _) w.heap.size X.length (pmap (idsX X) X.length) rfl HP3.out (idV d) (klI d) rfl (key_id d HID.out) ?_; intro cc hat hwc; rw [HHAS.out]; clear hat hwc)
                  go_roundw
                  case rel => exact ⟨j + 1, by go_num, by omega, HN.out, HB3.out⟩
                  case measure => simp [intOf]; omega
                · have hhas : Maps.has (pmap (idsX X) X.length) (klI d) = false := by rw [pmap_has HOK.out HID.out _ (by simp), take_ids]; exact decide_eq_false hdm
                  have HHAS := Lib.hid hhas
                  have HE := Lib.hid (show v = 8 by rw [← HV.out, HOKR.out]; exact errO_none HU.out (miss_yes (List.mem_of_getElem? HX.out) (List.mem_of_getElem? HD.out) hdm))
                  have HBF := Lib.hid (HB.out.trans ((HB1.out.trans (HB3.out.mono HB1.out.size)).mono HB.out.size))
                  clear hhas hdm
                  go_wp2_with (at_lookup; refine wpList_lookup_own_ok_int _ rfl (.tmp 49) (.tmp 50) 171 rfl 37 3 .i64 id_keyed Tryz.underlying171 Tryz.underlying3 (Tryz.zeroValue3 _) w.heap.size X.length (pmap (idsX X) X.length) rfl HP3.out (idV d) (klI d) rfl (key_id d HID.out) ?_; intro cc hat hwc; rw [HHAS.out]; clear hat hwc)
                  go_ret
                  exact ⟨by rw [HE.out]; rfl, HBF.out⟩
              · obtain rfl : j = x.deps.length := by omega
                have hjj : ¬ (x.deps.length : Int) < (x.deps.length : Int) := by omega
                have HN := Lib.hid (take_next HG.out HX.out (fun d hd => HGJ.out d (by rw [List.take_length]; exact hd)))
                go_wp2_with fail
                go_roundw
                case rel => exact ⟨k + 1, by go_num, by omega, HN.out, HBW.out⟩
                case measure => simp [intOf]; omega
          · obtain rfl : k = X.length := by omega
            have hii : ¬ (X.length : Int) < (X.length : Int) := by omega
            have HE := Lib.hid (show v = 0 by
              rw [← HV.out, HOKR.out]
              exact errO_fine HU.out (miss_no fun x hx => HG.out x (by rw [List.take_length]; exact hx)))
            have HBF := Lib.hid (HB.out.trans (HBR.out.mono HB.out.size))
            go_wp2_with fail
            go_ret
            exact ⟨by rw [HE.out]; rfl, HBF.out⟩
      · have HE := Lib.hid (show v = 9 by rw [← HV.out, HOKR.out]; exact errO_there (fun h => hml (HS2.out.2 (nds_ids X ▸ h))))
        have HBF := Lib.hid (HB.out.trans (HBR.out.mono HB.out.size))
        have hne : ((m : Int) != (X.length : Int)) = true := by simp; omega
        go_wp2_with (at_len; refine wpList_len_own _ rfl _ _ rfl 37 3 Tryz.underlying171 _ w.heap.size X.length (pmap (idsX X) X.length) rfl HP1.out ?_; rw [HM.out])
        go_ret
        exact ⟨by rw [HE.out]; rfl, HBF.out⟩
end Go.Proofs.YtkgjfagejnppbaaGreatDoor.O
