/- Several texts in one. -/
import Derived.Test.YtndfhejfhfhbdaaGreatDoorMrg27
import Derived.Test.YtndfhejfhfhbdaaGreatDoorMrg24
import Derived.Test.YtndfhejfhfhbdaaGreatDoorMrg25
import Derived.Test.YtndfhejfhfhbdaaGreatDoorOrdAO
import Derived.Test.YtndfhejfhfhbdaaGreatDoorMrg9
import Derived.Test.YtndfhejfhfhbdaaGreatDoorCards
import Derived.Lib.LaidU8
import Derived.Lib.LaidTab
import Derived.LaidLaws
import Derived.PinnedBridge

/- append of rows as one step of a region that draws; the law's turned. -/
namespace Go.Proofs.YtndfhejfhfhbdaaGreatDoor.O
open Go.RowKit Go.Proofs.YtndfhejfhfhbdaaGreatDoor.M Go.BigFrame Go.Proofs.YtndfhejfhfhbdaaGreatDoor.K
set_option linter.unusedVariables false
set_option linter.unusedSimpArgs false

section
variable {P : Program} {w : World} {α : Type}
theorem step_apps (enc : α → List Value) (k : Nat) (hk : ∀ x, (enc x).length = k) (h0 : 0 < k) (h1 : ∀ x, ∀ v ∈ enc x, v.oneCell' = true) {ops : Array Oper} {o : Oper} {a : Act} {K : Act → World → Prop} {Q : Exit → Act → World → Prop} {E : Prop} (hgd : o.guard = none) (s x : Operand) (t : TypeId)
    (ho : o.op = .call { callee := .builtin .append, args := #[s, x], argTypes := #[t, t] }) (B : Nat) (e : TypeId) (i : TypeInfo) (z : Value) (bytes : Nat) (ht : P.underlying t = some (.slice e)) (hi : P.info? e = some i) (hz : i.zero = some z)
    (hsize : i.size = k) (hby : i.bytes = bytes) (hb2 : bytes ≤ 1000) (hzs : z.cells.size = k) (oo : Option Addr) (oc m : Nat) (M : List α) (hMl : M.length = m) (so : Option Addr) (sc n : Nat) (N : List α) (hNl : N.length = n) (hs : a.eval s = .slice oo m oc)
    (hown : w.ownsRow B e k (.slice oo m oc) m (M.flatMap enc)) (hx : a.eval x = .slice so n sc) (hsrc : SrcAt w so (N.flatMap enc)) (hM : m + n ≤ 100000000) (hB : B ≤ w.heap.size)
    (h : ∀ oo' oc' w', w'.ownsRow B e k (.slice oo' (m + n) oc') (m + n) ((M ++ N).flatMap enc) → Below B w w' → K (a.put o.dst (.slice oo' (m + n) oc')) w') :
    if Region.wanted o (yielded ops a.tmps) = true then Oper.wp P o a w K Q else E := by
  cases N with
  | nil =>
    obtain rfl : n = 0 := by rw [← hNl]; rfl
    have hrun := run_append_owned_empty (P := P) (w := w) B t o.type e i k ht hi _ _ _ hown so sc
    have hK := h oo oc w (by simpa using hown) (Below.refl _ _)
    rw [Nat.add_zero] at hK
    have hw : Region.wanted o (yielded ops a.tmps) = true := by simp [Region.wanted, hgd]
    rw [if_pos hw]
    unfold Oper.wp
    simp [execOp, ho, resolve, invoke, builtin, hs, hx, hrun, Result.andThen]
    exact hK
  | cons y N' =>
    obtain ⟨N, hN⟩ : ∃ N, y :: N' = N := ⟨_, rfl⟩
    have hpos : 0 < n := by rw [← hNl]; simp
    rw [hN] at hNl hsrc h
    clear hN
    have hlen : (N.flatMap enc).length = n * k := by rw [← hNl]; exact flat_len enc k hk N
    have hne : N.flatMap enc ≠ [] := fun e0 => by
      rw [e0] at hlen
      have := Nat.mul_pos hpos h0
      simp at hlen
      omega
    obtain ⟨ad, rfl, hcells⟩ := hsrc hne
    refine step_append_lies _ hgd s x t ho B e i z k bytes ht hi hz hsize hby hzs h0 (.slice oo m oc) m (M.flatMap enc) hs hown ad n sc (N.flatMap enc) hx hlen hcells
      (fun u hu => by obtain ⟨x, hx1, hx2⟩ := List.mem_flatMap.1 hu; exact h1 x u hx2) hpos (by unfold maxLen; omega) ?_ hB w.heap.size rfl ?_
    · have : (m + n) * bytes ≤ 100000000 * 1000 := Nat.mul_le_mul (by omega) hb2
      omega
    · intro g cap w' hown' hgrow _ _
      have hm : Mods (fun j => ∃ a, oo = some a ∧ j = a.block) w w' := (Mods.refl _ w).then (Mods.of_grown hgrow) (fun k _ hk => by
        cases oo with
        | none => cases hk
        | some a => exact ⟨a, rfl, (Option.some.inj hk).symm⟩)
      have hb : Below B w w' := hm.below (fun j ⟨a, e1, e2⟩ => by
        subst e1
        rw [e2]
        exact (hown.lt a.block rfl).1) hB
      exact h (some ⟨g, 0, none⟩) cap w' (by rw [List.flatMap_append]; exact hown') hb
end
theorem SrcAt.below2 {w w2 : World} {so : Option Addr} {l : List Value} (h : SrcAt w so l) (hb : Below w.heap.size w w2) : SrcAt w2 so l := by
  intro hne
  obtain ⟨ad, h1, h2⟩ := h hne
  exact ⟨ad, h1, fun j u hj => (hb.cell (World.block_lt_of_cell? w _ (h2 j u hj))).trans (h2 j u hj)⟩
theorem SrcAt.of_recs {w : World} {ao : Option Addr} {cap : Nat} {X : List Rv} (h : RecsV w ao cap X) : SrcAt w ao (X.flatMap recC) := by
  intro hne
  obtain ⟨x, t, rfl⟩ : ∃ x t, X = x :: t := by
    cases X with
    | nil => exact absurd rfl hne
    | cons x t => exact ⟨x, t, rfl⟩
  obtain ⟨b, off, rfl, _, _⟩ := h.row 0 x rfl
  refine ⟨_, rfl, fun j u hj => ?_⟩
  have hjl : j < ((x :: t).flatMap recC).length := (List.getElem?_eq_some_iff.1 hj).1
  rw [show ((x :: t).flatMap recC).length = (x :: t).length * 16 from cellsR_len (x :: t)] at hjl
  obtain ⟨y, hy⟩ : ∃ y, (x :: t)[j / 16]? = some y := ⟨_, List.getElem?_eq_getElem (by omega)⟩
  obtain ⟨b2, off2, e2, _, hr⟩ := h.row (j / 16) y hy
  cases e2
  have h1 := hr.get (j % 16) (Nat.mod_lt _ (by decide))
  have h2 := cellsR_get (x :: t) (j / 16) y hy (j % 16) (Nat.mod_lt _ (by decide))
  have h3 : j / 16 * 16 + j % 16 = j := by omega
  rw [h3] at h2
  have h4 : (recC y)[j % 16]? = some u := h2.symm.trans hj
  rw [h4] at h1
  have ea : (⟨b, off, none⟩ : Addr).add j = ⟨b, off + j / 16 * 16 + j % 16, none⟩ := by
    unfold Addr.add
    split
    · next e => subst e; simp
    · rw [Nat.add_assoc, h3]
  rw [ea]
  exact h1
set_option maxRecDepth 100000 in
set_option maxHeartbeats 4000000 in
theorem turned_any (X : List Rv) (ao : Option Addr) (cap : Nat) (by_ : Int) (w : World) (h : RecsV w ao cap X) (hi0 : P.InI by_) (hl : X.length ≤ 1000) :
    Calls Tryz.prog 25 #[.slice ao X.length cap, .int .i64 by_] w fun e w' => ∃ (ta : Option Addr) (tc : Nat) (T : List Rv), e = .returned (.slice ta X.length tc) ∧ (T.Perm X ∧ T.length = X.length ∧ RecsV w' ta tc T ∧ Below w.heap.size w w') := by
  obtain ⟨hl1, hl2⟩ := h.le
  unfold maxLen at hl2
  obtain ⟨i0, hi, hz0, hz1, hz2⟩ := info_parts info_rec
  have H := Lib.hid h
  have HPK := Lib.hid (pick_any by_ X.length w hi0 hl)
  have HSRC := Lib.hid (SrcAt.of_recs h)
  clear h
  go_enter Tryz.func25, Tryz.ntmps25
  go_wp2_with fail
  refine HPK.out.mono ?_
  rintro e w1 ⟨j, rfl, hj, rfl⟩
  have HJT := Lib.hid (show (X.take j).length = j by rw [List.length_take]; omega)
  have HJD := Lib.hid (show (X.drop j).length = X.length - j from List.length_drop)
  have HDR : Hid (Below w.heap.size w (w.alloc (.cells #[] 38)).drew) := Lib.hid (((Below.refl _ _).alloc (Nat.le_refl _) _).drew)
  have HDA := Lib.hid (show SrcAt (w.alloc (.cells #[] 38)).drew (Option.map (fun x => x.add (j * 16)) ao) (List.flatMap recC (List.drop j X)) by
    rw [flat_drop recC 16 (fun _ => rfl)]
    exact (HSRC.out.below2 HDR.out).back _)
  have HLZ := Lib.hid (show ([] ++ X.drop j).length = X.length - j by rw [List.nil_append, List.length_drop])
  have HPM := Lib.hid (show ([] ++ X.drop j ++ X.take j).Perm X by
    rw [List.nil_append]
    exact List.perm_append_comm.trans (List.Perm.of_eq (List.take_append_drop j X)))
  by_cases hcj : cap = j
  · have hXj : X.length = j := by omega
    have HDB := Lib.hid (show SrcAt (w.alloc (.cells #[] 38)).drew ao (List.flatMap recC (List.drop j X)) by
      intro hne
      exact absurd (by rw [List.drop_eq_nil_of_le (by omega)]; rfl) hne)
    clear hXj
    by_cases hc0 : cap = 0
    ·
      go_upto_region 2 with fail
      go_region_held3 (fun _ => True) (trivial)
        ((first
          | (refine step_apps recC 16 (fun _ => rfl) (by decide) recC_one (by rfl) (.tmp 10) (.tmp 13) 28 (by rfl) w.heap.size 38 i0 _ 160 Tryz.underlying28 hi hz0 hz1 hz2 (by decide) rfl _ 0 0 [] rfl _ _ (X.length - j) (X.drop j) HJD.out (by rfl) (by exact own_empty _ _ _ (0, 0)) (by rfl) (by exact HDB.out) (by omega) (by simp) ?_; intro oo1 oc1 w4 hown1 hbel1; rw [Nat.zero_add] at hown1; rw [Nat.zero_add])
          | (refine step_apps recC 16 (fun _ => rfl) (by decide) recC_one (by rfl) (.tmp 14) (.tmp 17) 28 (by rfl) w.heap.size 38 i0 _ 160 Tryz.underlying28 hi hz0 hz1 hz2 (by decide) rfl oo1 oc1 (X.length - j) ([] ++ X.drop j) HLZ.out _ _ j (X.take j) HJT.out (by rfl) (by exact hown1) (by rfl) (by rw [flat_take recC 16 (fun _ => rfl)]; exact (HSRC.out.below2 (HDR.out.trans hbel1)).front _) (by omega) (HDR.out.trans hbel1).size ?_; intro oo2 oc2 w5 hown2 hbel2)))
      all_goals
        have HOW := Lib.hid hown2
        have HBF := Lib.hid ((HDR.out.trans hbel1).trans hbel2)
        clear hown1 hown2 hbel1 hbel2
        have HLT := Lib.hid (show ([] ++ X.drop j ++ X.take j).length = X.length - j + j by rw [List.length_append, HLZ.out, HJT.out])
        have HLX := Lib.hid (show X.length - j + j = X.length by omega)
        have HRV := Lib.hid (show RecsV w5 oo2 oc2 ([] ++ X.drop j ++ X.take j) from RecsV.of_own (B := w.heap.size) (by rw [HLT.out]; exact HOW.out) (fun x hx => (H.out.ok x (HPM.out.mem_iff.1 hx)).below HBF.out))
        go_wp2_with fail
        go_ret
        exact ⟨oo2, oc2, _, rfl, HPM.out, HPM.out.length_eq, HRV.out, HBF.out⟩
    ·
      have hj0 : ¬ j = 0 := by omega
      go_upto_region 2 with fail
      go_region_held3 (fun _ => True) (trivial)
        ((first
          | (refine step_apps recC 16 (fun _ => rfl) (by decide) recC_one (by rfl) (.tmp 10) (.tmp 13) 28 (by rfl) w.heap.size 38 i0 _ 160 Tryz.underlying28 hi hz0 hz1 hz2 (by decide) rfl _ 0 0 [] rfl _ _ (X.length - j) (X.drop j) HJD.out (by rfl) (by exact own_empty _ _ _ (0, 0)) (by rfl) (by exact HDB.out) (by omega) (by simp) ?_; intro oo1 oc1 w4 hown1 hbel1; rw [Nat.zero_add] at hown1; rw [Nat.zero_add])
          | (refine step_apps recC 16 (fun _ => rfl) (by decide) recC_one (by rfl) (.tmp 14) (.tmp 17) 28 (by rfl) w.heap.size 38 i0 _ 160 Tryz.underlying28 hi hz0 hz1 hz2 (by decide) rfl oo1 oc1 (X.length - j) ([] ++ X.drop j) HLZ.out _ _ j (X.take j) HJT.out (by rfl) (by exact hown1) (by rfl) (by rw [flat_take recC 16 (fun _ => rfl)]; exact (HSRC.out.below2 (HDR.out.trans hbel1)).front _) (by omega) (HDR.out.trans hbel1).size ?_; intro oo2 oc2 w5 hown2 hbel2)))
      all_goals
        have HOW := Lib.hid hown2
        have HBF := Lib.hid ((HDR.out.trans hbel1).trans hbel2)
        clear hown1 hown2 hbel1 hbel2
        have HLT := Lib.hid (show ([] ++ X.drop j ++ X.take j).length = X.length - j + j by rw [List.length_append, HLZ.out, HJT.out])
        have HLX := Lib.hid (show X.length - j + j = X.length by omega)
        have HRV := Lib.hid (show RecsV w5 oo2 oc2 ([] ++ X.drop j ++ X.take j) from RecsV.of_own (B := w.heap.size) (by rw [HLT.out]; exact HOW.out) (fun x hx => (H.out.ok x (HPM.out.mem_iff.1 hx)).below HBF.out))
        go_wp2_with fail
        go_ret
        exact ⟨oo2, oc2, _, rfl, HPM.out, HPM.out.length_eq, HRV.out, HBF.out⟩
  · have hc0 : ¬ cap = 0 := by omega
    have hjc : (j : Int) ≤ (cap : Int) := by omega
    have hjc2 : j ≤ cap := by omega
    go_upto_region 2 with fail
    go_region_held3 (fun _ => True) (trivial)
      ((first
        | (refine step_apps recC 16 (fun _ => rfl) (by decide) recC_one (by rfl) (.tmp 10) (.tmp 13) 28 (by rfl) w.heap.size 38 i0 _ 160 Tryz.underlying28 hi hz0 hz1 hz2 (by decide) rfl _ 0 0 [] rfl _ _ (X.length - j) (X.drop j) HJD.out (by rfl) (by exact own_empty _ _ _ (0, 0)) (by rfl) (by exact HDA.out) (by omega) (by simp) ?_; intro oo1 oc1 w4 hown1 hbel1; rw [Nat.zero_add] at hown1; rw [Nat.zero_add])
        | (refine step_apps recC 16 (fun _ => rfl) (by decide) recC_one (by rfl) (.tmp 14) (.tmp 17) 28 (by rfl) w.heap.size 38 i0 _ 160 Tryz.underlying28 hi hz0 hz1 hz2 (by decide) rfl oo1 oc1 (X.length - j) ([] ++ X.drop j) HLZ.out _ _ j (X.take j) HJT.out (by rfl) (by exact hown1) (by rfl) (by rw [flat_take recC 16 (fun _ => rfl)]; exact (HSRC.out.below2 (HDR.out.trans hbel1)).front _) (by omega) (HDR.out.trans hbel1).size ?_; intro oo2 oc2 w5 hown2 hbel2)))
    all_goals
      have HOW := Lib.hid hown2
      have HBF := Lib.hid ((HDR.out.trans hbel1).trans hbel2)
      clear hown1 hown2 hbel1 hbel2
      have HLT := Lib.hid (show ([] ++ X.drop j ++ X.take j).length = X.length - j + j by rw [List.length_append, HLZ.out, HJT.out])
      have HLX := Lib.hid (show X.length - j + j = X.length by omega)
      have HRV := Lib.hid (show RecsV w5 oo2 oc2 ([] ++ X.drop j ++ X.take j) from RecsV.of_own (B := w.heap.size) (by rw [HLT.out]; exact HOW.out) (fun x hx => (H.out.ok x (HPM.out.mem_iff.1 hx)).below HBF.out))
      go_wp2_with fail
      go_ret
      exact ⟨oo2, oc2, _, rfl, HPM.out, HPM.out.length_eq, HRV.out, HBF.out⟩
end Go.Proofs.YtndfhejfhfhbdaaGreatDoor.O

/- The walk of OrderOne. -/
namespace Go.Proofs.YtndfhejfhfhbdaaGreatDoor.O
open Go.RowKit Go.Proofs.YtndfhejfhfhbdaaGreatDoor.M Go.BigFrame Go.Proofs.YtndfhejfhfhbdaaGreatDoor.K Go.Proofs.YtndfhejfhfhbdaaGreatDoor.R
set_option linter.unusedVariables false
set_option linter.unusedSimpArgs false

theorem errO_turn {X T : List Rv} (hp : T.Perm X) : errO (okR T) (nds T) = errO (okR X) (nds X) := by
  rw [okR_perm hp]
  exact errO_perm (hp.map _)
theorem row_turn {X T : List Rv} (hn : (idsX X).Nodup) (hp : T.Perm X) : byIds (nds T) = byIds (nds X) := byIds_same (unl_nds.2 hn) (hp.map _)
set_option maxRecDepth 100000 in
set_option maxHeartbeats 4000000 in
theorem one_law (X : List Rv) (ao : Option Addr) (cap : Nat) (by_ : Int) (w : World) (hV : RecsV w ao cap X) (hi : P.InI by_) (hT : Tabs w) :
    Calls Tryz.prog 5 #[.slice ao X.length cap, .int .i64 by_] w fun e w' => e = .returned (.bool true) ∧ Below w.heap.size w w' := by
  have HV := Lib.hid hV
  have HT := Lib.hid hT
  have HI := Lib.hid hi
  clear hV hT hi
  go_enter Tryz.func5, Tryz.ntmps5
  obtain ⟨gr, hgr⟩ : ∃ g, greatR X 20 = g := ⟨_, rfl⟩
  have HG := Lib.hid (refgreat_any X 20 ao cap w HV.out (by omega) gr hgr)
  cases gr with
  | true =>
    clear hgr
    go_wp2_with fail
    refine HG.out.mono ?_
    rintro e w1 ⟨rfl, rfl⟩
    go_wp2_with fail
    refine (awake_any _ (HT.out)).mono ?_
    rintro e wz ⟨rfl, hbz⟩
    have HBZ := Lib.hid ((Below.refl w.heap.size w).trans (hbz.mono (Below.refl w.heap.size w).size))
    clear hbz
    go_wp2_with fail
    go_ret
    exact ⟨rfl, HBZ.out⟩
  | false =>
    obtain ⟨hl20, hsz⟩ := greatR_no hgr
    have HSZ := Lib.hid hsz
    obtain ⟨v, hv⟩ : ∃ v, errO (okR X) (nds X) = v := ⟨_, rfl⟩
    have HVV := Lib.hid hv
    have HO := Lib.hid (Order_any X ao cap w HV.out HT.out hl20 (fun x hx => by have := hsz x hx; omega) (fun x hx => by have := hsz x hx; omega) v hv)
    clear hgr hsz hv
    go_wp2_with fail
    refine HG.out.mono ?_
    rintro e w1 ⟨rfl, rfl⟩
    clear HG
    go_wp2_with fail
    refine HO.out.mono ?_
    rintro e w1 ⟨oo, oc, a, rfl, hra, hna, howa, hb1⟩
    have HB1 := Lib.hid hb1
    have HOA := Lib.hid howa
    have HRA := Lib.hid hra
    have HNA := Lib.hid hna
    have HTU := Lib.hid (turned_any X ao cap by_ w1 (HV.out.below hb1) HI.out (by omega))
    clear hb1 howa HO hra hna
    go_wp2_with fail
    refine HTU.out.mono ?_
    rintro e w2 ⟨ta, tc, T, rfl, hp, htl, hTV, hb2⟩
    have HB2 := Lib.hid (HB1.out.trans (hb2.mono HB1.out.size))
    have HD2 := Lib.hid hb2
    have HP := Lib.hid hp
    have hv2 : errO (okR T) (nds T) = v := (errO_turn hp).trans HVV.out
    have HO2 := Lib.hid (Order_any T ta tc w2 hTV (HT.out.next HB2.out) (by omega) (fun x hx => by have := HSZ.out x (hp.mem_iff.1 hx); omega) (fun x hx => by have := HSZ.out x (hp.mem_iff.1 hx); omega) v hv2)
    rw [htl] at HO2
    clear hp htl hTV hb2 HTU hv2
    go_wp2_with fail
    refine HO2.out.mono ?_
    rintro e w3 ⟨bo, bc, b, rfl, hrb, hnb, howb, hb3⟩
    have HB3 := Lib.hid (HB2.out.trans (hb3.mono HB2.out.size))
    have HD3 := Lib.hid (HD2.out.trans (hb3.mono HD2.out.size))
    have hba : b = a := by
      by_cases hv0 : v = 0
      · obtain ⟨_, hU, _⟩ := errO_ok.1 (HVV.out.trans hv0)
        have h1 := hrb hv0
        rw [row_turn (unl_nds.1 hU) HP.out] at h1
        exact h1.one (HRA.out hv0)
      · rw [hnb hv0, HNA.out hv0]
    subst hba
    have HXOK := Lib.hid (show ∀ z ∈ idsX X, IdI z from fun z hz => by
      obtain ⟨y, hy, rfl⟩ := List.mem_map.1 hz
      exact (HV.out.ok y hy).id)
    have HBM := Lib.hid (show ∀ z ∈ b, z ∈ idsX X from fun z hz => by
      by_cases hv0 : v = 0
      · obtain ⟨_, hU, _⟩ := errO_ok.1 (HVV.out.trans hv0)
        have h1 := HRA.out hv0
        rw [← srtR_nd] at h1
        exact ((srtR_perm X).map Rv.id).mem_iff.1 ((row_mem (Sd.of (unl_nds.1 hU)) h1).mem_iff.1 hz)
      · rw [HNA.out hv0] at hz; cases hz)
    have HBV := Lib.hid (show IdsV w3 bo bc b from idsV_own (m := idsX X) howb HBM.out HXOK.out)
    have HAV := Lib.hid (show IdsV w3 oo oc b from idsV_own (m := idsX X) (Go.Proofs.YtndfhejfhfhbdaaGreatDoor.R.own_below HOA.out HD3.out) HBM.out HXOK.out)
    have HEQ := Lib.hid (refequal_any b b oo bo oc bc w3 HAV.out HBV.out true (decide_eq_true rfl))
    clear hrb hnb howb hb3 HO2 HP HOA
    have hve : (v != v) = false := by simp
    go_wp2_with fail
    refine HEQ.out.mono ?_
    rintro e w4 ⟨rfl, hb4⟩
    have HB4 := Lib.hid (HB3.out.trans (hb4.mono HB3.out.size))
    have HAV4 := Lib.hid (HAV.out.below (B := 0) hb4)
    clear hb4 HEQ hve HAV HBV HD2 HD3
    by_cases hv0 : v = 0
    · subst hv0
      obtain ⟨hok, hU, hms⟩ := errO_ok.1 HVV.out
      have hnd : (idsX X).Nodup := unl_nds.1 hU
      have HSD := Lib.hid (Sd.of hnd)
      have HMS := Lib.hid hms
      have hra : Row (nds (srtR X)) b := by rw [srtR_nd]; exact HRA.out rfl
      have hpm := row_mem (Sd.of hnd) hra
      have hbl : b.length = X.length := by rw [hpm.length_eq, List.length_map, srtR_len]
      have HBL := Lib.hid hbl
      have HMEM := Lib.hid (show ∀ x ∈ X, x.id ∈ b from fun x hx => hpm.mem_iff.2 (((srtR_perm X).map Rv.id).mem_iff.2 (List.mem_map.2 ⟨x, hx, rfl⟩)))
      have HRB := Lib.hid hra
      have HCL := Lib.hid (fun (j : Id) (wx : World) (hj : IdI j) (hbx : Below w.heap.size w wx) => closedd_any X ao cap j wx (HV.out.below hbx) hj hnd hl20 (fun x hx => by have := HSZ.out x hx; omega))
      rw [hbl]
      clear hok hU hms hnd hra hpm hbl HRA HNA HVV HI
      obtain ⟨W5, hW5⟩ : ∃ W5, W5 = w4 := ⟨_, rfl⟩
      rw [← hW5] at HB4 HAV4 ⊢
      clear hW5
      obtain ⟨hl1, hl2⟩ := HV.out.le
      unfold maxLen at hl2
      have hne : ((X.length : Int) != (X.length : Int)) = false := by simp
      go_wp2_with fail
      clear hne
      go_loopw [9] (fun xv wr => ∃ (x : Nat), xv = .int .i64 x ∧ x ≤ X.length ∧ Below W5.heap.size W5 wr) (fun xv _ => X.length - (intOf xv).toNat)
      case atStart => exact ⟨0, rfl, Nat.zero_le _, Below.refl _ _⟩
      case round =>
        obtain ⟨k, rfl, hk, hbr⟩ := hrel
        have HBR := Lib.hid hbr
        have HBW := Lib.hid (HB4.out.trans (hbr.mono HB4.out.size))
        clear hbr
        have hWr := HBR.out.size
        by_cases hkl : k < X.length
        · have hii : (k : Int) < (X.length : Int) := by omega
          obtain ⟨x, hx⟩ : ∃ x, X[k]? = some x := ⟨_, List.getElem?_eq_getElem hkl⟩
          have HX := Lib.hid hx
          have hxm := List.mem_of_getElem? hx
          obtain ⟨g, off, e0, hgl, hrec⟩ := HV.out.row k x hx
          subst e0
          have HREC := Lib.hid hrec
          have hrb := hrec.below HBW.out hgl
          obtain ⟨c0, c1⟩ := And.intro hrb.c0 hrb.c1
          obtain ⟨at_, hat⟩ : ∃ p, atI b x.id = p := ⟨_, rfl⟩
          have HAT := Lib.hid hat
          have hat0 : ¬ at_ < 0 := fun h => atI_neg.1 (hat ▸ h) (HMEM.out x hxm)
          have hatd : decide (at_ < 0) = false := decide_eq_false hat0
          have HPL := Lib.hid (place_any b oo oc x.id wr (HAV4.out.below (B := 0) HBR.out) at_ hat)
          rw [HBL.out] at HPL
          clear hx hrec hrb hat
          go_wp2_with fail
          refine HPL.out.mono ?_
          rintro e w6 ⟨rfl, hb6⟩
          have HB6 := Lib.hid (HBR.out.trans (hb6.mono hWr))
          have HBW6 := Lib.hid (HBW.out.trans (hb6.mono HBW.out.size))
          clear hb6 HPL c0 c1
          have hW6 := HB6.out.size
          have hdl : x.deps.length ≤ 40 := (HSZ.out x hxm).1
          go_upto_region 18 with fail
          obtain ⟨wa, rfl⟩ : ∃ wa, wa = wr := ⟨_, rfl⟩
          go_loopw [11] (fun yv wr => ∃ (j : Nat), yv = .int .i64 j ∧ j ≤ x.deps.length ∧ Below w6.heap.size w6 wr) (fun yv _ => x.deps.length - (intOf yv).toNat)
          case atStart => exact ⟨0, rfl, Nat.zero_le _, Below.refl _ _⟩
          case round =>
            obtain ⟨j, rfl, hj, hbq⟩ := hrel
            have HBQ := Lib.hid hbq
            have HB7 := Lib.hid (HB6.out.trans (hbq.mono hW6))
            have HBW7 := Lib.hid (HBW6.out.trans (hbq.mono HBW6.out.size))
            clear hbq
            have hsq := HBQ.out.size
            have HXD := Lib.hid ((HV.out.ok x hxm).deps.below (B := 0) HBW7.out)
            have hrb := HREC.out.below HBW7.out hgl
            obtain ⟨c0, c1, c13⟩ := And.intro hrb.c0 (And.intro hrb.c1 hrb.c13)
            obtain ⟨hd1, hd2⟩ := HXD.out.le
            unfold maxLen at hd2
            clear hrb
            by_cases hjl : j < x.deps.length
            · have hjj : (j : Int) < (x.deps.length : Int) := by omega
              obtain ⟨d, hd⟩ : ∃ d, x.deps[j]? = some d := ⟨_, List.getElem?_eq_getElem hjl⟩
              have hdm := List.mem_of_getElem? hd
              obtain ⟨b2, off2, e2, hbl2, y0, y1⟩ := HXD.out.row j d hd
              have HID := Lib.hid (HXD.out.ok d hdm)
              have HDM := Lib.hid hdm
              rw [e2] at c13
              clear hd e2 hdm
              go_upto_region 21 with fail
              obtain ⟨w8, hw8⟩ : ∃ w8, w8 = wr.alloc (idO d) := ⟨_, rfl⟩
              have hb8 : Below wr.heap.size wr w8 := by rw [hw8]; exact (Below.refl _ _).alloc (Nat.le_refl _) _
              have hx8 : w8.heap[wr.heap.size]? = some (idO d) := by rw [hw8]; exact heap_alloc_new wr _
              have HX8 := Lib.hid hx8
              have HBW8 := Lib.hid (HBW7.out.trans (hb8.mono HBW7.out.size))
              have HQ8 := Lib.hid (HBQ.out.trans (hb8.mono hsq))
              obtain ⟨⟨z0, z1⟩, _⟩ := box2 hx8
              rw [← hw8]
              clear hw8 hb8 hx8 y0 y1 c0 c1 c13
              go_wp2_with fail
              refine (HCL.out d w8 HID.out HBW8.out).mono ?_
              rintro e w9 ⟨lo, lc, le, zo, zc, lz, rfl, hcl, hle, _, hb9⟩
              have HBW9 := Lib.hid (HBW8.out.trans (hb9.mono HBW8.out.size))
              have HQ9 := Lib.hid (HQ8.out.trans (hb9.mono HQ8.out.size))
              have HLE := Lib.hid (show RecsV w9 lo lc le from recsV_cl hle hcl HV.out.ok HBW9.out)
              have HX9 := Lib.hid ((hb9.block _ (M.heap_lt HX8.out)).trans HX8.out)
              obtain ⟨p, hp⟩ : ∃ p, atI (idsX le) x.id = p := ⟨_, rfl⟩
              obtain ⟨q, hq⟩ : ∃ p, atI b d = p := ⟨_, rfl⟩
              have HPA := Lib.hid (refat_any le lo lc x.id w9 HLE.out p hp)
              have HFIN := Lib.hid (show p < 0 → ¬ at_ < q from fun h => by
                have hds : d ∈ idsX (srtR X) := by
                  have h1 := missB_no.1 HMS.out x.nd (List.mem_map.2 ⟨x, hxm, rfl⟩) d HDM.out
                  rw [nds_ids] at h1
                  exact ((srtR_perm X).map Rv.id).mem_iff.2 h1
                have := one_ok HSD.out HRB.out ((srtR_perm X).mem_iff.2 hxm) HDM.out hds hcl (atI_neg.1 (hp ▸ h))
                rw [HAT.out, hq] at this
                exact this)
              have HQQ := Lib.hid hq
              clear hcl hle hb9 hp hq z0 z1
              have hrb := HREC.out.below HBW9.out hgl
              obtain ⟨c0, c1⟩ := And.intro hrb.c0 hrb.c1
              clear hrb
              by_cases hp0 : p < 0
              · have hqa := HFIN.out hp0
                have hqd : decide (at_ < q) = false := decide_eq_false hqa
                go_wp2_with fail
                refine HPA.out.mono ?_
                rintro e w10 ⟨rfl, hb10⟩
                have HQ10 := Lib.hid (HQ9.out.trans (hb10.mono HQ9.out.size))
                have HB10 := Lib.hid (HB6.out.trans (HQ10.out.mono hW6))
                obtain ⟨⟨z0, z1⟩, _⟩ := box2 ((hb10.block _ (M.heap_lt HX9.out)).trans HX9.out)
                have HPD := Lib.hid (place_any b oo oc d w10 (HAV4.out.below (B := 0) HB10.out) q HQQ.out)
                rw [HBL.out] at HPD
                clear hb10 HPA c0 c1
                go_wp2_with fail
                refine HPD.out.mono ?_
                rintro e w11 ⟨rfl, hb11⟩
                have HQ11 := Lib.hid (HQ10.out.trans (hb11.mono HQ10.out.size))
                clear hb11 HPD z0 z1
                go_wp2_with fail
                go_roundw
                case rel => exact ⟨j + 1, by go_num, by omega, HQ11.out⟩
                case measure => simp [intOf]; omega
              · have hpd : decide (p < 0) = false := decide_eq_false hp0
                go_wp2_with fail
                refine HPA.out.mono ?_
                rintro e w10 ⟨rfl, hb10⟩
                have HQ10 := Lib.hid (HQ9.out.trans (hb10.mono HQ9.out.size))
                clear hb10 HPA c0 c1
                go_wp2_with fail
                go_roundw
                case rel => exact ⟨j + 1, by go_num, by omega, HQ10.out⟩
                case measure => simp [intOf]; omega
            · obtain rfl : j = x.deps.length := by omega
              have hjj : ¬ (x.deps.length : Int) < (x.deps.length : Int) := by omega
              go_wp2_with fail
              go_roundw
              case rel => exact ⟨k + 1, by go_num, by omega, HB7.out⟩
              case measure => simp [intOf]; omega
        · obtain rfl : k = X.length := by omega
          have hii : ¬ (X.length : Int) < (X.length : Int) := by omega
          go_wp2_with fail
          refine (awake_any _ (HT.out.next HBW.out)).mono ?_
          rintro e wz ⟨rfl, hbz⟩
          have HBZ := Lib.hid ((HBW.out).trans (hbz.mono (HBW.out).size))
          clear hbz
          go_wp2_with fail
          go_ret
          exact ⟨rfl, HBZ.out⟩
    · have hne : (v != 0) = true := by simpa using hv0
      obtain rfl : b = [] := HNA.out hv0
      clear hv0
      go_wp2_with fail
      refine (awake_any _ (HT.out.next HB4.out)).mono ?_
      rintro e wz ⟨rfl, hbz⟩
      have HBZ := Lib.hid ((HB4.out).trans (hbz.mono (HB4.out).size))
      clear hbz
      go_wp2_with fail
      go_ret
      exact ⟨rfl, HBZ.out⟩
end Go.Proofs.YtndfhejfhfhbdaaGreatDoor.O

/- From the listed variables of the rows to the tables that the walks take. -/
namespace Go.Proofs.YtndfhejfhfhbdaaGreatDoor.O
open Go.RowKit Go.PlainAid Go.Lib Go.Proofs.YtndfhejfhfhbdaaGreatDoor.R

theorem u8x : Go.Proofs.U8Extra Tryz.prog Tryz.lays260_ren := ⟨by kernel_rfl, by kernel_rfl, by kernel_rfl, by kernel_rfl, by kernel_rfl, by kernel_rfl, by kernel_rfl⟩
theorem accept_eq : Rows.laid_unicode_utf8_acceptRanges (H := Unit) = Go.Lib.acceptData := by kernel_rfl
theorem tabs_mk {W : World} (hu : Lib.Utf8Tabs 0 1 W) : Tabs W :=
  ⟨hu, World.block_lt_of_cell? W _ (hu.1 0 (by decide)), World.block_lt_of_cell? W _ (hu.2 0 (by decide)).1⟩
theorem tabsR_of {W : World} (hL : laidMet Tryz.prog Rows.orderPartsRow.laid W) : Tabs W :=
  tabs_mk (Go.Proofs.utf8Tabs_of_reads Tryz.lays260 u8x (Pinned.utf8First_eq ▸ Go.Lib.laidMet.reads hL (.tail _ (.head _))) (accept_eq ▸ Go.Lib.laidMet.reads hL (.head _)))
end Go.Proofs.YtndfhejfhfhbdaaGreatDoor.O
