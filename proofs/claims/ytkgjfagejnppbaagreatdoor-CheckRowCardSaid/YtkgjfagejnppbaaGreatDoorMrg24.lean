/- Several texts in one. -/
import Derived.Test.YtkgjfagejnppbaaGreatDoorMrg23
import Derived.Test.YtkgjfagejnppbaaGreatDoorMrg19

/- The engine's ready. -/
namespace Go.Proofs.YtkgjfagejnppbaaGreatDoor.O
open Go.RowKit Go.Proofs.YtkgjfagejnppbaaGreatDoor.M Go.BigFrame
set_option linter.unusedVariables false
set_option linter.unusedSimpArgs false

theorem left_perm {L left : List Rv} (hn : (idsX L).Nodup) (hs : left.Sublist L) {x : Rv} (hx : x ∈ left) : left.Perm (x :: left.filter fun y => !decide (y.id = x.id)) := by
  have h1 : left.Nodup := (nodup_of_map _ hn).sublist hs
  have h2 : (x :: left.filter fun y => !decide (y.id = x.id)).Nodup := List.nodup_cons.2 ⟨fun h => by have := (List.mem_filter.1 h).2; simp at this, h1.sublist List.filter_sublist⟩
  refine (List.perm_ext_iff_of_nodup h1 h2).2 fun y => ?_
  rw [List.mem_cons, List.mem_filter]
  constructor
  · intro hy
    by_cases e : y.id = x.id
    · exact .inl (nodup_inj Rv.id hn (hs.subset hy) (hs.subset hx) e)
    · exact .inr ⟨hy, by simpa using e⟩
  · rintro (rfl | ⟨h, _⟩)
    · exact hx
    · exact h
theorem readyL_app (V U : List Rv) (D O : List Id) : readyL (V ++ U) D O = readyL V D O ++ readyL U D O := by
  unfold readyL
  rw [List.filter_append, List.map_append]
theorem readyL_one_in {x : Rv} {D O : List Id} (h : x.id ∈ O) : readyL [x] D O = [] := by unfold readyL; simp [h]
theorem readyL_one_out {x : Rv} {D O : List Id} (h : x.id ∉ O) : readyL [x] D O = [rest D x] := by unfold readyL; simp [h]
theorem readyL_perm {V U : List Rv} (h : V.Perm U) (D O : List Id) : (readyL V D O).Perm (readyL U D O) := by unfold readyL; exact (h.filter _).map _
/-- a record of the call's own -/
structure ZOk (w : World) (B : Nat) (z : Rv) : Prop where
  cmd : P.CmdOk z.cmd
  id : IdI z.id
  di : ∀ d ∈ z.deps, IdI d
  own : OwnL w B z.ao z.cap z.deps
theorem ZOk.below {w w1 : World} {B : Nat} {z : Rv} (h : ZOk w B z) (hb : Below w.heap.size w w1) : ZOk w1 B z := ⟨h.cmd, h.id, h.di, eown_below h.own hb⟩
theorem ZOk.rv {w : World} {B : Nat} {z : Rv} (h : ZOk w B z) : RvOk w z := ⟨h.cmd, IdsV.of_own h.own h.di, h.id⟩
theorem own_rng {w w1 : World} {b r n cnt : Nat} {L left : List Rv} {B : Nat} {e : TypeId} {sz : Nat} {v : Value} {k : Nat} {xs : List Value} (h : w.ownsRow B e sz v k xs) (hr : RngR w b r n L left cnt) (hm : Mods (fun j => j = r) w w1) : w1.ownsRow B e sz v k xs :=
  own_kept h hm fun j hj e => by
    subst e
    obtain ⟨D, lf, ⟨es, clock, since, seen, c0, _, _, _, _, hi, _⟩, _⟩ := hr.own
    rcases h.2 with ⟨e, _⟩ | ⟨g, cap, cur, e, _, hg, _⟩
    · rw [e] at hj; cases hj
    · rw [e] at hj
      cases hj
      rw [hi] at hg; cases hg
set_option maxRecDepth 100000 in
set_option maxHeartbeats 4000000 in
theorem deli_any (p B : Nat) (w : World) (ao : Option Addr) (cap : Nat) (l : List Id) (q : Id → Bool) (h : OwnL w B ao cap l) (hok : ∀ x ∈ l, IdI x) (hle : l.length ≤ 1000000)
    (hq : ∀ wx, Mods (fun k => ∃ a, ao = some a ∧ k = a.block) w wx → ∀ x ∈ l, Calls Tryz.prog 84 #[.pointer (some ⟨p, 0, none⟩), idV x] wx fun e w' => e = .returned (.bool (q x)) ∧ Below wx.heap.size wx w') :
    Calls Tryz.prog 83 #[.slice ao l.length cap, .func (.func 84) #[.pointer (some ⟨p, 0, none⟩)] #[]] w fun e w' => e = .returned (.slice ao (stayI q l).length cap) ∧ (OwnL w' B ao cap (stayI q l) ∧ Mods (fun k => ∃ a, ao = some a ∧ k = a.block) w w') := by
  cases ha : l.any q with
  | false =>
    have hno : ∀ x ∈ l, q x = false := fun x hx => by simpa using List.any_eq_false.1 ha x hx
    have e : stayI q l = l := List.filter_eq_self.2 fun x hx => by rw [hno x hx]; rfl
    rw [e]
    refine (deli_none p l ao cap q w (IdsV.of_own h hok) (fun wx hb => hq wx (Mods.of_below hb)) hno).mono ?_
    rintro e w' ⟨rfl, hb⟩
    exact ⟨rfl, eown_below h hb, Mods.of_below hb⟩
  | true =>
    obtain ⟨n, y, h1, h2, h3⟩ := first_at q l ha
    obtain ⟨g, rfl⟩ := own_some h (by have := (List.getElem?_eq_some_iff.1 h1).1; omega)
    have hm : ∀ {wx : World}, Mods (fun k => k = g) w wx → Mods (fun k => ∃ a, some (⟨g, 0, none⟩ : Addr) = some a ∧ k = a.block) w wx := fun {wx} h => (Mods.refl _ w).then h (fun k _ e => ⟨_, rfl, e⟩)
    refine (deli_some p B w g cap l q h hok hle (fun wx hb => hq wx (hm hb)) n y h1 h2 h3).mono ?_
    rintro e w' ⟨rfl, hb, hmm⟩
    exact ⟨rfl, hb, hm hmm⟩
set_option maxRecDepth 100000 in
set_option maxHeartbeats 4000000 in
theorem engready_any (p b1 b2 n m : Nat) (ro : Option Addr) (rc : Nat) (L : List Rv) (D : List Id) (w : World) (h : EngAt w p b1 b2 n m ro rc L D) (hL : L.length ≤ 1000000) (hdl : ∀ x ∈ L, x.deps.length ≤ 10000) :
    Calls Tryz.prog 48 #[.pointer (some ⟨p, 0, none⟩)] w fun e w' => ∃ (O : List Id) (oo : Option Addr) (oc : Nat) (R : List Rv), e = .returned (.slice oo R.length oc) ∧ ((R.map core).Perm (readyL L D O) ∧ (∀ i, i ∈ O ↔ Stuck L D i) ∧ Shut L D O ∧ RecsV w' oo oc R ∧ Below w.heap.size w w') := by
  obtain ⟨i0, hi, hz0, hz1, hz2⟩ := info_parts info_rec
  have H := Lib.hid h
  have hplt := h.plt
  have HST := Lib.hid (engstuck_any p b1 b2 n m ro rc L D w h hL)
  clear h
  go_enter Tryz.func48, Tryz.ntmps48
  go_wp2_with fail
  refine HST.out.mono ?_
  rintro e w1 ⟨b3, O, rfl, hmp, hnd, hst, hsh, hb3, hb1⟩
  have HMP := Lib.hid hmp
  have HSS := Lib.hid hst
  have HSH := Lib.hid hsh
  have HB1 := Lib.hid hb1
  have HE := Lib.hid (H.out.below hb1)
  have hlt3 := hmp.lt
  clear hmp hnd hst hsh hb1 HST
  obtain ⟨e0, e1, e2⟩ := HE.out.cells
  go_wp2_with (at_range; refine wpList_rangeR HE.out.wt rfl _ rfl rfl ?_; intro w2 cnt1 hrg1 hb2; have HRG1 := Lib.hid hrg1; have HB2 := Lib.hid hb2; clear hrg1 hb2)
  go_frame
  clear e0 e1 e2
  have HW2 := Lib.hid (HB1.out.trans (HB2.out.mono HB1.out.size))
  have hs1 := HB1.out.size
  have HMP2 := Lib.hid (HMP.out.below HB2.out)
  go_loopw [4] (fun ov wr => ∃ (V R : List Rv) (oo : Option Addr) (oc : Nat) (left : List Rv) (cnt : Nat), ov = .slice oo R.length oc ∧ RngR wr b1 w1.heap.size n L left cnt ∧ (V ++ left).Perm L ∧ (R.map core).Perm (readyL V D O) ∧ OwnR wr w.heap.size oo oc R ∧ (∀ z ∈ R, ZOk wr w.heap.size z) ∧ MapB wr b3 O.length O ∧ Below w.heap.size w wr) (fun _ wr => wr.rangeLeft b1 w1.heap.size)
  case atStart => exact ⟨[], [], none, 0, L, cnt1, rfl, HRG1.out, List.Perm.refl _, List.Perm.refl _, World.ownsRow_nil _ _ _ _, fun z hz => (by cases hz), HMP2.out, HW2.out⟩
  case round =>
    obtain ⟨V, R, oo, oc, left, cnt, rfl, hrg, hpv, hpr, hown, hz, hmp, hbw⟩ := hrel
    have HR := Lib.hid hrg
    have HPV := Lib.hid hpv
    have HPR := Lib.hid hpr
    have HOW := Lib.hid hown
    have HZ := Lib.hid hz
    have HMP3 := Lib.hid hmp
    have HBW := Lib.hid hbw
    clear hrg hpv hpr hown hz hmp hbw HRG1 HMP HMP2 HB2
    have hWr := HBW.out.size
    have hrl := HR.out.lt.1
    go_upto_region 6 with (at_next; refine wpList_nextR HR.out rfl _ rfl rfl (fun HL0 => ?_) (fun x w3 cnt3 HXL HRG HLT HMN hen => ?_))
    · go_ret
      refine ⟨O, oo, oc, R, rfl, HPR.out.trans (readyL_perm (by have := HPV.out; rwa [HL0.out, List.append_nil] at this) D O), HSS.out, HSH.out, RecsV.of_own HOW.out (fun z hz => (HZ.out z hz).rv), HBW.out⟩
    · have HXM := Lib.hid (HR.out.sub.subset HXL.out)
      have HB3 := Lib.hid (HBW.out.trans (HMN.out.below (fun j e => by omega) hWr))
      have HLP := Lib.hid (left_perm H.out.wt.nd HR.out.sub HXL.out)
      obtain ⟨W5, hW5⟩ : ∃ W5, W5 = (w3.alloc (idO x.id)).alloc (recO x) := ⟨_, rfl⟩
      rw [← hW5]
      have hb5 : Below w3.heap.size w3 W5 := by rw [hW5]; exact ((Below.refl _ _).alloc (Nat.le_refl _) _).alloc (by simp) _
      have hxi : W5.heap[w3.heap.size]? = some (idO x.id) := by rw [hW5, heap_al, heap_al]; simp
      have hxr : W5.heap[w3.heap.size + 1]? = some (recO x) := by rw [hW5, heap_al]; simp
      obtain ⟨bx, hbx⟩ : ∃ g, g = w3.heap.size + 1 := ⟨_, rfl⟩
      rw [← hbx] at hxr ⊢
      have HXR := Lib.hid hxr
      have hbxl : w.heap.size ≤ bx ∧ wr.heap.size ≤ bx := by
        have := HB3.out.size
        have := HMN.out.size
        omega
      have HB5 := Lib.hid (HB3.out.trans (hb5.mono HB3.out.size))
      have HE5 := Lib.hid (H.out.below HB5.out)
      have HRG5 := Lib.hid (HRG.out.below hb5)
      have HOW5 := Lib.hid (show OwnR W5 w.heap.size oo oc R from own_kept (own_rng HOW.out HR.out HMN.out) (Mods.of_below (S := fun _ => False) hb5) (fun _ _ h => h))
      have HZ5 := Lib.hid (show ∀ z ∈ R, ZOk W5 w.heap.size z from fun z hz => (show ZOk w3 w.heap.size z from ⟨(HZ.out z hz).cmd, (HZ.out z hz).id, (HZ.out z hz).di, own_rng (HZ.out z hz).own HR.out HMN.out⟩).below hb5)
      have HMP5 := Lib.hid (show MapB W5 b3 O.length O from (HMP3.out.keep HMN.out (fun e => by omega)).below hb5)
      have HPV2 := Lib.hid (show ((V ++ [x]) ++ left.filter fun y => !decide (y.id = x.id)).Perm L by
        rw [List.append_assoc]
        exact (List.Perm.append_left V HLP.out.symm).trans HPV.out)
      obtain ⟨⟨i0', i1'⟩, _⟩ := box2 hxi
      have hlk := HMP5.out.look (H.out.wt.ok x HXM.out)
      obtain ⟨bo, hbo⟩ : ∃ b, decide (x.id ∈ O) = b := ⟨_, rfl⟩
      have HBO := Lib.hid hbo
      rw [hbo] at hlk
      have hlk2 : (Instr.lookup 105 (.map (some b3)) (idV x.id) false).run Tryz.prog W5 = .ok (.bool bo) W5 := hlk
      clear hbo hlk hW5 hb5 hxi hbx hxr
      cases bo with
      | true =>
        have HPR2 := Lib.hid (show (R.map core).Perm (readyL (V ++ [x]) D O) by
          rw [readyL_app, readyL_one_in (of_decide_eq_true HBO.out), List.append_nil]
          exact HPR.out)
        go_wp2_with fail
        clear hlk2
        go_roundw
        case rel => exact ⟨V ++ [x], R, oo, oc, _, cnt3, rfl, HRG5.out, HPV2.out, HPR2.out, HOW5.out, HZ5.out, HMP5.out, HB5.out⟩
        case measure =>
          rw [HRG5.out.left_eq, HR.out.left_eq]
          exact HLT.out
      | false =>
        obtain ⟨c0, c1, c2, c33, c4, c5, c6, c7, c8, c9, c10, c11, c12, c13, c14, c15⟩ := box16 HXR.out
        clear c0 c1 c2 c33 c4 c5 c6 c7 c8 c9 c10 c11 c12 c14 c15
        have hdlx := hdl x HXM.out
        have HCL := Lib.hid (cloneI_any x.deps x.ao x.cap W5 (HE5.out.ok x HXM.out).1.deps (by omega))
        go_upto_region 7 with fail
        clear hlk2 i0' i1'
        go_wp2_with fail
        refine HCL.out.mono ?_
        rintro e w6 ⟨ao, cap, rfl, hown, hb6⟩
        have hs5 := HB5.out.size
        have HB6 := Lib.hid (HB5.out.trans (hb6.mono hs5))
        have HXR6 := Lib.hid ((hb6.block _ (M.heap_lt HXR.out)).trans HXR.out)
        have HRG6 := Lib.hid (HRG5.out.below hb6)
        have HMP6 := Lib.hid (HMP5.out.below hb6)
        have HOW6 := Lib.hid (show OwnR w6 w.heap.size oo oc R from own_kept HOW5.out (Mods.of_below (S := fun _ => False) hb6) (fun _ _ h => h))
        have HZ6 := Lib.hid (show ∀ z ∈ R, ZOk w6 w.heap.size z from fun z hz => (HZ5.out z hz).below hb6)
        have HZL := Lib.hid (show ∀ z ∈ R, ∀ a, z.ao = some a → a.block < W5.heap.size from fun z hz a e => by
          obtain ⟨cs, hc⟩ := own_cells (HZ5.out z hz).own a e
          exact M.heap_lt hc)
        have HOL := Lib.hid (show ∀ a, oo = some a → a.block < W5.heap.size from fun a e => (HOW5.out.lt a.block (by rw [e]; rfl)).2)
        have HOWN := Lib.hid (show OwnL w6 W5.heap.size ao cap x.deps from hown)
        have HAO := Lib.hid (show ∀ a, ao = some a → W5.heap.size ≤ a.block from fun a e => (HOWN.out.lt a.block (by rw [e]; rfl)).1)
        have HDEL := Lib.hid (deli_any p W5.heap.size w6 ao cap x.deps (fun d => decide (d ∈ D)) HOWN.out (HE5.out.ok x HXM.out).1.deps.ok (by omega) (fun wx hm d hd => engdone_any p b1 b2 n m ro rc L D d wx (H.out.below (HB6.out.trans (hm.below (fun j ⟨a, e, ej⟩ => by have := HAO.out a e; omega) HB6.out.size))) ((HE5.out.ok x HXM.out).1.deps.ok d hd) _ rfl))
        clear hown hb6 HCL c13
        go_wp2_with fail
        refine HDEL.out.mono ?_
        rintro e w7 ⟨rfl, how7, hm7⟩
        have hnb : ¬ ∃ a, ao = some a ∧ bx = a.block := fun ⟨a, e, ea⟩ => by
          obtain ⟨cs, hc⟩ := own_cells HOWN.out a e
          rw [← ea, HXR6.out] at hc
          simp only [Option.some.injEq, Obj.cells.injEq] at hc
          exact absurd hc.2.1 (by decide)
        have hns : ∀ j, j < W5.heap.size → ¬ ∃ a, ao = some a ∧ j = a.block := fun j hj ⟨a, e, ea⟩ => by
          have := HAO.out a e
          omega
        have HXR7 := Lib.hid (hm7.heap HXR6.out hnb)
        have HRG7 := Lib.hid (HRG6.out.keep hm7 (hns _ HRG5.out.lt.2) (hns _ HRG5.out.lt.1))
        have HMP7 := Lib.hid (HMP6.out.keep hm7 (hns _ HMP5.out.lt))
        have HOW7 := Lib.hid (show OwnR w7 w.heap.size oo oc R from own_kept HOW6.out hm7 (fun k hk => by
          cases oo with
          | none => cases hk
          | some a =>
            obtain rfl : a.block = k := Option.some.inj hk
            exact hns _ (HOL.out a rfl)))
        have HZ7 := Lib.hid (show ∀ z ∈ R, ZOk w7 w.heap.size z from fun z hz => ⟨(HZ6.out z hz).cmd, (HZ6.out z hz).id, (HZ6.out z hz).di, own_mods (HZ6.out z hz).own hm7 (fun a e => hns _ (HZL.out z hz a e))⟩)
        have HB7 := Lib.hid (HB6.out.trans (hm7.below (fun j ⟨a, e, ej⟩ => by have := HAO.out a e; omega) HB6.out.size))
        have HNW := Lib.hid (show OwnL w7 w.heap.size ao cap (stayI (fun d => decide (d ∈ D)) x.deps) from own_base how7 (fun q hq => Nat.le_trans hs5 (how7.lt q hq).1))
        have HIS := Lib.hid (HE5.out.ok x HXM.out).1
        obtain ⟨c0, c1, c2, c33, c4, c5, c6, c7, c8, c9, c10, c11, c12, c13, c14, c15⟩ := box16 HXR7.out
        have nf : w7.frozen? ⟨bx, 13, none⟩ = false := by simp [World.frozen?, HXR7.out]
        clear how7 hm7 hnb hns c0 c1 c2 c33 c4 c5 c6 c7 c8 c9 c10 c11 c12 c14 c15 HDEL
        go_upto_region 8 with fail
        clear c13 nf
        obtain ⟨w8, hw8⟩ : ∃ w8, w8 = w7.setCell ⟨bx, 13, none⟩ (.slice ao (stayI (fun d => decide (d ∈ D)) x.deps).length cap) := ⟨_, rfl⟩
        rw [← hw8]
        have s1 := heap_set w7 bx 13 (.slice ao (stayI (fun d => decide (d ∈ D)) x.deps).length cap) bx _ _ _ HXR7.out
        rw [if_pos rfl, ← hw8] at s1
        have ms : Mods (fun j => j = bx) w7 w8 := by rw [hw8]; exact (Mods.refl (fun j => j = bx) w7).setCell (p := ⟨bx, 13, none⟩) (fun _ => rfl) _
        obtain ⟨y, hy⟩ : ∃ y : Rv, { x with ao := ao, cap := cap, deps := stayI (fun d => decide (d ∈ D)) x.deps } = y := ⟨_, rfl⟩
        have hxr8 : w8.heap[bx]? = some (recO y) := by rw [← hy, s1]; rfl
        have HB8 := Lib.hid (HB7.out.trans (ms.below (fun j e => by omega) HB7.out.size))
        have HRG8 := Lib.hid (HRG7.out.keep ms (fun e => by have := H.out.wt.lt; omega) (fun e => by omega))
        have HMP8 := Lib.hid (HMP7.out.keep ms (fun e => by have := HMP3.out.lt; omega))
        have hlo : ∀ j, j < wr.heap.size → ¬ j = bx := fun j hj e => by omega
        have HOW8 := Lib.hid (show OwnR w8 w.heap.size oo oc R from own_kept HOW7.out ms (fun k hk => by
          refine hlo k ?_
          exact (HOW.out.lt k hk).2))
        have HZ8 := Lib.hid (show ∀ z ∈ R, ZOk w8 w.heap.size z from fun z hz => ⟨(HZ7.out z hz).cmd, (HZ7.out z hz).id, (HZ7.out z hz).di, eown_apart (HZ7.out z hz).own HXR7.out ms⟩)
        have HNY := Lib.hid (show ZOk w8 w.heap.size y by
          rw [← hy]
          exact ⟨HIS.out.cmd, HIS.out.id, fun d hd => HIS.out.deps.ok d (List.mem_filter.1 hd).1, eown_apart HNW.out HXR7.out ms⟩)
        have HCO := Lib.hid (show core y = rest D x by rw [← hy]; rfl)
        have HPR2 := Lib.hid (show ((R ++ [y]).map core).Perm (readyL (V ++ [x]) D O) by
          rw [readyL_app, readyL_one_out (of_decide_eq_false HBO.out), List.map_append]
          exact (HPR.out.append_right _).trans (List.Perm.of_eq (by rw [← HCO.out]; rfl)))
        have hRl : R.length ≤ 1000000 := by
          have h1 := HPR.out.length_eq
          have h2 := HPV.out.length_eq
          rw [List.length_append] at h2
          have h3 : (readyL V D O).length ≤ V.length := by unfold readyL; rw [List.length_map]; exact List.length_filter_le _ _
          rw [List.length_map] at h1
          omega
        clear hy s1 ms hw8 hlo
        obtain ⟨c0, c1, c2, c33, c4, c5, c6, c7, c8, c9, c10, c11, c12, c13, c14, c15⟩ := box16 hxr8
        have hs8 := HB8.out.size
        clear hxr8
        go_wp2_with (refine wpList_app recC 16 (fun _ => rfl) (by decide) recC_one (by rfl) (.tmp 32) (.tmp 34) 26 (by rfl) w.heap.size 43 i0 _ 160 Tryz.underlying26 hi hz0 hz1 hz2 (by decide) rfl oo oc R y (recA y) rfl (by rfl) (by exact HOW8.out) (by rfl) (by omega) (by omega) ?_; intro oo' oc' w9 hown hmod hbel; have HOW9 := Lib.hid hown; have HBE9 := Lib.hid hbel; have HM9 := Lib.hid hmod; clear hown hmod hbel)
        clear c0 c1 c2 c33 c4 c5 c6 c7 c8 c9 c10 c11 c12 c13 c14 c15
        have HNE := Lib.hid (show ∀ j, j < wr.heap.size → (∃ a, oo = some a ∧ j = a.block) → ∃ a, oo = some a ∧ j = a.block from fun j hj h => h)
        have hmap : ∀ j, (∃ a, oo = some a ∧ j = a.block) → ∃ cs, w8.heap[j]? = some (.cells cs 43 (0, 0)) := fun j ⟨a, e, ej⟩ => by
          subst e
          rw [ej]
          rcases HOW8.out.2 with ⟨e, _⟩ | ⟨g, cap, cur, e, _, hg, _⟩
          · cases e
          · cases e
            exact ⟨_, hg⟩
        have HRG9 := Lib.hid (show RngR w9 b1 w1.heap.size n L _ cnt3 from HRG8.out.keep HM9.out (fun h => by obtain ⟨cs, hc⟩ := hmap _ h; exact HRG8.out.map.nocells hc) (fun h => by
          obtain ⟨cs, hc⟩ := hmap _ h
          obtain ⟨D2, lf, ⟨es, clock, since, seen, c0, _, _, _, _, hi2, _⟩, _⟩ := HRG8.out.own
          rw [hi2] at hc; cases hc))
        have HMP9 := Lib.hid (show MapB w9 b3 O.length O from HMP8.out.keep HM9.out (fun h => by obtain ⟨cs, hc⟩ := hmap _ h; exact HMP8.out.nocells hc))
        clear hmap
        go_roundw
        case rel =>
          refine ⟨V ++ [x], R ++ [y], oo', oc', _, cnt3, by simp, HRG9.out, HPV2.out, HPR2.out, HOW9.out, fun z hz => ?_, HMP9.out, HB8.out.trans HBE9.out⟩
          rcases List.mem_append.1 hz with hz | hz
          · exact ⟨(HZ8.out z hz).cmd, (HZ8.out z hz).id, (HZ8.out z hz).di, own_beside (HZ8.out z hz).own HOW8.out (by decide) HM9.out⟩
          · rw [List.mem_singleton.1 hz]
            exact ⟨HNY.out.cmd, HNY.out.id, HNY.out.di, own_beside HNY.out.own HOW8.out (by decide) HM9.out⟩
        case measure =>
          rw [HRG9.out.left_eq, HR.out.left_eq]
          exact HLT.out
end Go.Proofs.YtkgjfagejnppbaaGreatDoor.O

/- The engine's Run. -/
namespace Go.Proofs.YtkgjfagejnppbaaGreatDoor.O
open Go.RowKit Go.Proofs.YtkgjfagejnppbaaGreatDoor.M Go.BigFrame Go.Proofs.YtkgjfagejnppbaaGreatDoor.K
set_option linter.unusedVariables false
set_option linter.unusedSimpArgs false

/-- what is left when the first k of a row are taken out -/
def lessL (L : List Rv) (out : List Id) (k : Nat) : List Rv := L.filter fun x => !decide (x.id ∈ out.take k)
theorem lessL_zero (L : List Rv) (out : List Id) : lessL L out 0 = L := by unfold lessL; simp
theorem lessL_next {L : List Rv} {out : List Id} {k : Nat} {i : Id} (h : out[k]? = some i) : (lessL L out k).filter (fun x => !decide (x.id = i)) = lessL L out (k + 1) := by
  unfold lessL
  rw [List.filter_filter, List.take_add_one, h]
  refine List.filter_congr fun x _ => ?_
  by_cases e : x.id = i <;> simp [e]
theorem lessL_all {L : List Rv} {out O : List Id} (hn : (idsX L).Nodup) (hp : out.Perm (idsX (L.filter fun x => !decide (x.id ∈ O)))) : lessL L out out.length = stayL L O := by
  unfold lessL stayL
  rw [List.take_length]
  refine List.filter_congr fun x hx => ?_
  by_cases e : x.id ∈ O
  · have : x.id ∉ out := fun h => by
      obtain ⟨y, hy, h2⟩ := List.mem_map.1 (hp.mem_iff.1 h)
      have h3 := (List.mem_filter.1 hy).2
      rw [h2] at h3
      simp [e] at h3
    simp [e, this]
  · have : x.id ∈ out := hp.mem_iff.2 (List.mem_map.2 ⟨x, List.mem_filter.2 ⟨hx, by simpa using e⟩, rfl⟩)
    simp [e, this]
theorem rest_of {R L : List Rv} {D O : List Id} (hp : (R.map core).Perm (readyL L D O)) {z : Rv} (hz : z ∈ R) : ∃ x ∈ L, core z = rest D x := by
  have h1 := hp.mem_iff.1 (List.mem_map.2 ⟨z, hz, rfl⟩)
  unfold readyL at h1
  obtain ⟨x, hx, e⟩ := List.mem_map.1 h1
  exact ⟨x, (List.mem_filter.1 hx).1, e.symm⟩
section
variable {P : Program} {w : World} {α : Type}
theorem wpList_apps2 (enc : α → List Value) (k : Nat) (hk : ∀ x, (enc x).length = k) (h0 : 0 < k) (h1 : ∀ x, ∀ v ∈ enc x, v.oneCell' = true) {ops : Array Oper} {rest : List Oper} {o : Oper} {a : Act} {Q : Exit → Act → World → Prop} (hgd : o.guard = none) (s x : Operand) (t : TypeId)
    (ho : o.op = .call { callee := .builtin .append, args := #[s, x], argTypes := #[t, t] }) (B : Nat) (e : TypeId) (i : TypeInfo) (z : Value) (bytes : Nat) (ht : P.underlying t = some (.slice e)) (hi : P.info? e = some i) (hz : i.zero = some z)
    (hsize : i.size = k) (hby : i.bytes = bytes) (hb2 : bytes ≤ 1000) (hzs : z.cells.size = k) (oo : Option Addr) (oc m : Nat) (M : List α) (hMl : M.length = m) (so : Option Addr) (sc n : Nat) (N : List α) (hNl : N.length = n) (hs : a.eval s = .slice oo m oc)
    (hown : w.ownsRow B e k (.slice oo m oc) m (M.flatMap enc)) (hx : a.eval x = .slice so n sc) (hsrc : SrcAt w so (N.flatMap enc)) (hM : m + n ≤ 100000000) (hB : B ≤ w.heap.size)
    (h : ∀ oo' oc' w', w'.ownsRow B e k (.slice oo' (m + n) oc') (m + n) ((M ++ N).flatMap enc) → Mods (fun j => ∃ a, oo = some a ∧ j = a.block) w w' → Below B w w' → (∀ a, oo' = some a → (∃ a0, oo = some a0 ∧ a.block = a0.block) ∨ w.heap.size ≤ a.block) → wpList P ops Q rest (a.put o.dst (.slice oo' (m + n) oc')) w') :
    wpList P ops Q (o :: rest) a w := by
  cases N with
  | nil =>
    obtain rfl : n = 0 := by rw [← hNl]; rfl
    have hrun := run_append_owned_empty (P := P) (w := w) B t o.type e i k ht hi _ _ _ hown so sc
    have hK := h oo oc w (by simpa using hown) (Mods.refl _ _) (Below.refl _ _) (fun a e => .inl ⟨a, e, rfl⟩)
    rw [Nat.add_zero] at hK
    refine wpList_plain hgd fun K hKK => ?_
    unfold Oper.wp
    simp [execOp, ho, resolve, invoke, builtin, hs, hx, hrun, Result.andThen]
    exact hKK _ _ hK
  | cons y N' =>
    obtain ⟨N, hN⟩ : ∃ N, y :: N' = N := ⟨_, rfl⟩
    have hpos : 0 < n := by rw [← hNl]; simp
    rw [hN] at hNl hsrc h
    clear hN
    have hlen : (N.flatMap enc).length = n * k := by rw [← hNl]; exact flat_len enc k hk N
    have hne : N.flatMap enc ≠ [] := fun e0 => by
      rw [e0] at hlen
      have := Nat.mul_pos hpos h0
      simp at hlen
      omega
    obtain ⟨ad, rfl, hcells⟩ := hsrc hne
    refine wpList_append_lies _ hgd s x t ho B e i z k bytes ht hi hz hsize hby hzs h0 (.slice oo m oc) m (M.flatMap enc) hs hown ad n sc (N.flatMap enc) hx hlen hcells
      (fun u hu => by obtain ⟨x, hx1, hx2⟩ := List.mem_flatMap.1 hu; exact h1 x u hx2) hpos (by unfold maxLen; omega) ?_ hB w.heap.size rfl ?_
    · have : (m + n) * bytes ≤ 100000000 * 1000 := Nat.mul_le_mul (by omega) hb2
      omega
    · intro g cap w' hown' hgrow hgg _
      have hm : Mods (fun j => ∃ a, oo = some a ∧ j = a.block) w w' := (Mods.refl _ w).then (Mods.of_grown hgrow) (fun k _ hk => by
        cases oo with
        | none => cases hk
        | some a => exact ⟨a, rfl, (Option.some.inj hk).symm⟩)
      have hb : Below B w w' := hm.below (fun j ⟨a, e1, e2⟩ => by
        subst e1
        rw [e2]
        exact (hown.lt a.block rfl).1) hB
      exact h (some ⟨g, 0, none⟩) cap w' (by rw [List.flatMap_append]; exact hown') hm hb (fun a e => by
        cases e
        rcases hgg with h1 | h1
        · left
          cases oo with
          | none => cases h1
          | some a0 => exact ⟨a0, rfl, (Option.some.inj h1).symm⟩
        · right
          exact Nat.le_of_eq h1.symm)
end
/-- what holds while what runs is laid down -/
structure RunAt (w wr : World) (b1 b2 n m k : Nat) (L : List Rv) (D out : List Id) : Prop where
  wt : MapR wr b1 n (lessL L out k)
  dn : MapB wr b2 (m + k) (D ++ out.take k)
  md : Mods (fun j => j = b1 ∨ j = b2) w wr
set_option maxRecDepth 100000 in
set_option maxHeartbeats 4000000 in
theorem engrun_any (p b1 b2 n m : Nat) (ro : Option Addr) (rc : Nat) (L : List Rv) (D : List Id) (w : World) (h : EngAt w p b1 b2 n m ro rc L D) (hT : Go.Proofs.YtkgjfagejnppbaaGreatDoor.R.Tabs w) (hL : L.length ≤ 20) (hdl : ∀ x ∈ L, x.deps.length ≤ 10000) (hkl : ∀ x ∈ L, x.cmd.key.size ≤ 1000000) (hm : m ≤ 1000000) (hD : D.length ≤ 1000000) (hdj : ∀ x ∈ L, x.id ∉ D) :
    Calls Tryz.prog 32 #[.pointer (some ⟨p, 0, none⟩)] w fun e w' => ∃ (oo : Option Addr) (oc : Nat) (out : List Id), e = .returned (.slice oo out.length oc) ∧ (∃ (O : List Id) (R : List Rv) (ro' : Option Addr) (rc' : Nat), Row (byIds (nds R)) out ∧ (R.map core).Perm (readyL L D O) ∧ (∀ i, i ∈ O ↔ Stuck L D i) ∧ out.Perm (idsX (L.filter fun x => !decide (x.id ∈ O))) ∧
      EngAt w' p b1 b2 n (m + out.length) ro' rc' (stayL L O) (D ++ out) ∧ OwnL w' w.heap.size oo oc out ∧ Mods (EngF p b1 b2 ro) w w' ∧ (∀ j, EngF p b1 b2 ro' j → EngF p b1 b2 ro j ∨ w.heap.size ≤ j) ∧ ∀ a, oo = some a → ¬ EngF p b1 b2 ro' a.block) := by
  obtain ⟨i0, hi, hz0, hz1, hz2⟩ := info_parts info_id
  have H := Lib.hid h
  have HT := Lib.hid hT
  have HDJ := Lib.hid hdj
  have hplt := h.plt
  have HRD := Lib.hid (engready_any p b1 b2 n m ro rc L D w h (by omega) hdl)
  clear h hT hdj
  go_enter Tryz.func32, Tryz.ntmps32
  go_wp2_with fail
  refine HRD.out.mono ?_
  rintro e w1 ⟨O, ro1, rc1, R, rfl, hpr, hss, hsh, hrv, hb1⟩
  have HPR := Lib.hid hpr
  have HSS := Lib.hid hss
  have HSH := Lib.hid hsh
  have HB1 := Lib.hid hb1
  have HE1 := Lib.hid (H.out.below hb1)
  have herr := ready_err H.out.wt.nd (fun x hx => (H.out.ok x hx).2) hsh hpr
  have hRl : R.length ≤ 20 := by
    have h1 := hpr.length_eq
    have h3 : (readyL L D O).length ≤ L.length := by unfold readyL; rw [List.length_map]; exact List.length_filter_le _ _
    rw [List.length_map] at h1
    omega
  have HORD := Lib.hid (Order_any R ro1 rc1 w1 hrv (HT.out.next hb1) hRl (fun z hz => by
    obtain ⟨x, hx, e⟩ := rest_of hpr hz
    have h1 : z.deps = x.deps.filter fun d => !decide (d ∈ D) := by have h0 := congrArg Rv.deps e; exact h0
    have := hdl x hx
    rw [h1]
    exact Nat.le_trans (List.length_filter_le _ _) this) (fun z hz => by
    obtain ⟨x, hx, e⟩ := rest_of hpr hz
    have h1 : z.cmd = x.cmd := by have h0 := congrArg Rv.cmd e; exact h0
    rw [h1]
    exact hkl x hx) 0 herr)
  clear hpr hss hsh hrv hb1 herr HRD
  go_wp2_with fail
  refine HORD.out.mono ?_
  rintro e w2 ⟨oo, oc, out, rfl, hrow, _, how, hb2⟩
  have HROW := Lib.hid (show Row (byIds (nds R)) out from hrow (by trivial))
  have hpm := run_mem H.out.wt.nd HPR.out HROW.out
  have HPM := Lib.hid hpm
  have HOW := Lib.hid how
  have HB2 := Lib.hid (HB1.out.trans (hb2.mono HB1.out.size))
  have HE2 := Lib.hid (H.out.below HB2.out)
  have hol : out.length ≤ 20 := by
    have h1 := hpm.length_eq
    rw [List.length_map] at h1
    have h2 := List.length_filter_le (fun x : Rv => !decide (x.id ∈ O)) L
    omega
  have HMEM := Lib.hid (show ∀ i ∈ out, ∃ x ∈ L, x.id = i from fun i hi => by
    obtain ⟨x, hx, e⟩ := List.mem_map.1 (hpm.mem_iff.1 hi)
    exact ⟨x, (List.mem_filter.1 hx).1, e⟩)
  have HND := Lib.hid (show out.Nodup from hpm.nodup_iff.2 (H.out.wt.nd.sublist (List.filter_sublist.map _)))
  have HIV := Lib.hid (show IdsV w2 oo oc out from IdsV.of_own (B := w1.heap.size) how (fun i hi => by
    obtain ⟨x, hx, e⟩ := HMEM.out i hi
    rw [← e]
    exact H.out.wt.ok x hx))
  clear hrow how hb2 hpm HORD
  have hap := H.out.ap
  go_wp2_with fail
  go_loopw [15] (fun xv wr => ∃ (k : Nat), xv = .int .i64 k ∧ k ≤ out.length ∧ RunAt w2 wr b1 b2 n m k L D out) (fun xv _ => out.length - (intOf xv).toNat)
  case atStart => exact ⟨0, rfl, Nat.zero_le _, ⟨by rw [lessL_zero]; exact HE2.out.wt, by simpa using HE2.out.dn, Mods.refl _ _⟩⟩
  case round =>
    obtain ⟨k, rfl, hk, hr⟩ := hrel
    have HR := Lib.hid hr
    clear hr
    by_cases hkl : k < out.length
    · have hii : (k : Int) < (out.length : Int) := by omega
      obtain ⟨i, hx⟩ : ∃ i, out[k]? = some i := ⟨_, List.getElem?_eq_getElem hkl⟩
      have HX := Lib.hid hx
      obtain ⟨b, off, e0, hbl, a0, a1⟩ := HIV.out.row k i hx
      have hbn : ¬ (b = b1 ∨ b = b2) := by
        obtain ⟨cs, hc⟩ := own_cells HOW.out _ e0
        rintro (e | e)
        · rw [e] at hc; exact HE2.out.wt.nocells hc
        · rw [e] at hc; exact HE2.out.dn.nocells hc
      have c0 := (HR.out.md.cell (p := ⟨b, _, none⟩) hbl hbn).trans a0
      have c1 := (HR.out.md.cell (p := ⟨b, _, none⟩) hbl hbn).trans a1
      have HII := Lib.hid (show IdI i from HIV.out.ok i (List.mem_of_getElem? hx))
      have HNI := Lib.hid (show i ∉ D ++ out.take k from fun h => by
        rcases List.mem_append.1 h with h | h
        · obtain ⟨x, hxL, e⟩ := HMEM.out i (List.mem_of_getElem? hx)
          rw [← e] at h
          exact HDJ.out x hxL h
        · obtain ⟨j, hj⟩ := List.mem_iff_getElem?.1 h
          have hjk : j < k := by have := (List.getElem?_eq_some_iff.1 hj).1; rw [List.length_take] at this; omega
          rw [List.getElem?_take, if_pos hjk] at hj
          have := (List.getElem?_inj (List.getElem?_eq_some_iff.1 hj).1 HND.out).1 (hj.trans hx.symm)
          omega)
      have hpb : p < wr.heap.size := by have := HR.out.md.size; have := HB2.out.size; omega
      have hpn : ¬ (p = b1 ∨ p = b2) := by rintro (e | e); exact hap.1 e; exact hap.2.1 e
      obtain ⟨q0, q1, q2⟩ := HE2.out.cells
      have hpw := HE2.out.plt
      have r0 := (HR.out.md.cell (p := ⟨p, 0, none⟩) hpw hpn).trans q0
      have r1 := (HR.out.md.cell (p := ⟨p, 1, none⟩) hpw hpn).trans q1
      rw [e0] at *
      clear hx a0 a1 q0 q1 q2
      go_upto_region 5 with fail
      obtain ⟨W5, hW5⟩ : ∃ W5, W5 = wr.alloc (idO i) := ⟨_, rfl⟩
      rw [← hW5]
      have hb5 : Below wr.heap.size wr W5 := by rw [hW5]; exact (Below.refl _ _).alloc (Nat.le_refl _) _
      have hxi : W5.heap[wr.heap.size]? = some (idO i) := by rw [hW5]; exact heap_alloc_new wr _
      have HXI := Lib.hid hxi
      have HB5 := Lib.hid hb5
      obtain ⟨⟨d0, d1⟩, _⟩ := box2 hxi
      have k0 := Kin.cell d0
      have k1 := Kin.cell d1
      have k2 := Kin.cell ((hb5.cell (p := ⟨p, 0, none⟩) hpb).trans r0)
      have s1 := (hb5.cell (p := ⟨p, 1, none⟩) hpb).trans r1
      clear hW5 hb5 hxi d0 d1 r0 r1 c0 c1
      refine wp_region_kin_tail 5 (by kernel_rfl) (by kernel_rfl) ?_
      simp only [List.take_succ_cons, List.take_zero, List.drop_succ_cons, List.drop_zero]
      repeat (go_big_quiet_step (fail))
      refine wpQuiet_nil ?_
      intro _ hxx
      obtain ⟨xk, rfl⟩ := hxx
      refine wpList_delR ((HR.out.wt.below HB5.out).below xk.h) i HII.out (by rfl) _ _ (by rfl) (by rfl) (by rfl) ?_
      intro w6 hp6 hm6
      have HP6 := Lib.hid (show MapR w6 b1 n (lessL L out (k + 1)) by rw [← lessL_next HX.out]; exact hp6)
      have HM6 := Lib.hid ((Mods.of_below (S := fun j => j = b1) xk.h).trans hm6)
      clear hp6 hm6 k0 k1 k2
      go_upto_region 6 with fail
      simp only [Act.put]
      have hnb1 : ∀ j, j < w6.heap.size → j = b1 → (j = b1 ∨ j = b2) := fun j _ e => .inl e
      have hwb : wr.heap.size ≠ b1 := fun e => by have := HR.out.wt.lt; omega
      have hxi6 := HM6.out.heap HXI.out hwb
      obtain ⟨⟨d0, d1⟩, _⟩ := box2 hxi6
      have k0 := Kin.cell d0
      have k1 := Kin.cell d1
      have k2 := Kin.cell ((HM6.out.cell (p := ⟨p, 1, none⟩) (Nat.lt_of_lt_of_le hpb HB5.out.size) hap.1).trans s1)
      have HDN6 := Lib.hid ((HR.out.dn.below HB5.out).keep HM6.out (fun e => H.out.ne e.symm))
      clear d0 d1 hxi6 s1
      refine wp_region_kin_tail 5 (by kernel_rfl) (by kernel_rfl) ?_
      simp only [List.take_succ_cons, List.take_zero, List.drop_succ_cons, List.drop_zero]
      repeat (go_big_quiet_step (fail))
      refine wpQuiet_nil ?_
      intro _ hxx
      obtain ⟨xl, rfl⟩ := hxx
      refine wpList_putB (HDN6.out.below xl.h) (by unfold maxLen; omega) i HII.out HNI.out (by rfl) _ _ _ (by rfl) (by rfl) (by rfl) (by rfl) ?_
      intro w7 hp7 hm7
      have HM7 := Lib.hid ((Mods.of_below (S := fun j => j = b2) xl.h).trans hm7)
      have HRN := Lib.hid (show RunAt w2 w7 b1 b2 n m (k + 1) L D out from ⟨HP6.out.keep HM7.out H.out.ne, by
        rw [List.take_add_one, HX.out, ← Nat.add_assoc, ← List.append_assoc]
        exact hp7, ((HR.out.md.then (Mods.of_below (S := fun _ => False) HB5.out) (fun _ _ h => h.elim)).then HM6.out (fun _ _ e => .inl e)).then HM7.out (fun _ _ e => .inr e)⟩)
      clear hp7 hm7 k0 k1 k2
      go_wp2_with fail
      go_roundw
      case rel => exact ⟨k + 1, by go_num, by omega, HRN.out⟩
      case measure => simp [intOf]; omega
    · obtain rfl : k = out.length := by omega
      have hii : ¬ (out.length : Int) < (out.length : Int) := by omega
      have HWT := Lib.hid (show MapR wr b1 n (stayL L O) by rw [← lessL_all H.out.wt.nd HPM.out]; exact HR.out.wt)
      have HDN := Lib.hid (show MapB wr b2 (m + out.length) (D ++ out) by have := HR.out.dn; rwa [List.take_length] at this)
      have hpn : ¬ (p = b1 ∨ p = b2) := by rintro (e | e); exact hap.1 e; exact hap.2.1 e
      have HBX := Lib.hid (show wr.heap[p]? = some (engO b1 b2 D.length ro rc) from HR.out.md.heap HE2.out.box hpn)
      have HRW := Lib.hid (show OwnL wr 0 ro rc D from own_mods HE2.out.row HR.out.md (fun a e h => by
        rcases h with h | h
        · exact (hap.2.2 a e).2.1 h
        · exact (hap.2.2 a e).2.2 h))
      have HOR := Lib.hid (show OwnL wr w1.heap.size oo oc out from own_mods HOW.out HR.out.md (fun a e h => by
        obtain ⟨cs, hc⟩ := own_cells HOW.out a e
        rcases h with h | h
        · rw [h] at hc; exact HE2.out.wt.nocells hc
        · rw [h] at hc; exact HE2.out.dn.nocells hc))
      have hc3 : ∀ j, wr.cell? ⟨p, j, none⟩ = (#[.map (some b1), .map (some b2), .slice ro D.length rc] : Array Value)[j]? := fun j => cell_of_row wr p j _ _ _ HBX.out
      have c2 : wr.cell? ⟨p, 2, none⟩ = some (.slice ro D.length rc) := hc3 2
      have nf : wr.frozen? ⟨p, 2, none⟩ = false := by simp [World.frozen?, HBX.out]
      clear hc3
      go_wp2_with (refine wpList_apps2 idC 2 (fun _ => rfl) (by decide) idC_one (by rfl) (.tmp 34) (.tmp 35) 28 (by rfl) 0 37 i0 _ 16 Tryz.underlying28 hi hz0 hz1 hz2 (by decide) rfl ro rc D.length D rfl oo oc out.length out rfl (by rfl) (by exact HRW.out) (by rfl) (by exact SrcAt.of_own HOR.out) (by omega) (Nat.zero_le _) ?_; intro ro' rc' w4 hown hmod hbel hfr; have HFR := Lib.hid hfr; have HRO4 := Lib.hid hown; have HM4 := Lib.hid hmod; have HB4 := Lib.hid hbel; have HX4 := Lib.hid (hmod.heap HBX.out (fun ⟨a, e, ea⟩ => (hap.2.2 a e).1 ea.symm)); have c4 : w4.cell? ⟨p, 2, none⟩ = some (.slice ro D.length rc) := cell_of_row w4 p 2 _ _ _ HX4.out; have nf4 : w4.frozen? ⟨p, 2, none⟩ = false := (by simp [World.frozen?, HX4.out]); clear hown hmod hbel hfr)
      go_ret
      have hdo : (D ++ out).length = D.length + out.length := List.length_append
      obtain ⟨w5, hw5⟩ : ∃ w5, w5 = w4.setCell ⟨p, 2, none⟩ (.slice ro' (D.length + out.length) rc') := ⟨_, rfl⟩
      have s1 := heap_set w4 p 2 (.slice ro' (D.length + out.length) rc') p _ _ _ HX4.out
      rw [if_pos rfl, ← hw5] at s1
      have ms : Mods (fun j => j = p) w4 w5 := by rw [hw5]; exact (Mods.refl (fun j => j = p) w4).setCell (p := ⟨p, 2, none⟩) (fun _ => rfl) _
      -- what turned
      have hm4 : Mods (EngF p b1 b2 ro) w w4 := ((Mods.of_below (S := EngF p b1 b2 ro) HB2.out).then HR.out.md (fun k _ h => by
        rcases h with h | h
        · exact .inr (.inl h)
        · exact .inr (.inr (.inl h)))).then HM4.out (fun k _ ⟨a, e, ea⟩ => .inr (.inr (.inr ⟨a, e, ea⟩)))
      have hm5 : Mods (EngF p b1 b2 ro) w w5 := hm4.then ms (fun k _ e => .inl e)
      have hpr : ¬ ∃ a, ro = some a ∧ p = a.block := fun ⟨a, e, ea⟩ => (hap.2.2 a e).1 ea.symm
      have hb1r : ¬ ∃ a, ro = some a ∧ b1 = a.block := fun ⟨a, e, ea⟩ => (hap.2.2 a e).2.1 ea.symm
      have hb2r : ¬ ∃ a, ro = some a ∧ b2 = a.block := fun ⟨a, e, ea⟩ => (hap.2.2 a e).2.2 ea.symm
      have hro4 : OwnL w4 0 ro' rc' (D ++ out) := by unfold OwnL; rw [hdo]; exact HRO4.out
      -- the row's own block: the one there was, or a new one
      have hfr : ∀ a, ro' = some a → (∃ a0, ro = some a0 ∧ a.block = a0.block) ∨ w.heap.size ≤ a.block := fun a e => by
        rcases HFR.out a e with h1 | h1
        · exact .inl h1
        · right
          have := HR.out.md.size
          have := HB2.out.size
          omega
      have hfn : ∀ j, EngF p b1 b2 ro' j → EngF p b1 b2 ro j ∨ w.heap.size ≤ j := by
        rintro j (h1 | h1 | h1 | ⟨a, e, ea⟩)
        · exact .inl (.inl h1)
        · exact .inl (.inr (.inl h1))
        · exact .inl (.inr (.inr (.inl h1)))
        · rcases hfr a e with ⟨a0, e0, e1⟩ | h1
          · exact .inl (.inr (.inr (.inr ⟨a0, e0, by omega⟩)))
          · exact .inr (by omega)
      have hpe : ¬ b1 = p := fun e => hap.1 e.symm
      have hpe2 : ¬ b2 = p := fun e => hap.2.1 e.symm
      have hrp : ∀ a, ro' = some a → ¬ a.block = p := fun a e e1 => by
        rcases hfr a e with ⟨a0, e0, e2⟩ | h1
        · exact (hap.2.2 a0 e0).1 (by omega)
        · omega
      have hout : OwnL w4 w1.heap.size oo oc out := own_mods HOR.out HM4.out (fun a e ⟨a0, e0, e1⟩ => by
        have h1 := (HOR.out.lt a.block (by rw [e]; rfl)).1
        have h2 := H.out.lts a0.block (.inr (.inr (.inr ⟨a0, e0, rfl⟩)))
        have := HB1.out.size
        omega)
      have hdl : ∀ x ∈ stayL L O, x ∈ L := fun x hx => (List.mem_filter.1 hx).1
      have hdeps : ∀ x ∈ L, ∀ a, x.ao = some a → x.deps ≠ [] → ¬ EngF p b1 b2 ro' a.block := fun x hx a e hne hf => by
        rcases hfn _ hf with h1 | h1
        · exact H.out.sep x hx a e hne h1
        · have := (H.out.ok x hx).1.deps.blt a e hne
          omega
      have hoo : ∀ a, oo = some a → ¬ EngF p b1 b2 ro' a.block := fun a e hf => by
        have h1 := HOR.out.lt a.block (by rw [e]; rfl)
        have h2 := H.out.lts
        have h3 := HB1.out.size
        rcases hf with hf | hf | hf | ⟨a0, e0, e1⟩
        · have := h2 _ (.inl rfl); omega
        · have := h2 _ (.inr (.inl rfl)); omega
        · have := h2 _ (.inr (.inr (.inl rfl))); omega
        · rcases HFR.out a0 e0 with ⟨a1, e2, e3⟩ | h4
          · have := h2 a1.block (.inr (.inr (.inr ⟨a1, e2, rfl⟩))); omega
          · omega
      subst hw5
      refine ⟨oo, oc, out, rfl, O, R, HROW.out, HPR.out, HSS.out, HPM.out, ro', ⟨rc', ?_⟩, ?_, hm5, hfn, hoo⟩
      · refine ⟨by rw [s1, hdo]; rfl, (HWT.out.keep HM4.out hb1r).keep ms hpe, (HDN.out.keep HM4.out hb2r).keep ms hpe2, own_mods hro4 ms hrp, H.out.ne, fun x hx => ?_, fun i hi => ?_, fun x hx => hdeps x (hdl x hx)⟩
        · have h0 := H.out.ok x (hdl x hx)
          exact ⟨⟨h0.1.cmd, h0.1.deps.keep hm5 (fun a e hne hf => H.out.sep x (hdl x hx) a e hne hf), h0.1.id⟩, h0.2⟩
        · rcases List.mem_append.1 hi with hi | hi
          · exact H.out.di i hi
          · obtain ⟨x, hx, e⟩ := HMEM.out i hi
            rw [← e]; exact H.out.wt.ok x hx
      · exact own_base (own_mods hout ms (fun a e e1 => by
          have h1 := (HOR.out.lt a.block (by rw [e]; rfl)).1
          have := HB1.out.size
          omega)) (fun q hq => Nat.le_trans HB1.out.size (hout.lt q hq).1)
end Go.Proofs.YtkgjfagejnppbaaGreatDoor.O
