/- The engine's ready. -/
import Derived.Test.YtndfhejfhfhbdaaGreatDoorMrg26
import Derived.Test.YtndfhejfhfhbdaaGreatDoorMrg23
namespace Go.Proofs.YtndfhejfhfhbdaaGreatDoor.O
open Go.RowKit Go.Proofs.YtndfhejfhfhbdaaGreatDoor.M Go.BigFrame
set_option linter.unusedVariables false
set_option linter.unusedSimpArgs false

theorem left_perm {L left : List Rv} (hn : (idsX L).Nodup) (hs : left.Sublist L) {x : Rv} (hx : x ∈ left) : left.Perm (x :: left.filter fun y => !decide (y.id = x.id)) := by
  have h1 : left.Nodup := (nodup_of_map _ hn).sublist hs
  have h2 : (x :: left.filter fun y => !decide (y.id = x.id)).Nodup := List.nodup_cons.2 ⟨fun h => by have := (List.mem_filter.1 h).2; simp at this, h1.sublist List.filter_sublist⟩
  refine (List.perm_ext_iff_of_nodup h1 h2).2 fun y => ?_
  rw [List.mem_cons, List.mem_filter]
  constructor
  · intro hy
    by_cases e : y.id = x.id
    · exact .inl (nodup_inj Rv.id hn (hs.subset hy) (hs.subset hx) e)
    · exact .inr ⟨hy, by simpa using e⟩
  · rintro (rfl | ⟨h, _⟩)
    · exact hx
    · exact h
theorem readyL_app (V U : List Rv) (D O : List Id) : readyL (V ++ U) D O = readyL V D O ++ readyL U D O := by
  unfold readyL
  rw [List.filter_append, List.map_append]
theorem readyL_one_in {x : Rv} {D O : List Id} (h : x.id ∈ O) : readyL [x] D O = [] := by unfold readyL; simp [h]
theorem readyL_one_out {x : Rv} {D O : List Id} (h : x.id ∉ O) : readyL [x] D O = [rest D x] := by unfold readyL; simp [h]
theorem readyL_perm {V U : List Rv} (h : V.Perm U) (D O : List Id) : (readyL V D O).Perm (readyL U D O) := by unfold readyL; exact (h.filter _).map _
/-- a record of the call's own -/
structure ZOk (w : World) (B : Nat) (z : Rv) : Prop where
  cmd : P.CmdOk z.cmd
  id : IdI z.id
  di : ∀ d ∈ z.deps, IdI d
  own : OwnL w B z.ao z.cap z.deps
theorem ZOk.below {w w1 : World} {B : Nat} {z : Rv} (h : ZOk w B z) (hb : Below w.heap.size w w1) : ZOk w1 B z := ⟨h.cmd, h.id, h.di, eown_below h.own hb⟩
theorem ZOk.rv {w : World} {B : Nat} {z : Rv} (h : ZOk w B z) : RvOk w z := ⟨h.cmd, IdsV.of_own h.own h.di, h.id⟩
theorem own_rng {w w1 : World} {b r n cnt : Nat} {L left : List Rv} {B : Nat} {e : TypeId} {sz : Nat} {v : Value} {k : Nat} {xs : List Value} (h : w.ownsRow B e sz v k xs) (hr : RngR w b r n L left cnt) (hm : Mods (fun j => j = r) w w1) : w1.ownsRow B e sz v k xs :=
  own_kept h hm fun j hj e => by
    subst e
    obtain ⟨D, lf, ⟨es, clock, since, seen, c0, _, _, _, _, hi, _⟩, _⟩ := hr.own
    rcases h.2 with ⟨e, _⟩ | ⟨g, cap, cur, e, _, hg, _⟩
    · rw [e] at hj; cases hj
    · rw [e] at hj
      cases hj
      rw [hi] at hg; cases hg
set_option maxRecDepth 100000 in
set_option maxHeartbeats 4000000 in
theorem deli_any (p B : Nat) (w : World) (ao : Option Addr) (cap : Nat) (l : List Id) (q : Id → Bool) (h : OwnL w B ao cap l) (hok : ∀ x ∈ l, IdI x) (hle : l.length ≤ 1000000)
    (hq : ∀ wx, Mods (fun k => ∃ a, ao = some a ∧ k = a.block) w wx → ∀ x ∈ l, Calls Tryz.prog 37 #[.pointer (some ⟨p, 0, none⟩), idV x] wx fun e w' => e = .returned (.bool (q x)) ∧ Below wx.heap.size wx w') :
    Calls Tryz.prog 101 #[.slice ao l.length cap, .func (.func 37) #[.pointer (some ⟨p, 0, none⟩)] #[]] w fun e w' => e = .returned (.slice ao (stayI q l).length cap) ∧ (OwnL w' B ao cap (stayI q l) ∧ Mods (fun k => ∃ a, ao = some a ∧ k = a.block) w w') := by
  cases ha : l.any q with
  | false =>
    have hno : ∀ x ∈ l, q x = false := fun x hx => by simpa using List.any_eq_false.1 ha x hx
    have e : stayI q l = l := List.filter_eq_self.2 fun x hx => by rw [hno x hx]; rfl
    rw [e]
    refine (deli_none p l ao cap q w (IdsV.of_own h hok) (fun wx hb => hq wx (Mods.of_below hb)) hno).mono ?_
    rintro e w' ⟨rfl, hb⟩
    exact ⟨rfl, eown_below h hb, Mods.of_below hb⟩
  | true =>
    obtain ⟨n, y, h1, h2, h3⟩ := first_at q l ha
    obtain ⟨g, rfl⟩ := own_some h (by have := (List.getElem?_eq_some_iff.1 h1).1; omega)
    have hm : ∀ {wx : World}, Mods (fun k => k = g) w wx → Mods (fun k => ∃ a, some (⟨g, 0, none⟩ : Addr) = some a ∧ k = a.block) w wx := fun {wx} h => (Mods.refl _ w).then h (fun k _ e => ⟨_, rfl, e⟩)
    refine (deli_some p B w g cap l q h hok hle (fun wx hb => hq wx (hm hb)) n y h1 h2 h3).mono ?_
    rintro e w' ⟨rfl, hb, hmm⟩
    exact ⟨rfl, hb, hm hmm⟩
set_option maxRecDepth 100000 in
set_option maxHeartbeats 4000000 in
theorem engready_any (p b1 b2 n m : Nat) (ro : Option Addr) (rc : Nat) (L : List Rv) (D : List Id) (w : World) (h : EngAt w p b1 b2 n m ro rc L D) (hL : L.length ≤ 1000000) (hdl : ∀ x ∈ L, x.deps.length ≤ 10000) :
    Calls Tryz.prog 64 #[.pointer (some ⟨p, 0, none⟩)] w fun e w' => ∃ (O : List Id) (oo : Option Addr) (oc : Nat) (R : List Rv), e = .returned (.slice oo R.length oc) ∧ ((R.map core).Perm (readyL L D O) ∧ (∀ i, i ∈ O ↔ Stuck L D i) ∧ Shut L D O ∧ RecsV w' oo oc R ∧ Below w.heap.size w w') := by
  obtain ⟨i0, hi, hz0, hz1, hz2⟩ := info_parts info_rec
  have H := Lib.hid h
  have hplt := h.plt
  have HST := Lib.hid (engstuck_any p b1 b2 n m ro rc L D w h hL)
  clear h
  go_enter Tryz.func64, Tryz.ntmps64
  go_wp2_with fail
  refine HST.out.mono ?_
  rintro e w1 ⟨b3, O, rfl, hmp, hnd, hst, hsh, hb3, hb1⟩
  have HMP := Lib.hid hmp
  have HSS := Lib.hid hst
  have HSH := Lib.hid hsh
  have HB1 := Lib.hid hb1
  have HE := Lib.hid (H.out.below hb1)
  have hlt3 := hmp.lt
  clear hmp hnd hst hsh hb1 HST
  obtain ⟨e0, e1, e2⟩ := HE.out.cells
  go_wp2_with (at_range; refine wpList_rangeR HE.out.wt rfl _ rfl rfl ?_; intro w2 cnt1 hrg1 hb2; have HRG1 := Lib.hid hrg1; have HB2 := Lib.hid hb2; clear hrg1 hb2)
  go_frame
  clear e0 e1 e2
  have HW2 := Lib.hid (HB1.out.trans (HB2.out.mono HB1.out.size))
  have hs1 := HB1.out.size
  have HMP2 := Lib.hid (HMP.out.below HB2.out)
  go_loopw [4] (fun ov wr => ∃ (V R : List Rv) (oo : Option Addr) (oc : Nat) (left : List Rv) (cnt : Nat), ov = .slice oo R.length oc ∧ RngR wr b1 w1.heap.size n L left cnt ∧ (V ++ left).Perm L ∧ (R.map core).Perm (readyL V D O) ∧ OwnR wr w.heap.size oo oc R ∧ (∀ z ∈ R, ZOk wr w.heap.size z) ∧ MapB wr b3 O.length O ∧ Below w.heap.size w wr) (fun _ wr => wr.rangeLeft b1 w1.heap.size)
  case atStart => exact ⟨[], [], none, 0, L, cnt1, rfl, HRG1.out, List.Perm.refl _, List.Perm.refl _, World.ownsRow_nil _ _ _ _, fun z hz => (by cases hz), HMP2.out, HW2.out⟩
  case round =>
    obtain ⟨V, R, oo, oc, left, cnt, rfl, hrg, hpv, hpr, hown, hz, hmp, hbw⟩ := hrel
    have HR := Lib.hid hrg
    have HPV := Lib.hid hpv
    have HPR := Lib.hid hpr
    have HOW := Lib.hid hown
    have HZ := Lib.hid hz
    have HMP3 := Lib.hid hmp
    have HBW := Lib.hid hbw
    clear hrg hpv hpr hown hz hmp hbw HRG1 HMP HMP2 HB2
    have hWr := HBW.out.size
    have hrl := HR.out.lt.1
    go_upto_region 6 with (at_next; refine wpList_nextR HR.out rfl _ rfl rfl (fun HL0 => ?_) (fun x w3 cnt3 HXL HRG HLT HMN hen => ?_))
    · go_ret
      refine ⟨O, oo, oc, R, rfl, HPR.out.trans (readyL_perm (by have := HPV.out; rwa [HL0.out, List.append_nil] at this) D O), HSS.out, HSH.out, RecsV.of_own HOW.out (fun z hz => (HZ.out z hz).rv), HBW.out⟩
    · have HXM := Lib.hid (HR.out.sub.subset HXL.out)
      have HB3 := Lib.hid (HBW.out.trans (HMN.out.below (fun j e => by omega) hWr))
      have HLP := Lib.hid (left_perm H.out.wt.nd HR.out.sub HXL.out)
      obtain ⟨W5, hW5⟩ : ∃ W5, W5 = (w3.alloc (idO x.id)).alloc (recO x) := ⟨_, rfl⟩
      rw [← hW5]
      have hb5 : Below w3.heap.size w3 W5 := by rw [hW5]; exact ((Below.refl _ _).alloc (Nat.le_refl _) _).alloc (by simp) _
      have hxi : W5.heap[w3.heap.size]? = some (idO x.id) := by rw [hW5, heap_al, heap_al]; simp
      have hxr : W5.heap[w3.heap.size + 1]? = some (recO x) := by rw [hW5, heap_al]; simp
      obtain ⟨bx, hbx⟩ : ∃ g, g = w3.heap.size + 1 := ⟨_, rfl⟩
      rw [← hbx] at hxr ⊢
      have HXR := Lib.hid hxr
      have hbxl : w.heap.size ≤ bx ∧ wr.heap.size ≤ bx := by
        have := HB3.out.size
        have := HMN.out.size
        omega
      have HB5 := Lib.hid (HB3.out.trans (hb5.mono HB3.out.size))
      have HE5 := Lib.hid (H.out.below HB5.out)
      have HRG5 := Lib.hid (HRG.out.below hb5)
      have HOW5 := Lib.hid (show OwnR W5 w.heap.size oo oc R from own_kept (own_rng HOW.out HR.out HMN.out) (Mods.of_below (S := fun _ => False) hb5) (fun _ _ h => h))
      have HZ5 := Lib.hid (show ∀ z ∈ R, ZOk W5 w.heap.size z from fun z hz => (show ZOk w3 w.heap.size z from ⟨(HZ.out z hz).cmd, (HZ.out z hz).id, (HZ.out z hz).di, own_rng (HZ.out z hz).own HR.out HMN.out⟩).below hb5)
      have HMP5 := Lib.hid (show MapB W5 b3 O.length O from (HMP3.out.keep HMN.out (fun e => by omega)).below hb5)
      have HPV2 := Lib.hid (show ((V ++ [x]) ++ left.filter fun y => !decide (y.id = x.id)).Perm L by
        rw [List.append_assoc]
        exact (List.Perm.append_left V HLP.out.symm).trans HPV.out)
      obtain ⟨⟨i0', i1'⟩, _⟩ := box2 hxi
      have hlk := HMP5.out.look (H.out.wt.ok x HXM.out)
      obtain ⟨bo, hbo⟩ : ∃ b, decide (x.id ∈ O) = b := ⟨_, rfl⟩
      have HBO := Lib.hid hbo
      rw [hbo] at hlk
      have hlk2 : (Instr.lookup 87 (.map (some b3)) (idV x.id) false).run Tryz.prog W5 = .ok (.bool bo) W5 := hlk
      clear hbo hlk hW5 hb5 hxi hbx hxr
      cases bo with
      | true =>
        have HPR2 := Lib.hid (show (R.map core).Perm (readyL (V ++ [x]) D O) by
          rw [readyL_app, readyL_one_in (of_decide_eq_true HBO.out), List.append_nil]
          exact HPR.out)
        go_wp2_with fail
        clear hlk2
        go_roundw
        case rel => exact ⟨V ++ [x], R, oo, oc, _, cnt3, rfl, HRG5.out, HPV2.out, HPR2.out, HOW5.out, HZ5.out, HMP5.out, HB5.out⟩
        case measure =>
          rw [HRG5.out.left_eq, HR.out.left_eq]
          exact HLT.out
      | false =>
        obtain ⟨c0, c1, c2, c33, c4, c5, c6, c7, c8, c9, c10, c11, c12, c13, c14, c15⟩ := box16 HXR.out
        clear c0 c1 c2 c33 c4 c5 c6 c7 c8 c9 c10 c11 c12 c14 c15
        have hdlx := hdl x HXM.out
        have HCL := Lib.hid (cloneI_any x.deps x.ao x.cap W5 (HE5.out.ok x HXM.out).1.deps (by omega))
        go_upto_region 7 with fail
        clear hlk2 i0' i1'
        go_wp2_with fail
        refine HCL.out.mono ?_
        rintro e w6 ⟨ao, cap, rfl, hown, hb6⟩
        have hs5 := HB5.out.size
        have HB6 := Lib.hid (HB5.out.trans (hb6.mono hs5))
        have HXR6 := Lib.hid ((hb6.block _ (M.heap_lt HXR.out)).trans HXR.out)
        have HRG6 := Lib.hid (HRG5.out.below hb6)
        have HMP6 := Lib.hid (HMP5.out.below hb6)
        have HOW6 := Lib.hid (show OwnR w6 w.heap.size oo oc R from own_kept HOW5.out (Mods.of_below (S := fun _ => False) hb6) (fun _ _ h => h))
        have HZ6 := Lib.hid (show ∀ z ∈ R, ZOk w6 w.heap.size z from fun z hz => (HZ5.out z hz).below hb6)
        have HZL := Lib.hid (show ∀ z ∈ R, ∀ a, z.ao = some a → a.block < W5.heap.size from fun z hz a e => by
          obtain ⟨cs, hc⟩ := own_cells (HZ5.out z hz).own a e
          exact M.heap_lt hc)
        have HOL := Lib.hid (show ∀ a, oo = some a → a.block < W5.heap.size from fun a e => (HOW5.out.lt a.block (by rw [e]; rfl)).2)
        have HOWN := Lib.hid (show OwnL w6 W5.heap.size ao cap x.deps from hown)
        have HAO := Lib.hid (show ∀ a, ao = some a → W5.heap.size ≤ a.block from fun a e => (HOWN.out.lt a.block (by rw [e]; rfl)).1)
        have HDEL := Lib.hid (deli_any p W5.heap.size w6 ao cap x.deps (fun d => decide (d ∈ D)) HOWN.out (HE5.out.ok x HXM.out).1.deps.ok (by omega) (fun wx hm d hd => engdone_any p b1 b2 n m ro rc L D d wx (H.out.below (HB6.out.trans (hm.below (fun j ⟨a, e, ej⟩ => by have := HAO.out a e; omega) HB6.out.size))) ((HE5.out.ok x HXM.out).1.deps.ok d hd) _ rfl))
        clear hown hb6 HCL c13
        go_wp2_with fail
        refine HDEL.out.mono ?_
        rintro e w7 ⟨rfl, how7, hm7⟩
        have hnb : ¬ ∃ a, ao = some a ∧ bx = a.block := fun ⟨a, e, ea⟩ => by
          obtain ⟨cs, hc⟩ := own_cells HOWN.out a e
          rw [← ea, HXR6.out] at hc
          simp only [Option.some.injEq, Obj.cells.injEq] at hc
          exact absurd hc.2.1 (by decide)
        have hns : ∀ j, j < W5.heap.size → ¬ ∃ a, ao = some a ∧ j = a.block := fun j hj ⟨a, e, ea⟩ => by
          have := HAO.out a e
          omega
        have HXR7 := Lib.hid (hm7.heap HXR6.out hnb)
        have HRG7 := Lib.hid (HRG6.out.keep hm7 (hns _ HRG5.out.lt.2) (hns _ HRG5.out.lt.1))
        have HMP7 := Lib.hid (HMP6.out.keep hm7 (hns _ HMP5.out.lt))
        have HOW7 := Lib.hid (show OwnR w7 w.heap.size oo oc R from own_kept HOW6.out hm7 (fun k hk => by
          cases oo with
          | none => cases hk
          | some a =>
            obtain rfl : a.block = k := Option.some.inj hk
            exact hns _ (HOL.out a rfl)))
        have HZ7 := Lib.hid (show ∀ z ∈ R, ZOk w7 w.heap.size z from fun z hz => ⟨(HZ6.out z hz).cmd, (HZ6.out z hz).id, (HZ6.out z hz).di, own_mods (HZ6.out z hz).own hm7 (fun a e => hns _ (HZL.out z hz a e))⟩)
        have HB7 := Lib.hid (HB6.out.trans (hm7.below (fun j ⟨a, e, ej⟩ => by have := HAO.out a e; omega) HB6.out.size))
        have HNW := Lib.hid (show OwnL w7 w.heap.size ao cap (stayI (fun d => decide (d ∈ D)) x.deps) from own_base how7 (fun q hq => Nat.le_trans hs5 (how7.lt q hq).1))
        have HIS := Lib.hid (HE5.out.ok x HXM.out).1
        obtain ⟨c0, c1, c2, c33, c4, c5, c6, c7, c8, c9, c10, c11, c12, c13, c14, c15⟩ := box16 HXR7.out
        have nf : w7.frozen? ⟨bx, 13, none⟩ = false := by simp [World.frozen?, HXR7.out]
        clear how7 hm7 hnb hns c0 c1 c2 c33 c4 c5 c6 c7 c8 c9 c10 c11 c12 c14 c15 HDEL
        go_upto_region 8 with fail
        clear c13 nf
        obtain ⟨w8, hw8⟩ : ∃ w8, w8 = w7.setCell ⟨bx, 13, none⟩ (.slice ao (stayI (fun d => decide (d ∈ D)) x.deps).length cap) := ⟨_, rfl⟩
        rw [← hw8]
        have s1 := heap_set w7 bx 13 (.slice ao (stayI (fun d => decide (d ∈ D)) x.deps).length cap) bx _ _ _ HXR7.out
        rw [if_pos rfl, ← hw8] at s1
        have ms : Mods (fun j => j = bx) w7 w8 := by rw [hw8]; exact (Mods.refl (fun j => j = bx) w7).setCell (p := ⟨bx, 13, none⟩) (fun _ => rfl) _
        obtain ⟨y, hy⟩ : ∃ y : Rv, { x with ao := ao, cap := cap, deps := stayI (fun d => decide (d ∈ D)) x.deps } = y := ⟨_, rfl⟩
        have hxr8 : w8.heap[bx]? = some (recO y) := by rw [← hy, s1]; rfl
        have HB8 := Lib.hid (HB7.out.trans (ms.below (fun j e => by omega) HB7.out.size))
        have HRG8 := Lib.hid (HRG7.out.keep ms (fun e => by have := H.out.wt.lt; omega) (fun e => by omega))
        have HMP8 := Lib.hid (HMP7.out.keep ms (fun e => by have := HMP3.out.lt; omega))
        have hlo : ∀ j, j < wr.heap.size → ¬ j = bx := fun j hj e => by omega
        have HOW8 := Lib.hid (show OwnR w8 w.heap.size oo oc R from own_kept HOW7.out ms (fun k hk => by
          refine hlo k ?_
          exact (HOW.out.lt k hk).2))
        have HZ8 := Lib.hid (show ∀ z ∈ R, ZOk w8 w.heap.size z from fun z hz => ⟨(HZ7.out z hz).cmd, (HZ7.out z hz).id, (HZ7.out z hz).di, eown_apart (HZ7.out z hz).own HXR7.out ms⟩)
        have HNY := Lib.hid (show ZOk w8 w.heap.size y by
          rw [← hy]
          exact ⟨HIS.out.cmd, HIS.out.id, fun d hd => HIS.out.deps.ok d (List.mem_filter.1 hd).1, eown_apart HNW.out HXR7.out ms⟩)
        have HCO := Lib.hid (show core y = rest D x by rw [← hy]; rfl)
        have HPR2 := Lib.hid (show ((R ++ [y]).map core).Perm (readyL (V ++ [x]) D O) by
          rw [readyL_app, readyL_one_out (of_decide_eq_false HBO.out), List.map_append]
          exact (HPR.out.append_right _).trans (List.Perm.of_eq (by rw [← HCO.out]; rfl)))
        have hRl : R.length ≤ 1000000 := by
          have h1 := HPR.out.length_eq
          have h2 := HPV.out.length_eq
          rw [List.length_append] at h2
          have h3 : (readyL V D O).length ≤ V.length := by unfold readyL; rw [List.length_map]; exact List.length_filter_le _ _
          rw [List.length_map] at h1
          omega
        clear hy s1 ms hw8 hlo
        obtain ⟨c0, c1, c2, c33, c4, c5, c6, c7, c8, c9, c10, c11, c12, c13, c14, c15⟩ := box16 hxr8
        have hs8 := HB8.out.size
        clear hxr8
        go_wp2_with (refine wpList_app recC 16 (fun _ => rfl) (by decide) recC_one (by rfl) (.tmp 32) (.tmp 34) 28 (by rfl) w.heap.size 38 i0 _ 160 Tryz.underlying28 hi hz0 hz1 hz2 (by decide) rfl oo oc R y (recA y) rfl (by rfl) (by exact HOW8.out) (by rfl) (by omega) (by omega) ?_; intro oo' oc' w9 hown hmod hbel; have HOW9 := Lib.hid hown; have HBE9 := Lib.hid hbel; have HM9 := Lib.hid hmod; clear hown hmod hbel)
        clear c0 c1 c2 c33 c4 c5 c6 c7 c8 c9 c10 c11 c12 c13 c14 c15
        have HNE := Lib.hid (show ∀ j, j < wr.heap.size → (∃ a, oo = some a ∧ j = a.block) → ∃ a, oo = some a ∧ j = a.block from fun j hj h => h)
        have hmap : ∀ j, (∃ a, oo = some a ∧ j = a.block) → ∃ cs, w8.heap[j]? = some (.cells cs 38 (0, 0)) := fun j ⟨a, e, ej⟩ => by
          subst e
          rw [ej]
          rcases HOW8.out.2 with ⟨e, _⟩ | ⟨g, cap, cur, e, _, hg, _⟩
          · cases e
          · cases e
            exact ⟨_, hg⟩
        have HRG9 := Lib.hid (show RngR w9 b1 w1.heap.size n L _ cnt3 from HRG8.out.keep HM9.out (fun h => by obtain ⟨cs, hc⟩ := hmap _ h; exact HRG8.out.map.nocells hc) (fun h => by
          obtain ⟨cs, hc⟩ := hmap _ h
          obtain ⟨D2, lf, ⟨es, clock, since, seen, c0, _, _, _, _, hi2, _⟩, _⟩ := HRG8.out.own
          rw [hi2] at hc; cases hc))
        have HMP9 := Lib.hid (show MapB w9 b3 O.length O from HMP8.out.keep HM9.out (fun h => by obtain ⟨cs, hc⟩ := hmap _ h; exact HMP8.out.nocells hc))
        clear hmap
        go_roundw
        case rel =>
          refine ⟨V ++ [x], R ++ [y], oo', oc', _, cnt3, by simp, HRG9.out, HPV2.out, HPR2.out, HOW9.out, fun z hz => ?_, HMP9.out, HB8.out.trans HBE9.out⟩
          rcases List.mem_append.1 hz with hz | hz
          · exact ⟨(HZ8.out z hz).cmd, (HZ8.out z hz).id, (HZ8.out z hz).di, own_beside (HZ8.out z hz).own HOW8.out (by decide) HM9.out⟩
          · rw [List.mem_singleton.1 hz]
            exact ⟨HNY.out.cmd, HNY.out.id, HNY.out.di, own_beside HNY.out.own HOW8.out (by decide) HM9.out⟩
        case measure =>
          rw [HRG9.out.left_eq, HR.out.left_eq]
          exact HLT.out
end Go.Proofs.YtndfhejfhfhbdaaGreatDoor.O
