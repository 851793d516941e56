/- The document's New, Put. -/
import Derived.Test.YtlbkbjeajcadiaaGreatDoorMrg28
import Derived.Test.YtlbkbjeajcadiaaGreatDoorMrg29
namespace Go.Proofs.YtlbkbjeajcadiaaGreatDoor.B
open Go.RowKit Go.Proofs.YtlbkbjeajcadiaaGreatDoor.M Go.BigFrame Go.Maps Go.Proofs.YtlbkbjeajcadiaaGreatDoor.O Go.Proofs.YtlbkbjeajcadiaaGreatDoor.P Go.Proofs.YtlbkbjeajcadiaaGreatDoor.Mp Go.Proofs.YtlbkbjeajcadiaaGreatDoor.Rw Go.Proofs.YtlbkbjeajcadiaaGreatDoor.R
set_option linter.unusedVariables false
set_option linter.unusedSimpArgs false

theorem two_filters {α : Type} (p q : α → Bool) (hpq : ∀ x, p x = true → q x = false) : ∀ l : List α, (l.filter p).length + (l.filter q).length ≤ l.length
  | [] => by simp
  | a :: t => by
    have ih := two_filters p q hpq t
    cases hp : p a with
    | true => rw [List.filter_cons_of_pos hp, List.filter_cons_of_neg (by rw [hpq a hp]; exact Bool.false_ne_true)]; simp; omega
    | false =>
      rw [List.filter_cons_of_neg (by rw [hp]; exact Bool.false_ne_true)]
      cases hq : q a with
      | true => rw [List.filter_cons_of_pos hq]; simp; omega
      | false => rw [List.filter_cons_of_neg (by rw [hq]; exact Bool.false_ne_true)]; simp; omega
theorem with_len {l : List Rv} (hs : SortedR l) (r : Rv) : (withL l r).length ≤ l.length + 1 := by
  rw [with_eq hs, List.length_append, List.length_cons]
  have := two_filters (fun x : Rv => ilt x.id r.id) (fun x : Rv => ilt r.id x.id) (fun x hx => ilt_asymm hx) l
  omega
theorem newL_ok (X : List Rv) : SortedR (newL X) ∧ (newL X).length ≤ X.length ∧ ∀ y ∈ newL X, y ∈ X ∧ recOk y = true := by
  have key : ∀ n, SortedR (newL (X.take n)) ∧ (newL (X.take n)).length ≤ n ∧ ∀ y ∈ newL (X.take n), y ∈ X ∧ recOk y = true := by
    intro n
    induction n with
    | zero => exact ⟨.nil, Nat.le_refl _, fun y h => by cases h⟩
    | succ n ih =>
      obtain ⟨i1, i2, i3⟩ := ih
      cases hx : X[n]? with
      | none =>
        rw [List.take_add_one, hx]
        simp only [Option.toList_none, List.append_nil]
        exact ⟨i1, by omega, i3⟩
      | some r =>
        rw [newL_next hx]
        cases hr : recOk r with
        | false => rw [if_neg Bool.false_ne_true]; exact ⟨i1, by omega, i3⟩
        | true =>
          rw [if_pos rfl]
          refine ⟨with_sorted i1 r, by have := with_len i1 r; omega, fun y hy => ?_⟩
          rcases with_sub hy with h | h
          · exact i3 y h
          · rw [h]; exact ⟨List.mem_of_getElem? hx, hr⟩
  have := key X.length
  rwa [List.take_length] at this
/-- the document's records, in a row that no one else has -/
structure RefAt (w wr : World) (oo : Option Addr) (oc : Nat) (L : List Rv) : Prop where
  rv : RecsV wr oo oc L
  nw : ∀ a, oo = some a → w.heap.size ≤ a.block
  bel : Below w.heap.size w wr
set_option maxRecDepth 100000 in
set_option maxHeartbeats 4000000 in
theorem refnew_any (X : List Rv) (ao : Option Addr) (cap : Nat) (w : World) (h : RecsV w ao cap X) (hlen : X.length ≤ 500) (hdl : ∀ x ∈ X, x.deps.length ≤ 1000) (hkl : ∀ x ∈ X, x.cmd.key.size ≤ 1000) :
    Calls Tryz.prog 16 #[.slice ao X.length cap] w fun e w' => ∃ oo oc, e = .returned (.slice oo (newL X).length oc) ∧ RefAt w w' oo oc (newL X) := by
  obtain ⟨hl1, hl2⟩ := h.le
  unfold maxLen at hl2
  have H := Lib.hid h
  have HDL := Lib.hid hdl
  have HKL := Lib.hid hkl
  clear h hdl hkl
  go_enter Tryz.func16, Tryz.ntmps16
  go_wp2_with fail
  go_loopw [3, 4] (fun ov kv wr => ∃ (k : Nat) (L : List Rv) (oo : Option Addr) (oc : Nat), ov = .slice oo L.length oc ∧ kv = .int .i64 k ∧ k ≤ X.length ∧ newL (X.take k) = L ∧ L.length ≤ k ∧ RefAt w wr oo oc L) (fun _ kv _ => X.length - (intOf kv).toNat)
  case atStart => exact ⟨0, [], none, 0, rfl, rfl, Nat.zero_le _, rfl, Nat.le_refl _, RecsV.nil _, fun a e => (by cases e), Below.refl _ _⟩
  case round =>
    obtain ⟨k, L, oo, oc, rfl, rfl, hk, hL, hLk, hra⟩ := hrel
    have HLE := Lib.hid hL
    have HRA := Lib.hid hra
    clear hL hra
    by_cases hkl : k < X.length
    · have hii : (k : Int) < (X.length : Int) := by omega
      obtain ⟨r, hr⟩ : ∃ r, X[k]? = some r := ⟨_, List.getElem?_eq_getElem hkl⟩
      have HNX := Lib.hid (show newL (X.take (k + 1)) = if recOk r = true then withL L r else L by rw [newL_next hr, HLE.out])
      have HLN := Lib.hid (show (newL (X.take (k + 1))).length ≤ k + 1 by have := (newL_ok (X.take (k + 1))).2.1; rw [List.length_take] at this; omega)
      obtain ⟨b, off, e0, hbl, hrec⟩ := H.out.row k r hr
      have HI := Lib.hid (H.out.ok r (List.mem_of_getElem? hr))
      have HDR := Lib.hid (HDL.out r (List.mem_of_getElem? hr))
      have HKR := Lib.hid (HKL.out r (List.mem_of_getElem? hr))
      subst e0
      have HRC := Lib.hid (show ∀ wx, Below w.heap.size w wx → RecAt wx b (off + k * 16) r from fun wx hb => hrec.below hb hbl)
      clear hr hrec
      obtain ⟨v, hv⟩ : ∃ v, recOk r = v := ⟨_, rfl⟩
      have HV := Lib.hid hv
      have HRT := Lib.hid (refright9_any r wr (HI.out.below HRA.out.bel) (by have := HDR.out; omega) (by have := HKR.out; omega) v hv)
      clear hv
      obtain ⟨c0, c1, c2, c3, c4, c5, c6, c7, c8, c9, c10, c11, c12, c13, c14, c15⟩ := HRC.out wr HRA.out.bel
      go_wp2_with fail
      refine HRT.out.mono ?_
      rintro e w3 ⟨rfl, hb3⟩
      have HB3 := Lib.hid hb3
      have HBW := Lib.hid (HRA.out.bel.trans (hb3.mono HRA.out.bel.size))
      clear hb3 HRT c0 c1 c2 c3 c4 c5 c6 c7 c8 c9 c10 c11 c12 c13 c14 c15
      cases v with
      | false =>
        have HE := Lib.hid (show newL (X.take (k + 1)) = L by rw [HNX.out, if_neg (by rw [HV.out]; exact Bool.false_ne_true)])
        go_wp2_with fail
        go_roundw
        case rel => exact ⟨k + 1, L, oo, oc, rfl, by go_num, by omega, HE.out, by omega, HRA.out.rv.below HB3.out, HRA.out.nw, HBW.out⟩
        case measure => simp [intOf]; omega
      | true =>
        have HE := Lib.hid (show newL (X.take (k + 1)) = withL L r by rw [HNX.out, if_pos HV.out])
        have HWT := Lib.hid (refwith_any L oo oc r w3 (HRA.out.rv.below HB3.out) (HI.out.below HBW.out) (by omega))
        obtain ⟨c0, c1, c2, c3, c4, c5, c6, c7, c8, c9, c10, c11, c12, c13, c14, c15⟩ := HRC.out w3 HBW.out
        go_wp2_with fail
        refine HWT.out.mono ?_
        rintro e w4 ⟨oo2, oc2, rfl, g1, g2, g3, g4, g5⟩
        have HRA2 := Lib.hid (show RefAt w w4 oo2 oc2 (withL L r) from ⟨g1, fun a e => Nat.le_trans HBW.out.size (g2 a e), HBW.out.trans (g5.mono HBW.out.size)⟩)
        have HLN2 := Lib.hid (show (withL L r).length ≤ k + 1 by rw [← HE.out]; exact HLN.out)
        clear g1 g2 g3 g4 g5 HWT c0 c1 c2 c3 c4 c5 c6 c7 c8 c9 c10 c11 c12 c13 c14 c15
        go_wp2_with fail
        go_roundw
        case rel => exact ⟨k + 1, withL L r, oo2, oc2, rfl, by go_num, by omega, HE.out, HLN2.out, HRA2.out⟩
        case measure => simp [intOf]; omega
    · obtain rfl : k = X.length := by omega
      have hii : ¬ (X.length : Int) < (X.length : Int) := by omega
      have HE := Lib.hid (show newL X = L by have := HLE.out; rwa [List.take_length] at this)
      go_wp2_with fail
      go_ret
      exact ⟨oo, oc, by rw [HE.out]; rfl, by rw [HE.out]; exact HRA.out⟩
/-- the document's Put -/
noncomputable def refE (L : List Rv) (r : Rv) : Int := if recOk r = true then (if goesOn (refGet L r.id) r = true then 0 else 10) else 4
noncomputable def putL (L : List Rv) (r : Rv) : List Rv := if refE L r = 0 then withL L r else L
theorem refGet_v {w : World} {ao : Option Addr} {cap : Nat} {X : List Rv} (h : RecsV w ao cap X) (i : O.Id) : IdsV w (refGet X i).ao (refGet X i).cap (refGet X i).deps ∧ ((refGet X i) ∈ X ∨ refGet X i = rv0 i) := by
  unfold refGet
  cases hf : X.find? (fun x => decide (x.id = i)) with
  | none => exact ⟨IdsV.nil w, .inr rfl⟩
  | some y =>
    have hy := List.mem_of_find?_eq_some hf
    exact ⟨(h.ok y hy).deps, .inl hy⟩
set_option maxRecDepth 100000 in
set_option maxHeartbeats 4000000 in
theorem refput_any (X : List Rv) (ao : Option Addr) (cap : Nat) (r : Rv) (w : World) (h : RecsV w ao cap X) (h0 : RvOk w r) (hlen : X.length ≤ 500) (hdl : ∀ x ∈ X, x.deps.length ≤ 1000) (hl : r.deps.length ≤ 1000) (hk : r.cmd.key.size ≤ 1000) :
    Calls Tryz.prog 26 #[.slice ao X.length cap, recV r] w fun e w' => ∃ oo oc, e = .returned (.tuple #[.slice oo (putL X r).length oc, .int .i64 (refE X r)]) ∧ (RecsV w' oo oc (putL X r) ∧ ((putL X r = X ∧ oo = ao) ∨ (putL X r = withL X r ∧ ∀ a, oo = some a → w.heap.size ≤ a.block)) ∧ Below w.heap.size w w') := by
  obtain ⟨hl1, hl2⟩ := h.le
  unfold maxLen at hl2
  have H := Lib.hid h
  have H0 := Lib.hid h0
  have HL := Lib.hid hl
  have HK := Lib.hid hk
  have HGD := Lib.hid (show (refGet X r.id).deps.length ≤ 1000 by
    rcases (refGet_v h r.id).2 with e | e
    · exact hdl _ e
    · rw [e]; simp [rv0])
  clear h h0 hl hk hdl
  go_enter Tryz.func26, Tryz.ntmps26
  go_upto_region 1 with fail
  obtain ⟨W, hW⟩ : ∃ W, W = w.alloc (recO r) := ⟨_, rfl⟩
  have HB : Hid (Below w.heap.size w W) := Lib.hid (by rw [hW]; exact (Below.refl _ _).alloc (Nat.le_refl _) _)
  have HX : Hid (W.heap[w.heap.size]? = some (recO r)) := Lib.hid (by rw [hW]; exact heap_alloc_new w _)
  rw [← hW]
  clear hW
  obtain ⟨v, hv⟩ : ∃ v, recOk r = v := ⟨_, rfl⟩
  have HV := Lib.hid hv
  have HRT := Lib.hid (refright9_any r W (H0.out.below HB.out) (by have := HL.out; omega) (by have := HK.out; omega) v hv)
  clear hv
  go_wp2_with (refine wpList_loadRec (by rfl) _ (by rfl) w.heap.size r (by rfl) HX.out ?_)
  refine HRT.out.mono ?_
  rintro e w1 ⟨rfl, hb1⟩
  have HB1 := Lib.hid (HB.out.trans (hb1.mono HB.out.size))
  have HX1 := Lib.hid ((hb1.block _ (M.heap_lt HX.out)).trans HX.out)
  clear hb1 HRT HX HB
  cases v with
  | false =>
    have HE := Lib.hid (show refE X r = 4 by unfold refE; rw [if_neg (by rw [HV.out]; exact Bool.false_ne_true)])
    have HP := Lib.hid (show putL X r = X by unfold putL; rw [HE.out]; rfl)
    go_wp2_with fail
    (try simp only [Exit.inBlock, Exit.then])
    refine bodyPost_ret (results_tmp2 rfl _ _ _) rfl ?_
    exact ⟨ao, cap, by rw [HE.out, HP.out]; rfl, by rw [HP.out]; exact H.out.below HB1.out, Or.inl ⟨HP.out, rfl⟩, HB1.out⟩
  | true =>
    obtain ⟨g, hg⟩ : ∃ g, goesOn (refGet X r.id) r = g := ⟨_, rfl⟩
    have HGO := Lib.hid hg
    clear hg
    have HW1 := Lib.hid (H.out.below HB1.out)
    have HGT := Lib.hid (fun (y : Kin w1) => refget_any X ao cap r.id y.w (HW1.out.below y.h))
    have HGN := Lib.hid (fun (y : Kin w1) => refgoeson_any (refGet X r.id) r y.w (refGet_v (HW1.out.below y.h) r.id).1 ((H0.out.below HB1.out).below y.h).deps (by have := HGD.out; omega) (by have := HL.out; omega) g HGO.out)
    go_upto_region 3 with fail
    obtain ⟨c0, c1, c2, c3, c4, c5, c6, c7, c8, c9, c10, c11, c12, c13, c14, c15⟩ := box16 HX1.out
    have k0 := Kin.cell c0
    have k1 := Kin.cell c1
    have k2 := Kin.cell c2
    have k3 := Kin.cell c3
    have k4 := Kin.cell c4
    have k5 := Kin.cell c5
    have k6 := Kin.cell c6
    have k7 := Kin.cell c7
    have k8 := Kin.cell c8
    have k9 := Kin.cell c9
    have k10 := Kin.cell c10
    have k11 := Kin.cell c11
    have k12 := Kin.cell c12
    have k13 := Kin.cell c13
    have k14 := Kin.cell c14
    have k15 := Kin.cell c15
    clear c0 c1 c2 c3 c4 c5 c6 c7 c8 c9 c10 c11 c12 c13 c14 c15
    refine wp_region_kin (by kernel_rfl) (by kernel_rfl) ?_
    repeat (go_big_quiet_step ((first | (go_at_call 21; exact Kin.call _ (HGT.out _)) | (go_at_call 46; exact Kin.call _ (HGN.out _)))))
    refine wpQuiet_nil ?_
    intro _ hxx
    obtain ⟨xk, rfl⟩ := hxx
    clear k0 k1 k2 k3 k4 k5 k6 k7 k8 k9 k10 k11 k12 k13 k14 k15
    have HB3 := Lib.hid (HB1.out.trans (xk.h.mono HB1.out.size))
    have HX3 := Lib.hid ((xk.h.block _ (M.heap_lt HX1.out)).trans HX1.out)
    cases g with
    | false =>
      have HE := Lib.hid (show refE X r = 10 by unfold refE; rw [if_pos HV.out, if_neg (by rw [HGO.out]; exact Bool.false_ne_true)])
      have HP := Lib.hid (show putL X r = X by unfold putL; rw [HE.out]; rfl)
      go_wp2_with fail
      (try simp only [Exit.inBlock, Exit.then])
      refine bodyPost_ret (results_tmp2 rfl _ _ _) rfl ?_
      exact ⟨ao, cap, by rw [HE.out, HP.out]; rfl, by rw [HP.out]; exact H.out.below HB3.out, Or.inl ⟨HP.out, rfl⟩, HB3.out⟩
    | true =>
      have HE := Lib.hid (show refE X r = 0 by unfold refE; rw [if_pos HV.out, if_pos HGO.out])
      have HP := Lib.hid (show putL X r = withL X r by unfold putL; rw [if_pos HE.out])
      have HWT := Lib.hid (refwith_any X ao cap r _ (H.out.below HB3.out) (H0.out.below HB3.out) (by omega))
      go_wp2_with (refine wpList_loadRec (by rfl) _ (by rfl) w.heap.size r (by rfl) HX3.out ?_)
      refine HWT.out.mono ?_
      rintro e w4 ⟨oo2, oc2, rfl, g1, g2, g3, g4, g5⟩
      have HR1 := Lib.hid g1
      have HR2 := Lib.hid g2
      have HR5 := Lib.hid g5
      clear g1 g2 g3 g4 g5 HWT
      go_wp2_with fail
      (try simp only [Exit.inBlock, Exit.then])
      refine bodyPost_ret (results_tmp2 rfl _ _ _) rfl ?_
      exact ⟨oo2, oc2, by rw [HE.out, HP.out]; rfl, by rw [HP.out]; exact HR1.out, Or.inr ⟨HP.out, fun a e => Nat.le_trans HB3.out.size (HR2.out a e)⟩, HB3.out.trans (HR5.out.mono HB3.out.size)⟩
end Go.Proofs.YtlbkbjeajcadiaaGreatDoor.B
