/- The walk of EngineOnce. -/
import Derived.Test.YtndfhejfhfhbdaaGreatDoorMrg32
namespace Go.Proofs.YtndfhejfhfhbdaaGreatDoor.O
open Go.RowKit Go.Proofs.YtndfhejfhfhbdaaGreatDoor.M Go.BigFrame Go.Proofs.YtndfhejfhfhbdaaGreatDoor.K
set_option linter.unusedVariables false
set_option linter.unusedSimpArgs false

theorem keep2 {W w' : World} {g o1 o2 : Nat} {v0 v1 : Value} (hb : Below W.heap.size W w') (h1 : g < W.heap.size) (a0 : W.cell? ⟨g, o1, none⟩ = some v0) (a1 : W.cell? ⟨g, o2, none⟩ = some v1) :
    w'.cell? ⟨g, o1, none⟩ = some v0 ∧ w'.cell? ⟨g, o2, none⟩ = some v1 :=
  ⟨(hb.cell (p := ⟨g, o1, none⟩) h1).trans a0, (hb.cell (p := ⟨g, o2, none⟩) h1).trans a1⟩
theorem IdsV.take {w : World} {ao : Option Addr} {cap : Nat} {l : List Id} (h : IdsV w ao cap l) (i : Nat) : IdsV w ao cap (l.take i) :=
  ⟨⟨Nat.le_trans (by rw [List.length_take]; omega) h.le.1, h.le.2⟩, h.nz, fun j x hj => h.row j x (by
    have hji : j < i := by have := (List.getElem?_eq_some_iff.1 hj).1; rw [List.length_take] at this; omega
    rwa [List.getElem?_take, if_pos hji] at hj), fun x hx => h.ok x (List.take_subset _ _ hx)⟩
theorem not_taken {l : List Id} (h : l.Nodup) {i : Nat} {d : Id} (hd : l[i]? = some d) : d ∉ l.take i := fun hm => by
  obtain ⟨j, hj⟩ := List.mem_iff_getElem?.1 hm
  have hji : j < i := by have := (List.getElem?_eq_some_iff.1 hj).1; rw [List.length_take] at this; omega
  rw [List.getElem?_take, if_pos hji] at hj
  have := (List.getElem?_inj (List.getElem?_eq_some_iff.1 hj).1 h).1 (hj.trans hd.symm)
  omega
theorem not_needed {A : List Rv} {D : List Id} {B : List Rv} {d : Id} (h : thereB A D d = true) : d ∉ setI (needsL A D B) := fun hm => by
  obtain ⟨x, _, h1⟩ := List.mem_flatMap.1 ((setI_mem _ _).1 hm)
  have := (List.mem_filter.1 h1).2
  rw [h] at this
  cases this
theorem needs_ok {w : World} {p b1 b2 n m : Nat} {ro : Option Addr} {rc : Nat} {L : List Rv} {D S : List Id} (h : S = setI (needsL L D L)) (he : EngAt w p b1 b2 n m ro rc L D) : ∀ x ∈ S, IdI x := fun x hx => by
  rw [h] at hx
  obtain ⟨y, hy, h1⟩ := List.mem_flatMap.1 ((setI_mem _ _).1 hx)
  exact (he.ok y hy).1.deps.ok x (List.mem_filter.1 h1).1
theorem refhas_take (l : List Id) (k : Nat) (hk : k ≤ l.length) (ao : Option Addr) (cap : Nat) (i : Id) (w : World) (h : IdsV w ao cap l) (v : Bool) (hv : decide (i ∈ l.take k) = v) :
    Calls Tryz.prog 38 #[.slice ao k cap, idV i] w fun e w' => e = .returned (.bool v) ∧ Below w.heap.size w w' := by
  have := refhas_any (l.take k) ao cap i w (h.take k) v hv
  rw [List.length_take, Nat.min_eq_left hk] at this
  exact this
set_option maxRecDepth 100000 in
set_option maxHeartbeats 4000000 in
theorem once_law (X : List Rv) (ao : Option Addr) (cap : Nat) (w : World) (hV : RecsV w ao cap X) (hT : Go.Proofs.YtndfhejfhfhbdaaGreatDoor.R.Tabs w) :
    Calls Tryz.prog 8 #[.slice ao X.length cap] w fun e w' => e = .returned (.bool true) ∧ Below w.heap.size w w' := by
  have HV := Lib.hid hV
  have HT := Lib.hid hT
  clear hV hT
  go_enter Tryz.func8, Tryz.ntmps8
  obtain ⟨gr, hgr⟩ : ∃ g, greatR X 16 = g := ⟨_, rfl⟩
  have HG := Lib.hid (refgreat_any X 16 ao cap w HV.out (by omega) gr hgr)
  cases gr with
  | true =>
    clear hgr
    go_wp2_with fail
    refine HG.out.mono ?_
    rintro e w1 ⟨rfl, rfl⟩
    go_wp2_with fail
    refine (engawake_any _ (HT.out)).mono ?_
    rintro e wz ⟨rfl, hbz⟩
    have HBZ := Lib.hid ((Below.refl w.heap.size w).trans (hbz.mono (Below.refl w.heap.size w).size))
    clear hbz
    go_wp2_with fail
    go_ret
    exact ⟨rfl, HBZ.out⟩
  | false =>
    obtain ⟨hl16, hsz⟩ := greatR_no hgr
    have HSZ := Lib.hid hsz
    have HNEW := Lib.hid (engnew_any w)
    obtain ⟨hl1, hl2⟩ := HV.out.le
    unfold maxLen at hl2
    clear hgr hsz
    go_wp2_with fail
    refine HG.out.mono ?_
    rintro e w1 ⟨rfl, rfl⟩
    clear HG
    go_wp2_with fail
    refine HNEW.out.mono ?_
    rintro e w2 ⟨p, b1, b2, rfl, he, hf, hb⟩
    have HE0 := Lib.hid he
    have HF := Lib.hid hf
    have HB0 := Lib.hid hb
    clear he hf hb HNEW
    go_wp2_with fail
    go_loopw [4] (fun iv wr => ∃ (k n : Nat) (L : List Rv), iv = .int .i64 k ∧ k ≤ X.length ∧ L.length ≤ k ∧ n ≤ k ∧ EngAt wr p b1 b2 n 0 none 0 L [] ∧ (∀ x ∈ L, x.deps.length ≤ 1000 ∧ x.cmd.key.size ≤ 1000000) ∧ Below w.heap.size w wr) (fun iv _ => X.length - (intOf iv).toNat)
    case atStart => exact ⟨0, 0, [], rfl, Nat.zero_le _, Nat.le_refl _, Nat.le_refl _, HE0.out, fun x hx => (by cases hx), HB0.out⟩
    case round =>
      obtain ⟨k, n, L, rfl, hk, hLk, hnk, he, hsl, hbw⟩ := hrel
      have HE := Lib.hid he
      have HSL := Lib.hid hsl
      have HBW := Lib.hid hbw
      clear he hsl hbw HE0 HB0
      have hWr := HBW.out.size
      by_cases hkl : k < X.length
      · have hii : (k : Int) < (X.length : Int) := by omega
        obtain ⟨x, hx⟩ : ∃ x, X[k]? = some x := ⟨_, List.getElem?_eq_getElem hkl⟩
        have hxm := List.mem_of_getElem? hx
        obtain ⟨g, off, e0, hgl, hrec⟩ := HV.out.row k x hx
        have HREC := Lib.hid hrec
        have HXS := Lib.hid (HSZ.out x hxm)
        have HXO := Lib.hid (HV.out.ok x hxm)
        subst e0
        obtain ⟨c0, c1, c2, c3, c4, c5, c6, c7, c8, c9, c10, c11, c12, c13, c14, c15⟩ := hrec.below HBW.out hgl
        clear hx hrec hxm
        cases hac : (goodR x && !thereB L [] x.id) with
        | false =>
          have HC1 := Lib.hid (engcommit_no p b1 b2 n 0 none 0 L [] x wr HE.out (HXO.out.below HBW.out) (HT.out.next HBW.out) (by have := HXS.out; omega) (by have := HXS.out; omega) hac)
          go_wp2_with fail
          refine HC1.out.mono ?_
          rintro e w3 ⟨rfl, hb3⟩
          have HB3 := Lib.hid (HBW.out.trans (hb3.mono hWr))
          have HE3 := Lib.hid (HE.out.below hb3)
          have HC2 := Lib.hid (engcommit_no p b1 b2 n 0 none 0 L [] x w3 HE3.out (HXO.out.below HB3.out) (HT.out.next HB3.out) (by have := HXS.out; omega) (by have := HXS.out; omega) hac)
          clear hb3 hac HC1 c0 c1 c2 c3 c4 c5 c6 c7 c8 c9 c10 c11 c12 c13 c14 c15
          obtain ⟨c0, c1, c2, c3, c4, c5, c6, c7, c8, c9, c10, c11, c12, c13, c14, c15⟩ := HREC.out.below HB3.out hgl
          go_wp2_with fail
          refine HC2.out.mono ?_
          rintro e w4 ⟨rfl, hb4⟩
          have HB4 := Lib.hid (HB3.out.trans (hb4.mono HB3.out.size))
          have HE4 := Lib.hid (HE3.out.below hb4)
          clear hb4 HC2 c0 c1 c2 c3 c4 c5 c6 c7 c8 c9 c10 c11 c12 c13 c14 c15
          go_wp2_with fail
          go_roundw
          case rel => exact ⟨k + 1, n, L, by go_num, by omega, by omega, by omega, HE4.out, HSL.out, HB4.out⟩
          case measure => simp [intOf]; omega
        | true =>
          have hac2 : goodR x = true ∧ thereB L [] x.id = false := by simpa using hac
          have HC1 := Lib.hid (engcommit_yes p b1 b2 n 0 none 0 L [] x wr HE.out (HXO.out.below HBW.out) (HT.out.next HBW.out) (by have := HXS.out; omega) (by have := HXS.out; omega) (by omega) hac2.1 hac2.2)
          clear hac hac2
          go_wp2_with fail
          refine HC1.out.mono ?_
          rintro e w3 ⟨ao2, cap2, rfl, he3, hm3, _⟩
          obtain ⟨y, hy⟩ : ∃ y : Rv, { x with ao := ao2, cap := cap2 } = y := ⟨_, rfl⟩
          rw [hy] at he3
          have HB3 := Lib.hid (HBW.out.trans (hm3.below (fun j e => by have := HF.out b1 (.inr (.inl rfl)); omega) hWr))
          have HE3 := Lib.hid he3
          have HYS := Lib.hid (show ∀ z ∈ L ++ [y], z.deps.length ≤ 1000 ∧ z.cmd.key.size ≤ 1000000 from fun z hz => by
            rcases List.mem_append.1 hz with hz | hz
            · exact HSL.out z hz
            · rw [List.mem_singleton.1 hz, ← hy]
              have := HXS.out
              exact ⟨by show x.deps.length ≤ 1000; omega, by show x.cmd.key.size ≤ 1000000; omega⟩)
          have HC2 := Lib.hid (engcommit_no p b1 b2 (n + 1) 0 none 0 (L ++ [y]) [] x w3 he3 (HXO.out.below HB3.out) (HT.out.next HB3.out) (by have := HXS.out; omega) (by have := HXS.out; omega) (by
            have : thereB (L ++ [y]) [] x.id = true := thereB_iff.2 (.inl (by rw [← hy]; simp))
            rw [this]; simp))
          clear he3 hm3 hy HC1 c0 c1 c2 c3 c4 c5 c6 c7 c8 c9 c10 c11 c12 c13 c14 c15
          obtain ⟨c0, c1, c2, c3, c4, c5, c6, c7, c8, c9, c10, c11, c12, c13, c14, c15⟩ := HREC.out.below HB3.out hgl
          go_wp2_with fail
          refine HC2.out.mono ?_
          rintro e w4 ⟨rfl, hb4⟩
          have HB4 := Lib.hid (HB3.out.trans (hb4.mono HB3.out.size))
          have HE4 := Lib.hid (HE3.out.below hb4)
          clear hb4 HC2 c0 c1 c2 c3 c4 c5 c6 c7 c8 c9 c10 c11 c12 c13 c14 c15
          go_wp2_with fail
          go_roundw
          case rel => exact ⟨k + 1, n + 1, L ++ [y], by go_num, by omega, by simp; omega, by omega, HE4.out, HYS.out, HB4.out⟩
          case measure => simp [intOf]; omega
      · obtain rfl : k = X.length := by omega
        have hii : ¬ (X.length : Int) < (X.length : Int) := by omega
        have HRUN := Lib.hid (engrun_any p b1 b2 n 0 none 0 L [] wr HE.out (HT.out.next HBW.out) (by omega) (fun x hx => by have := HSL.out x hx; omega) (fun x hx => (HSL.out x hx).2) (by omega) (by simp) (fun x hx h => by cases h))
        go_wp2_with fail
        refine HRUN.out.mono ?_
        rintro e w5 ⟨oo, oc, out, rfl, O, R, ro, rc, h1, h2, h3, h4, h5, h6, h7, h8, h9⟩
        have HB5 := Lib.hid (HBW.out.trans (h7.below HF.out hWr))
        have hB5 := HB5.out.size
        have HE5 := Lib.hid (show EngAt w5 p b1 b2 n out.length ro rc (stayL L O) out by rw [Nat.zero_add] at h5; exact h5)
        have HOV5 := Lib.hid (show IdsV w5 oo oc out from IdsV.of_own h6 HE5.out.di)
        have HOO := Lib.hid h9
        have HF5 := Lib.hid (show ∀ j, EngF p b1 b2 ro j → w.heap.size ≤ j from fun j h => by
          rcases h8 j h with h | h
          · exact HF.out j h
          · omega)
        have HND := Lib.hid (show out.Nodup from h4.nodup_iff.2 (HE.out.wt.nd.sublist (List.filter_sublist.map _)))
        have HOL := Lib.hid (show ∀ i, i ∈ out → i ∈ idsX L from fun i hi => (List.filter_sublist.map _).subset (h4.mem_iff.1 hi))
        have HOS := Lib.hid h3
        have HSZ5 := Lib.hid (show (stayL L O).length ≤ 100 from Nat.le_trans (List.length_filter_le _ _) (by omega))
        have HSL5 := Lib.hid (show ∀ x ∈ stayL L O, x.deps.length ≤ 1000 from fun x hx => (HSL.out x (List.mem_filter.1 hx).1).1)
        have HSK5 := Lib.hid (show ∀ x ∈ stayL L O, x.cmd.key.size ≤ 1000000 from fun x hx => (HSL.out x (List.mem_filter.1 hx).1).2)
        have hol : out.length ≤ 16 := by
          have := h4.length_eq
          have h9 := List.length_filter_le (fun x : Rv => !decide (x.id ∈ O)) L
          unfold idsX at this
          rw [List.length_map] at this
          omega
        obtain ⟨hoc1, hoc2⟩ := HOV5.out.le
        unfold maxLen at hoc2
        have HDJ := Lib.hid (show ∀ x ∈ stayL L O, x.id ∉ out from fun x hx hm => by
          obtain ⟨y, hy, h2⟩ := List.mem_map.1 (h4.mem_iff.1 hm)
          have h9 := (List.mem_filter.1 hy).2
          have h10 := (List.mem_filter.1 hx).2
          rw [h2] at h9
          rw [h10] at h9
          cases h9)
        clear h1 h2 h3 h4 h5 h6 h7 h8 h9 HRUN
        go_wp2_with fail
        go_loopw [6] (fun iv wr => ∃ k : Nat, iv = .int .i64 k ∧ k ≤ out.length ∧ Below w5.heap.size w5 wr) (fun iv _ => out.length - (intOf iv).toNat)
        case atStart => exact ⟨0, rfl, Nat.zero_le _, Below.refl _ _⟩
        case round =>
          obtain ⟨k, rfl, hk, hbr⟩ := hrel
          have HBR := Lib.hid hbr
          have hzr := hbr.size
          clear hbr
          by_cases hko : k < out.length
          · have hii : (k : Int) < (out.length : Int) := by omega
            obtain ⟨d, hd⟩ : ∃ d, out[k]? = some d := ⟨_, List.getElem?_eq_getElem hko⟩
            have HDI := Lib.hid (HOV5.out.ok d (List.mem_of_getElem? hd))
            have HD := Lib.hid (List.mem_of_getElem? hd)
            have HNT := Lib.hid (show decide (d ∈ out.take k) = false from decide_eq_false (not_taken HND.out hd))
            have HTH := Lib.hid (show thereB (stayL L O) out d = true from thereB_iff.2 (.inr (List.mem_of_getElem? hd)))
            obtain ⟨b, off, e0, hbl, c0, c1⟩ := HOV5.out.row k d hd
            have ho0 : ¬ oc = 0 := by omega
            have hko2 : (k : Int) ≤ (oc : Int) := by omega
            subst e0
            clear hd
            go_upto_region 14 with fail
            go_region_held3 (fun w' => w'.cell? ⟨b, off + k * 2, none⟩ = some (.int .i64 d.r) ∧ w'.cell? ⟨b, off + k * 2 + 1, none⟩ = some (.int .i64 d.n))
              (exact keep2 (by repeat (first | exact HZ5.out | exact HZ4.out | exact HZ3.out | exact HZ2.out | exact HZ1.out | exact HBR.out | exact Below.refl _ _ | refine Below.drew ?_ | refine Below.alloc ?_ (by first | omega | (simp <;> omega)) _)) hbl c0 c1)
              ((first
                | (go_at_call 37
                   refine (engdone_any p b1 b2 n out.length ro rc (stayL L O) out d _ (HE5.out.below (by repeat (first | exact HZ5.out | exact HZ4.out | exact HZ3.out | exact HZ2.out | exact HZ1.out | exact HBR.out | exact Below.refl _ _ | refine Below.drew ?_ | refine Below.alloc ?_ (by first | omega | (simp <;> omega)) _))) HDI.out true (decide_eq_true HD.out)).mono ?_
                   rintro e wq1 ⟨rfl, hb1⟩
                   have HZ1 := Lib.hid (Below.trans (a := w5) (c := wq1) (B := w5.heap.size) (by repeat (first | exact HZ5.out | exact HZ4.out | exact HZ3.out | exact HZ2.out | exact HZ1.out | exact HBR.out | exact Below.refl _ _ | refine Below.drew ?_ | refine Below.alloc ?_ (by first | omega | (simp <;> omega)) _)) (hb1.mono (by first | omega | (simp <;> omega))))
                   have hz1 := HZ1.out.size
                   clear hb1)
                | (go_at_call 36
                   refine (enghas_any p b1 b2 n out.length ro rc (stayL L O) out d _ (HE5.out.below (by repeat (first | exact HZ5.out | exact HZ4.out | exact HZ3.out | exact HZ2.out | exact HZ1.out | exact HBR.out | exact Below.refl _ _ | refine Below.drew ?_ | refine Below.alloc ?_ (by first | omega | (simp <;> omega)) _))) HDI.out true HTH.out).mono ?_
                   rintro e wq2 ⟨rfl, hb2⟩
                   have HZ2 := Lib.hid (Below.trans (a := w5) (c := wq2) (B := w5.heap.size) (by repeat (first | exact HZ5.out | exact HZ4.out | exact HZ3.out | exact HZ2.out | exact HZ1.out | exact HBR.out | exact Below.refl _ _ | refine Below.drew ?_ | refine Below.alloc ?_ (by first | omega | (simp <;> omega)) _)) (hb2.mono (by first | omega | (simp <;> omega))))
                   have hz2 := HZ2.out.size
                   clear hb2)
                | (go_at_call 38
                   with_reducible refine (refhas_take out k (by omega) _ oc d _ (HOV5.out.below (B := 0) (by repeat (first | exact HZ5.out | exact HZ4.out | exact HZ3.out | exact HZ2.out | exact HZ1.out | exact HBR.out | exact Below.refl _ _ | refine Below.drew ?_ | refine Below.alloc ?_ (by first | omega | (simp <;> omega)) _))) false HNT.out).mono ?_
                   rintro e wq3 ⟨rfl, hb3⟩
                   have HZ3 := Lib.hid (Below.trans (a := w5) (c := wq3) (B := w5.heap.size) (by repeat (first | exact HZ5.out | exact HZ4.out | exact HZ3.out | exact HZ2.out | exact HZ1.out | exact HBR.out | exact Below.refl _ _ | refine Below.drew ?_ | refine Below.alloc ?_ (by first | omega | (simp <;> omega)) _)) (hb3.mono (by first | omega | (simp <;> omega))))
                   have hz3 := HZ3.out.size
                   clear hb3)
                | (go_at_call 34
                   refine (engneeds_any p b1 b2 n out.length ro rc (stayL L O) out _ (HE5.out.below (by repeat (first | exact HZ5.out | exact HZ4.out | exact HZ3.out | exact HZ2.out | exact HZ1.out | exact HBR.out | exact Below.refl _ _ | refine Below.drew ?_ | refine Below.alloc ?_ (by first | omega | (simp <;> omega)) _))) (by have := HSZ5.out; omega) HSL5.out).mono ?_
                   rintro e wq4 ⟨so, sc, S4, rfl, hS4, how4, hb4⟩
                   have HZ4 := Lib.hid (Below.trans (a := w5) (c := wq4) (B := w5.heap.size) (by repeat (first | exact HZ5.out | exact HZ4.out | exact HZ3.out | exact HZ2.out | exact HZ1.out | exact HBR.out | exact Below.refl _ _ | refine Below.drew ?_ | refine Below.alloc ?_ (by first | omega | (simp <;> omega)) _)) (hb4.mono (by first | omega | (simp <;> omega))))
                   have HS4 := Lib.hid (show IdsV wq4 so sc S4 from IdsV.of_own how4 (needs_ok hS4 HE5.out))
                   have HN4 := Lib.hid (show decide (d ∈ S4) = false from decide_eq_false (by rw [hS4]; exact not_needed HTH.out))
                   have hz4 := HZ4.out.size
                   clear hS4 how4 hb4)
                | (go_at_call 38
                   with_reducible refine (refhas_any S4 so sc d _ (HS4.out.below (B := 0) (by repeat (first | exact Below.refl _ _ | refine Below.drew ?_))) false HN4.out).mono ?_
                   rintro e wq5 ⟨rfl, hb5⟩
                   have HZ5 := Lib.hid (Below.trans (a := w5) (c := wq5) (B := w5.heap.size) (by repeat (first | exact HZ5.out | exact HZ4.out | exact HZ3.out | exact HZ2.out | exact HZ1.out | exact HBR.out | exact Below.refl _ _ | refine Below.drew ?_ | refine Below.alloc ?_ (by first | omega | (simp <;> omega)) _)) (hb5.mono (by first | omega | (simp <;> omega))))
                   have hz5 := HZ5.out.size
                   clear hb5)))
            all_goals
              go_wp2_with fail
              go_roundw
              case rel => exact ⟨k + 1, by go_num, by omega, HZ5.out⟩
              case measure => simp [intOf]; omega
          · obtain rfl : k = out.length := by omega
            have hii : ¬ (out.length : Int) < (out.length : Int) := by omega
            have HRN2 := Lib.hid (engrun_any p b1 b2 n out.length ro rc (stayL L O) out wr (HE5.out.below HBR.out) (HT.out.next (HB5.out.trans (HBR.out.mono hB5))) (by have := List.length_filter_le (fun x : Rv => decide (x.id ∈ O)) L; unfold stayL; omega) (fun x hx => Nat.le_trans (HSL5.out x hx) (by omega)) HSK5.out (by omega) (by omega) HDJ.out)
            go_upto_region 16 with fail
            go_wp2_with (first
              | (go_at_call 31
                 refine HRN2.out.mono ?_
                 rintro e w6 ⟨oo2, oc2, out2, rfl, O2, R2, ro2, rc2, k1, k2, k3, k4, k5, k6, k7, k8, k9⟩
                 have k0 : readyL (stayL L O) out O2 = [] := nothing_more (D := []) HOL.out HOS.out k3
                 have k10 : out2 = [] := by
                   have := k4
                   rw [← ready_ids (D := out), k0] at this
                   exact List.perm_nil.1 this
                 subst k10
                 have HZ6 := Lib.hid (show Below w.heap.size w w6 from (HB5.out.trans (HBR.out.mono hB5)).trans (k7.below HF5.out (by omega)))
                 have hz6 := HZ6.out.size
                 have HE6 := Lib.hid (show EngAt w6 p b1 b2 n out.length ro2 rc2 (stayL (stayL L O) O2) out by rw [List.append_nil] at k5; exact k5)
                 have HOV6 := Lib.hid (show IdsV w6 oo oc out from (HOV5.out.below (B := 0) HBR.out).keep k7 (fun a e _ => HOO.out a e))
                 clear k0 k1 k2 k3 k4 k5 k6 k7 k8 k9)
              | (go_at_call 33
                 refine (engexec_any p b1 b2 n out.length ro2 rc2 (stayL (stayL L O) O2) out w6 HE6.out (by omega)).mono ?_
                 rintro e w7 ⟨xo, xc, rfl, hx7, hb7⟩
                 have HZ7 := Lib.hid (HZ6.out.trans (hb7.mono hz6))
                 have hz7 := HZ7.out.size
                 have HX7 := Lib.hid (show IdsV w7 xo xc out from IdsV.of_own hx7 HE6.out.di)
                 have HOV7 := Lib.hid (show IdsV w7 oo oc out from HOV6.out.below (B := 0) hb7)
                 clear hx7 hb7)
              | (go_at_call 18
                 refine (refequal_any out out xo oo xc oc w7 HX7.out HOV7.out true (decide_eq_true rfl)).mono ?_
                 rintro e w8 ⟨rfl, hb8⟩
                 have HZ8 := Lib.hid (HZ7.out.trans (hb8.mono hz7))
                 clear hb8)
              | (go_at_call 27
                 refine (engawake_any w8 (HT.out.next HZ8.out)).mono ?_
                 rintro e w9 ⟨rfl, hb9⟩
                 have HZ9 := Lib.hid (HZ8.out.trans (hb9.mono HZ8.out.size))
                 clear hb9))
            go_ret
            exact ⟨rfl, HZ9.out⟩
end Go.Proofs.YtndfhejfhfhbdaaGreatDoor.O
