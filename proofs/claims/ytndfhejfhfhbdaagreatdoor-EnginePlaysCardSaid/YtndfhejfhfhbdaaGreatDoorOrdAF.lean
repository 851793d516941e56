/- The document's sorted, Within. -/
import Derived.Test.YtndfhejfhfhbdaaGreatDoorMrg20
namespace Go.Proofs.YtndfhejfhfhbdaaGreatDoor.O
open Go.RowKit Go.Proofs.YtndfhejfhfhbdaaGreatDoor.M Go.BigFrame Go.Proofs.YtndfhejfhfhbdaaGreatDoor.K
set_option linter.unusedVariables false
set_option linter.unusedSimpArgs false

theorem ins_pw {α : Type} {lt : α → α → Bool} (asym : ∀ a b, lt a b = true → lt b a = false) (nt : ∀ a b c, lt a b = false → lt b c = false → lt a c = false) {O : List α} {x : α} {k : Nat} (hs : O.Pairwise (fun a b => lt b a = false)) (hk : k ≤ O.length)
    (hhi : ∀ j y, k ≤ j → O[j]? = some y → lt x y = true) (hlo : ∀ j y, k = j + 1 → O[j]? = some y → lt x y = false) : (O.take k ++ [x] ++ O.drop k).Pairwise (fun a b => lt b a = false) := by
  have h1 : ∀ a ∈ O.take k, lt x a = false := fun a ha => by
    obtain ⟨i, hi⟩ := List.mem_iff_getElem?.1 ha
    have hil : i < k := by
      have := (List.getElem?_eq_some_iff.1 hi).1
      rw [List.length_take] at this
      omega
    rw [List.getElem?_take_of_lt hil] at hi
    obtain ⟨j, rfl⟩ : ∃ j, k = j + 1 := ⟨k - 1, by omega⟩
    obtain ⟨y, hy⟩ : ∃ y, O[j]? = some y := ⟨_, List.getElem?_eq_getElem (by omega)⟩
    have hxy := hlo j y rfl hy
    by_cases e : i = j
    · subst e; rw [hy] at hi; cases hi; exact hxy
    · have := List.pairwise_iff_getElem.1 hs i j (by omega) (by omega) (by omega)
      rw [(List.getElem?_eq_some_iff.1 hi).2, (List.getElem?_eq_some_iff.1 hy).2] at this
      exact nt x y a hxy this
  have h2 : ∀ b ∈ O.drop k, lt b x = false := fun b hb => by
    obtain ⟨i, hi⟩ := List.mem_iff_getElem?.1 hb
    rw [List.getElem?_drop] at hi
    exact asym _ _ (hhi _ b (by omega) hi)
  have h3 := hs
  rw [← List.take_append_drop k O, List.pairwise_append] at h3
  obtain ⟨p1, p2, p3⟩ := h3
  refine List.pairwise_append.2 ⟨List.pairwise_append.2 ⟨p1, by simp, fun a ha b hb => ?_⟩, p2, fun a ha b hb => ?_⟩
  · rw [List.mem_singleton.1 hb]; exact h1 a ha
  · rcases List.mem_append.1 ha with h | h
    · exact p3 a h b hb
    · rw [List.mem_singleton.1 h]; exact h2 b hb
theorem ins_perm {α : Type} (O : List α) (x : α) (k : Nat) : (O.take k ++ [x] ++ O.drop k).Perm (O ++ [x]) := by
  have h1 : (O.take k ++ [x] ++ O.drop k).Perm (O.take k ++ (O.drop k ++ [x])) := by
    rw [List.append_assoc]
    exact List.Perm.append_left _ List.perm_append_comm
  rwa [← List.append_assoc, List.take_append_drop] at h1
/-- the order that is asked for -/
def byB (wi : Bool) (a b : Rv) : Bool := if wi then wlt a.nd b.nd else ilt a.id b.id
theorem byB_asym (wi : Bool) (a b : Rv) (h : byB wi a b = true) : byB wi b a = false := by
  cases wi with
  | false => exact ilt_asymm h
  | true =>
    have h : wlt a.nd b.nd = true := h
    show wlt b.nd a.nd = false
    cases e : wlt b.nd a.nd with
    | false => rfl
    | true => have := wlt_trans h e; rw [wlt_irr] at this; cases this
theorem ilt_nt {a b c : Id} (h1 : ilt a b = false) (h2 : ilt b c = false) : ilt a c = false := by
  rw [ilt_no] at *
  omega
theorem byB_nt (wi : Bool) (a b c : Rv) (h1 : byB wi a b = false) (h2 : byB wi b c = false) : byB wi a c = false := by
  cases wi with
  | false => exact ilt_nt h1 h2
  | true => exact wlt_ntrans h1 h2
theorem SrcAt.new (w : World) (cs : Array Value) (e : TypeId) : SrcAt (w.alloc (.cells cs e)) (some ⟨w.heap.size, 0, none⟩) cs.toList := fun _ => ⟨_, rfl, World.news_of_block (heap_alloc_new w _)⟩
theorem SrcAt.back_at {w : World} {g : Nat} {l : List Value} (h : SrcAt w (some ⟨g, 0, none⟩) l) (j : Nat) : SrcAt w (some ⟨g, j, none⟩) (l.drop j) := by
  have := h.back j
  have ea : (⟨g, 0, none⟩ : Addr).add j = ⟨g, j, none⟩ := by
    unfold Addr.add
    split
    · next e => rw [e]
    · rw [Nat.zero_add]
  rwa [Option.map_some, ea] at this
theorem SrcAt.below {w w2 : World} {so : Option Addr} {l : List Value} (h : SrcAt w so l) (hb : Below w.heap.size w w2) : SrcAt w2 so l := by
  intro hne
  obtain ⟨ad, h1, h2⟩ := h hne
  exact ⟨ad, h1, fun j u hj => (hb.cell (World.block_lt_of_cell? w _ (h2 j u hj))).trans (h2 j u hj)⟩
theorem rec_of_own {B : Nat} {w : World} {oo : Option Addr} {oc : Nat} {O : List Rv} (h : OwnR w B oo oc O) {j : Nat} {y : Rv} (hj : O[j]? = some y) : ∃ g, oo = some ⟨g, 0, none⟩ ∧ g < w.heap.size ∧ RecAt w g (0 + j * 16) y := by
  have hjl := (List.getElem?_eq_some_iff.1 hj).1
  obtain ⟨ao', cap', e0, h1, h2, h3, h4⟩ := M.own_view h
  cases e0
  cases oo with
  | none => have := (h3 rfl).1; omega
  | some a =>
    obtain ⟨g, cur, rfl, _, hg, hsz, htk⟩ := h4 a rfl
    refine ⟨g, rfl, M.heap_lt hg, .of fun i hi => ?_⟩
    have hv := cellsR_get O j y hj i hi
    rw [cell_of_row w g _ _ _ _ hg, Nat.zero_add, ← Array.getElem?_toList]
    have hv : (O.flatMap recC)[j * 16 + i]? = _ := hv
    rw [← htk, List.getElem?_take_of_lt (by omega)] at hv
    exact hv
set_option maxRecDepth 100000 in
set_option maxHeartbeats 40000000 in
theorem refsorted_any (X : List Rv) (ao : Option Addr) (cap : Nat) (wi : Bool) (w : World) (h : RecsV w ao cap X) (hl : X.length ≤ 1000000) :
    Calls Tryz.prog 50 #[.slice ao X.length cap, .bool wi] w fun e w' => ∃ oo oc m, e = .returned (.slice oo X.length oc) ∧ (m.Perm X ∧ m.Pairwise (fun a b => byB wi b a = false) ∧ m.length = X.length ∧ OwnR w' w.heap.size oo oc m ∧ Below w.heap.size w w') := by
  obtain ⟨hl1, hl2⟩ := h.le
  unfold maxLen at hl2
  obtain ⟨i0, hi, hz0, hz1, hz2⟩ := info_parts info_rec
  have H := Lib.hid h
  clear h
  go_enter Tryz.func50, Tryz.ntmps50
  go_wp2_with fail
  go_loopw [5, 6] (fun ov kv wr => ∃ (k : Nat) (O : List Rv) (oo : Option Addr) (oc : Nat), ov = .slice oo O.length oc ∧ kv = .int .i64 k ∧ k ≤ X.length ∧ O.Perm (X.take k) ∧ O.Pairwise (fun a b => byB wi b a = false) ∧ OwnR wr w.heap.size oo oc O ∧ Below w.heap.size w wr) (fun _ kv _ => X.length - (intOf kv).toNat)
  case atStart => exact ⟨0, [], none, 0, rfl, rfl, Nat.zero_le _, by simp, .nil, World.ownsRow_nil _ _ _ _, Below.refl _ _⟩
  case round =>
    obtain ⟨k, O, oo, oc, rfl, rfl, hk, hp, hs, hown, hb⟩ := hrel
    have hOl : O.length = k := by rw [hp.length_eq, List.length_take]; omega
    have HP := Lib.hid hp
    have HS := Lib.hid hs
    have HOW := Lib.hid hown
    have HBR := Lib.hid hb
    have hWr := HBR.out.size
    have HOLD := Lib.hid hOl
    have hOm : O.length ≤ 1000000 := by omega
    clear hp hs hown hb hOl
    by_cases hkl : k < X.length
    · have hii : (k : Int) < (X.length : Int) := by omega
      obtain ⟨x, hx⟩ : ∃ x, X[k]? = some x := ⟨_, List.getElem?_eq_getElem hkl⟩
      obtain ⟨b, off, e0, hbl, hrec⟩ := H.out.row k x hx
      subst e0
      have HX := Lib.hid hx
      have HREC := Lib.hid hrec
      clear hx hrec
      go_upto_region 6 with fail
      obtain ⟨wa, rfl⟩ : ∃ wa, wa = wr := ⟨_, rfl⟩
      go_loopw [7] (fun jv wr => ∃ (j : Nat), jv = .int .i64 j ∧ j ≤ O.length ∧ (∀ p y, j ≤ p → O[p]? = some y → byB wi x y = true) ∧ Below wa.heap.size wa wr) (fun jv _ => (intOf jv).toNat)
      case atStart => exact ⟨O.length, rfl, Nat.le_refl _, fun p y hp hy => absurd (List.getElem?_eq_some_iff.1 hy).1 (by omega), Below.refl _ _⟩
      case round =>
        obtain ⟨j, rfl, hj, hgt, hbj⟩ := hrel
        have HGT := Lib.hid hgt
        have HBJ := Lib.hid hbj
        have HBA := Lib.hid (HBR.out.trans (hbj.mono hWr))
        have hsj := hbj.size
        clear hgt hbj
        obtain ⟨bv, hbv⟩ : ∃ bv, (j = 0 ∧ bv = false) ∨ (∃ p y, j = p + 1 ∧ O[p]? = some y ∧ byB wi x y = bv) := by
          cases j with
          | zero => exact ⟨false, .inl ⟨rfl, rfl⟩⟩
          | succ p =>
            obtain ⟨y, hy⟩ : ∃ y, O[p]? = some y := ⟨_, List.getElem?_eq_getElem (by omega)⟩
            exact ⟨_, .inr ⟨p, y, rfl, hy, rfl⟩⟩
        have HBV := Lib.hid hbv
        have HOJ := Lib.hid (Go.Proofs.YtndfhejfhfhbdaaGreatDoor.R.own_below HOW.out HBJ.out)
        clear hbv
        go_upto_region 6 with fail
        go_cut [51] (fun u wx => u = .bool bv ∧ Below wr.heap.size wr wx)
        case first =>
          rcases HBV.out with ⟨hj0, hbv⟩ | ⟨p, y, hjp, hy, hbv⟩
          · subst hj0 hbv
            cases wi with
            | true =>
              as_aux_lemma =>
                refine wp_region_kin (by kernel_rfl) (by kernel_rfl) ?_
                repeat (go_big_quiet_step (fail))
                refine wpQuiet_nil ?_
                intro _ hxx
                obtain ⟨xk, rfl⟩ := hxx
                go_wp2_with fail
                go_meet
                case rel => exact ⟨rfl, xk.h⟩
            | false =>
              as_aux_lemma =>
                refine wp_region_kin (by kernel_rfl) (by kernel_rfl) ?_
                repeat (go_big_quiet_step (fail))
                refine wpQuiet_nil ?_
                intro _ hxx
                obtain ⟨xk, rfl⟩ := hxx
                go_wp2_with fail
                go_meet
                case rel => exact ⟨rfl, xk.h⟩
          · obtain ⟨g, e1, hgl, hry⟩ := rec_of_own HOJ.out hy
            subst e1
            rw [Nat.zero_add] at hry
            have hrx := HREC.out.below HBA.out hbl
            have hpl := (List.getElem?_eq_some_iff.1 hy).1
            obtain ⟨ao', cap', e0, hl3, hl4, _, _⟩ := M.own_view HOW.out
            cases e0
            unfold maxLen at hl4
            have hpi : (p : Int) < (O.length : Int) := by omega
            have hkj : (j : Int) - 1 = (p : Int) := by omega
            have hkn : decide (0 < j) = true := decide_eq_true (by omega)
            clear hy hjp
            cases wi with
            | true =>
              have HR := Lib.hid (show wlt x.nd y.nd = bv from hbv)
              have k0 := Kin.cell (hrx).c0
              have k1 := Kin.cell (hrx).c1
              have k2 := Kin.cell (hrx).c2
              have k3 := Kin.cell (hrx).c3
              have k4 := Kin.cell (hrx).c4
              have k5 := Kin.cell (hrx).c5
              have k6 := Kin.cell (hrx).c6
              have k7 := Kin.cell (hrx).c7
              have k8 := Kin.cell (hrx).c8
              have k9 := Kin.cell (hrx).c9
              have k10 := Kin.cell (hrx).c10
              have k11 := Kin.cell (hrx).c11
              have k12 := Kin.cell (hrx).c12
              have k13 := Kin.cell (hrx).c13
              have k14 := Kin.cell (hrx).c14
              have k15 := Kin.cell (hrx).c15
              have q0 := Kin.cell (hry).c0
              have q1 := Kin.cell (hry).c1
              have q2 := Kin.cell (hry).c2
              have q3 := Kin.cell (hry).c3
              have q4 := Kin.cell (hry).c4
              have q5 := Kin.cell (hry).c5
              have q6 := Kin.cell (hry).c6
              have q7 := Kin.cell (hry).c7
              have q8 := Kin.cell (hry).c8
              have q9 := Kin.cell (hry).c9
              have q10 := Kin.cell (hry).c10
              have q11 := Kin.cell (hry).c11
              have q12 := Kin.cell (hry).c12
              have q13 := Kin.cell (hry).c13
              have q14 := Kin.cell (hry).c14
              have q15 := Kin.cell (hry).c15
              clear hbv hrx hry
              cases bv with
              | true =>
                as_aux_lemma =>
                  refine wp_region_kin (by kernel_rfl) (by kernel_rfl) ?_
                  repeat (go_big_quiet_step ((go_at_call 83; with_reducible exact Kin.grew _ (refahead_any x y _ _ HR.out))))
                  refine wpQuiet_nil ?_
                  intro _ hxx
                  obtain ⟨xk, rfl⟩ := hxx
                  clear k0 k1 k2 k3 k4 k5 k6 k7 k8 k9 k10 k11 k12 k13 k14 k15 q0 q1 q2 q3 q4 q5 q6 q7 q8 q9 q10 q11 q12 q13 q14 q15
                  go_wp2_with fail
                  go_meet
                  case rel => exact ⟨rfl, xk.h⟩
              | false =>
                as_aux_lemma =>
                  refine wp_region_kin (by kernel_rfl) (by kernel_rfl) ?_
                  repeat (go_big_quiet_step ((go_at_call 83; with_reducible exact Kin.grew _ (refahead_any x y _ _ HR.out))))
                  refine wpQuiet_nil ?_
                  intro _ hxx
                  obtain ⟨xk, rfl⟩ := hxx
                  clear k0 k1 k2 k3 k4 k5 k6 k7 k8 k9 k10 k11 k12 k13 k14 k15 q0 q1 q2 q3 q4 q5 q6 q7 q8 q9 q10 q11 q12 q13 q14 q15
                  go_wp2_with fail
                  go_meet
                  case rel => exact ⟨rfl, xk.h⟩
            | false =>
              have HR := Lib.hid (show ilt x.id y.id = bv from hbv)
              have k0 := Kin.cell (hrx).c0
              have k1 := Kin.cell (hrx).c1
              have q0 := Kin.cell (hry).c0
              have q1 := Kin.cell (hry).c1
              clear hbv hrx hry
              as_aux_lemma =>
                refine wp_region_kin (by kernel_rfl) (by kernel_rfl) ?_
                repeat (go_big_quiet_step ((go_at_call 15; with_reducible exact Kin.grew _ (refless_any x.id y.id _ _ HR.out))))
                refine wpQuiet_nil ?_
                intro _ hxx
                obtain ⟨xk, rfl⟩ := hxx
                clear k0 k1 q0 q1
                go_wp2_with fail
                go_meet
                case rel => exact ⟨rfl, xk.h⟩
        case rest =>
          obtain ⟨rfl, hbc⟩ := hcut
          obtain ⟨wz, rfl⟩ : ∃ wz, wz = wc := ⟨_, rfl⟩
          have HBC := Lib.hid hbc
          have HBJC := Lib.hid (HBJ.out.trans (hbc.mono hsj))
          have hsz := HBJC.out.size
          clear hbc
          cases bv with
          | true =>
            obtain ⟨p, hp1, hp2⟩ : ∃ p, j = p + 1 ∧ (∀ q y, p ≤ q → O[q]? = some y → byB wi x y = true) := by
              rcases HBV.out with ⟨_, h⟩ | ⟨p, y, hjp, hy, hbv⟩
              · cases h
              · refine ⟨p, hjp, fun q z hq hz => ?_⟩
                by_cases e : q = p
                · subst e; rw [hy] at hz; cases hz; exact hbv
                · exact HGT.out q z (by omega) hz
            have hkj : (j : Int) - 1 = (p : Int) := by omega
            have HP2 := Lib.hid hp2
            clear hp2
            go_wp2_with fail
            go_roundw
            case rel => exact ⟨p, rfl, by omega, HP2.out, HBJC.out⟩
            case measure => simp [intOf]; omega
          | false =>
            have HLO := Lib.hid (show ∀ p y, j = p + 1 → O[p]? = some y → byB wi x y = false from fun p y hjp hy => by
              rcases HBV.out with ⟨h, _⟩ | ⟨p2, y2, hjp2, hy2, hbv⟩
              · omega
              · obtain rfl : p2 = p := by omega
                rw [hy] at hy2; cases hy2; exact hbv)
            have HBK := Lib.hid (HBR.out.trans (HBJC.out.mono hWr))
            have HOK := Lib.hid (Go.Proofs.YtndfhejfhfhbdaaGreatDoor.R.own_below HOW.out HBJC.out)
            obtain ⟨ao', cap', e0, hl3, hl4, hnn, hss⟩ := M.own_view HOW.out
            cases e0
            unfold maxLen at hl4
            clear HBV HBC HOJ
            cases oo with
            | none =>
              obtain ⟨hn1, hn2⟩ := hnn rfl
              obtain rfl : O = [] := List.eq_nil_of_length_eq_zero hn1
              subst hn2
              have hj0 : j = 0 := by simpa using hj
              subst hj0
              clear hss hnn hl3 hl4 hn1
              skip
              go_upto_region 9 with (refine wpList_apps recC 16 (fun _ => rfl) (by decide) recC_one (by rfl) (.tmp 54) (.tmp 57) 28 (by rfl) wz.heap.size 38 i0 _ 160 Tryz.underlying28 hi hz0 hz1 hz2 (by decide) rfl (some ⟨wz.heap.size, 0, none⟩) 0 0 [] rfl _ _ 0 [] rfl (by rfl) (by exact own_empty _ _ _ (0, 0)) (by rfl) (by intro hh; exact absurd rfl hh) (by omega) (by simp) ?_; intro oo1 oc1 w4 hown1 hmod1 hbel1; have hbel1 := ((Below.refl wz.heap.size wz).alloc (Nat.le_refl _) (.cells #[] 38)).trans hbel1; rw [List.nil_append, Nat.zero_add] at hown1; rw [Nat.zero_add]; have HOW1 := Lib.hid hown1; have HB4 := Lib.hid hbel1; clear hown1 hmod1 hbel1)
              have hs4 := HB4.out.size
              obtain ⟨c0, c1, c2, c3, c4, c5, c6, c7, c8, c9, c10, c11, c12, c13, c14, c15⟩ := HREC.out.below (HBK.out.trans (HB4.out.mono HBK.out.size)) hbl
              go_upto_region 10 with (refine wpList_app recC 16 (fun _ => rfl) (by decide) recC_one (by rfl) (.tmp 59) (.tmp 64) 28 (by rfl) wz.heap.size 38 i0 _ 160 Tryz.underlying28 hi hz0 hz1 hz2 (by decide) rfl oo1 oc1 ([] : List Rv) x (recA x) rfl (by rfl) (by exact HOW1.out) (by rfl) (by simp) (by omega) ?_; intro oo2 oc2 w5 hown2 hmod2 hbel2; have HOW2 := Lib.hid hown2; have HB5 := Lib.hid (HB4.out.trans hbel2); clear hown2 hmod2 hbel2)
              clear c0 c1 c2 c3 c4 c5 c6 c7 c8 c9 c10 c11 c12 c13 c14 c15
              have hs5 := HB5.out.size
              go_wp2_with (refine wpList_apps recC 16 (fun _ => rfl) (by decide) recC_one (by rfl) (.tmp 66) (.tmp 69) 28 (by rfl) wz.heap.size 38 i0 _ 160 Tryz.underlying28 hi hz0 hz1 hz2 (by decide) rfl oo2 oc2 1 [x] rfl _ _ 0 [] rfl (by rfl) (by exact HOW2.out) (by rfl) (by intro hh; exact absurd rfl hh) (by omega) (by omega) ?_; intro oo3 oc3 w6 hown3 hmod3 hbel3; have HOW3 := Lib.hid hown3; have HB6 := Lib.hid (HB5.out.trans hbel3); clear hown3 hmod3 hbel3)
              have HFIN := Lib.hid (show OwnR w6 w.heap.size oo3 oc3 [x] from own_base HOW3.out (fun q hq => Nat.le_trans HBK.out.size (HOW3.out.lt q hq).1))
              have HBF := Lib.hid (HBK.out.trans (HB6.out.mono HBK.out.size))
              have HPF := Lib.hid (show [x].Perm (X.take (k + 1)) from (by rw [List.take_add_one, HX.out]; exact (HP.out.append (List.Perm.refl [x]))))
              go_roundw
              case rel => exact ⟨k + 1, [x], oo3, oc3, rfl, by go_num, by omega, HPF.out, by simp, HFIN.out, HBF.out⟩
              case measure => simp [intOf]; omega
            | some a =>
              obtain ⟨g, cur, rfl, _⟩ := hss a rfl
              clear hss hnn
              skip
              obtain ⟨T, hT⟩ : ∃ T, T = O.take j := ⟨_, rfl⟩
              have hTl : T.length = j := by rw [hT, List.length_take]; omega
              subst hTl
              have HTT := Lib.hid hT
              clear hT
              have HDLN := Lib.hid (show (O.drop T.length).length = O.length - T.length from List.length_drop)
              have HS1 := Lib.hid (SrcAt.of_own HOK.out)
              go_upto_region 9 with (refine wpList_apps recC 16 (fun _ => rfl) (by decide) recC_one (by rfl) (.tmp 54) (.tmp 57) 28 (by rfl) wz.heap.size 38 i0 _ 160 Tryz.underlying28 hi hz0 hz1 hz2 (by decide) rfl (some ⟨wz.heap.size, 0, none⟩) 0 0 [] rfl _ _ T.length T rfl (by rfl) (by exact own_empty _ _ _ (0, 0)) (by rfl) (by rw [HTT.out, flat_take recC 16 (fun _ => rfl)]; exact (HS1.out.below ((Below.refl _ _).alloc (Nat.le_refl _) _)).front _) (by omega) (by simp) ?_; intro oo1 oc1 w4 hown1 hmod1 hbel1; have hbel1 := ((Below.refl wz.heap.size wz).alloc (Nat.le_refl _) (.cells #[] 38)).trans hbel1; rw [List.nil_append, Nat.zero_add] at hown1; rw [Nat.zero_add]; have HOW1 := Lib.hid hown1; have HB4 := Lib.hid hbel1; clear hown1 hmod1 hbel1)
              have hs4 := HB4.out.size
              obtain ⟨c0, c1, c2, c3, c4, c5, c6, c7, c8, c9, c10, c11, c12, c13, c14, c15⟩ := HREC.out.below (HBK.out.trans (HB4.out.mono HBK.out.size)) hbl
              go_upto_region 10 with (refine wpList_app recC 16 (fun _ => rfl) (by decide) recC_one (by rfl) (.tmp 59) (.tmp 64) 28 (by rfl) wz.heap.size 38 i0 _ 160 Tryz.underlying28 hi hz0 hz1 hz2 (by decide) rfl oo1 oc1 T x (recA x) rfl (by rfl) (by exact HOW1.out) (by rfl) (by omega) (by omega) ?_; intro oo2 oc2 w5 hown2 hmod2 hbel2; have HOW2 := Lib.hid hown2; have HB5 := Lib.hid (HB4.out.trans hbel2); clear hown2 hmod2 hbel2)
              clear c0 c1 c2 c3 c4 c5 c6 c7 c8 c9 c10 c11 c12 c13 c14 c15
              have hs5 := HB5.out.size
              have hT2l : (T ++ [x]).length = T.length + 1 := by simp
              rw [hT2l] at HOW2
              try rw [hT2l]
              have HT2L := Lib.hid hT2l
              have hT2m : T.length + 1 ≤ 1000001 := by omega
              have hTle : T.length ≤ oc := by omega
              have hTint : (T.length : Int) ≤ (oc : Int) := by omega
              clear hT2l
              have HS5 := Lib.hid (HS1.out.below HB5.out)
              by_cases hcj : oc = T.length
              · have HDE := Lib.hid (show O.drop T.length = [] from List.drop_eq_nil_of_le (by omega))
                go_wp2_with (refine wpList_apps recC 16 (fun _ => rfl) (by decide) recC_one (by rfl) (.tmp 66) (.tmp 69) 28 (by rfl) wz.heap.size 38 i0 _ 160 Tryz.underlying28 hi hz0 hz1 hz2 (by decide) rfl oo2 oc2 (T.length + 1) (T ++ [x]) HT2L.out _ _ (O.length - T.length) (O.drop T.length) HDLN.out (by rfl) (by exact HOW2.out) (by rfl) (by intro hh; exact absurd (by rw [HDE.out]; rfl) hh) (by omega) (by omega) ?_; intro oo3 oc3 w6 hown3 hmod3 hbel3; have HOW3 := Lib.hid hown3; have HB6 := Lib.hid (HB5.out.trans hbel3); clear hown3 hmod3 hbel3)
                have hlen6 : (T ++ [x] ++ O.drop T.length).length = T.length + 1 + (O.length - T.length) := by rw [List.length_append, HDLN.out, HT2L.out]
                have HLL := Lib.hid hlen6
                clear hlen6
                have HFIN := Lib.hid (show OwnR w6 w.heap.size oo3 oc3 (T ++ [x] ++ O.drop T.length) from by unfold OwnR; rw [HLL.out]; exact own_base HOW3.out (fun q hq => Nat.le_trans HBK.out.size (HOW3.out.lt q hq).1))
                have HBF := Lib.hid (HBK.out.trans (HB6.out.mono HBK.out.size))
                have HEQ := Lib.hid (show T ++ [x] ++ O.drop T.length = O.take T.length ++ [x] ++ O.drop T.length by rw [← HTT.out])
                have HPF := Lib.hid (show (T ++ [x] ++ O.drop T.length).Perm (X.take (k + 1)) from (by rw [HEQ.out]; exact (ins_perm _ x T.length).trans (by rw [List.take_add_one, HX.out]; exact HP.out.append (List.Perm.refl _))))
                have HSF := Lib.hid (show (T ++ [x] ++ O.drop T.length).Pairwise (fun a b => byB wi b a = false) by rw [HEQ.out]; exact ins_pw (byB_asym wi) (byB_nt wi) HS.out hj HGT.out HLO.out)
                go_roundw
                case rel => exact ⟨k + 1, T ++ [x] ++ O.drop T.length, oo3, oc3, by rw [HLL.out], by go_num, by omega, HPF.out, HSF.out, HFIN.out, HBF.out⟩
                case measure => simp [intOf]; omega
              · go_wp2_with (refine wpList_apps recC 16 (fun _ => rfl) (by decide) recC_one (by rfl) (.tmp 66) (.tmp 69) 28 (by rfl) wz.heap.size 38 i0 _ 160 Tryz.underlying28 hi hz0 hz1 hz2 (by decide) rfl oo2 oc2 (T.length + 1) (T ++ [x]) HT2L.out _ _ (O.length - T.length) (O.drop T.length) HDLN.out (by rfl) (by exact HOW2.out) (by rfl) (by rw [flat_drop recC 16 (fun _ => rfl)]; with_reducible exact HS5.out.back_at (T.length * 16)) (by omega) (by omega) ?_; intro oo3 oc3 w6 hown3 hmod3 hbel3; have HOW3 := Lib.hid hown3; have HB6 := Lib.hid (HB5.out.trans hbel3); clear hown3 hmod3 hbel3)
                have hlen6 : (T ++ [x] ++ O.drop T.length).length = T.length + 1 + (O.length - T.length) := by rw [List.length_append, HDLN.out, HT2L.out]
                have HLL := Lib.hid hlen6
                clear hlen6
                have HFIN := Lib.hid (show OwnR w6 w.heap.size oo3 oc3 (T ++ [x] ++ O.drop T.length) from by unfold OwnR; rw [HLL.out]; exact own_base HOW3.out (fun q hq => Nat.le_trans HBK.out.size (HOW3.out.lt q hq).1))
                have HBF := Lib.hid (HBK.out.trans (HB6.out.mono HBK.out.size))
                have HEQ := Lib.hid (show T ++ [x] ++ O.drop T.length = O.take T.length ++ [x] ++ O.drop T.length by rw [← HTT.out])
                have HPF := Lib.hid (show (T ++ [x] ++ O.drop T.length).Perm (X.take (k + 1)) from (by rw [HEQ.out]; exact (ins_perm _ x T.length).trans (by rw [List.take_add_one, HX.out]; exact HP.out.append (List.Perm.refl _))))
                have HSF := Lib.hid (show (T ++ [x] ++ O.drop T.length).Pairwise (fun a b => byB wi b a = false) by rw [HEQ.out]; exact ins_pw (byB_asym wi) (byB_nt wi) HS.out hj HGT.out HLO.out)
                go_roundw
                case rel => exact ⟨k + 1, T ++ [x] ++ O.drop T.length, oo3, oc3, by rw [HLL.out], by go_num, by omega, HPF.out, HSF.out, HFIN.out, HBF.out⟩
                case measure => simp [intOf]; omega
    · obtain rfl : k = X.length := by omega
      have hii : ¬ (X.length : Int) < (X.length : Int) := by omega
      have HPF := Lib.hid (show O.Perm X by have := HP.out; rwa [List.take_length] at this)
      have HFIN := Lib.hid HOW.out
      have HL := Lib.hid HOLD.out
      clear HOLD
      go_wp2_with fail
      go_ret
      exact ⟨oo, oc, ret_val (by rw [← HL.out]; rfl), O, HPF.out, HS.out, HL.out, HFIN.out, HBR.out⟩
end Go.Proofs.YtndfhejfhfhbdaaGreatDoor.O
