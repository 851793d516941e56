/- Several texts in one. -/
import Derived.Test.YtndfhejfhfhbdaaGreatDoorMrg20
import Derived.Test.YtndfhejfhfhbdaaGreatDoorMrg15
import Derived.Test.YtndfhejfhfhbdaaGreatDoorMrg31
import Derived.Test.YtndfhejfhfhbdaaGreatDoorOrdBD

/- The document's Great, Same of records, SameRecs; the law's unlike. -/
namespace Go.Proofs.YtndfhejfhfhbdaaGreatDoor.O
open Go.RowKit Go.Proofs.YtndfhejfhfhbdaaGreatDoor.M Go.BigFrame Go.Proofs.YtndfhejfhfhbdaaGreatDoor.K
set_option linter.unusedVariables false
set_option linter.unusedSimpArgs false

def gB (x : Rv) : Bool := decide (40 < x.deps.length) || (decide (200 < x.cmd.key.size) || decide (2000 < x.cmd.val.size))
def greatR (X : List Rv) (n : Nat) : Bool := (X.take n).any gB || decide (n < X.length)
theorem greatR_yes {X : List Rv} {n k : Nat} {x : Rv} (h1 : k < n) (h2 : X[k]? = some x) (h3 : gB x = true) : greatR X n = true := by
  unfold greatR
  rw [Bool.or_eq_true]
  refine .inl (List.any_eq_true.2 ⟨x, ?_, h3⟩)
  exact List.mem_of_getElem? (i := k) (by rw [List.getElem?_take_of_lt h1]; exact h2)
theorem greatR_end {X : List Rv} {n k : Nat} (h1 : k = X.length ∨ k = n) (h2 : ∀ j x, j < k → X[j]? = some x → gB x = false) : greatR X n = decide (n < X.length) := by
  unfold greatR
  have : (X.take n).any gB = false := by
    rw [Bool.eq_false_iff]
    intro h
    obtain ⟨x, hx, hg⟩ := List.any_eq_true.1 h
    obtain ⟨j, hj⟩ := List.mem_iff_getElem?.1 hx
    have hjl := (List.getElem?_eq_some_iff.1 hj).1
    rw [List.length_take] at hjl
    rw [List.getElem?_take_of_lt (by omega)] at hj
    rw [h2 j x (by rcases h1 with h | h <;> omega) hj] at hg
    cases hg
  rw [this, Bool.false_or]
theorem greatR_no {X : List Rv} {n : Nat} (h : greatR X n = false) : X.length ≤ n ∧ ∀ x ∈ X, x.deps.length ≤ 40 ∧ x.cmd.key.size ≤ 200 ∧ x.cmd.val.size ≤ 2000 := by
  unfold greatR at h
  rw [Bool.or_eq_false_iff] at h
  obtain ⟨h1, h2⟩ := h
  have hl : X.length ≤ n := by have := of_decide_eq_false h2; omega
  refine ⟨hl, fun x hx => ?_⟩
  rw [List.take_of_length_le hl] at h1
  have h3 : gB x = false := by
    cases e : gB x with
    | false => rfl
    | true => rw [List.any_eq_true.2 ⟨x, hx, e⟩] at h1; cases h1
  unfold gB at h3
  simp only [Bool.or_eq_false_iff, decide_eq_false_iff_not] at h3
  omega
set_option maxRecDepth 100000 in
set_option maxHeartbeats 4000000 in
theorem refgreat_any (X : List Rv) (n : Nat) (ao : Option Addr) (cap : Nat) (w : World) (h : RecsV w ao cap X) (hn : n ≤ 1000) (v : Bool) (hv : greatR X n = v) :
    Calls Tryz.prog 16 #[.slice ao X.length cap, .int .i64 n] w fun e w' => e = .returned (.bool v) ∧ w = w' := by
  obtain ⟨hl1, hl2⟩ := h.le
  unfold maxLen at hl2
  have H := Lib.hid h
  have HV := Lib.hid hv
  clear h hv
  go_enter Tryz.func16, Tryz.ntmps16
  go_wp2_with fail
  go_loopw [5] (fun iv wr => ∃ i : Nat, iv = .int .i64 i ∧ i ≤ X.length ∧ i ≤ n ∧ w = wr ∧ (∀ j x, j < i → X[j]? = some x → gB x = false)) (fun iv _ => X.length - (intOf iv).toNat)
  case atStart => exact ⟨0, rfl, Nat.zero_le _, Nat.zero_le _, rfl, fun _ _ h => absurd h (by omega)⟩
  case round =>
    obtain ⟨i, rfl, hi, him, rfl, hno⟩ := hrel
    have HNO := Lib.hid hno
    clear hno
    by_cases hlt : i < X.length
    · have e1 : (i : Int) < (X.length : Int) := by omega
      by_cases hlm : i < n
      · have e2 : (i : Int) < (n : Int) := by omega
        obtain ⟨x, hx⟩ : ∃ x, X[i]? = some x := ⟨_, List.getElem?_eq_getElem hlt⟩
        obtain ⟨b, off, rfl, hl, hc⟩ := H.out.row i x hx
        obtain ⟨c10, c11, c13⟩ := And.intro hc.c10 (And.intro hc.c11 hc.c13)
        have hok := H.out.ok x (List.mem_of_getElem? hx)
        have hk1 := hok.cmd.key
        have hk2 := hok.cmd.val
        have hk3 := hok.deps.le
        unfold maxLen at hk1 hk2 hk3
        have HX := Lib.hid hx
        clear hx hc hok
        by_cases g1 : 40 < x.deps.length
        · have e3 : (40 : Int) < (x.deps.length : Int) := by omega
          have HB := Lib.hid (show v = true by rw [← HV.out]; exact greatR_yes hlm HX.out (by unfold gB; simp [g1]))
          go_wp2_with fail
          go_ret
          exact ⟨by rw [HB.out]; rfl, rfl⟩
        · have e3 : ¬ (40 : Int) < (x.deps.length : Int) := by omega
          by_cases g2 : 200 < x.cmd.key.size
          · have e4 : (200 : Int) < (x.cmd.key.size : Int) := by omega
            have HB := Lib.hid (show v = true by rw [← HV.out]; exact greatR_yes hlm HX.out (by unfold gB; simp [g2]))
            go_wp2_with fail
            go_ret
            exact ⟨by rw [HB.out]; rfl, rfl⟩
          · have e4 : ¬ (200 : Int) < (x.cmd.key.size : Int) := by omega
            by_cases g3 : 2000 < x.cmd.val.size
            · have e5 : (2000 : Int) < (x.cmd.val.size : Int) := by omega
              have HB := Lib.hid (show v = true by rw [← HV.out]; exact greatR_yes hlm HX.out (by unfold gB; simp [g3]))
              go_wp2_with fail
              go_ret
              exact ⟨by rw [HB.out]; rfl, rfl⟩
            · have e5 : ¬ (2000 : Int) < (x.cmd.val.size : Int) := by omega
              have HB := Lib.hid (show gB x = false by unfold gB; rw [decide_eq_false g1, decide_eq_false g2, decide_eq_false g3]; rfl)
              go_wp2_with fail
              go_roundw
              case rel =>
                refine ⟨i + 1, by go_num, by omega, by omega, by trivial, fun j y hj hjy => ?_⟩
                by_cases e : j = i
                · subst e
                  have := HX.out.symm.trans hjy
                  cases this
                  exact HB.out
                · exact HNO.out j y (by omega) hjy
              case measure => simp [intOf]; omega
      · have e2 : ¬ (i : Int) < (n : Int) := by omega
        obtain rfl : i = n := by omega
        have HE := Lib.hid (show v = true by rw [← HV.out, greatR_end (.inr rfl) HNO.out]; exact decide_eq_true hlt)
        go_wp2_with fail
        go_ret
        exact ⟨by rw [HE.out]; rfl, rfl⟩
    · have e1 : ¬ (i : Int) < (X.length : Int) := by omega
      obtain rfl : i = X.length := by omega
      have e2 : ¬ (n : Int) < (X.length : Int) := by omega
      have HE := Lib.hid (show v = false by rw [← HV.out, greatR_end (.inl rfl) HNO.out]; exact decide_eq_false (by omega))
      go_wp2_with fail
      go_ret
      exact ⟨by rw [HE.out]; rfl, rfl⟩
end Go.Proofs.YtndfhejfhfhbdaaGreatDoor.O

/- The document's engine: Needs. -/
namespace Go.Proofs.YtndfhejfhfhbdaaGreatDoor.O
open Go.RowKit Go.Proofs.YtndfhejfhfhbdaaGreatDoor.M Go.BigFrame Go.Proofs.YtndfhejfhfhbdaaGreatDoor.K
set_option linter.unusedVariables false
set_option linter.unusedSimpArgs false

/-- what records need: those of X, that aren't done -/
def needR (Y : List Rv) (D : List Id) (X : List Rv) : List Id := (X.filter fun x => !decide (x.id ∈ D)).flatMap fun x => x.deps.filter fun d => !decide (d ∈ idsX Y)
theorem needR_next {Y X : List Rv} {D : List Id} {k : Nat} {x : Rv} (h : X[k]? = some x) : needR Y D (X.take (k + 1)) = needR Y D (X.take k) ++ (if x.id ∈ D then [] else x.deps.filter fun d => !decide (d ∈ idsX Y)) := by
  unfold needR
  rw [List.take_add_one, h, List.filter_append, List.flatMap_append]
  by_cases e : x.id ∈ D <;> simp [e]
theorem needR_len {Y : List Rv} {D : List Id} {n : Nat} : ∀ {X : List Rv}, (∀ x ∈ X, x.deps.length ≤ n) → (needR Y D X).length ≤ X.length * n := by
  intro X
  induction X with
  | nil => intro _; exact Nat.zero_le _
  | cons a t ih =>
    intro h
    have h1 := ih (fun x hx => h x (List.mem_cons_of_mem _ hx))
    have h2 := h a List.mem_cons_self
    have h3 := List.length_filter_le (fun d => !decide (d ∈ idsX Y)) a.deps
    have e : needR Y D (a :: t) = (if a.id ∈ D then [] else a.deps.filter fun d => !decide (d ∈ idsX Y)) ++ needR Y D t := by
      unfold needR
      by_cases e : a.id ∈ D <;> simp [e]
    rw [e, List.length_append, List.length_cons, Nat.add_mul, Nat.one_mul]
    have h4 : (if a.id ∈ D then [] else a.deps.filter fun d => !decide (d ∈ idsX Y)).length ≤ n := by
      split
      · exact Nat.zero_le _
      · exact Nat.le_trans h3 h2
    omega
set_option maxRecDepth 100000 in
set_option maxHeartbeats 4000000 in
theorem refneeds_any (w0 : World) (p : Nat) (Y : List Rv) (D : List Id) (G : Nat → Prop) (w : World) (h : RefE w0 w p Y D G) (hY : Y.length ≤ 100) (hdl : ∀ x ∈ Y, x.deps.length ≤ 10000) :
    Calls Tryz.prog 35 #[.pointer (some ⟨p, 0, none⟩)] w fun e w' => ∃ oo oc S, e = .returned (.slice oo (S : List Id).length oc) ∧ (S = setI (needR Y D Y) ∧ OwnL w' w.heap.size oo oc S ∧ Below w.heap.size w w') := by
  obtain ⟨i1, hi1, hy0, hy1, hy2⟩ := info_parts info_id
  have H := Lib.hid h
  have HDL := Lib.hid hdl
  obtain ⟨lo, lc, dn, dc, g0, g1, g2, g3, g4, g5, g6, g7, g8⟩ := (h).view
  have hpl := h.lt p h.gp
  have HG1 := Lib.hid g1
  have HG2 := Lib.hid g2
  have HRV := Lib.hid g3
  have HDV := Lib.hid g4
  obtain ⟨hl1, hl2⟩ := g3.le
  unfold maxLen at hl2
  clear g0 g1 g2 g3 g4 g5 g6 g7 g8 h hdl
  go_enter Tryz.func35, Tryz.ntmps35
  go_wp2_with fail
  go_loopw [3, 4] (fun ov kv wr => ∃ (k : Nat) (M : List Id) (oo : Option Addr) (oc : Nat), ov = .slice oo M.length oc ∧ kv = .int .i64 k ∧ k ≤ Y.length ∧ M = needR Y D (Y.take k) ∧ OwnL wr w.heap.size oo oc M ∧ Below w.heap.size w wr) (fun _ kv _ => Y.length - (intOf kv).toNat)
  case atStart => exact ⟨0, [], none, 0, rfl, rfl, Nat.zero_le _, by simp [needR], World.ownsRow_nil _ _ _ _, Below.refl _ _⟩
  case round =>
    obtain ⟨k, M, oo, oc, rfl, rfl, hk, hM, hown, hb⟩ := hrel
    have hMl : M.length ≤ 1000000 := by
      have h1 := needR_len (Y := Y) (D := D) (n := 10000) (X := Y.take k) (fun x hx => HDL.out x (List.mem_of_mem_take hx))
      rw [← hM] at h1
      have h2 : (Y.take k).length ≤ 100 := by rw [List.length_take]; omega
      have := Nat.mul_le_mul_right 10000 h2
      omega
    have HM := Lib.hid hM
    have HOW := Lib.hid hown
    have HBR := Lib.hid hb
    clear hM hown hb
    have hWr := HBR.out.size
    have s0 := (HBR.out.cell (p := ⟨p, 0, none⟩) hpl).trans HG1.out
    have s1 := (HBR.out.cell (p := ⟨p, 1, none⟩) hpl).trans HG2.out
    by_cases hkl : k < Y.length
    · have hii : (k : Int) < (Y.length : Int) := by omega
      obtain ⟨x, hx⟩ : ∃ x, Y[k]? = some x := ⟨_, List.getElem?_eq_getElem hkl⟩
      obtain ⟨b, off, e0, hbl, hrec⟩ := HRV.out.row k x hx
      subst e0
      have HX := Lib.hid hx
      have HREC := Lib.hid hrec
      have HD := Lib.hid ((HRV.out.ok x (List.mem_of_getElem? hx)).deps)
      have hdx := HDL.out x (List.mem_of_getElem? hx)
      have hc := hrec.below HBR.out hbl
      clear hx hrec
      obtain ⟨bv, hbv⟩ : ∃ b, decide (x.id ∈ D) = b := ⟨_, rfl⟩
      have HBV := Lib.hid hbv
      go_upto_region 5 with fail
      have k0 := Kin.cell s0
      have k1 := Kin.cell s1
      have k2 := Kin.cell hc.c0
      have k3 := Kin.cell hc.c1
      have HKH := Lib.hid (fun v : Kin wr => refhas_any D dn dc x.id v.w (HDV.out.below (B := 0) (HBR.out.trans (v.h.mono hWr))) bv hbv)
      clear hc hbv s0 s1
      refine wp_region_kin (by kernel_rfl) (by kernel_rfl) ?_
      repeat (go_big_quiet_step ((go_at_call 38; with_reducible exact Kin.call _ (HKH.out _))))
      refine wpQuiet_nil ?_
      intro _ hxx
      obtain ⟨xk, rfl⟩ := hxx
      clear k0 k1 k2 k3 HKH
      obtain ⟨wb, hwb⟩ : ∃ wb, xk.w = wb := ⟨_, rfl⟩
      have hbb := xk.h
      rw [hwb] at hbb
      rw [hwb]
      have HBB := Lib.hid (HBR.out.trans (hbb.mono hWr))
      have HOB := Lib.hid (Go.Proofs.YtndfhejfhfhbdaaGreatDoor.R.own_below HOW.out hbb)
      clear hwb hbb xk
      cases bv with
      | true =>
        have HN := Lib.hid (show M = needR Y D (Y.take (k + 1)) by rw [needR_next HX.out, if_pos (of_decide_eq_true HBV.out), List.append_nil]; exact HM.out)
        go_wp2_with fail
        go_roundw
        case rel => exact ⟨k + 1, M, oo, oc, rfl, by go_num, by omega, HN.out, HOB.out, HBB.out⟩
        case measure => simp [intOf]; omega
      | false =>
        have HNX := Lib.hid (show needR Y D (Y.take (k + 1)) = M ++ x.deps.filter (fun d => !decide (d ∈ idsX Y)) by rw [needR_next HX.out, if_neg (of_decide_eq_false HBV.out), HM.out])
        obtain ⟨hdl1, hdl2⟩ := HD.out.le
        unfold maxLen at hdl2
        obtain ⟨xo, hxo⟩ : ∃ xo, x.ao = xo := ⟨_, rfl⟩
        have HXO := Lib.hid hxo
        have hsb := HBB.out.size
        clear hxo
        obtain ⟨wa, rfl⟩ : ∃ wa, wa = wr := ⟨_, rfl⟩
        go_wp2_with fail
        go_loopw [3, 5] (fun ov jv wr => ∃ (j : Nat) (E : List Id) (eo : Option Addr) (ec : Nat), ov = .slice eo E.length ec ∧ jv = .int .i64 j ∧ j ≤ x.deps.length ∧ E = M ++ (x.deps.take j).filter (fun d => !decide (d ∈ idsX Y)) ∧ OwnL wr w.heap.size eo ec E ∧ Below w.heap.size w wr) (fun _ jv _ => x.deps.length - (intOf jv).toNat)
        case atStart => exact ⟨0, M, oo, oc, rfl, rfl, Nat.zero_le _, by simp, HOB.out, HBB.out⟩
        case round =>
          obtain ⟨j, E, eo, ec, rfl, rfl, hj, hE, heo, hbe⟩ := hrel
          have hel : E.length ≤ 2000000 := by
            rw [hE, List.length_append]
            have h1 := List.length_filter_le (fun d => !decide (d ∈ idsX Y)) (x.deps.take j)
            rw [List.length_take] at h1
            omega
          have HE := Lib.hid hE
          have HEO := Lib.hid heo
          have HBE := Lib.hid hbe
          clear hE heo hbe
          have hsq := HBE.out.size
          have c13 := (HREC.out.below HBE.out hbl).c13
          rw [HXO.out] at c13
          have t0 := (HBE.out.cell (p := ⟨p, 0, none⟩) hpl).trans HG1.out
          by_cases hjl : j < x.deps.length
          · have hjj : (j : Int) < (x.deps.length : Int) := by omega
            obtain ⟨d, hd⟩ : ∃ d, x.deps[j]? = some d := ⟨_, List.getElem?_eq_getElem hjl⟩
            have HDJ := Lib.hid hd
            obtain ⟨b2, off2, e2, hbl2, y0, y1⟩ := HD.out.row j d hd
            obtain rfl : xo = some ⟨b2, off2, none⟩ := HXO.out.symm.trans e2
            obtain ⟨v, hv⟩ : ∃ v, atI (idsX Y) d = v := ⟨_, rfl⟩
            have HVI := Lib.hid hv
            have HY := Lib.hid (And.intro y0 y1)
            clear hd e2 y0 y1
            go_upto_region 9 with fail
            have k0 := Kin.cell t0
            have k1 := Kin.cell c13
            have k2 := Kin.cell ((HBE.out.cell (p := ⟨b2, _, none⟩) hbl2).trans HY.out.1)
            have k3 := Kin.cell ((HBE.out.cell (p := ⟨b2, _, none⟩) hbl2).trans HY.out.2)
            have HKA := Lib.hid (fun u : Kin wr => refat_any Y _ lc d u.w (HRV.out.below (HBE.out.trans (u.h.mono hsq))) v hv)
            clear t0 c13 hv
            refine wp_region_kin (by kernel_rfl) (by kernel_rfl) ?_
            repeat (go_big_quiet_step ((go_at_call 14; with_reducible exact Kin.call _ (HKA.out _))))
            refine wpQuiet_nil ?_
            intro _ hxx
            obtain ⟨xk, rfl⟩ := hxx
            clear k0 k1 k2 k3 HKA
            obtain ⟨wc, hwc⟩ : ∃ wc, xk.w = wc := ⟨_, rfl⟩
            have hbc := xk.h
            rw [hwc] at hbc
            rw [hwc]
            have HBC := Lib.hid (HBE.out.trans (hbc.mono hsq))
            have HOC := Lib.hid (Go.Proofs.YtndfhejfhfhbdaaGreatDoor.R.own_below HEO.out hbc)
            have hsc := HBC.out.size
            clear hwc hbc xk
            by_cases hdm : d ∈ idsX Y
            · have hneg : ¬ v < 0 := fun h => atI_neg.1 (HVI.out ▸ h) hdm
              have HN := Lib.hid (show E = M ++ (x.deps.take (j + 1)).filter (fun d => !decide (d ∈ idsX Y)) by rw [List.take_add_one, HDJ.out, List.filter_append, ← List.append_assoc, ← HE.out, Option.toList_some, fil_in hdm, List.append_nil])
              clear hdm
              go_wp2_with fail
              go_roundw
              case rel => exact ⟨j + 1, E, eo, ec, rfl, by go_num, by omega, HN.out, HOC.out, HBC.out⟩
              case measure => simp [intOf]; omega
            · have hneg : v < 0 := by rw [← HVI.out]; exact atI_neg.2 hdm
              have HN := Lib.hid (show E ++ [d] = M ++ (x.deps.take (j + 1)).filter (fun d => !decide (d ∈ idsX Y)) by rw [List.take_add_one, HDJ.out, List.filter_append, ← List.append_assoc, ← HE.out, Option.toList_some, fil_out hdm])
              clear hdm
              have t0 := (HBC.out.cell (p := ⟨p, 0, none⟩) hpl).trans HG1.out
              have c13 := (HREC.out.below HBC.out hbl).c13
              rw [HXO.out] at c13
              have d0 := (HBC.out.cell (p := ⟨b2, _, none⟩) hbl2).trans HY.out.1
              have d1 := (HBC.out.cell (p := ⟨b2, _, none⟩) hbl2).trans HY.out.2
              go_wp2_with (refine wpList_app idC 2 (fun _ => rfl) (by decide) idC_one (by rfl) (.tmp 60) (.tmp 73) 25 (by rfl) w.heap.size 27 i1 _ 16 Tryz.underlying25 hi1 hy0 hy1 hy2 (by decide) rfl eo ec E d #[.int .i64 d.r, .int .i64 d.n] rfl (by rfl) (by exact HOC.out) (by rfl) (by omega) (by omega) ?_; intro eo' ec' w9 hown hmod hbel; have HEO9 := Lib.hid hown; have HB9 := Lib.hid (HBC.out.trans hbel); clear hown hmod hbel)
              clear t0 c13 d0 d1
              go_roundw
              case rel => exact ⟨j + 1, E ++ [d], eo', ec', by simp, by go_num, by omega, HN.out, HEO9.out, HB9.out⟩
              case measure => simp [intOf]; omega
          · obtain rfl : j = x.deps.length := by omega
            have hjj : ¬ (x.deps.length : Int) < (x.deps.length : Int) := by omega
            have HN := Lib.hid (show E = needR Y D (Y.take (k + 1)) by rw [HNX.out, HE.out, List.take_length])
            go_wp2_with fail
            go_roundw
            case rel => exact ⟨k + 1, E, eo, ec, rfl, by go_num, by omega, HN.out, HEO.out, HBE.out⟩
            case measure => simp [intOf]; omega
    · obtain rfl : k = Y.length := by omega
      have hii : ¬ (Y.length : Int) < (Y.length : Int) := by omega
      have HMF := Lib.hid (show M = needR Y D Y by rw [HM.out, List.take_length])
      have HMV := Lib.hid (IdsV.of_own (B := w.heap.size) (l := M) (by have := HOW.out; unfold OwnL at this; exact this) (fun d hd => by
        rw [HMF.out] at hd
        obtain ⟨x, hx, hdx⟩ := List.mem_flatMap.1 hd
        exact (HRV.out.ok x (List.mem_filter.1 hx).1).deps.ok d (List.mem_filter.1 hdx).1))
      have HSET := Lib.hid (refset_any M oo oc wr HMV.out (by omega))
      go_wp2_with fail
      refine HSET.out.mono ?_
      rintro e wf ⟨fo, fc, rfl, hfo, hbf⟩
      have HF := Lib.hid (show setI M = setI (needR Y D Y) ∧ OwnL wf w.heap.size fo fc (setI M) ∧ Below w.heap.size w wf from ⟨by rw [HMF.out], own_base hfo (fun q hq => Nat.le_trans hWr (hfo.lt q hq).1), HBR.out.trans (hbf.mono hWr)⟩)
      clear hfo hbf HSET
      go_wp2_with fail
      go_ret
      exact ⟨fo, fc, setI M, rfl, HF.out⟩
end Go.Proofs.YtndfhejfhfhbdaaGreatDoor.O
