/- Several texts in one. -/
import Derived.Test.YtlbkbjeajcadiaaGreatDoorBkX

/- The document's Great of records. -/
namespace Go.Proofs.YtlbkbjeajcadiaaGreatDoor.B
open Go.RowKit Go.Proofs.YtlbkbjeajcadiaaGreatDoor.M Go.BigFrame Go.Maps Go.Proofs.YtlbkbjeajcadiaaGreatDoor.O Go.Proofs.YtlbkbjeajcadiaaGreatDoor.P Go.Proofs.YtlbkbjeajcadiaaGreatDoor.Mp Go.Proofs.YtlbkbjeajcadiaaGreatDoor.Rw Go.Proofs.YtlbkbjeajcadiaaGreatDoor.R
set_option linter.unusedVariables false
set_option linter.unusedSimpArgs false

def gK (x : Rv) : Bool := decide (60 < x.deps.length) || (decide (200 < x.cmd.key.size) || decide (2000 < x.cmd.val.size))
def greatK (X : List Rv) (n : Nat) : Bool := (X.take n).any gK || decide (n < X.length)
theorem greatK_yes {X : List Rv} {n k : Nat} {x : Rv} (h1 : k < n) (h2 : X[k]? = some x) (h3 : gK x = true) : greatK X n = true := by
  unfold greatK
  rw [Bool.or_eq_true]
  refine .inl (List.any_eq_true.2 ⟨x, ?_, h3⟩)
  exact List.mem_of_getElem? (i := k) (by rw [List.getElem?_take_of_lt h1]; exact h2)
theorem greatK_end {X : List Rv} {n k : Nat} (h1 : k = X.length ∨ k = n) (h2 : ∀ j x, j < k → X[j]? = some x → gK x = false) : greatK X n = decide (n < X.length) := by
  unfold greatK
  have : (X.take n).any gK = false := by
    rw [Bool.eq_false_iff]
    intro h
    obtain ⟨x, hx, hg⟩ := List.any_eq_true.1 h
    obtain ⟨j, hj⟩ := List.mem_iff_getElem?.1 hx
    have hjl := (List.getElem?_eq_some_iff.1 hj).1
    rw [List.length_take] at hjl
    rw [List.getElem?_take_of_lt (by omega)] at hj
    rw [h2 j x (by rcases h1 with h | h <;> omega) hj] at hg
    cases hg
  rw [this, Bool.false_or]
theorem greatK_no {X : List Rv} {n : Nat} (h : greatK X n = false) : X.length ≤ n ∧ ∀ x ∈ X, x.deps.length ≤ 60 ∧ x.cmd.key.size ≤ 200 ∧ x.cmd.val.size ≤ 2000 := by
  unfold greatK at h
  rw [Bool.or_eq_false_iff] at h
  obtain ⟨h1, h2⟩ := h
  have hl : X.length ≤ n := by have := of_decide_eq_false h2; omega
  refine ⟨hl, fun x hx => ?_⟩
  rw [List.take_of_length_le hl] at h1
  have h3 : gK x = false := by
    cases e : gK x with
    | false => rfl
    | true => rw [List.any_eq_true.2 ⟨x, hx, e⟩] at h1; cases h1
  unfold gK at h3
  simp only [Bool.or_eq_false_iff, decide_eq_false_iff_not] at h3
  omega
set_option maxRecDepth 100000 in
set_option maxHeartbeats 4000000 in
theorem great14_any (X : List Rv) (ao : Option Addr) (cap : Nat) (w : World) (h : RecsV w ao cap X) (v : Bool) (hv : greatK X 12 = v) :
    Calls Tryz.prog 6 #[.slice ao X.length cap] w fun e w' => e = .returned (.bool v) ∧ w = w' := by
  obtain ⟨hl1, hl2⟩ := h.le
  unfold maxLen at hl2
  have H := Lib.hid h
  have HV := Lib.hid hv
  clear h hv
  go_enter Tryz.func6, Tryz.ntmps6
  go_wp2_with fail
  go_loopw [3] (fun iv wr => ∃ i : Nat, iv = .int .i64 i ∧ i ≤ X.length ∧ i ≤ 12 ∧ w = wr ∧ (∀ j x, j < i → X[j]? = some x → gK x = false)) (fun iv _ => X.length - (intOf iv).toNat)
  case atStart => exact ⟨0, rfl, Nat.zero_le _, Nat.zero_le _, rfl, fun _ _ h => absurd h (by omega)⟩
  case round =>
    obtain ⟨i, rfl, hi, him, rfl, hno⟩ := hrel
    have HNO := Lib.hid hno
    clear hno
    by_cases hlt : i < X.length
    · have e1 : (i : Int) < (X.length : Int) := by omega
      by_cases hlm : i < 12
      · have e2 : (i : Int) < (12 : Int) := by omega
        obtain ⟨x, hx⟩ : ∃ x, X[i]? = some x := ⟨_, List.getElem?_eq_getElem hlt⟩
        obtain ⟨b, off, rfl, hl, hc⟩ := H.out.row i x hx
        obtain ⟨c10, c11, c13⟩ := And.intro hc.c10 (And.intro hc.c11 hc.c13)
        have hok := H.out.ok x (List.mem_of_getElem? hx)
        have hk1 := hok.cmd.key
        have hk2 := hok.cmd.val
        have hk3 := hok.deps.le
        unfold maxLen at hk1 hk2 hk3
        have HX := Lib.hid hx
        clear hx hc hok
        by_cases g1 : 60 < x.deps.length
        · have e3 : (60 : Int) < (x.deps.length : Int) := by omega
          have HB := Lib.hid (show v = true by rw [← HV.out]; exact greatK_yes hlm HX.out (by unfold gK; simp [g1]))
          go_wp2_with fail
          go_ret
          exact ⟨by rw [HB.out]; rfl, rfl⟩
        · have e3 : ¬ (60 : Int) < (x.deps.length : Int) := by omega
          by_cases g2 : 200 < x.cmd.key.size
          · have e4 : (200 : Int) < (x.cmd.key.size : Int) := by omega
            have HB := Lib.hid (show v = true by rw [← HV.out]; exact greatK_yes hlm HX.out (by unfold gK; simp [g2]))
            go_wp2_with fail
            go_ret
            exact ⟨by rw [HB.out]; rfl, rfl⟩
          · have e4 : ¬ (200 : Int) < (x.cmd.key.size : Int) := by omega
            by_cases g3 : 2000 < x.cmd.val.size
            · have e5 : (2000 : Int) < (x.cmd.val.size : Int) := by omega
              have HB := Lib.hid (show v = true by rw [← HV.out]; exact greatK_yes hlm HX.out (by unfold gK; simp [g3]))
              go_wp2_with fail
              go_ret
              exact ⟨by rw [HB.out]; rfl, rfl⟩
            · have e5 : ¬ (2000 : Int) < (x.cmd.val.size : Int) := by omega
              have HB := Lib.hid (show gK x = false by unfold gK; rw [decide_eq_false g1, decide_eq_false g2, decide_eq_false g3]; rfl)
              go_wp2_with fail
              go_roundw
              case rel =>
                refine ⟨i + 1, by go_num, by omega, by omega, by trivial, fun j y hj hjy => ?_⟩
                by_cases e : j = i
                · subst e
                  have := HX.out.symm.trans hjy
                  cases this
                  exact HB.out
                · exact HNO.out j y (by omega) hjy
              case measure => simp [intOf]; omega
      · have e2 : ¬ (i : Int) < (12 : Int) := by omega
        obtain rfl : i = 12 := by omega
        have HE := Lib.hid (show v = true by rw [← HV.out, greatK_end (.inr rfl) HNO.out]; exact decide_eq_true hlt)
        go_wp2_with fail
        go_ret
        exact ⟨by rw [HE.out]; rfl, rfl⟩
    · have e1 : ¬ (i : Int) < (X.length : Int) := by omega
      obtain rfl : i = X.length := by omega
      have e2 : ¬ (12 : Int) < (X.length : Int) := by omega
      have HE := Lib.hid (show v = false by rw [← HV.out, greatK_end (.inl rfl) HNO.out]; exact decide_eq_false (by omega))
      go_wp2_with fail
      go_ret
      exact ⟨by rw [HE.out]; rfl, rfl⟩
end Go.Proofs.YtlbkbjeajcadiaaGreatDoor.B

/- The document's example of the book. -/
namespace Go.Proofs.YtlbkbjeajcadiaaGreatDoor.B
open Go.RowKit Go.Proofs.YtlbkbjeajcadiaaGreatDoor.M Go.BigFrame Go.Maps Go.Proofs.YtlbkbjeajcadiaaGreatDoor.O Go.Proofs.YtlbkbjeajcadiaaGreatDoor.P Go.Proofs.YtlbkbjeajcadiaaGreatDoor.Mp Go.Proofs.YtlbkbjeajcadiaaGreatDoor.Rw Go.Proofs.YtlbkbjeajcadiaaGreatDoor.R
set_option linter.unusedVariables false
set_option linter.unusedSimpArgs false

def exI : O.Id := ⟨0, 1⟩
def exC : Cmd := ⟨2, 1, 1, ⟨#[97]⟩, ⟨#[]⟩, 0⟩
def exG : Cmd := ⟨1, 2, 1, ⟨#[97]⟩, ⟨#[]⟩, 0⟩
def exR : Rv := ⟨exI, 1, ⟨0, 0⟩, ⟨0, 0⟩, exC, [], 4, 1, none, 0⟩
theorem exR_ok : recOk exR = true := by decide +kernel
theorem exR_goes : goesOn (getR [] exR.id) exR = true := by
  have h1 : getR [] exR.id = rv0 exI := rfl
  rw [h1]
  unfold goesOn
  rw [show decide ((rv0 exI).id = exR.id) = true from by decide, show balLt exR.bal (rv0 exI).bal = false from by decide, show balLt exR.took (rv0 exI).took = false from by decide, show decide ((rv0 exI).st ≠ 3) = true from by decide]
  rfl
theorem exR_put : putE [] exR = 0 := by unfold putE; rw [exR_ok, exR_goes]; rfl
theorem ex_met : meet exG exC = true := by decide +kernel
theorem one_of {A : List (O.Id × En)} {i : O.Id} {e : En} (hn : (A.map Prod.fst).Nodup) (h : ∀ j, findD A j = if j = i then some e else none) : A = [(i, e)] := by
  have hall : ∀ p ∈ A, p = (i, e) := fun p hp => by
    have h1 := findD_of hn (show (p.1, p.2) ∈ A from hp)
    rw [h p.1] at h1
    split at h1
    · rename_i e1
      exact Prod.ext e1 (Option.some.inj h1).symm
    · cases h1
  have hin : (i, e) ∈ A := findD_some (by rw [h i, if_pos rfl])
  match A, hall, hin, hn with
  | [], _, hin, _ => cases hin
  | [a], hall, _, _ => rw [hall a (by simp)]
  | a :: b :: t, hall, _, hn =>
    exfalso
    have e1 := hall a (by simp)
    have e2 := hall b (by simp)
    rw [e1, e2] at hn
    simp at hn
theorem ex_hang {R : List (O.Id × Rv)} {ao : Option Addr} {cap : Nat} (hR : R = [(exI, { exR with ao := ao, cap := cap })]) {l : List O.Id} {m : Int} (h : HangL R exG ⟨1, 1⟩ l m) : l = [exI] ∧ m = 4 := by
  obtain ⟨A, h1, h2, rfl, rfl⟩ := h
  have hA : A = [(exI, ⟨exC, 4⟩)] := one_of h2 (fun j => by
    rw [h1 j, hR]
    unfold findD
    by_cases e : j = exI
    · subst e
      simp
      rfl
    · rw [if_neg e]
      have e2 : ¬ exI = j := fun h => e h.symm
      simp [e2])
  have hM : metL A exG ⟨1, 1⟩ = [(exI, ⟨exC, 4⟩)] := by
    rw [hA]
    unfold metL
    rw [List.filter_cons_of_pos (by
      rw [Bool.and_eq_true]
      exact ⟨by decide, ex_met⟩)]
    rfl
  rw [hM]
  exact ⟨rfl, rfl⟩
set_option maxRecDepth 100000 in
set_option maxHeartbeats 4000000 in
theorem awake_any (w : World) (hT : Tabs w) :
    Calls Tryz.prog 8 #[] w fun e w' => e = .returned (.bool true) ∧ Below w.heap.size w w' := by
  have HT := Lib.hid hT
  have HNW := Lib.hid (new_any [] none 0 w (RecsV.nil w) hT (by simp) (fun x hx => by cases hx) (fun x hx => by cases hx))
  clear hT
  go_enter Tryz.func8, Tryz.ntmps8
  go_wp2_with fail
  refine HNW.out.mono ?_
  rintro e w1 ⟨p, R, U, rfl, hbk, hrr, hU, hb1⟩
  obtain rfl : R = [] := ref_nil hrr
  have HBK := Lib.hid hbk
  have HU := Lib.hid hU
  have HB1 := Lib.hid hb1
  clear hbk hrr hU hb1 HNW
  go_upto_region 3 with fail
  obtain ⟨W, hW⟩ : ∃ W, W = w1.alloc (idO exI) := ⟨_, rfl⟩
  have hW2 : W = w1.alloc (.cells #[.int .i64 0, .int .i64 1] 31) := hW
  have hbW : Below w1.heap.size w1 W := by rw [hW]; exact (Below.refl _ _).alloc (Nat.le_refl _) _
  have HX := Lib.hid (show W.heap[w1.heap.size]? = some (idO exI) by rw [hW]; exact heap_alloc_new w1 _)
  have HBW := Lib.hid (HB1.out.trans (hbW.mono HB1.out.size))
  have HKW := Lib.hid (HBK.out.below hbW)
  have HUL := Lib.hid HBK.out.lts
  rw [← hW2]
  clear hW hW2 hbW
  have HPT := Lib.hid (bput_any p 0 [] U exR W HKW.out ⟨⟨⟨by decide, by decide⟩, ⟨by decide, by decide⟩, ⟨by decide, by decide⟩, ⟨by decide, by decide⟩, by decide, by decide⟩, IdsV.nil W, ⟨⟨by decide, by decide⟩, ⟨by decide, by decide⟩⟩⟩ (HT.out.next HBW.out) (by decide) (by decide) (by decide))
  obtain ⟨⟨d0, d1⟩, _⟩ := box2 HX.out
  go_wp2_with fail
  refine HPT.out.mono ?_
  rintro e w2 ⟨rfl, R2, U2, g1, g2, g3, g4⟩
  obtain ⟨ao, cap, hR⟩ : ∃ ao cap, R2 = [(exI, { exR with ao := ao, cap := cap })] := by
    rcases g2 with ⟨h, _⟩ | ⟨_, _, _, ao, cap, h⟩
    · exact absurd exR_put h
    · exact ⟨ao, cap, h⟩
  rw [exR_put]
  have HR := Lib.hid hR
  have HK2 := Lib.hid g1
  have HX2 := Lib.hid (g3.heap HX.out (fun hj => by have := HUL.out _ hj; omega))
  have HB2 := Lib.hid (HBW.out.trans (g3.below (fun j hj => HU.out j hj) HBW.out.size))
  clear g1 g2 g3 g4 HPT hR d0 d1
  have HHG := Lib.hid (hang_any p (0 + 4) R2 U2 exG ⟨1, 1⟩ 1 w2 HK2.out (by decide) ⟨by decide, by decide⟩ (by decide))
  go_wp2_with fail
  refine HHG.out.mono ?_
  rintro e w3 ⟨oo, oc, l, m, rfl, k1, k2, k3⟩
  obtain ⟨rfl, rfl⟩ := ex_hang HR.out k1
  rw [show ([exI] : List O.Id).length = 1 from rfl, show hangV 1 4 = 5 from rfl]
  have HO3 := Lib.hid k2
  have HB3 := Lib.hid (HB2.out.trans (k3.mono HB2.out.size))
  have HK3 := Lib.hid (HK2.out.below k3)
  have HX3 := Lib.hid ((k3.block _ (M.heap_lt HX2.out)).trans HX2.out)
  clear k1 k2 k3 HHG
  go_upto_region 5 with fail
  obtain ⟨W4, hW⟩ : ∃ W4, W4 = w3.alloc (.cells #[.slice oo 1 oc, .int .i64 5, .int .i64 1] 38) := ⟨_, rfl⟩
  have hbW : Below w3.heap.size w3 W4 := by rw [hW]; exact (Below.refl _ _).alloc (Nat.le_refl _) _
  have HA4 := Lib.hid (show W4.heap[w3.heap.size]? = some (.cells #[.slice oo 1 oc, .int .i64 5, .int .i64 1] 38 (0, 0)) by rw [hW]; exact heap_alloc_new w3 _)
  have HBW4 := Lib.hid (HB3.out.trans (hbW.mono HB3.out.size))
  have HK4 := Lib.hid (HK3.out.below hbW)
  have HX4 := Lib.hid ((hbW.block _ (M.heap_lt HX3.out)).trans HX3.out)
  have HV4 := Lib.hid (IdsV.of_own (eown_b HO3.out hbW) (fun x hx => by
    rw [List.mem_singleton.1 hx]
    exact ⟨⟨by decide, by decide⟩, ⟨by decide, by decide⟩⟩))
  rw [← hW]
  clear hW hbW
  obtain ⟨g, off, e0, hgl, r0, r1⟩ := HV4.out.row 0 exI rfl
  subst e0
  obtain ⟨⟨a0, a1, a2⟩, _⟩ := box3 HA4.out
  obtain ⟨⟨d0, d1⟩, _⟩ := box2 HX4.out
  have HNX := Lib.hid (fun (y : Kin W4) => next_any p (0 + 4) R2 U2 0 y.w (HK4.out.below y.h) 2 (by rw [HR.out]; rfl))
  have HWL := Lib.hid (fun (y : Kin W4) => walled_any p (0 + 4) R2 U2 y.w (HK4.out.below y.h) false (by rw [HR.out]; rfl))
  have k0 := Kin.cell a0
  have k1 := Kin.cell a1
  have k2 := Kin.cell a2
  have k3 := Kin.cell (show W4.cell? ⟨w1.heap.size, 0, none⟩ = some (.int .i64 0) from d0)
  have k4 := Kin.cell (show W4.cell? ⟨w1.heap.size, 1, none⟩ = some (.int .i64 1) from d1)
  have k5 := Kin.cell (show W4.cell? ⟨g, off, none⟩ = some (.int .i64 0) from r0)
  have k6 := Kin.cell (show W4.cell? ⟨g, off + 1, none⟩ = some (.int .i64 1) from r1)
  have q1 : ∀ w : World, (binOp .eql 31 (.agg #[.int .i64 0, .int .i64 1]) (.agg #[.int .i64 0, .int .i64 1])).run Tryz.prog w = .ok (.bool true) w := eql_yes exI
  clear a0 a1 a2 d0 d1 r0 r1
  refine wp_region_kin (by kernel_rfl) (by kernel_rfl) ?_
  repeat (go_big_quiet_step ((first | (go_at_call 13; exact Kin.call _ (HNX.out _)) | (go_at_call 15; exact Kin.call _ (HWL.out _)))))
  refine wpQuiet_nil ?_
  intro _ hxx
  obtain ⟨xk, rfl⟩ := hxx
  have HFIN := Lib.hid (HBW4.out.trans (xk.h.mono HBW4.out.size))
  clear k0 k1 k2 k3 k4 k5 k6 q1
  go_wp2_with fail
  go_ret
  exact ⟨rfl, HFIN.out⟩
end Go.Proofs.YtlbkbjeajcadiaaGreatDoor.B
