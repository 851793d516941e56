/- Several texts in one. -/
import Derived.Test.YtlbkbjeajcadiaaGreatDoorMrg25

/- The document's Great of records. -/
namespace Go.Proofs.YtlbkbjeajcadiaaGreatDoor.B
open Go.RowKit Go.Proofs.YtlbkbjeajcadiaaGreatDoor.M Go.BigFrame Go.Maps Go.Proofs.YtlbkbjeajcadiaaGreatDoor.O Go.Proofs.YtlbkbjeajcadiaaGreatDoor.P Go.Proofs.YtlbkbjeajcadiaaGreatDoor.Mp Go.Proofs.YtlbkbjeajcadiaaGreatDoor.Rw Go.Proofs.YtlbkbjeajcadiaaGreatDoor.R
set_option linter.unusedVariables false
set_option linter.unusedSimpArgs false

def gK (x : Rv) : Bool := decide (60 < x.deps.length) || (decide (200 < x.cmd.key.size) || decide (2000 < x.cmd.val.size))
def greatK (X : List Rv) (n : Nat) : Bool := (X.take n).any gK || decide (n < X.length)
theorem greatK_yes {X : List Rv} {n k : Nat} {x : Rv} (h1 : k < n) (h2 : X[k]? = some x) (h3 : gK x = true) : greatK X n = true := by
  unfold greatK
  rw [Bool.or_eq_true]
  refine .inl (List.any_eq_true.2 ⟨x, ?_, h3⟩)
  exact List.mem_of_getElem? (i := k) (by rw [List.getElem?_take_of_lt h1]; exact h2)
theorem greatK_end {X : List Rv} {n k : Nat} (h1 : k = X.length ∨ k = n) (h2 : ∀ j x, j < k → X[j]? = some x → gK x = false) : greatK X n = decide (n < X.length) := by
  unfold greatK
  have : (X.take n).any gK = false := by
    rw [Bool.eq_false_iff]
    intro h
    obtain ⟨x, hx, hg⟩ := List.any_eq_true.1 h
    obtain ⟨j, hj⟩ := List.mem_iff_getElem?.1 hx
    have hjl := (List.getElem?_eq_some_iff.1 hj).1
    rw [List.length_take] at hjl
    rw [List.getElem?_take_of_lt (by omega)] at hj
    rw [h2 j x (by rcases h1 with h | h <;> omega) hj] at hg
    cases hg
  rw [this, Bool.false_or]
theorem greatK_no {X : List Rv} {n : Nat} (h : greatK X n = false) : X.length ≤ n ∧ ∀ x ∈ X, x.deps.length ≤ 60 ∧ x.cmd.key.size ≤ 200 ∧ x.cmd.val.size ≤ 2000 := by
  unfold greatK at h
  rw [Bool.or_eq_false_iff] at h
  obtain ⟨h1, h2⟩ := h
  have hl : X.length ≤ n := by have := of_decide_eq_false h2; omega
  refine ⟨hl, fun x hx => ?_⟩
  rw [List.take_of_length_le hl] at h1
  have h3 : gK x = false := by
    cases e : gK x with
    | false => rfl
    | true => rw [List.any_eq_true.2 ⟨x, hx, e⟩] at h1; cases h1
  unfold gK at h3
  simp only [Bool.or_eq_false_iff, decide_eq_false_iff_not] at h3
  omega
set_option maxRecDepth 100000 in
set_option maxHeartbeats 4000000 in
theorem great14_any (X : List Rv) (ao : Option Addr) (cap : Nat) (w : World) (h : RecsV w ao cap X) (v : Bool) (hv : greatK X 12 = v) :
    Calls Tryz.prog 6 #[.slice ao X.length cap] w fun e w' => e = .returned (.bool v) ∧ w = w' := by
  obtain ⟨hl1, hl2⟩ := h.le
  unfold maxLen at hl2
  have H := Lib.hid h
  have HV := Lib.hid hv
  clear h hv
  go_enter Tryz.func6, Tryz.ntmps6
  go_wp2_with fail
  go_loopw [3] (fun iv wr => ∃ i : Nat, iv = .int .i64 i ∧ i ≤ X.length ∧ i ≤ 12 ∧ w = wr ∧ (∀ j x, j < i → X[j]? = some x → gK x = false)) (fun iv _ => X.length - (intOf iv).toNat)
  case atStart => exact ⟨0, rfl, Nat.zero_le _, Nat.zero_le _, rfl, fun _ _ h => absurd h (by omega)⟩
  case round =>
    obtain ⟨i, rfl, hi, him, rfl, hno⟩ := hrel
    have HNO := Lib.hid hno
    clear hno
    by_cases hlt : i < X.length
    · have e1 : (i : Int) < (X.length : Int) := by omega
      by_cases hlm : i < 12
      · have e2 : (i : Int) < (12 : Int) := by omega
        obtain ⟨x, hx⟩ : ∃ x, X[i]? = some x := ⟨_, List.getElem?_eq_getElem hlt⟩
        obtain ⟨b, off, rfl, hl, hc⟩ := H.out.row i x hx
        obtain ⟨c10, c11, c13⟩ := And.intro hc.c10 (And.intro hc.c11 hc.c13)
        have hok := H.out.ok x (List.mem_of_getElem? hx)
        have hk1 := hok.cmd.key
        have hk2 := hok.cmd.val
        have hk3 := hok.deps.le
        unfold maxLen at hk1 hk2 hk3
        have HX := Lib.hid hx
        clear hx hc hok
        by_cases g1 : 60 < x.deps.length
        · have e3 : (60 : Int) < (x.deps.length : Int) := by omega
          have HB := Lib.hid (show v = true by rw [← HV.out]; exact greatK_yes hlm HX.out (by unfold gK; simp [g1]))
          go_wp2_with fail
          go_ret
          exact ⟨by rw [HB.out]; rfl, rfl⟩
        · have e3 : ¬ (60 : Int) < (x.deps.length : Int) := by omega
          by_cases g2 : 200 < x.cmd.key.size
          · have e4 : (200 : Int) < (x.cmd.key.size : Int) := by omega
            have HB := Lib.hid (show v = true by rw [← HV.out]; exact greatK_yes hlm HX.out (by unfold gK; simp [g2]))
            go_wp2_with fail
            go_ret
            exact ⟨by rw [HB.out]; rfl, rfl⟩
          · have e4 : ¬ (200 : Int) < (x.cmd.key.size : Int) := by omega
            by_cases g3 : 2000 < x.cmd.val.size
            · have e5 : (2000 : Int) < (x.cmd.val.size : Int) := by omega
              have HB := Lib.hid (show v = true by rw [← HV.out]; exact greatK_yes hlm HX.out (by unfold gK; simp [g3]))
              go_wp2_with fail
              go_ret
              exact ⟨by rw [HB.out]; rfl, rfl⟩
            · have e5 : ¬ (2000 : Int) < (x.cmd.val.size : Int) := by omega
              have HB := Lib.hid (show gK x = false by unfold gK; rw [decide_eq_false g1, decide_eq_false g2, decide_eq_false g3]; rfl)
              go_wp2_with fail
              go_roundw
              case rel =>
                refine ⟨i + 1, by go_num, by omega, by omega, by trivial, fun j y hj hjy => ?_⟩
                by_cases e : j = i
                · subst e
                  have := HX.out.symm.trans hjy
                  cases this
                  exact HB.out
                · exact HNO.out j y (by omega) hjy
              case measure => simp [intOf]; omega
      · have e2 : ¬ (i : Int) < (12 : Int) := by omega
        obtain rfl : i = 12 := by omega
        have HE := Lib.hid (show v = true by rw [← HV.out, greatK_end (.inr rfl) HNO.out]; exact decide_eq_true hlt)
        go_wp2_with fail
        go_ret
        exact ⟨by rw [HE.out]; rfl, rfl⟩
    · have e1 : ¬ (i : Int) < (X.length : Int) := by omega
      obtain rfl : i = X.length := by omega
      have e2 : ¬ (12 : Int) < (X.length : Int) := by omega
      have HE := Lib.hid (show v = false by rw [← HV.out, greatK_end (.inl rfl) HNO.out]; exact decide_eq_false (by omega))
      go_wp2_with fail
      go_ret
      exact ⟨by rw [HE.out]; rfl, rfl⟩
end Go.Proofs.YtlbkbjeajcadiaaGreatDoor.B

/- The document's example of the book. -/
namespace Go.Proofs.YtlbkbjeajcadiaaGreatDoor.B
open Go.RowKit Go.Proofs.YtlbkbjeajcadiaaGreatDoor.M Go.BigFrame Go.Maps Go.Proofs.YtlbkbjeajcadiaaGreatDoor.O Go.Proofs.YtlbkbjeajcadiaaGreatDoor.P Go.Proofs.YtlbkbjeajcadiaaGreatDoor.Mp Go.Proofs.YtlbkbjeajcadiaaGreatDoor.Rw Go.Proofs.YtlbkbjeajcadiaaGreatDoor.R
set_option linter.unusedVariables false
set_option linter.unusedSimpArgs false

def exI : O.Id := ⟨0, 1⟩
def exC : Cmd := ⟨2, 1, 1, ⟨#[97]⟩, ⟨#[]⟩, 0⟩
def exG : Cmd := ⟨1, 2, 1, ⟨#[97]⟩, ⟨#[]⟩, 0⟩
def exR : Rv := ⟨exI, 1, ⟨0, 0⟩, ⟨0, 0⟩, exC, [], 4, 1, none, 0⟩
theorem exR_ok : recOk exR = true := by decide +kernel
theorem exR_goes : goesOn (getR [] exR.id) exR = true := by
  have h1 : getR [] exR.id = rv0 exI := rfl
  rw [h1]
  unfold goesOn
  rw [show decide ((rv0 exI).id = exR.id) = true from by decide, show balLt exR.bal (rv0 exI).bal = false from by decide, show balLt exR.took (rv0 exI).took = false from by decide, show decide ((rv0 exI).st ≠ 3) = true from by decide]
  rfl
theorem exR_put : putE [] exR = 0 := by unfold putE; rw [exR_ok, exR_goes]; rfl
theorem ex_met : meet exG exC = true := by decide +kernel
theorem one_of {A : List (O.Id × En)} {i : O.Id} {e : En} (hn : (A.map Prod.fst).Nodup) (h : ∀ j, findD A j = if j = i then some e else none) : A = [(i, e)] := by
  have hall : ∀ p ∈ A, p = (i, e) := fun p hp => by
    have h1 := findD_of hn (show (p.1, p.2) ∈ A from hp)
    rw [h p.1] at h1
    split at h1
    · rename_i e1
      exact Prod.ext e1 (Option.some.inj h1).symm
    · cases h1
  have hin : (i, e) ∈ A := findD_some (by rw [h i, if_pos rfl])
  match A, hall, hin, hn with
  | [], _, hin, _ => cases hin
  | [a], hall, _, _ => rw [hall a (by simp)]
  | a :: b :: t, hall, _, hn =>
    exfalso
    have e1 := hall a (by simp)
    have e2 := hall b (by simp)
    rw [e1, e2] at hn
    simp at hn
theorem ex_hang {R : List (O.Id × Rv)} {ao : Option Addr} {cap : Nat} (hR : R = [(exI, { exR with ao := ao, cap := cap })]) {l : List O.Id} {m : Int} (h : HangL R exG ⟨1, 1⟩ l m) : l = [exI] ∧ m = 4 := by
  obtain ⟨A, h1, h2, rfl, rfl⟩ := h
  have hA : A = [(exI, ⟨exC, 4⟩)] := one_of h2 (fun j => by
    rw [h1 j, hR]
    unfold findD
    by_cases e : j = exI
    · subst e
      simp
      rfl
    · rw [if_neg e]
      have e2 : ¬ exI = j := fun h => e h.symm
      simp [e2])
  have hM : metL A exG ⟨1, 1⟩ = [(exI, ⟨exC, 4⟩)] := by
    rw [hA]
    unfold metL
    rw [List.filter_cons_of_pos (by
      rw [Bool.and_eq_true]
      exact ⟨by decide, ex_met⟩)]
    rfl
  rw [hM]
  exact ⟨rfl, rfl⟩
set_option maxRecDepth 100000 in
set_option maxHeartbeats 4000000 in
theorem awake_any (w : World) (hT : Tabs w) :
    Calls Tryz.prog 8 #[] w fun e w' => e = .returned (.bool true) ∧ Below w.heap.size w w' := by
  have HT := Lib.hid hT
  have HNW := Lib.hid (new_any [] none 0 w (RecsV.nil w) hT (by simp) (fun x hx => by cases hx) (fun x hx => by cases hx))
  clear hT
  go_enter Tryz.func8, Tryz.ntmps8
  go_wp2_with fail
  refine HNW.out.mono ?_
  rintro e w1 ⟨p, R, U, rfl, hbk, hrr, hU, hb1⟩
  obtain rfl : R = [] := ref_nil hrr
  have HBK := Lib.hid hbk
  have HU := Lib.hid hU
  have HB1 := Lib.hid hb1
  clear hbk hrr hU hb1 HNW
  go_upto_region 3 with fail
  obtain ⟨W, hW⟩ : ∃ W, W = w1.alloc (idO exI) := ⟨_, rfl⟩
  have hW2 : W = w1.alloc (.cells #[.int .i64 0, .int .i64 1] 31) := hW
  have hbW : Below w1.heap.size w1 W := by rw [hW]; exact (Below.refl _ _).alloc (Nat.le_refl _) _
  have HX := Lib.hid (show W.heap[w1.heap.size]? = some (idO exI) by rw [hW]; exact heap_alloc_new w1 _)
  have HBW := Lib.hid (HB1.out.trans (hbW.mono HB1.out.size))
  have HKW := Lib.hid (HBK.out.below hbW)
  have HUL := Lib.hid HBK.out.lts
  rw [← hW2]
  clear hW hW2 hbW
  have HPT := Lib.hid (bput_any p 0 [] U exR W HKW.out ⟨⟨⟨by decide, by decide⟩, ⟨by decide, by decide⟩, ⟨by decide, by decide⟩, ⟨by decide, by decide⟩, by decide, by decide⟩, IdsV.nil W, ⟨⟨by decide, by decide⟩, ⟨by decide, by decide⟩⟩⟩ (HT.out.next HBW.out) (by decide) (by decide) (by decide))
  obtain ⟨⟨d0, d1⟩, _⟩ := box2 HX.out
  go_wp2_with fail
  refine HPT.out.mono ?_
  rintro e w2 ⟨rfl, R2, U2, g1, g2, g3, g4⟩
  obtain ⟨ao, cap, hR⟩ : ∃ ao cap, R2 = [(exI, { exR with ao := ao, cap := cap })] := by
    rcases g2 with ⟨h, _⟩ | ⟨_, _, _, ao, cap, h⟩
    · exact absurd exR_put h
    · exact ⟨ao, cap, h⟩
  rw [exR_put]
  have HR := Lib.hid hR
  have HK2 := Lib.hid g1
  have HX2 := Lib.hid (g3.heap HX.out (fun hj => by have := HUL.out _ hj; omega))
  have HB2 := Lib.hid (HBW.out.trans (g3.below (fun j hj => HU.out j hj) HBW.out.size))
  clear g1 g2 g3 g4 HPT hR d0 d1
  have HHG := Lib.hid (hang_any p (0 + 4) R2 U2 exG ⟨1, 1⟩ 1 w2 HK2.out (by decide) ⟨by decide, by decide⟩ (by decide))
  go_wp2_with fail
  refine HHG.out.mono ?_
  rintro e w3 ⟨oo, oc, l, m, rfl, k1, k2, k3⟩
  obtain ⟨rfl, rfl⟩ := ex_hang HR.out k1
  rw [show ([exI] : List O.Id).length = 1 from rfl, show hangV 1 4 = 5 from rfl]
  have HO3 := Lib.hid k2
  have HB3 := Lib.hid (HB2.out.trans (k3.mono HB2.out.size))
  have HK3 := Lib.hid (HK2.out.below k3)
  have HX3 := Lib.hid ((k3.block _ (M.heap_lt HX2.out)).trans HX2.out)
  clear k1 k2 k3 HHG
  go_upto_region 5 with fail
  obtain ⟨W4, hW⟩ : ∃ W4, W4 = w3.alloc (.cells #[.slice oo 1 oc, .int .i64 5, .int .i64 1] 38) := ⟨_, rfl⟩
  have hbW : Below w3.heap.size w3 W4 := by rw [hW]; exact (Below.refl _ _).alloc (Nat.le_refl _) _
  have HA4 := Lib.hid (show W4.heap[w3.heap.size]? = some (.cells #[.slice oo 1 oc, .int .i64 5, .int .i64 1] 38 (0, 0)) by rw [hW]; exact heap_alloc_new w3 _)
  have HBW4 := Lib.hid (HB3.out.trans (hbW.mono HB3.out.size))
  have HK4 := Lib.hid (HK3.out.below hbW)
  have HX4 := Lib.hid ((hbW.block _ (M.heap_lt HX3.out)).trans HX3.out)
  have HV4 := Lib.hid (IdsV.of_own (eown_b HO3.out hbW) (fun x hx => by
    rw [List.mem_singleton.1 hx]
    exact ⟨⟨by decide, by decide⟩, ⟨by decide, by decide⟩⟩))
  rw [← hW]
  clear hW hbW
  obtain ⟨g, off, e0, hgl, r0, r1⟩ := HV4.out.row 0 exI rfl
  subst e0
  obtain ⟨⟨a0, a1, a2⟩, _⟩ := box3 HA4.out
  obtain ⟨⟨d0, d1⟩, _⟩ := box2 HX4.out
  have HNX := Lib.hid (fun (y : Kin W4) => next_any p (0 + 4) R2 U2 0 y.w (HK4.out.below y.h) 2 (by rw [HR.out]; rfl))
  have HWL := Lib.hid (fun (y : Kin W4) => walled_any p (0 + 4) R2 U2 y.w (HK4.out.below y.h) false (by rw [HR.out]; rfl))
  have k0 := Kin.cell a0
  have k1 := Kin.cell a1
  have k2 := Kin.cell a2
  have k3 := Kin.cell (show W4.cell? ⟨w1.heap.size, 0, none⟩ = some (.int .i64 0) from d0)
  have k4 := Kin.cell (show W4.cell? ⟨w1.heap.size, 1, none⟩ = some (.int .i64 1) from d1)
  have k5 := Kin.cell (show W4.cell? ⟨g, off, none⟩ = some (.int .i64 0) from r0)
  have k6 := Kin.cell (show W4.cell? ⟨g, off + 1, none⟩ = some (.int .i64 1) from r1)
  have q1 : ∀ w : World, (binOp .eql 31 (.agg #[.int .i64 0, .int .i64 1]) (.agg #[.int .i64 0, .int .i64 1])).run Tryz.prog w = .ok (.bool true) w := eql_yes exI
  clear a0 a1 a2 d0 d1 r0 r1
  refine wp_region_kin (by kernel_rfl) (by kernel_rfl) ?_
  repeat (go_big_quiet_step ((first | (go_at_call 13; exact Kin.call _ (HNX.out _)) | (go_at_call 15; exact Kin.call _ (HWL.out _)))))
  refine wpQuiet_nil ?_
  intro _ hxx
  obtain ⟨xk, rfl⟩ := hxx
  have HFIN := Lib.hid (HBW4.out.trans (xk.h.mono HBW4.out.size))
  clear k0 k1 k2 k3 k4 k5 k6 q1
  go_wp2_with fail
  go_ret
  exact ⟨rfl, HFIN.out⟩
end Go.Proofs.YtlbkbjeajcadiaaGreatDoor.B

/- The walk of BookWalls. -/
namespace Go.Proofs.YtlbkbjeajcadiaaGreatDoor.B
open Go.RowKit Go.Proofs.YtlbkbjeajcadiaaGreatDoor.M Go.BigFrame Go.Maps Go.Proofs.YtlbkbjeajcadiaaGreatDoor.O Go.Proofs.YtlbkbjeajcadiaaGreatDoor.P Go.Proofs.YtlbkbjeajcadiaaGreatDoor.Mp Go.Proofs.YtlbkbjeajcadiaaGreatDoor.Rw Go.Proofs.YtlbkbjeajcadiaaGreatDoor.R
set_option linter.unusedVariables false
set_option linter.unusedSimpArgs false

theorem st_ok {x : Rv} (h : recOk x = true) : 0 ≤ x.st ∧ x.st ≤ 3 := by
  unfold recOk headBad at h
  simp only [Bool.and_eq_true, Bool.not_eq_true', Bool.or_eq_false_iff, decide_eq_false_iff_not] at h
  omega
theorem Bk.st {w : World} {p n : Nat} {R : List (O.Id × Rv)} {U : Nat → Prop} (h : Bk w p n R U) : ∀ q ∈ R, q.2.st ≤ 3 := by
  obtain ⟨x, b, A, Fi, h1, h2, h3⟩ := h
  exact fun q hq => (st_ok (h1.ok q hq).2.2.1).2
/-- active, and knowing of a barrier, behind a Put -/
theorem walls_put {R R2 : List (O.Id × Rv)} {r : Rv} (hn : (R.map Prod.fst).Nodup) (hs : ∀ q ∈ R, q.2.st ≤ 3) (h : PutR R r R2) : (wallB R 3 = true → wallB R2 3 = true) ∧ (putE R r = 0 → r.cmd.kind = 6 → wallB R2 0 = true ∧ (r.st = 3 → wallB R2 3 = true)) := by
  rcases h with ⟨h1, rfl⟩ | ⟨h1, h2, h3, ao, cap, rfl⟩
  · exact ⟨fun h => h, fun h => absurd h h1⟩
  · exact ⟨fun ha => wall_keep hn rfl ha hs h3, fun _ hk => ⟨wall_put rfl hk (st_ok h2).1, fun hst => wall_put rfl hk (by omega)⟩⟩
set_option maxRecDepth 100000 in
set_option maxHeartbeats 4000000 in
theorem walls_law (X : List Rv) (ao : Option Addr) (cap : Nat) (w : World) (h : RecsV w ao cap X) (hT : Tabs w) :
    Calls Tryz.prog 4 #[.slice ao X.length cap] w fun e w' => e = .returned (.bool true) ∧ Below w.heap.size w w' := by
  obtain ⟨hl1, hl2⟩ := h.le
  unfold maxLen at hl2
  have H := Lib.hid h
  have HT := Lib.hid hT
  obtain ⟨gv, hgv⟩ : ∃ g, greatK X 12 = g := ⟨_, rfl⟩
  have HGR := Lib.hid (great14_any X ao cap w h gv hgv)
  clear h hT
  go_enter Tryz.func4, Tryz.ntmps4
  go_wp2_with fail
  refine HGR.out.mono ?_
  rintro e w0 ⟨rfl, rfl⟩
  clear HGR
  cases gv with
  | true =>
    have HAW := Lib.hid (awake_any w HT.out)
    go_wp2_with fail
    refine HAW.out.mono ?_
    rintro e w1 ⟨rfl, hb⟩
    have HB := Lib.hid hb
    clear hb HAW
    go_wp2_with fail
    go_ret
    exact ⟨rfl, HB.out⟩
  | false =>
    obtain ⟨hl12, hall⟩ := greatK_no hgv
    have HALL := Lib.hid hall
    have HNW := Lib.hid (new_any [] none 0 w (RecsV.nil w) HT.out (by simp) (fun x hx => by cases hx) (fun x hx => by cases hx))
    clear hgv hall
    go_wp2_with fail
    refine HNW.out.mono ?_
    rintro e w1 ⟨p, R, U, rfl, hbk, hrr, hU, hb1⟩
    obtain rfl : R = [] := ref_nil hrr
    have HBK := Lib.hid hbk
    have HU0 := Lib.hid hU
    have HB1 := Lib.hid hb1
    clear hbk hrr hU hb1 HNW
    go_wp2_with fail
    go_loopw [4] (fun kv wr => ∃ (k : Nat) (R : List (O.Id × Rv)) (U : Nat → Prop), kv = .int .i64 k ∧ k ≤ X.length ∧ Bk wr p (4 * k) R U ∧ (∀ j, U j → w.heap.size ≤ j) ∧ Below w.heap.size w wr) (fun kv _ => X.length - (intOf kv).toNat)
    case atStart => exact ⟨0, [], U, rfl, Nat.zero_le _, HBK.out, HU0.out, HB1.out⟩
    case round =>
      obtain ⟨k, R, U2, rfl, hk, hbk, hU, hb⟩ := hrel
      obtain ⟨U, hUU⟩ : ∃ U, U2 = U := ⟨_, rfl⟩
      subst hUU
      have HK := Lib.hid hbk
      have HU := Lib.hid hU
      have HBR := Lib.hid hb
      clear hbk hU hb HBK HU0 HB1
      by_cases hkl : k < X.length
      · have hii : (k : Int) < (X.length : Int) := by omega
        obtain ⟨r, hr⟩ : ∃ r, X[k]? = some r := ⟨_, List.getElem?_eq_getElem hkl⟩
        obtain ⟨b, off, e0, hbl, hrec⟩ := H.out.row k r hr
        have HI := Lib.hid (H.out.ok r (List.mem_of_getElem? hr))
        have HLR := Lib.hid (HALL.out r (List.mem_of_getElem? hr))
        subst e0
        have HRC := Lib.hid (show ∀ wx, Below w.heap.size w wx → RecAt wx b (off + k * 16) r from fun wx hb => hrec.below hb hbl)
        clear hr hrec
        obtain ⟨a, ha⟩ : ∃ a, wallB R 3 = a := ⟨_, rfl⟩
        have HA := Lib.hid ha
        have HAC := Lib.hid (active_any p (4 * k) R U2 wr HK.out a ha)
        clear ha
        go_wp2_with fail
        refine HAC.out.mono ?_
        rintro e w2 ⟨rfl, hb2⟩
        have HB2 := Lib.hid (HBR.out.trans (hb2.mono HBR.out.size))
        have HK2 := Lib.hid (HK.out.below hb2)
        have HND := Lib.hid HK.out.nd
        have HST := Lib.hid HK.out.st
        clear hb2 HAC
        have HPT := Lib.hid (bput_any p (4 * k) R U2 r w2 HK2.out (HI.out.below HB2.out) (HT.out.next HB2.out) (by have := HLR.out; omega) (by have := HLR.out; omega) (by omega))
        obtain ⟨c0, c1, c2, c3, c4, c5, c6, c7, c8, c9, c10, c11, c12, c13, c14, c15⟩ := HRC.out w2 HB2.out
        go_wp2_with fail
        refine HPT.out.mono ?_
        clear c0 c1 c2 c3 c4 c5 c6 c7 c8 c9 c10 c11 c12 c13 c14 c15
        rintro e w3 ⟨rfl, R2, U3, g1, g2, g3, g4⟩
        have HWP := Lib.hid (walls_put HND.out HST.out g2)
        have HKW := Lib.hid g1
        have HBC := Lib.hid (HB2.out.trans (g3.below (fun j hj => HU.out j hj) HB2.out.size))
        have HU3 := Lib.hid (show ∀ j, U3 j → w.heap.size ≤ j from fun j hj => by
          rcases g4 j hj with h | h
          · exact HU.out j h
          · have := HB2.out.size; omega)
        clear g1 g2 g3 g4 HPT
        obtain ⟨a2, ha2⟩ : ∃ a, wallB R2 3 = a := ⟨_, rfl⟩
        obtain ⟨a0, ha0⟩ : ∃ a, wallB R2 0 = a := ⟨_, rfl⟩
        have HA2 := Lib.hid ha2
        have HA0 := Lib.hid ha0
        have h12 : a = true → a2 = true := fun h => by rw [← ha2]; exact HWP.out.1 (by rw [HA.out]; exact h)
        have h20 : a2 = true → a0 = true := fun h => by rw [← ha0]; exact wall_more (by rw [ha2]; exact h)
        obtain ⟨pe, hpe⟩ : ∃ pe, putE R r = pe := ⟨_, rfl⟩
        have HPE := Lib.hid (show (pe == 0) = true → r.cmd.kind = 6 → a0 = true ∧ (r.st = 3 → a2 = true) from fun h1 h2 => by
          have h3 : putE R r = 0 := by rw [hpe]; simpa using h1
          have := HWP.out.2 h3 h2
          rw [ha2, ha0] at this
          exact this)
        rw [hpe]
        clear ha2 ha0 hpe
        have hgo : (a = false ∧ a2 = false ∧ a0 = false) ∨ (a = false ∧ a2 = false ∧ a0 = true) ∨ (a = false ∧ a2 = true ∧ a0 = true) ∨ (a = true ∧ a2 = true ∧ a0 = true) := by
          cases a <;> cases a2 <;> cases a0 <;> simp_all
        clear h12 h20
        rcases hgo with ⟨rfl, rfl, rfl⟩ | ⟨rfl, rfl, rfl⟩ | ⟨rfl, rfl, rfl⟩ | ⟨rfl, rfl, rfl⟩
        all_goals
          go_upto_region 11 with (first | (go_at_call 14; refine (active_any p _ R2 _ _ HKW.out _ HA2.out).mono ?_; rintro e w9 ⟨rfl, hb9⟩; have HKW := Lib.hid (HKW.out.below hb9); have HBC := Lib.hid (HBC.out.trans (hb9.mono HBC.out.size)); have cst := (HRC.out _ HBC.out).c2; clear hb9) | (go_at_call 15; refine (walled_any p _ R2 _ _ HKW.out _ HA0.out).mono ?_; rintro e w9 ⟨rfl, hb9⟩; have HKW := Lib.hid (HKW.out.below hb9); have HBC := Lib.hid (HBC.out.trans (hb9.mono HBC.out.size)); have cst := (HRC.out _ HBC.out).c2; clear hb9))
          have ckd := (HRC.out _ HBC.out).c7
          cases hp : (pe == 0) with
          | false =>
            go_wp2_with fail
            go_roundw
            case rel => exact ⟨k + 1, R2, U3, by go_num, by omega, by have := HKW.out; rw [show 4 * k + 4 = 4 * (k + 1) by omega] at this; exact this, HU3.out, HBC.out⟩
            case measure => simp [intOf]; omega
          | true =>
            cases h6 : (r.cmd.kind == 6) with
            | false =>
              go_wp2_with fail
              go_roundw
              case rel => exact ⟨k + 1, R2, U3, by go_num, by omega, by have := HKW.out; rw [show 4 * k + 4 = 4 * (k + 1) by omega] at this; exact this, HU3.out, HBC.out⟩
              case measure => simp [intOf]; omega
            | true =>
              have HQ := Lib.hid (HPE.out hp (by simpa using h6))
              cases h3 : (r.st == 3) with
              | false =>
                first
                  | exact absurd HQ.out.1 Bool.false_ne_true
                  | (go_wp2_with (first | (go_at_call 14; refine (active_any p _ R2 _ _ HKW.out _ HA2.out).mono ?_; rintro e w9 ⟨rfl, hb9⟩; have HKW := Lib.hid (HKW.out.below hb9); have HBC := Lib.hid (HBC.out.trans (hb9.mono HBC.out.size)); have cst := (HRC.out _ HBC.out).c2; clear hb9) | (go_at_call 15; refine (walled_any p _ R2 _ _ HKW.out _ HA0.out).mono ?_; rintro e w9 ⟨rfl, hb9⟩; have HKW := Lib.hid (HKW.out.below hb9); have HBC := Lib.hid (HBC.out.trans (hb9.mono HBC.out.size)); have cst := (HRC.out _ HBC.out).c2; clear hb9))
                     go_roundw
                     case rel => exact ⟨k + 1, R2, U3, by go_num, by omega, by have := HKW.out; rw [show 4 * k + 4 = 4 * (k + 1) by omega] at this; exact this, HU3.out, HBC.out⟩
                     case measure => simp [intOf]; omega)
              | true =>
                first
                  | exact absurd HQ.out.1 Bool.false_ne_true
                  | exact absurd (HQ.out.2 (beq_iff_eq.1 h3)) Bool.false_ne_true
                  | (go_wp2_with (first | (go_at_call 14; refine (active_any p _ R2 _ _ HKW.out _ HA2.out).mono ?_; rintro e w9 ⟨rfl, hb9⟩; have HKW := Lib.hid (HKW.out.below hb9); have HBC := Lib.hid (HBC.out.trans (hb9.mono HBC.out.size)); have cst := (HRC.out _ HBC.out).c2; clear hb9) | (go_at_call 15; refine (walled_any p _ R2 _ _ HKW.out _ HA0.out).mono ?_; rintro e w9 ⟨rfl, hb9⟩; have HKW := Lib.hid (HKW.out.below hb9); have HBC := Lib.hid (HBC.out.trans (hb9.mono HBC.out.size)); have cst := (HRC.out _ HBC.out).c2; clear hb9))
                     go_roundw
                     case rel => exact ⟨k + 1, R2, U3, by go_num, by omega, by have := HKW.out; rw [show 4 * k + 4 = 4 * (k + 1) by omega] at this; exact this, HU3.out, HBC.out⟩
                     case measure => simp [intOf]; omega)
      · obtain rfl : k = X.length := by omega
        have hii : ¬ (X.length : Int) < (X.length : Int) := by omega
        have HAW := Lib.hid (awake_any wr (HT.out.next HBR.out))
        go_wp2_with fail
        refine HAW.out.mono ?_
        rintro e w2 ⟨rfl, hb2⟩
        have HB2 := Lib.hid (HBR.out.trans (hb2.mono HBR.out.size))
        clear hb2 HAW
        go_wp2_with fail
        go_ret
        exact ⟨rfl, HB2.out⟩
end Go.Proofs.YtlbkbjeajcadiaaGreatDoor.B
