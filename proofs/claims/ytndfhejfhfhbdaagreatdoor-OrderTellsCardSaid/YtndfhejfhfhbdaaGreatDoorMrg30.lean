/- Several texts in one. -/
import Derived.Test.YtndfhejfhfhbdaaGreatDoorMrg23
import Derived.Test.YtndfhejfhfhbdaaGreatDoorMrg18
import Derived.Test.YtndfhejfhfhbdaaGreatDoorMrg19
import Derived.Test.YtndfhejfhfhbdaaGreatDoorMrg27
import Derived.Test.YtndfhejfhfhbdaaGreatDoorOrdBB
import Derived.Test.YtndfhejfhfhbdaaGreatDoorMrg29
import Derived.Test.YtndfhejfhfhbdaaGreatDoorMrg8
import Derived.Test.YtndfhejfhfhbdaaGreatDoorCards
import Derived.Lib.LaidU8
import Derived.Lib.LaidTab
import Derived.LaidLaws
import Derived.PinnedBridge

/- The document's Great, Same of records, SameRecs; the law's unlike. -/
namespace Go.Proofs.YtndfhejfhfhbdaaGreatDoor.O
open Go.RowKit Go.Proofs.YtndfhejfhfhbdaaGreatDoor.M Go.BigFrame Go.Proofs.YtndfhejfhfhbdaaGreatDoor.K
set_option linter.unusedVariables false
set_option linter.unusedSimpArgs false

def gB (x : Rv) : Bool := decide (40 < x.deps.length) || (decide (200 < x.cmd.key.size) || decide (2000 < x.cmd.val.size))
def greatR (X : List Rv) (n : Nat) : Bool := (X.take n).any gB || decide (n < X.length)
theorem greatR_yes {X : List Rv} {n k : Nat} {x : Rv} (h1 : k < n) (h2 : X[k]? = some x) (h3 : gB x = true) : greatR X n = true := by
  unfold greatR
  rw [Bool.or_eq_true]
  refine .inl (List.any_eq_true.2 ⟨x, ?_, h3⟩)
  exact List.mem_of_getElem? (i := k) (by rw [List.getElem?_take_of_lt h1]; exact h2)
theorem greatR_end {X : List Rv} {n k : Nat} (h1 : k = X.length ∨ k = n) (h2 : ∀ j x, j < k → X[j]? = some x → gB x = false) : greatR X n = decide (n < X.length) := by
  unfold greatR
  have : (X.take n).any gB = false := by
    rw [Bool.eq_false_iff]
    intro h
    obtain ⟨x, hx, hg⟩ := List.any_eq_true.1 h
    obtain ⟨j, hj⟩ := List.mem_iff_getElem?.1 hx
    have hjl := (List.getElem?_eq_some_iff.1 hj).1
    rw [List.length_take] at hjl
    rw [List.getElem?_take_of_lt (by omega)] at hj
    rw [h2 j x (by rcases h1 with h | h <;> omega) hj] at hg
    cases hg
  rw [this, Bool.false_or]
theorem greatR_no {X : List Rv} {n : Nat} (h : greatR X n = false) : X.length ≤ n ∧ ∀ x ∈ X, x.deps.length ≤ 40 ∧ x.cmd.key.size ≤ 200 ∧ x.cmd.val.size ≤ 2000 := by
  unfold greatR at h
  rw [Bool.or_eq_false_iff] at h
  obtain ⟨h1, h2⟩ := h
  have hl : X.length ≤ n := by have := of_decide_eq_false h2; omega
  refine ⟨hl, fun x hx => ?_⟩
  rw [List.take_of_length_le hl] at h1
  have h3 : gB x = false := by
    cases e : gB x with
    | false => rfl
    | true => rw [List.any_eq_true.2 ⟨x, hx, e⟩] at h1; cases h1
  unfold gB at h3
  simp only [Bool.or_eq_false_iff, decide_eq_false_iff_not] at h3
  omega
set_option maxRecDepth 100000 in
set_option maxHeartbeats 4000000 in
theorem refgreat_any (X : List Rv) (n : Nat) (ao : Option Addr) (cap : Nat) (w : World) (h : RecsV w ao cap X) (hn : n ≤ 1000) (v : Bool) (hv : greatR X n = v) :
    Calls Tryz.prog 16 #[.slice ao X.length cap, .int .i64 n] w fun e w' => e = .returned (.bool v) ∧ w = w' := by
  obtain ⟨hl1, hl2⟩ := h.le
  unfold maxLen at hl2
  have H := Lib.hid h
  have HV := Lib.hid hv
  clear h hv
  go_enter Tryz.func16, Tryz.ntmps16
  go_wp2_with fail
  go_loopw [5] (fun iv wr => ∃ i : Nat, iv = .int .i64 i ∧ i ≤ X.length ∧ i ≤ n ∧ w = wr ∧ (∀ j x, j < i → X[j]? = some x → gB x = false)) (fun iv _ => X.length - (intOf iv).toNat)
  case atStart => exact ⟨0, rfl, Nat.zero_le _, Nat.zero_le _, rfl, fun _ _ h => absurd h (by omega)⟩
  case round =>
    obtain ⟨i, rfl, hi, him, rfl, hno⟩ := hrel
    have HNO := Lib.hid hno
    clear hno
    by_cases hlt : i < X.length
    · have e1 : (i : Int) < (X.length : Int) := by omega
      by_cases hlm : i < n
      · have e2 : (i : Int) < (n : Int) := by omega
        obtain ⟨x, hx⟩ : ∃ x, X[i]? = some x := ⟨_, List.getElem?_eq_getElem hlt⟩
        obtain ⟨b, off, rfl, hl, hc⟩ := H.out.row i x hx
        obtain ⟨c10, c11, c13⟩ := And.intro hc.c10 (And.intro hc.c11 hc.c13)
        have hok := H.out.ok x (List.mem_of_getElem? hx)
        have hk1 := hok.cmd.key
        have hk2 := hok.cmd.val
        have hk3 := hok.deps.le
        unfold maxLen at hk1 hk2 hk3
        have HX := Lib.hid hx
        clear hx hc hok
        by_cases g1 : 40 < x.deps.length
        · have e3 : (40 : Int) < (x.deps.length : Int) := by omega
          have HB := Lib.hid (show v = true by rw [← HV.out]; exact greatR_yes hlm HX.out (by unfold gB; simp [g1]))
          go_wp2_with fail
          go_ret
          exact ⟨by rw [HB.out]; rfl, rfl⟩
        · have e3 : ¬ (40 : Int) < (x.deps.length : Int) := by omega
          by_cases g2 : 200 < x.cmd.key.size
          · have e4 : (200 : Int) < (x.cmd.key.size : Int) := by omega
            have HB := Lib.hid (show v = true by rw [← HV.out]; exact greatR_yes hlm HX.out (by unfold gB; simp [g2]))
            go_wp2_with fail
            go_ret
            exact ⟨by rw [HB.out]; rfl, rfl⟩
          · have e4 : ¬ (200 : Int) < (x.cmd.key.size : Int) := by omega
            by_cases g3 : 2000 < x.cmd.val.size
            · have e5 : (2000 : Int) < (x.cmd.val.size : Int) := by omega
              have HB := Lib.hid (show v = true by rw [← HV.out]; exact greatR_yes hlm HX.out (by unfold gB; simp [g3]))
              go_wp2_with fail
              go_ret
              exact ⟨by rw [HB.out]; rfl, rfl⟩
            · have e5 : ¬ (2000 : Int) < (x.cmd.val.size : Int) := by omega
              have HB := Lib.hid (show gB x = false by unfold gB; rw [decide_eq_false g1, decide_eq_false g2, decide_eq_false g3]; rfl)
              go_wp2_with fail
              go_roundw
              case rel =>
                refine ⟨i + 1, by go_num, by omega, by omega, by trivial, fun j y hj hjy => ?_⟩
                by_cases e : j = i
                · subst e
                  have := HX.out.symm.trans hjy
                  cases this
                  exact HB.out
                · exact HNO.out j y (by omega) hjy
              case measure => simp [intOf]; omega
      · have e2 : ¬ (i : Int) < (n : Int) := by omega
        obtain rfl : i = n := by omega
        have HE := Lib.hid (show v = true by rw [← HV.out, greatR_end (.inr rfl) HNO.out]; exact decide_eq_true hlt)
        go_wp2_with fail
        go_ret
        exact ⟨by rw [HE.out]; rfl, rfl⟩
    · have e1 : ¬ (i : Int) < (X.length : Int) := by omega
      obtain rfl : i = X.length := by omega
      have e2 : ¬ (n : Int) < (X.length : Int) := by omega
      have HE := Lib.hid (show v = false by rw [← HV.out, greatR_end (.inl rfl) HNO.out]; exact decide_eq_false (by omega))
      go_wp2_with fail
      go_ret
      exact ⟨by rw [HE.out]; rfl, rfl⟩
set_option maxRecDepth 100000 in
set_option maxHeartbeats 4000000 in
theorem unlike_any (X : List Rv) (ao : Option Addr) (cap : Nat) (w : World) (h : RecsV w ao cap X) (v : Bool) (hv : decide (idsX X).Nodup = v) :
    Calls Tryz.prog 19 #[.slice ao X.length cap] w fun e w' => e = .returned (.bool v) ∧ Below w.heap.size w w' := by
  obtain ⟨hl1, hl2⟩ := h.le
  unfold maxLen at hl2
  have H := Lib.hid h
  have HV := Lib.hid hv
  clear h hv
  go_enter Tryz.func19, Tryz.ntmps19
  go_wp2_with fail
  go_loopw [3] (fun iv wr => ∃ k : Nat, iv = .int .i64 k ∧ k ≤ X.length ∧ Below w.heap.size w wr ∧ (∀ j y, j < k → (idsX X)[j]? = some y → atI (idsX X) y = (j : Int))) (fun iv _ => X.length - (intOf iv).toNat)
  case atStart => exact ⟨0, rfl, Nat.zero_le _, Below.refl _ _, fun _ _ h => absurd h (by omega)⟩
  case round =>
    obtain ⟨k, rfl, hk, hb, hno⟩ := hrel
    have HNO := Lib.hid hno
    have HBR := Lib.hid hb
    clear hno hb
    by_cases hkl : k < X.length
    · have hii : (k : Int) < (X.length : Int) := by omega
      obtain ⟨x, hx⟩ : ∃ x, X[k]? = some x := ⟨_, List.getElem?_eq_getElem hkl⟩
      obtain ⟨b, off, e0, hbl, hrec⟩ := H.out.row k x hx
      subst e0
      have hrb := hrec.below HBR.out hbl
      obtain ⟨c0, c1⟩ := And.intro hrb.c0 hrb.c1
      have hxk : (idsX X)[k]? = some x.id := by rw [List.getElem?_map, hx]; rfl
      have HXK := Lib.hid hxk
      obtain ⟨a, ha⟩ : ∃ a, atI (idsX X) x.id = a := ⟨_, rfl⟩
      have HA := Lib.hid ha
      have HC := Lib.hid (refat_any X _ cap x.id wr (H.out.below HBR.out) a ha)
      clear hx hxk hrec hrb ha
      by_cases hak : a = (k : Int)
      · subst hak
        have hne : ((k : Int) != (k : Int)) = false := by simp
        go_wp2_with fail
        refine HC.out.mono ?_
        rintro e w1 ⟨rfl, hb1⟩
        have HB1 := Lib.hid (HBR.out.trans (hb1.mono HBR.out.size))
        have HN := Lib.hid (show ∀ j y, j < k + 1 → (idsX X)[j]? = some y → atI (idsX X) y = (j : Int) from fun j y hj hy => by
          by_cases e : j = k
          · subst e; rw [HXK.out] at hy; cases hy; exact HA.out
          · exact HNO.out j y (by omega) hy)
        clear hb1 c0 c1
        go_wp2_with fail
        go_roundw
        case rel => exact ⟨k + 1, by go_num, by omega, HB1.out, HN.out⟩
        case measure => simp [intOf]; omega
      · have hne : (a != (k : Int)) = true := by simpa using hak
        have HE := Lib.hid (show v = false by
          rw [← HV.out]
          refine decide_eq_false fun hn => hak ?_
          rw [← HA.out]
          exact atI_some hn HXK.out)
        clear hak
        go_wp2_with fail
        refine HC.out.mono ?_
        rintro e w1 ⟨rfl, hb1⟩
        have HB1 := Lib.hid (HBR.out.trans (hb1.mono HBR.out.size))
        clear hb1 c0 c1
        go_wp2_with fail
        go_ret
        exact ⟨by rw [HE.out]; rfl, HB1.out⟩
    · obtain rfl : k = X.length := by omega
      have hii : ¬ (X.length : Int) < (X.length : Int) := by omega
      have HE := Lib.hid (show v = true by
        rw [← HV.out]
        refine decide_eq_true ?_
        rw [List.nodup_iff_pairwise_ne, List.pairwise_iff_getElem]
        intro i j hi hj hij e
        have h1 := HNO.out i _ (by simpa using hi) (List.getElem?_eq_getElem hi)
        have h2 := HNO.out j _ (by simpa using hj) (List.getElem?_eq_getElem hj)
        rw [e] at h1
        omega)
      go_wp2_with fail
      go_ret
      exact ⟨by rw [HE.out]; rfl, HBR.out⟩
end Go.Proofs.YtndfhejfhfhbdaaGreatDoor.O

/- The document's Same of records, SameRecs: where all is the same. -/
namespace Go.Proofs.YtndfhejfhfhbdaaGreatDoor.O
open Go.RowKit Go.Proofs.YtndfhejfhfhbdaaGreatDoor.M Go.BigFrame Go.Proofs.YtndfhejfhfhbdaaGreatDoor.K
set_option linter.unusedVariables false
set_option linter.unusedSimpArgs false

/-- the same record, whose row lies elsewhere -/
structure Alike (x y : Rv) : Prop where
  id : x.id = y.id
  st : x.st = y.st
  bal : x.bal = y.bal
  took : x.took = y.took
  cmd : x.cmd = y.cmd
  deps : x.deps = y.deps
  seq : x.seq = y.seq
  tag : x.tag = y.tag
theorem Alike.refl (x : Rv) : Alike x x := ⟨rfl, rfl, rfl, rfl, rfl, rfl, rfl, rfl⟩
set_option maxRecDepth 100000 in
set_option maxHeartbeats 4000000 in
theorem refsame_any (x y : Rv) (w : World) (ha : Alike x y) (hx : IdsV w x.ao x.cap x.deps) (hy : IdsV w y.ao y.cap y.deps) (hl : x.deps.length ≤ 1000000) :
    Calls Tryz.prog 57 #[recV x, recV y] w fun e w' => e = .returned (.bool true) ∧ Below w.heap.size w w' := by
  have HX := Lib.hid hx
  have HY := Lib.hid hy
  have e0 := congrArg Id.r ha.id
  have e1 := congrArg Id.n ha.id
  have e2 := ha.st
  have e3 := congrArg Bal.round ha.bal
  have e4 := congrArg Bal.by_ ha.bal
  have e5 := congrArg Bal.round ha.took
  have e6 := congrArg Bal.by_ ha.took
  have e7 := congrArg P.Cmd.kind ha.cmd
  have e8 := congrArg P.Cmd.client ha.cmd
  have e9 := congrArg P.Cmd.seq ha.cmd
  have e10 := congrArg P.Cmd.key ha.cmd
  have e11 := congrArg P.Cmd.val ha.cmd
  have e12 := congrArg P.Cmd.rev ha.cmd
  have HAS := Lib.hid (show atSame x.deps x.seq x.tag y.deps y.seq y.tag = true by unfold atSame; rw [ha.deps, ha.seq, ha.tag]; simp)
  clear hx hy ha
  go_enter Tryz.func57, Tryz.ntmps57
  go_upto_region 1 with fail
  obtain ⟨hba, hbb, hg⟩ := two_recs x y w
  obtain ⟨W, hW⟩ : ∃ W, W = (w.alloc (recO x)).alloc (recO y) := ⟨_, rfl⟩
  rw [← hW] at hba hbb hg ⊢
  have HG := Lib.hid hg
  have HBA := Lib.hid hba
  have HBB := Lib.hid hbb
  clear hW hg hba hbb
  obtain ⟨c0, c1, c2, c3, c4, c5, c6, c7, c8, c9, c10, c11, c12, c13, c14, c15⟩ := box16 (HBA.out)
  obtain ⟨d0, d1, d2, d3, d4, d5, d6, d7, d8, d9, d10, d11, d12, d13, d14, d15⟩ := box16 (HBB.out)
  rw [← e0] at d0
  rw [← e1] at d1
  rw [← e2] at d2
  rw [← e3] at d3
  rw [← e4] at d4
  rw [← e5] at d5
  rw [← e6] at d6
  rw [← e7] at d7
  rw [← e8] at d8
  rw [← e9] at d9
  rw [← e10] at d10
  rw [← e11] at d11
  rw [← e12] at d12
  clear e0 e1 e2 e3 e4 e5 e6 e7 e8 e9 e10 e11 e12
  go_wp2_with fail
  refine (refasame_any x.ao y.ao x.cap y.cap x.deps y.deps x.seq x.tag y.seq y.tag W (HX.out.below (B := 0) HG.out.below) (HY.out.below (B := 0) HG.out.below) hl true HAS.out).mono ?_
  rintro e w1 ⟨rfl, hb1⟩
  have HB1 := Lib.hid (HG.out.below.trans (hb1.mono HG.out.below.size))
  clear hb1
  clear c0 c1 c2 c3 c4 c5 c6 c7 c8 c9 c10 c11 c12 c13 c14 c15 d0 d1 d2 d3 d4 d5 d6 d7 d8 d9 d10 d11 d12 d13 d14 d15
  go_wp2_with fail
  go_ret
  exact ⟨rfl, HB1.out⟩
set_option maxRecDepth 100000 in
set_option maxHeartbeats 4000000 in
theorem refsamerecs_any (X Y : List Rv) (ao bo : Option Addr) (cap bap : Nat) (w : World) (h : RecsV w ao cap X) (h2 : RecsV w bo bap Y) (hlen : Y.length = X.length) (hal : ∀ (i : Nat) (x y : Rv), X[i]? = some x → Y[i]? = some y → Alike x y) (hdl : ∀ x ∈ X, x.deps.length ≤ 1000000) :
    Calls Tryz.prog 22 #[.slice ao X.length cap, .slice bo X.length bap] w fun e w' => e = .returned (.bool true) ∧ Below w.heap.size w w' := by
  obtain ⟨hl1, hl2⟩ := h.le
  unfold maxLen at hl2
  have hle2 := h2.le
  rw [hlen] at hle2
  obtain ⟨hl3, hl4⟩ := hle2
  unfold maxLen at hl4
  have H := Lib.hid h
  have H2 := Lib.hid h2
  have HLN := Lib.hid hlen
  have HAL := Lib.hid hal
  have HDL := Lib.hid hdl
  clear h h2 hal hdl hlen
  go_enter Tryz.func22, Tryz.ntmps22
  go_wp2_with fail
  go_loopw [5] (fun iv wr => ∃ k : Nat, iv = .int .i64 k ∧ k ≤ X.length ∧ Below w.heap.size w wr) (fun iv _ => X.length - (intOf iv).toNat)
  case atStart => exact ⟨0, rfl, Nat.zero_le _, Below.refl _ _⟩
  case round =>
    obtain ⟨k, rfl, hk, hb⟩ := hrel
    have HBR := Lib.hid hb
    clear hb
    by_cases hkl : k < X.length
    · have hii : (k : Int) < (X.length : Int) := by omega
      obtain ⟨x, hx⟩ : ∃ x, X[k]? = some x := ⟨_, List.getElem?_eq_getElem hkl⟩
      obtain ⟨y, hy⟩ : ∃ y, Y[k]? = some y := ⟨_, List.getElem?_eq_getElem (by rw [HLN.out]; exact hkl)⟩
      obtain ⟨b, off, e0, hbl, hrec⟩ := H.out.row k x hx
      subst e0
      obtain ⟨b2, off2, e2, hbl2, hrec2⟩ := H2.out.row k y hy
      subst e2
      have hrx := hrec.below HBR.out hbl
      have hry := hrec2.below HBR.out hbl2
      have HC := Lib.hid (fun v : Kin wr => refsame_any x y v.w (HAL.out k x y hx hy) ((H.out.ok x (List.mem_of_getElem? hx)).deps.below (B := 0) (HBR.out.trans (v.h.mono HBR.out.size))) ((H2.out.ok y (List.mem_of_getElem? hy)).deps.below (B := 0) (HBR.out.trans (v.h.mono HBR.out.size))) (HDL.out x (List.mem_of_getElem? hx)))
      have k0 := Kin.cell (hrx).c0
      have k1 := Kin.cell (hrx).c1
      have k2 := Kin.cell (hrx).c2
      have k3 := Kin.cell (hrx).c3
      have k4 := Kin.cell (hrx).c4
      have k5 := Kin.cell (hrx).c5
      have k6 := Kin.cell (hrx).c6
      have k7 := Kin.cell (hrx).c7
      have k8 := Kin.cell (hrx).c8
      have k9 := Kin.cell (hrx).c9
      have k10 := Kin.cell (hrx).c10
      have k11 := Kin.cell (hrx).c11
      have k12 := Kin.cell (hrx).c12
      have k13 := Kin.cell (hrx).c13
      have k14 := Kin.cell (hrx).c14
      have k15 := Kin.cell (hrx).c15
      have q0 := Kin.cell (hry).c0
      have q1 := Kin.cell (hry).c1
      have q2 := Kin.cell (hry).c2
      have q3 := Kin.cell (hry).c3
      have q4 := Kin.cell (hry).c4
      have q5 := Kin.cell (hry).c5
      have q6 := Kin.cell (hry).c6
      have q7 := Kin.cell (hry).c7
      have q8 := Kin.cell (hry).c8
      have q9 := Kin.cell (hry).c9
      have q10 := Kin.cell (hry).c10
      have q11 := Kin.cell (hry).c11
      have q12 := Kin.cell (hry).c12
      have q13 := Kin.cell (hry).c13
      have q14 := Kin.cell (hry).c14
      have q15 := Kin.cell (hry).c15
      clear hx hy hrec hrec2 hrx hry
      go_upto_region 6 with fail
      refine wp_region_kin (by kernel_rfl) (by kernel_rfl) ?_
      repeat (go_big_quiet_step ((go_at_call 57; with_reducible exact Kin.call _ (HC.out _))))
      refine wpQuiet_nil ?_
      intro _ hxx
      obtain ⟨xk, rfl⟩ := hxx
      have HBK := Lib.hid (HBR.out.trans (xk.h.mono HBR.out.size))
      clear k0 k1 k2 k3 k4 k5 k6 k7 k8 k9 k10 k11 k12 k13 k14 k15 q0 q1 q2 q3 q4 q5 q6 q7 q8 q9 q10 q11 q12 q13 q14 q15
      clear HC
      go_wp2_with fail
      go_roundw
      case rel => exact ⟨k + 1, by go_num, by omega, HBK.out⟩
      case measure => simp [intOf]; omega
    · obtain rfl : k = X.length := by omega
      have hii : ¬ (X.length : Int) < (X.length : Int) := by omega
      go_wp2_with fail
      go_ret
      exact ⟨rfl, HBR.out⟩
end Go.Proofs.YtndfhejfhfhbdaaGreatDoor.O

/- The walk of OrderTells. -/
namespace Go.Proofs.YtndfhejfhfhbdaaGreatDoor.O
open Go.RowKit Go.Proofs.YtndfhejfhfhbdaaGreatDoor.M Go.BigFrame Go.Proofs.YtndfhejfhfhbdaaGreatDoor.K Go.Proofs.YtndfhejfhfhbdaaGreatDoor.R
set_option linter.unusedVariables false
set_option linter.unusedSimpArgs false

theorem alike_self (x : Rv) : Alike x x := ⟨rfl, rfl, rfl, rfl, rfl, rfl, rfl, rfl⟩
theorem clo_in {s : List Rv} {i : Id} {inn : List Rv} {out : List Id} (h : ClO s i inn out) : (∀ x ∈ inn, x ∈ s) ∧ (∀ d ∈ out, ∃ x ∈ s, d ∈ x.deps) := by
  by_cases hi : i ∈ idsX s
  · obtain ⟨l, h1, h2, h3⟩ := h.yes hi
    have hm : ∀ x ∈ inn, x ∈ s := fun x hx => by
      rw [h2] at hx
      obtain ⟨u, hu, rfl⟩ := List.mem_map.1 hx
      have hlt := ((h1.mem u).1 hu).1
      rw [List.getD, List.getElem?_eq_getElem hlt]; exact List.getElem_mem hlt
    refine ⟨hm, fun d hd => ?_⟩
    rw [h3] at hd
    obtain ⟨x, hx, hdx⟩ := List.mem_flatMap.1 ((setI_mem _ _).1 hd)
    rw [← h2] at hx
    exact ⟨x, hm x hx, (List.mem_filter.1 hdx).1⟩
  · obtain ⟨rfl, rfl⟩ := h.no hi
    exact ⟨fun x hx => (by cases hx), fun x hx => (by cases hx)⟩
set_option maxRecDepth 100000 in
set_option maxHeartbeats 4000000 in
theorem tells_law (X : List Rv) (ao : Option Addr) (cap : Nat) (i : Id) (w : World) (hV : RecsV w ao cap X) (hi : IdI i) (hT : Tabs w) :
    Calls Tryz.prog 4 #[.slice ao X.length cap, idV i] w fun e w' => e = .returned (.bool true) ∧ Below w.heap.size w w' := by
  have HV0 := Lib.hid hV
  have HT0 := Lib.hid hT
  have HI := Lib.hid hi
  clear hV hT hi
  go_enter Tryz.func4, Tryz.ntmps4
  go_upto_region 1 with fail
  obtain ⟨W, hW⟩ : ∃ W, W = w.alloc (idO i) := ⟨_, rfl⟩
  rw [← hW]
  have HB : Hid (Below w.heap.size w W) := Lib.hid (by rw [hW]; exact (Below.refl _ _).alloc (Nat.le_refl _) _)
  have HX : Hid (W.heap[w.heap.size]? = some (idO i)) := Lib.hid (by rw [hW]; exact heap_alloc_new w _)
  clear hW
  have HV := Lib.hid (HV0.out.below HB.out)
  have HT := Lib.hid (HT0.out.next HB.out)
  have HXI := Lib.hid (M.heap_lt HX.out)
  clear HV0 HT0
  obtain ⟨gr, hgr⟩ : ∃ g, greatR X 20 = g := ⟨_, rfl⟩
  have HG := Lib.hid (refgreat_any X 20 ao cap W HV.out (by omega) gr hgr)
  cases gr with
  | true =>
    clear hgr
    go_wp2_with fail
    refine HG.out.mono ?_
    rintro e w1 ⟨rfl, rfl⟩
    go_wp2_with fail
    refine (awake_any _ (HT.out)).mono ?_
    rintro e wz ⟨rfl, hbz⟩
    have HBZ := Lib.hid ((HB.out).trans (hbz.mono (HB.out).size))
    clear hbz
    go_wp2_with fail
    go_ret
    exact ⟨rfl, HBZ.out⟩
  | false =>
    obtain ⟨hl20, hsz⟩ := greatR_no hgr
    have HSZ := Lib.hid hsz
    have HD4 := Lib.hid (show ∀ x ∈ X, x.deps.length ≤ 10000 from fun x hx => by have := hsz x hx; omega)
    have HK4 := Lib.hid (show ∀ x ∈ X, x.cmd.key.size ≤ 1000000 from fun x hx => by have := hsz x hx; omega)
    obtain ⟨v, hv⟩ : ∃ v, errO (okR X) (nds X) = v := ⟨_, rfl⟩
    have HVV := Lib.hid hv
    have HO := Lib.hid (Order_any X ao cap W HV.out HT.out hl20 HD4.out HK4.out v hv)
    clear hgr hsz hv
    go_wp2_with fail
    refine HG.out.mono ?_
    rintro e w1 ⟨rfl, rfl⟩
    clear HG
    go_wp2_with fail
    refine HO.out.mono ?_
    rintro e w1 ⟨oo, oc, a, rfl, hra, hna, howa, hb1⟩
    have HB1 := Lib.hid hb1
    have HAI := Lib.hid (show ∀ z ∈ a, IdI z from fun z hz => by
      by_cases hv0 : v = 0
      · have h1 := hra hv0
        obtain ⟨_, hU, _⟩ := errO_ok.1 (HVV.out.trans hv0)
        have hnd : (idsX X).Nodup := unl_nds.1 hU
        have h2 := (row_mem (Sd.of hnd) (by rw [srtR_nd]; exact h1)).mem_iff.1 hz
        obtain ⟨y, hy, rfl⟩ := List.mem_map.1 h2
        exact (HV.out.ok y ((srtR_perm X).mem_iff.1 hy)).id
      · rw [hna hv0] at hz
        cases hz)
    have HAV := Lib.hid (show IdsV w1 oo oc a from IdsV.of_own (B := W.heap.size) (by have := howa; unfold OwnL at this; exact this) HAI.out)
    have HV1 := Lib.hid (HV.out.below hb1)
    have HRO := Lib.hid (reforder_any X ao cap w1 HV1.out hl20 HD4.out HK4.out v HVV.out a hra)
    have HNA := Lib.hid hna
    clear hb1 howa HO hra hna
    go_wp2_with fail
    refine HRO.out.mono ?_
    rintro e w2 ⟨oo2, oc2, a2, rfl, hra2, hna2, howa2, hb2⟩
    have haa : a2 = a := by
      by_cases hv0 : v = 0
      · exact hra2 hv0
      · rw [hna2 hv0, HNA.out hv0]
    subst haa
    have HB2 := Lib.hid (HB1.out.trans (hb2.mono HB1.out.size))
    have HEQ := Lib.hid (refequal_any a2 a2 oo oo2 oc oc2 w2 (HAV.out.below (B := 0) hb2) (IdsV.of_own (B := w1.heap.size) (by have := howa2; unfold OwnL at this; exact this) HAI.out) true (decide_eq_true rfl))
    have hvv : (v != v) = false := by simp
    clear hb2 howa2 hra2 hna2 HRO HNA HAI HAV HB1 HVV
    go_wp2_with fail
    refine HEQ.out.mono ?_
    rintro e w3 ⟨rfl, hb3⟩
    have HB3 := Lib.hid (HB2.out.trans (hb3.mono HB2.out.size))
    have HV3 := Lib.hid (HV.out.below HB3.out)
    clear hb3 HEQ HB2
    obtain ⟨nd, hnd⟩ : ∃ b, decide (idsX X).Nodup = b := ⟨_, rfl⟩
    have HUN := Lib.hid (unlike_any X ao cap w3 HV3.out nd hnd)
    go_wp2_with fail
    refine HUN.out.mono ?_
    rintro e w4 ⟨rfl, hb4⟩
    have HB4 := Lib.hid (HB3.out.trans (hb4.mono HB3.out.size))
    have HV4 := Lib.hid (HV.out.below HB4.out)
    clear hb4 HUN hvv HB3
    cases nd with
    | false =>
      clear hnd
      go_wp2_with fail
      refine (awake_any _ (HT.out.next HB4.out)).mono ?_
      rintro e wz ⟨rfl, hbz⟩
      have HBZ := Lib.hid ((HB.out.trans (HB4.out.mono HB.out.size)).trans (hbz.mono (HB.out.trans (HB4.out.mono HB.out.size)).size))
      clear hbz
      go_wp2_with fail
      go_ret
      exact ⟨rfl, HBZ.out⟩
    | true =>
      have hndp : (idsX X).Nodup := of_decide_eq_true hnd
      have HND := Lib.hid hndp
      clear hnd hndp
      have HXI4 := Lib.hid ((HB4.out.block _ HXI.out).trans HX.out)
      have HCL := Lib.hid (closedd_any X ao cap i w4 HV4.out HI.out HND.out hl20 HD4.out)
      obtain ⟨⟨x0, x1⟩, _⟩ := box2 HXI4.out
      go_wp2_with fail
      refine HCL.out.mono ?_
      rintro e w5 ⟨no, nc, inn, mo, mc, out, rfl, hcl, hin, hout, hb5⟩
      have HB5 := Lib.hid (HB4.out.trans (hb5.mono HB4.out.size))
      have HCI := Lib.hid hcl
      have HIN := Lib.hid hin
      have HOU := Lib.hid hout
      have HV5 := Lib.hid (HV4.out.below hb5)
      have HXI5 := Lib.hid ((hb5.block _ (M.heap_lt HXI4.out)).trans HXI4.out)
      clear hcl hin hout hb5 x0 x1 HCL
      have HRC := Lib.hid (refclosed_any X ao cap i w5 HV5.out HI.out HND.out hl20 HD4.out)
      obtain ⟨⟨x0, x1⟩, _⟩ := box2 HXI5.out
      go_wp2_with fail
      refine HRC.out.mono ?_
      rintro e w6 ⟨no2, nc2, inn2, mo2, mc2, out2, rfl, hcl2, hin2, hout2, hb6⟩
      obtain ⟨rfl, rfl⟩ := HCI.out.one hcl2
      have HB6 := Lib.hid (HB5.out.trans (hb6.mono HB5.out.size))
      have hmem := clo_in hcl2
      have HRV := Lib.hid (show ∀ x ∈ inn, RvOk W x from fun x hx => HV.out.ok x ((srtR_perm X).mem_iff.1 (hmem.1 x hx)))
      have HDI := Lib.hid (show ∀ d ∈ out, IdI d from fun d hd => by
        obtain ⟨x, hx, hdx⟩ := hmem.2 d hd
        exact (HV.out.ok x ((srtR_perm X).mem_iff.1 hx)).deps.ok d hdx)
      have HIV := Lib.hid (show RecsV w6 no nc inn from RecsV.of_own (own_below HIN.out hb6) (fun x hx => (HRV.out x hx).below HB6.out))
      have HIV2 := Lib.hid (show RecsV w6 no2 nc2 inn from RecsV.of_own hin2 (fun x hx => (HRV.out x hx).below HB6.out))
      have HOV := Lib.hid (show IdsV w6 mo mc out from IdsV.of_own (own_below HOU.out hb6) HDI.out)
      have HOV2 := Lib.hid (show IdsV w6 mo2 mc2 out from IdsV.of_own hout2 HDI.out)
      have HSR := Lib.hid (refsamerecs_any inn inn no no2 nc nc2 w6 HIV.out HIV2.out rfl (fun j x y h1 h2 => by rw [h1] at h2; cases h2; exact alike_self x) (fun x hx => by have := HD4.out x ((srtR_perm X).mem_iff.1 (hmem.1 x hx)); omega))
      clear hcl2 hin2 hout2 hb6 x0 x1 HRC hmem HIN HOU HCI
      go_wp2_with fail
      refine HSR.out.mono ?_
      rintro e w7 ⟨rfl, hb7⟩
      have HB7 := Lib.hid (HB6.out.trans (hb7.mono HB6.out.size))
      have HE1 := Lib.hid (refequal_any out out mo mo2 mc mc2 w7 (HOV.out.below (B := 0) hb7) (HOV2.out.below (B := 0) hb7) true (decide_eq_true rfl))
      clear hb7 HSR
      go_wp2_with fail
      refine HE1.out.mono ?_
      rintro e w8 ⟨rfl, hb8⟩
      have HB8 := Lib.hid (HB7.out.trans (hb8.mono HB7.out.size))
      have HWI := Lib.hid (Within_any X ao cap w8 (HV.out.below HB8.out) hl20)
      clear hb8 HE1
      go_wp2_with fail
      refine HWI.out.mono ?_
      rintro e w9 ⟨po, pc, m, rfl, hp1, hs1, ho1, hb9⟩
      have HB9 := Lib.hid (HB8.out.trans (hb9.mono HB8.out.size))
      have HM1 := Lib.hid (within_one HND.out hp1 hs1)
      have HO1 := Lib.hid ho1
      have HL1 := Lib.hid hp1.length_eq
      have HWR := Lib.hid (refwithin_any X ao cap w9 (HV.out.below HB9.out) (by omega))
      clear hb9 HWI hp1 hs1 ho1
      go_wp2_with fail
      refine HWR.out.mono ?_
      rintro e wA ⟨po2, pc2, m2, rfl, hp2, hs2, ho2, hbA⟩
      have HBA := Lib.hid (HB9.out.trans (hbA.mono HB9.out.size))
      have hm2 := within_one HND.out hp2 hs2
      obtain ⟨Q, hQ⟩ : ∃ Q, Q = O.within (nds X) := ⟨_, rfl⟩
      have hQl : Q.length = X.length := by rw [hQ, ← hm2, List.length_map]; exact hp2.length_eq
      have HQI := Lib.hid (show ∀ z ∈ Q, IdI z from fun z hz => by
        rw [hQ, ← hm2] at hz
        obtain ⟨y, hy, rfl⟩ := List.mem_map.1 hz
        exact (HV.out.ok y (hp2.mem_iff.1 hy)).id)
      have ho1 := HO1.out
      rw [HM1.out, ← hQ] at ho1
      rw [hm2, ← hQ] at ho2
      have HE2 := Lib.hid (refequal_any Q Q po po2 pc pc2 wA (IdsV.of_own (own_below (by have := ho1; unfold OwnL at this; exact this) hbA) HQI.out) (IdsV.of_own (by have := ho2; unfold OwnL at this; exact this) HQI.out) true (decide_eq_true rfl))
      rw [hQl] at HE2
      clear hp2 hs2 ho2 ho1 hm2 hQ hQl hbA HWR HQI HM1 HO1 HL1
      go_wp2_with fail
      refine HE2.out.mono ?_
      rintro e wB ⟨rfl, hbB⟩
      have HBB := Lib.hid (HB.out.trans ((HBA.out.trans (hbB.mono HBA.out.size)).mono HB.out.size))
      have HTB := Lib.hid (HT.out.next (HBA.out.trans (hbB.mono HBA.out.size)))
      clear hbB HE2
      go_wp2_with fail
      refine (awake_any _ (HTB.out)).mono ?_
      rintro e wz ⟨rfl, hbz⟩
      have HBZ := Lib.hid ((HBB.out).trans (hbz.mono (HBB.out).size))
      clear hbz
      go_wp2_with fail
      go_ret
      exact ⟨rfl, HBZ.out⟩
end Go.Proofs.YtndfhejfhfhbdaaGreatDoor.O

/- From the listed variables of the rows to the tables that the walks take. -/
namespace Go.Proofs.YtndfhejfhfhbdaaGreatDoor.O
open Go.RowKit Go.PlainAid Go.Lib Go.Proofs.YtndfhejfhfhbdaaGreatDoor.R

theorem u8x : Go.Proofs.U8Extra Tryz.prog Tryz.lays260_ren := ⟨by kernel_rfl, by kernel_rfl, by kernel_rfl, by kernel_rfl, by kernel_rfl, by kernel_rfl, by kernel_rfl⟩
theorem accept_eq : Rows.laid_unicode_utf8_acceptRanges (H := Unit) = Go.Lib.acceptData := by kernel_rfl
theorem tabs_mk {W : World} (hu : Lib.Utf8Tabs 0 1 W) : Tabs W :=
  ⟨hu, World.block_lt_of_cell? W _ (hu.1 0 (by decide)), World.block_lt_of_cell? W _ (hu.2 0 (by decide)).1⟩
theorem tabsR_of {W : World} (hL : laidMet Tryz.prog Rows.orderPartsRow.laid W) : Tabs W :=
  tabs_mk (Go.Proofs.utf8Tabs_of_reads Tryz.lays260 u8x (Pinned.utf8First_eq ▸ Go.Lib.laidMet.reads hL (.tail _ (.head _))) (accept_eq ▸ Go.Lib.laidMet.reads hL (.head _)))
end Go.Proofs.YtndfhejfhfhbdaaGreatDoor.O
