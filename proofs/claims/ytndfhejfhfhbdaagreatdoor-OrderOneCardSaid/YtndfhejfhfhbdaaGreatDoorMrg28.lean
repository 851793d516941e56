/- Several texts in one. -/
import Derived.Test.YtndfhejfhfhbdaaGreatDoorMrg27
import Derived.Test.YtndfhejfhfhbdaaGreatDoorMrg19

/- The law's awake. -/
namespace Go.Proofs.YtndfhejfhfhbdaaGreatDoor.O
open Go.RowKit Go.Proofs.YtndfhejfhfhbdaaGreatDoor.M Go.BigFrame Go.Proofs.YtndfhejfhfhbdaaGreatDoor.K Go.Proofs.YtndfhejfhfhbdaaGreatDoor.T Go.Proofs.YtndfhejfhfhbdaaGreatDoor.R
set_option linter.unusedVariables false
set_option linter.unusedSimpArgs false

theorem heap_dr (w : World) (k : Nat) : w.drew.heap[k]? = w.heap[k]? := rfl
theorem ex_cells (g1 g2 : Nat) : (cellsR (exX g1 g2)).toArray = #[.int .i64 0, .int .i64 1, .int .i64 3, .int .i64 0, .int .i64 0, .int .i64 0, .int .i64 0, .int .i64 0, .int .i64 0, .int .i64 0, .string ⟨#[]⟩, .string ⟨#[]⟩, .int .i64 0, .slice (some ⟨g1, 0, none⟩) 1 1, .int .i64 2, .int .i64 1, .int .i64 1, .int .i64 1, .int .i64 3, .int .i64 0, .int .i64 0, .int .i64 0, .int .i64 0, .int .i64 0, .int .i64 0, .int .i64 0, .string ⟨#[]⟩, .string ⟨#[]⟩, .int .i64 0, .slice (some ⟨g2, 0, none⟩) 1 1, .int .i64 1, .int .i64 1] := by
  simp [cellsR, exX, comR, cmd0, P.nul, exA, exB]
  rfl
theorem ex_run2 (w0 : World) (g1 g2 g3 : Nat) (hg : g3 = w0.heap.size) (h1 : w0.heap[g1]? = some (.cells #[.int .i64 1, .int .i64 1] 27 (0, 0))) (h2 : w0.heap[g2]? = some (.cells #[.int .i64 0, .int .i64 1] 27 (0, 0))) (hT : Tabs w0) :
    Calls Tryz.prog 13 #[.slice (some ⟨g3, 0, none⟩) 2 2] (w0.alloc (.cells #[.int .i64 0, .int .i64 1, .int .i64 3, .int .i64 0, .int .i64 0, .int .i64 0, .int .i64 0, .int .i64 0, .int .i64 0, .int .i64 0, .string ⟨#[]⟩, .string ⟨#[]⟩, .int .i64 0, .slice (some ⟨g1, 0, none⟩) 1 1, .int .i64 2, .int .i64 1, .int .i64 1, .int .i64 1, .int .i64 3, .int .i64 0, .int .i64 0, .int .i64 0, .int .i64 0, .int .i64 0, .int .i64 0, .int .i64 0, .string ⟨#[]⟩, .string ⟨#[]⟩, .int .i64 0, .slice (some ⟨g2, 0, none⟩) 1 1, .int .i64 1, .int .i64 1] 38)).drew fun e w' => ∃ (oo : Option Addr) (oc : Nat), e = .returned (.tuple #[.slice oo 2 oc, .int .i64 0]) ∧ (OwnL w' w0.heap.size oo oc [exB, exA] ∧ Below w0.heap.size w0 w') := by
  subst hg
  have hb : Below w0.heap.size w0 (w0.alloc (.cells #[.int .i64 0, .int .i64 1, .int .i64 3, .int .i64 0, .int .i64 0, .int .i64 0, .int .i64 0, .int .i64 0, .int .i64 0, .int .i64 0, .string ⟨#[]⟩, .string ⟨#[]⟩, .int .i64 0, .slice (some ⟨g1, 0, none⟩) 1 1, .int .i64 2, .int .i64 1, .int .i64 1, .int .i64 1, .int .i64 3, .int .i64 0, .int .i64 0, .int .i64 0, .int .i64 0, .int .i64 0, .int .i64 0, .int .i64 0, .string ⟨#[]⟩, .string ⟨#[]⟩, .int .i64 0, .slice (some ⟨g2, 0, none⟩) 1 1, .int .i64 1, .int .i64 1] 38)).drew := ((Below.refl _ _).alloc (Nat.le_refl _) _).drew
  refine (ex_run g1 g2 w0.heap.size _ (hT.next hb) ((hb.block _ (M.heap_lt h1)).trans h1) ((hb.block _ (M.heap_lt h2)).trans h2) (by rw [ex_cells, heap_dr, heap_al, if_pos rfl])).mono ?_
  rintro e w' ⟨oo, oc, rfl, h3, h4⟩
  exact ⟨oo, oc, rfl, own_base h3 (fun q hq => Nat.le_trans hb.size (h3.lt q hq).1), hb.trans (h4.mono hb.size)⟩
theorem com_one (ao : Option Addr) (cap : Nat) (w : World) :
    Calls Tryz.prog 41 #[.int .i64 0, .int .i64 2, .slice ao 1 cap] w fun e w' => e = .returned (.agg #[.int .i64 0, .int .i64 1, .int .i64 3, .int .i64 0, .int .i64 0, .int .i64 0, .int .i64 0, .int .i64 0, .int .i64 0, .int .i64 0, .string ⟨#[]⟩, .string ⟨#[]⟩, .int .i64 0, .slice ao 1 cap, .int .i64 2, .int .i64 1]) ∧
      w' = w.alloc (.cells #[.int .i64 0, .int .i64 1, .int .i64 3, .int .i64 0, .int .i64 0, .int .i64 0, .int .i64 0, .int .i64 0, .int .i64 0, .int .i64 0, .string ⟨#[]⟩, .string ⟨#[]⟩, .int .i64 0, .slice ao 1 cap, .int .i64 2, .int .i64 1] 38) := com_any 0 2 [exB] ao cap w
theorem com_two (ao : Option Addr) (cap : Nat) (w : World) :
    Calls Tryz.prog 41 #[.int .i64 1, .int .i64 1, .slice ao 1 cap] w fun e w' => e = .returned (.agg #[.int .i64 1, .int .i64 1, .int .i64 3, .int .i64 0, .int .i64 0, .int .i64 0, .int .i64 0, .int .i64 0, .int .i64 0, .int .i64 0, .string ⟨#[]⟩, .string ⟨#[]⟩, .int .i64 0, .slice ao 1 cap, .int .i64 1, .int .i64 1]) ∧
      w' = w.alloc (.cells #[.int .i64 1, .int .i64 1, .int .i64 3, .int .i64 0, .int .i64 0, .int .i64 0, .int .i64 0, .int .i64 0, .int .i64 0, .int .i64 0, .string ⟨#[]⟩, .string ⟨#[]⟩, .int .i64 0, .slice ao 1 cap, .int .i64 1, .int .i64 1] 38) := com_any 1 1 [exA] ao cap w
theorem ids_lit {w : World} {g : Nat} {l : List Id} (h : w.heap[g]? = some (.cells (cellsI l).toArray 27 (0, 0))) (hl : l.length ≤ 1000) (hok : ∀ x ∈ l, IdI x) : IdsV w (some ⟨g, 0, none⟩) l.length l := by
  refine ⟨⟨Nat.le_refl _, by unfold maxLen; omega⟩, fun e => (by cases e), fun k x hk => ?_, hok⟩
  obtain ⟨h1, h2⟩ := cellsI_get l k x hk
  refine ⟨g, 0, rfl, M.heap_lt h, ?_, ?_⟩
  · rw [cell_of_row w g _ _ _ _ h, Nat.zero_add]; simpa using h1
  · rw [cell_of_row w g _ _ _ _ h, Nat.zero_add]; simpa using h2
theorem keep4 {W w' : World} {g1 g2 : Nat} {v0 v1 v2 v3 : Value} (hb : Below W.heap.size W w') (h1 : g1 < W.heap.size) (h2 : g2 < W.heap.size) (a0 : W.cell? ⟨g1, 0, none⟩ = some v0) (a1 : W.cell? ⟨g1, 1, none⟩ = some v1) (b0 : W.cell? ⟨g2, 0, none⟩ = some v2) (b1 : W.cell? ⟨g2, 1, none⟩ = some v3) :
    w'.cell? ⟨g1, 0, none⟩ = some v0 ∧ w'.cell? ⟨g1, 1, none⟩ = some v1 ∧ w'.cell? ⟨g2, 0, none⟩ = some v2 ∧ w'.cell? ⟨g2, 1, none⟩ = some v3 :=
  ⟨(hb.cell (p := ⟨g1, 0, none⟩) h1).trans a0, (hb.cell (p := ⟨g1, 1, none⟩) h1).trans a1, (hb.cell (p := ⟨g2, 0, none⟩) h2).trans b0, (hb.cell (p := ⟨g2, 1, none⟩) h2).trans b1⟩
set_option maxRecDepth 100000 in
set_option maxHeartbeats 4000000 in
theorem awake_any (w : World) (hT : Tabs w) :
    Calls Tryz.prog 10 #[] w fun e w' => e = .returned (.bool true) ∧ Below w.heap.size w w' := by
  have HT0 := Lib.hid hT
  clear hT
  go_enter Tryz.func10, Tryz.ntmps10
  go_upto_region 2 with fail
  obtain ⟨W, hW⟩ : ∃ W, W = (w.alloc (.cells #[.int .i64 0, .int .i64 1] 27)).alloc (.cells #[.int .i64 1, .int .i64 1] 27) := ⟨_, rfl⟩
  have hA : W.heap[w.heap.size]? = some (.cells #[.int .i64 0, .int .i64 1] 27 (0, 0)) := by rw [hW, heap_al, heap_al]; simp
  have hB : W.heap[w.heap.size + 1]? = some (.cells #[.int .i64 1, .int .i64 1] 27 (0, 0)) := by rw [hW, heap_al]; simp
  have HBW := Lib.hid (show Below w.heap.size w W by rw [hW]; exact ((Below.refl _ _).alloc (Nat.le_refl _) _).alloc (by simp) _)
  have HT := Lib.hid (HT0.out.next HBW.out)
  rw [← hW]
  clear hW
  obtain ⟨⟨a0, a1⟩, _⟩ := box2 hA
  obtain ⟨⟨b0, b1⟩, _⟩ := box2 hB
  obtain ⟨ga, hga⟩ : ∃ g, g = w.heap.size := ⟨_, rfl⟩
  obtain ⟨gb, hgb⟩ : ∃ g, g = w.heap.size + 1 := ⟨_, rfl⟩
  have hlt := M.heap_lt hB
  rw [← hgb] at b0 b1 hlt ⊢
  have HGA := Lib.hid hga
  have HGB := Lib.hid hgb
  have hla : w.heap.size < W.heap.size := M.heap_lt hA
  clear hA hB hgb
  go_region_held3 (fun w' => w'.cell? ⟨w.heap.size, 0, none⟩ = some (.int .i64 0) ∧ w'.cell? ⟨w.heap.size, 1, none⟩ = some (.int .i64 1) ∧ w'.cell? ⟨gb, 0, none⟩ = some (.int .i64 1) ∧ w'.cell? ⟨gb, 1, none⟩ = some (.int .i64 1))
    (exact keep4 (by repeat (first | (exact HZ.out) | exact Below.refl _ _ | refine Below.drew ?_ | refine Below.alloc ?_ (by simp <;> omega) _)) hla hlt a0 a1 b0 b1)
    ((first
      | (go_at_call 41; first | with_reducible refine (com_one _ _ _).mono ?_ | with_reducible refine (com_two _ _ _).mono ?_
         rintro e wc ⟨rfl, rfl⟩)
      | (go_at_call 13
         refine (ex_run2 _ _ _ _ (by simp) (by rw [heap_al, heap_al, heap_al, heap_al]; simp +arith) (by rw [heap_al, heap_al, heap_al, heap_al]; simp +arith) (HT.out.next (by repeat (first | exact Below.refl _ _ | refine Below.drew ?_ | refine Below.alloc ?_ (by simp <;> omega) _)))).mono ?_
         rintro e wz ⟨oo, oc, rfl, how, hbz⟩
         have HZ := Lib.hid (Below.trans (a := W) (c := wz) (B := W.heap.size) (by repeat (first | exact Below.refl _ _ | refine Below.drew ?_ | refine Below.alloc ?_ (by simp <;> omega) _)) (hbz.mono (by simp <;> omega)))
         have HOWZ := Lib.hid how
         clear how hbz)))
  all_goals
    have HBZ := Lib.hid (HBW.out.trans (HZ.out.mono HBW.out.size))
    have HOWV := Lib.hid (Go.Proofs.YtndfhejfhfhbdaaGreatDoor.O.IdsV.of_own (B := 0) (l := [exB, exA]) (own_base HOWZ.out (fun _ _ => Nat.zero_le _)) (fun x hx => by
      rcases List.mem_cons.1 hx with rfl | hx
      · exact ⟨by unfold P.InI exB; simp, by unfold P.InI exB; simp⟩
      · rw [List.mem_singleton.1 hx]; exact ⟨by unfold P.InI exA; simp, by unfold P.InI exA; simp⟩))
    obtain ⟨a0', a1', b0', b1'⟩ := keep4 HZ.out hla hlt a0 a1 b0 b1
    clear a0 a1 b0 b1
    go_upto_region 3 with fail
    have HEQ := Lib.hid (refequal_any [exB, exA] [exB, exA] oo (some ⟨wz.heap.size, 0, none⟩) oc 2 (wz.alloc (.cells #[.int .i64 1, .int .i64 1, .int .i64 0, .int .i64 1] 27)) (HOWV.out.below (B := 0) ((Below.refl _ _).alloc (Nat.le_refl _) _)) (ids_lit (l := [exB, exA]) (heap_alloc_new wz _) (by simp) (fun x hx => by
      rcases List.mem_cons.1 hx with rfl | hx
      · exact ⟨by unfold P.InI exB; simp, by unfold P.InI exB; simp⟩
      · rw [List.mem_singleton.1 hx]; exact ⟨by unfold P.InI exA; simp, by unfold P.InI exA; simp⟩)) true (decide_eq_true rfl))
    go_wp2_with fail
    refine HEQ.out.mono ?_
    rintro e wf ⟨rfl, hbf⟩
    have HBF := Lib.hid ((HBZ.out.alloc HBZ.out.size _).trans (hbf.mono (by have := HBZ.out.size; simp; omega)))
    clear hbf HEQ a0' a1' b0' b1'
    go_wp2_with fail
    go_ret
    exact ⟨rfl, HBF.out⟩
end Go.Proofs.YtndfhejfhfhbdaaGreatDoor.O

/- The document's Great, Same of records, SameRecs; the law's unlike. -/
namespace Go.Proofs.YtndfhejfhfhbdaaGreatDoor.O
open Go.RowKit Go.Proofs.YtndfhejfhfhbdaaGreatDoor.M Go.BigFrame Go.Proofs.YtndfhejfhfhbdaaGreatDoor.K
set_option linter.unusedVariables false
set_option linter.unusedSimpArgs false

def gB (x : Rv) : Bool := decide (40 < x.deps.length) || (decide (200 < x.cmd.key.size) || decide (2000 < x.cmd.val.size))
def greatR (X : List Rv) (n : Nat) : Bool := (X.take n).any gB || decide (n < X.length)
theorem greatR_yes {X : List Rv} {n k : Nat} {x : Rv} (h1 : k < n) (h2 : X[k]? = some x) (h3 : gB x = true) : greatR X n = true := by
  unfold greatR
  rw [Bool.or_eq_true]
  refine .inl (List.any_eq_true.2 ⟨x, ?_, h3⟩)
  exact List.mem_of_getElem? (i := k) (by rw [List.getElem?_take_of_lt h1]; exact h2)
theorem greatR_end {X : List Rv} {n k : Nat} (h1 : k = X.length ∨ k = n) (h2 : ∀ j x, j < k → X[j]? = some x → gB x = false) : greatR X n = decide (n < X.length) := by
  unfold greatR
  have : (X.take n).any gB = false := by
    rw [Bool.eq_false_iff]
    intro h
    obtain ⟨x, hx, hg⟩ := List.any_eq_true.1 h
    obtain ⟨j, hj⟩ := List.mem_iff_getElem?.1 hx
    have hjl := (List.getElem?_eq_some_iff.1 hj).1
    rw [List.length_take] at hjl
    rw [List.getElem?_take_of_lt (by omega)] at hj
    rw [h2 j x (by rcases h1 with h | h <;> omega) hj] at hg
    cases hg
  rw [this, Bool.false_or]
theorem greatR_no {X : List Rv} {n : Nat} (h : greatR X n = false) : X.length ≤ n ∧ ∀ x ∈ X, x.deps.length ≤ 40 ∧ x.cmd.key.size ≤ 200 ∧ x.cmd.val.size ≤ 2000 := by
  unfold greatR at h
  rw [Bool.or_eq_false_iff] at h
  obtain ⟨h1, h2⟩ := h
  have hl : X.length ≤ n := by have := of_decide_eq_false h2; omega
  refine ⟨hl, fun x hx => ?_⟩
  rw [List.take_of_length_le hl] at h1
  have h3 : gB x = false := by
    cases e : gB x with
    | false => rfl
    | true => rw [List.any_eq_true.2 ⟨x, hx, e⟩] at h1; cases h1
  unfold gB at h3
  simp only [Bool.or_eq_false_iff, decide_eq_false_iff_not] at h3
  omega
set_option maxRecDepth 100000 in
set_option maxHeartbeats 4000000 in
theorem refgreat_any (X : List Rv) (n : Nat) (ao : Option Addr) (cap : Nat) (w : World) (h : RecsV w ao cap X) (hn : n ≤ 1000) (v : Bool) (hv : greatR X n = v) :
    Calls Tryz.prog 16 #[.slice ao X.length cap, .int .i64 n] w fun e w' => e = .returned (.bool v) ∧ w = w' := by
  obtain ⟨hl1, hl2⟩ := h.le
  unfold maxLen at hl2
  have H := Lib.hid h
  have HV := Lib.hid hv
  clear h hv
  go_enter Tryz.func16, Tryz.ntmps16
  go_wp2_with fail
  go_loopw [5] (fun iv wr => ∃ i : Nat, iv = .int .i64 i ∧ i ≤ X.length ∧ i ≤ n ∧ w = wr ∧ (∀ j x, j < i → X[j]? = some x → gB x = false)) (fun iv _ => X.length - (intOf iv).toNat)
  case atStart => exact ⟨0, rfl, Nat.zero_le _, Nat.zero_le _, rfl, fun _ _ h => absurd h (by omega)⟩
  case round =>
    obtain ⟨i, rfl, hi, him, rfl, hno⟩ := hrel
    have HNO := Lib.hid hno
    clear hno
    by_cases hlt : i < X.length
    · have e1 : (i : Int) < (X.length : Int) := by omega
      by_cases hlm : i < n
      · have e2 : (i : Int) < (n : Int) := by omega
        obtain ⟨x, hx⟩ : ∃ x, X[i]? = some x := ⟨_, List.getElem?_eq_getElem hlt⟩
        obtain ⟨b, off, rfl, hl, hc⟩ := H.out.row i x hx
        obtain ⟨c10, c11, c13⟩ := And.intro hc.c10 (And.intro hc.c11 hc.c13)
        have hok := H.out.ok x (List.mem_of_getElem? hx)
        have hk1 := hok.cmd.key
        have hk2 := hok.cmd.val
        have hk3 := hok.deps.le
        unfold maxLen at hk1 hk2 hk3
        have HX := Lib.hid hx
        clear hx hc hok
        by_cases g1 : 40 < x.deps.length
        · have e3 : (40 : Int) < (x.deps.length : Int) := by omega
          have HB := Lib.hid (show v = true by rw [← HV.out]; exact greatR_yes hlm HX.out (by unfold gB; simp [g1]))
          go_wp2_with fail
          go_ret
          exact ⟨by rw [HB.out]; rfl, rfl⟩
        · have e3 : ¬ (40 : Int) < (x.deps.length : Int) := by omega
          by_cases g2 : 200 < x.cmd.key.size
          · have e4 : (200 : Int) < (x.cmd.key.size : Int) := by omega
            have HB := Lib.hid (show v = true by rw [← HV.out]; exact greatR_yes hlm HX.out (by unfold gB; simp [g2]))
            go_wp2_with fail
            go_ret
            exact ⟨by rw [HB.out]; rfl, rfl⟩
          · have e4 : ¬ (200 : Int) < (x.cmd.key.size : Int) := by omega
            by_cases g3 : 2000 < x.cmd.val.size
            · have e5 : (2000 : Int) < (x.cmd.val.size : Int) := by omega
              have HB := Lib.hid (show v = true by rw [← HV.out]; exact greatR_yes hlm HX.out (by unfold gB; simp [g3]))
              go_wp2_with fail
              go_ret
              exact ⟨by rw [HB.out]; rfl, rfl⟩
            · have e5 : ¬ (2000 : Int) < (x.cmd.val.size : Int) := by omega
              have HB := Lib.hid (show gB x = false by unfold gB; rw [decide_eq_false g1, decide_eq_false g2, decide_eq_false g3]; rfl)
              go_wp2_with fail
              go_roundw
              case rel =>
                refine ⟨i + 1, by go_num, by omega, by omega, by trivial, fun j y hj hjy => ?_⟩
                by_cases e : j = i
                · subst e
                  have := HX.out.symm.trans hjy
                  cases this
                  exact HB.out
                · exact HNO.out j y (by omega) hjy
              case measure => simp [intOf]; omega
      · have e2 : ¬ (i : Int) < (n : Int) := by omega
        obtain rfl : i = n := by omega
        have HE := Lib.hid (show v = true by rw [← HV.out, greatR_end (.inr rfl) HNO.out]; exact decide_eq_true hlt)
        go_wp2_with fail
        go_ret
        exact ⟨by rw [HE.out]; rfl, rfl⟩
    · have e1 : ¬ (i : Int) < (X.length : Int) := by omega
      obtain rfl : i = X.length := by omega
      have e2 : ¬ (n : Int) < (X.length : Int) := by omega
      have HE := Lib.hid (show v = false by rw [← HV.out, greatR_end (.inl rfl) HNO.out]; exact decide_eq_false (by omega))
      go_wp2_with fail
      go_ret
      exact ⟨by rw [HE.out]; rfl, rfl⟩
set_option maxRecDepth 100000 in
set_option maxHeartbeats 4000000 in
theorem unlike_any (X : List Rv) (ao : Option Addr) (cap : Nat) (w : World) (h : RecsV w ao cap X) (v : Bool) (hv : decide (idsX X).Nodup = v) :
    Calls Tryz.prog 19 #[.slice ao X.length cap] w fun e w' => e = .returned (.bool v) ∧ Below w.heap.size w w' := by
  obtain ⟨hl1, hl2⟩ := h.le
  unfold maxLen at hl2
  have H := Lib.hid h
  have HV := Lib.hid hv
  clear h hv
  go_enter Tryz.func19, Tryz.ntmps19
  go_wp2_with fail
  go_loopw [3] (fun iv wr => ∃ k : Nat, iv = .int .i64 k ∧ k ≤ X.length ∧ Below w.heap.size w wr ∧ (∀ j y, j < k → (idsX X)[j]? = some y → atI (idsX X) y = (j : Int))) (fun iv _ => X.length - (intOf iv).toNat)
  case atStart => exact ⟨0, rfl, Nat.zero_le _, Below.refl _ _, fun _ _ h => absurd h (by omega)⟩
  case round =>
    obtain ⟨k, rfl, hk, hb, hno⟩ := hrel
    have HNO := Lib.hid hno
    have HBR := Lib.hid hb
    clear hno hb
    by_cases hkl : k < X.length
    · have hii : (k : Int) < (X.length : Int) := by omega
      obtain ⟨x, hx⟩ : ∃ x, X[k]? = some x := ⟨_, List.getElem?_eq_getElem hkl⟩
      obtain ⟨b, off, e0, hbl, hrec⟩ := H.out.row k x hx
      subst e0
      have hrb := hrec.below HBR.out hbl
      obtain ⟨c0, c1⟩ := And.intro hrb.c0 hrb.c1
      have hxk : (idsX X)[k]? = some x.id := by rw [List.getElem?_map, hx]; rfl
      have HXK := Lib.hid hxk
      obtain ⟨a, ha⟩ : ∃ a, atI (idsX X) x.id = a := ⟨_, rfl⟩
      have HA := Lib.hid ha
      have HC := Lib.hid (refat_any X _ cap x.id wr (H.out.below HBR.out) a ha)
      clear hx hxk hrec hrb ha
      by_cases hak : a = (k : Int)
      · subst hak
        have hne : ((k : Int) != (k : Int)) = false := by simp
        go_wp2_with fail
        refine HC.out.mono ?_
        rintro e w1 ⟨rfl, hb1⟩
        have HB1 := Lib.hid (HBR.out.trans (hb1.mono HBR.out.size))
        have HN := Lib.hid (show ∀ j y, j < k + 1 → (idsX X)[j]? = some y → atI (idsX X) y = (j : Int) from fun j y hj hy => by
          by_cases e : j = k
          · subst e; rw [HXK.out] at hy; cases hy; exact HA.out
          · exact HNO.out j y (by omega) hy)
        clear hb1 c0 c1
        go_wp2_with fail
        go_roundw
        case rel => exact ⟨k + 1, by go_num, by omega, HB1.out, HN.out⟩
        case measure => simp [intOf]; omega
      · have hne : (a != (k : Int)) = true := by simpa using hak
        have HE := Lib.hid (show v = false by
          rw [← HV.out]
          refine decide_eq_false fun hn => hak ?_
          rw [← HA.out]
          exact atI_some hn HXK.out)
        clear hak
        go_wp2_with fail
        refine HC.out.mono ?_
        rintro e w1 ⟨rfl, hb1⟩
        have HB1 := Lib.hid (HBR.out.trans (hb1.mono HBR.out.size))
        clear hb1 c0 c1
        go_wp2_with fail
        go_ret
        exact ⟨by rw [HE.out]; rfl, HB1.out⟩
    · obtain rfl : k = X.length := by omega
      have hii : ¬ (X.length : Int) < (X.length : Int) := by omega
      have HE := Lib.hid (show v = true by
        rw [← HV.out]
        refine decide_eq_true ?_
        rw [List.nodup_iff_pairwise_ne, List.pairwise_iff_getElem]
        intro i j hi hj hij e
        have h1 := HNO.out i _ (by simpa using hi) (List.getElem?_eq_getElem hi)
        have h2 := HNO.out j _ (by simpa using hj) (List.getElem?_eq_getElem hj)
        rw [e] at h1
        omega)
      go_wp2_with fail
      go_ret
      exact ⟨by rw [HE.out]; rfl, HBR.out⟩
end Go.Proofs.YtndfhejfhfhbdaaGreatDoor.O
