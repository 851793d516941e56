/- The closure that asks ready; slices.IndexFunc with it. -/
import Derived.Test.YtmmggeaaheegmaaCompJ
namespace Go.Proofs.Ytmmggeaaheegmaa.K
open Go.RowKit M T
set_option linter.unusedVariables false
set_option linter.unusedSimpArgs false

/-- all that the closure reads -/
structure RB (E : Nat → List Int) (n B : Nat) (w : World) (b bf bc gB : Nat) (C : List (List Nat)) (q : Nat → Nat) (eo : Option Addr) (ec : Nat) (come : Nat → Bool) : Prop where
  ed : EdAt B w eo n ec E
  rd : RD E n w b C q eo ec
  cf : w.cell? ⟨bf, 0, none⟩ = some (.pointer (some ⟨b, 0, none⟩))
  cc : w.cell? ⟨bc, 0, none⟩ = some (.slice (some ⟨gB, 0, none⟩) C.length C.length)
  cb : ∀ i, i < C.length → w.cell? ⟨gB, i, none⟩ = some (.bool (come i))
set_option maxRecDepth 100000 in
set_option maxHeartbeats 400000 in
theorem ask_any (E : Nat → List Int) (n B : Nat) (w : World) (b bf bc gB : Nat) (C : List (List Nat)) (q : Nat → Nat) (eo : Option Addr) (ec : Nat) (come : Nat → Bool) (h : RB E n B w b bf bc gB C q eo ec come) (hC : Comp E n C q) (ci : Nat) (hci : ci < C.length) (hn : n ≤ 10000) (hCl : C.length ≤ 10000) :
    Calls Try.prog 19 #[.int .i64 ci, .pointer (some ⟨bf, 0, none⟩), .pointer (some ⟨bc, 0, none⟩)] w fun e w' => e = .returned (.bool (rdy E n C q come ci)) ∧ w = w' := by
  have HR := Lib.hid (ready_any E n B w b C q eo ec h.ed hC h.rd ci gB come hci hn h.cb hCl)
  have h1 := h.cf
  have h2 := h.cc
  clear h
  go_enter Try.func19, Try.ntmps19
  go_wp2_with fail
  refine HR.out.mono ?_
  rintro e w2 ⟨rfl, rfl⟩
  go_wp2_with fail
  go_ret
  exact ⟨rfl, rfl⟩

set_option maxRecDepth 100000 in
set_option maxHeartbeats 400000 in
/-- the first that is ready -/
theorem find_ready (E : Nat → List Int) (n B : Nat) (w : World) (b bf bc gB : Nat) (C : List (List Nat)) (q : Nat → Nat) (eo : Option Addr) (ec : Nat) (come : Nat → Bool) (h : RB E n B w b bf bc gB C q eo ec come) (hC : Comp E n C q) (hn : n ≤ 10000) (hCl : C.length ≤ 10000)
    (g cap : Nat) (l : List Nat) (hc : ∀ (j x : Nat), l[j]? = some x → w.cell? ⟨g, j, none⟩ = some (.int .i64 (x : Int))) (hl : l.length ≤ 10000) (hlC : ∀ x ∈ l, x < C.length) (i x : Nat) (hi : l[i]? = some x) (hr : rdy E n C q come x = true) (hno : ∀ (j y : Nat), j < i → l[j]? = some y → rdy E n C q come y = false) :
    Calls Try.prog 18 #[.slice (some ⟨g, 0, none⟩) l.length cap, .func (.func 19) #[] #[.pointer (some ⟨bf, 0, none⟩), .pointer (some ⟨bc, 0, none⟩)]] w fun e w' => e = .returned (.int .i64 i) ∧ w = w' := by
  have HA := Lib.hid (fun (ci : Nat) (h2 : ci < C.length) => ask_any E n B w b bf bc gB C q eo ec come h hC ci h2 hn hCl)
  have HC := Lib.hid hc
  have HI := Lib.hid hi
  have HR := Lib.hid hr
  have HNO := Lib.hid hno
  have HLC := Lib.hid hlC
  have hil : i < l.length := (List.getElem?_eq_some_iff.1 hi).1
  clear h hC hc hi hr hno hlC
  go_enter Try.func18, Try.ntmps18
  go_wp2_with fail
  go_loopw [8] (fun iv wr => ∃ k : Nat, iv = .int .i64 k ∧ k ≤ i ∧ wr = w) (fun iv _ => i - (intOf iv).toNat)
  case atStart => exact ⟨0, rfl, Nat.zero_le _, rfl⟩
  case round =>
    obtain ⟨k, rfl, hk, rfl⟩ := hrel
    have hkl : (k : Int) < (l.length : Int) := by omega
    by_cases hlt : k < i
    · obtain ⟨y, hy⟩ : ∃ y, l[k]? = some y := ⟨_, List.getElem?_eq_getElem (by omega)⟩
      have c0 := HC.out k y hy
      have HF := Lib.hid (HNO.out k y hlt hy)
      have hyC := HLC.out y (List.mem_of_getElem? hy)
      clear hy
      go_wp2_with (go_at_call 19; refine (HA.out y hyC).mono ?_; rw [HF.out]; rintro e w2 ⟨rfl, rfl⟩)
      go_roundw
      case rel => exact ⟨k + 1, by go_num, by omega, by trivial⟩
      case measure => simp [intOf]; omega
    · obtain rfl : k = i := by omega
      have c0 := HC.out k x HI.out
      have hyC := HLC.out x (List.mem_of_getElem? HI.out)
      go_wp2_with (go_at_call 19; refine (HA.out x hyC).mono ?_; rw [HR.out]; rintro e w2 ⟨rfl, rfl⟩)
      go_ret
      exact ⟨rfl, rfl⟩
end Go.Proofs.Ytmmggeaaheegmaa.K
