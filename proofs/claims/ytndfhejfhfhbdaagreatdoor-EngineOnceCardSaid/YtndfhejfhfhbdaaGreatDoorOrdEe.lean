/- slices.IndexFunc, ContainsFunc, DeleteFunc at ids. -/
import Derived.Test.YtndfhejfhfhbdaaGreatDoorOrdG
namespace Go.Proofs.YtndfhejfhfhbdaaGreatDoor.O
open Go.RowKit Go.Proofs.YtndfhejfhfhbdaaGreatDoor.M Go.BigFrame Go.Proofs.YtndfhejfhfhbdaaGreatDoor.R
set_option linter.unusedVariables false
set_option linter.unusedSimpArgs false

theorem first_at (q : Id → Bool) : ∀ (l : List Id), l.any q = true → ∃ (n : Nat) (y : Id), l[n]? = some y ∧ q y = true ∧ ∀ (j : Nat) (z : Id), j < n → l[j]? = some z → q z = false
  | [], h => by cases h
  | a :: l, h => by
    cases ha : q a with
    | true => exact ⟨0, a, rfl, ha, fun j z hj _ => by omega⟩
    | false =>
      rw [List.any_cons, ha, Bool.false_or] at h
      obtain ⟨n, y, h1, h2, h3⟩ := first_at q l h
      refine ⟨n + 1, y, by simpa using h1, h2, fun j z hj hz => ?_⟩
      cases j with
      | zero => simp at hz; rw [← hz]; exact ha
      | succ j => exact h3 j z (by omega) (by simpa using hz)
set_option maxRecDepth 100000 in
set_option maxHeartbeats 4000000 in
theorem lost_none (g1 g2 : Nat) (l : List Id) (ao : Option Addr) (cap : Nat) (q : Id → Bool) (w : World) (h : IdsV w ao cap l)
    (hq : ∀ wx, Below w.heap.size w wx → ∀ x ∈ l, Calls Tryz.prog 123 #[idV x, .pointer (some ⟨g1, 0, none⟩), .pointer (some ⟨g2, 0, none⟩)] wx fun e w' => e = .returned (.bool (q x)) ∧ Below wx.heap.size wx w') (hno : ∀ x ∈ l, q x = false) :
    Calls Tryz.prog 125 #[.slice ao l.length cap, .func (.func 123) #[] #[.pointer (some ⟨g1, 0, none⟩), .pointer (some ⟨g2, 0, none⟩)]] w fun e w' => e = .returned (.int .i64 (-1)) ∧ Below w.heap.size w w' := by
  obtain ⟨hl1, hl2⟩ := h.le
  unfold maxLen at hl2
  have H := Lib.hid h
  have HQ := Lib.hid hq
  clear h hq
  go_enter Tryz.func125, Tryz.ntmps125
  go_wp2_with fail
  go_loopw [8] (fun i wr => ∃ k : Nat, i = .int .i64 k ∧ k ≤ l.length ∧ Below w.heap.size w wr) (fun i _ => l.length - (intOf i).toNat)
  case atStart => exact ⟨0, rfl, Nat.zero_le _, Below.refl _ _⟩
  case round =>
    obtain ⟨k, rfl, hk, hbel⟩ := hrel
    have HB := Lib.hid hbel
    clear hbel
    by_cases hlt : k < l.length
    · obtain ⟨x, hx⟩ : ∃ x, l[k]? = some x := ⟨_, List.getElem?_eq_getElem hlt⟩
      have hmem := List.mem_of_getElem? hx
      obtain ⟨g, off, rfl, hgl, d0, d1⟩ := H.out.row k x hx
      have c0 := (HB.out.cell (p := ⟨g, _, none⟩) hgl).trans d0
      have c1 := (HB.out.cell (p := ⟨g, _, none⟩) hgl).trans d1
      clear d0 d1
      have hkl : (k : Int) < (l.length : Int) := by omega
      have hne := hno x hmem
      clear hx
      go_wp2_with (go_at_call 123; refine (HQ.out _ HB.out x hmem).mono ?_; rintro e w2 ⟨rfl, b2⟩; have HB2 := Lib.hid (HB.out.trans (b2.mono HB.out.size)); clear b2; rw [hne])
      go_roundw
      case rel => exact ⟨k + 1, by go_num, by omega, HB2.out⟩
      case measure => simp [intOf]; omega
    · have hkl : ¬ (k : Int) < (l.length : Int) := by omega
      go_wp2_with fail
      go_ret
      exact ⟨rfl, HB.out⟩
set_option maxRecDepth 100000 in
set_option maxHeartbeats 4000000 in
theorem lost_at (g1 g2 : Nat) (l : List Id) (ao : Option Addr) (cap : Nat) (q : Id → Bool) (w : World) (h : IdsV w ao cap l)
    (hq : ∀ wx, Below w.heap.size w wx → ∀ x ∈ l, Calls Tryz.prog 123 #[idV x, .pointer (some ⟨g1, 0, none⟩), .pointer (some ⟨g2, 0, none⟩)] wx fun e w' => e = .returned (.bool (q x)) ∧ Below wx.heap.size wx w') (n : Nat) (y : Id) (hyn : l[n]? = some y) (hyt : q y = true) (hno : ∀ (j : Nat) (y : Id), j < n → l[j]? = some y → q y = false) :
    Calls Tryz.prog 125 #[.slice ao l.length cap, .func (.func 123) #[] #[.pointer (some ⟨g1, 0, none⟩), .pointer (some ⟨g2, 0, none⟩)]] w fun e w' => e = .returned (.int .i64 (n : Int)) ∧ Below w.heap.size w w' := by
  obtain ⟨hl1, hl2⟩ := h.le
  unfold maxLen at hl2
  have H := Lib.hid h
  have HQ := Lib.hid hq
  have HYN := Lib.hid hyn
  have hnl : n < l.length := (List.getElem?_eq_some_iff.1 hyn).1
  clear h hq hyn
  go_enter Tryz.func125, Tryz.ntmps125
  go_wp2_with fail
  go_loopw [8] (fun i wr => ∃ k : Nat, i = .int .i64 k ∧ k ≤ n ∧ Below w.heap.size w wr) (fun i _ => n - (intOf i).toNat)
  case atStart => exact ⟨0, rfl, Nat.zero_le _, Below.refl _ _⟩
  case round =>
    obtain ⟨k, rfl, hk, hbel⟩ := hrel
    have HB := Lib.hid hbel
    clear hbel
    have hkl : (k : Int) < (l.length : Int) := by omega
    by_cases hlt : k < n
    · obtain ⟨x, hx⟩ : ∃ x, l[k]? = some x := ⟨_, List.getElem?_eq_getElem (by omega)⟩
      have hmem := List.mem_of_getElem? hx
      obtain ⟨g, off, rfl, hgl, d0, d1⟩ := H.out.row k x hx
      have c0 := (HB.out.cell (p := ⟨g, _, none⟩) hgl).trans d0
      have c1 := (HB.out.cell (p := ⟨g, _, none⟩) hgl).trans d1
      clear d0 d1
      have hne := hno k x hlt hx
      clear hx
      go_wp2_with (go_at_call 123; refine (HQ.out _ HB.out x hmem).mono ?_; rintro e w2 ⟨rfl, b2⟩; have HB2 := Lib.hid (HB.out.trans (b2.mono HB.out.size)); clear b2; rw [hne])
      go_roundw
      case rel => exact ⟨k + 1, by go_num, by omega, HB2.out⟩
      case measure => simp [intOf]; omega
    · obtain rfl : k = n := by omega
      obtain ⟨x, hxy⟩ : ∃ x, x = y := ⟨_, rfl⟩
      subst hxy
      have hx := HYN.out
      have hmem := List.mem_of_getElem? hx
      obtain ⟨g, off, rfl, hgl, d0, d1⟩ := H.out.row k x hx
      have c0 := (HB.out.cell (p := ⟨g, _, none⟩) hgl).trans d0
      have c1 := (HB.out.cell (p := ⟨g, _, none⟩) hgl).trans d1
      clear d0 d1
      clear hx
      go_wp2_with (go_at_call 123; refine (HQ.out _ HB.out x hmem).mono ?_; rintro e w2 ⟨rfl, b2⟩; have HB2 := Lib.hid (HB.out.trans (b2.mono HB.out.size)); clear b2; rw [hyt])
      go_ret
      exact ⟨rfl, HB2.out⟩
set_option maxRecDepth 100000 in
set_option maxHeartbeats 4000000 in
theorem idone_none (g1 : Nat) (l : List Id) (ao : Option Addr) (cap : Nat) (q : Id → Bool) (w : World) (h : IdsV w ao cap l)
    (hq : ∀ wx, Below w.heap.size w wx → ∀ x ∈ l, Calls Tryz.prog 37 #[.pointer (some ⟨g1, 0, none⟩), idV x] wx fun e w' => e = .returned (.bool (q x)) ∧ Below wx.heap.size wx w') (hno : ∀ x ∈ l, q x = false) :
    Calls Tryz.prog 125 #[.slice ao l.length cap, .func (.func 37) #[.pointer (some ⟨g1, 0, none⟩)] #[]] w fun e w' => e = .returned (.int .i64 (-1)) ∧ Below w.heap.size w w' := by
  obtain ⟨hl1, hl2⟩ := h.le
  unfold maxLen at hl2
  have H := Lib.hid h
  have HQ := Lib.hid hq
  clear h hq
  go_enter Tryz.func125, Tryz.ntmps125
  go_wp2_with fail
  go_loopw [8] (fun i wr => ∃ k : Nat, i = .int .i64 k ∧ k ≤ l.length ∧ Below w.heap.size w wr) (fun i _ => l.length - (intOf i).toNat)
  case atStart => exact ⟨0, rfl, Nat.zero_le _, Below.refl _ _⟩
  case round =>
    obtain ⟨k, rfl, hk, hbel⟩ := hrel
    have HB := Lib.hid hbel
    clear hbel
    by_cases hlt : k < l.length
    · obtain ⟨x, hx⟩ : ∃ x, l[k]? = some x := ⟨_, List.getElem?_eq_getElem hlt⟩
      have hmem := List.mem_of_getElem? hx
      obtain ⟨g, off, rfl, hgl, d0, d1⟩ := H.out.row k x hx
      have c0 := (HB.out.cell (p := ⟨g, _, none⟩) hgl).trans d0
      have c1 := (HB.out.cell (p := ⟨g, _, none⟩) hgl).trans d1
      clear d0 d1
      have hkl : (k : Int) < (l.length : Int) := by omega
      have hne := hno x hmem
      clear hx
      go_wp2_with (go_at_call 37; refine (HQ.out _ HB.out x hmem).mono ?_; rintro e w2 ⟨rfl, b2⟩; have HB2 := Lib.hid (HB.out.trans (b2.mono HB.out.size)); clear b2; rw [hne])
      go_roundw
      case rel => exact ⟨k + 1, by go_num, by omega, HB2.out⟩
      case measure => simp [intOf]; omega
    · have hkl : ¬ (k : Int) < (l.length : Int) := by omega
      go_wp2_with fail
      go_ret
      exact ⟨rfl, HB.out⟩
set_option maxRecDepth 100000 in
set_option maxHeartbeats 4000000 in
theorem idone_at (g1 : Nat) (l : List Id) (ao : Option Addr) (cap : Nat) (q : Id → Bool) (w : World) (h : IdsV w ao cap l)
    (hq : ∀ wx, Below w.heap.size w wx → ∀ x ∈ l, Calls Tryz.prog 37 #[.pointer (some ⟨g1, 0, none⟩), idV x] wx fun e w' => e = .returned (.bool (q x)) ∧ Below wx.heap.size wx w') (n : Nat) (y : Id) (hyn : l[n]? = some y) (hyt : q y = true) (hno : ∀ (j : Nat) (y : Id), j < n → l[j]? = some y → q y = false) :
    Calls Tryz.prog 125 #[.slice ao l.length cap, .func (.func 37) #[.pointer (some ⟨g1, 0, none⟩)] #[]] w fun e w' => e = .returned (.int .i64 (n : Int)) ∧ Below w.heap.size w w' := by
  obtain ⟨hl1, hl2⟩ := h.le
  unfold maxLen at hl2
  have H := Lib.hid h
  have HQ := Lib.hid hq
  have HYN := Lib.hid hyn
  have hnl : n < l.length := (List.getElem?_eq_some_iff.1 hyn).1
  clear h hq hyn
  go_enter Tryz.func125, Tryz.ntmps125
  go_wp2_with fail
  go_loopw [8] (fun i wr => ∃ k : Nat, i = .int .i64 k ∧ k ≤ n ∧ Below w.heap.size w wr) (fun i _ => n - (intOf i).toNat)
  case atStart => exact ⟨0, rfl, Nat.zero_le _, Below.refl _ _⟩
  case round =>
    obtain ⟨k, rfl, hk, hbel⟩ := hrel
    have HB := Lib.hid hbel
    clear hbel
    have hkl : (k : Int) < (l.length : Int) := by omega
    by_cases hlt : k < n
    · obtain ⟨x, hx⟩ : ∃ x, l[k]? = some x := ⟨_, List.getElem?_eq_getElem (by omega)⟩
      have hmem := List.mem_of_getElem? hx
      obtain ⟨g, off, rfl, hgl, d0, d1⟩ := H.out.row k x hx
      have c0 := (HB.out.cell (p := ⟨g, _, none⟩) hgl).trans d0
      have c1 := (HB.out.cell (p := ⟨g, _, none⟩) hgl).trans d1
      clear d0 d1
      have hne := hno k x hlt hx
      clear hx
      go_wp2_with (go_at_call 37; refine (HQ.out _ HB.out x hmem).mono ?_; rintro e w2 ⟨rfl, b2⟩; have HB2 := Lib.hid (HB.out.trans (b2.mono HB.out.size)); clear b2; rw [hne])
      go_roundw
      case rel => exact ⟨k + 1, by go_num, by omega, HB2.out⟩
      case measure => simp [intOf]; omega
    · obtain rfl : k = n := by omega
      obtain ⟨x, hxy⟩ : ∃ x, x = y := ⟨_, rfl⟩
      subst hxy
      have hx := HYN.out
      have hmem := List.mem_of_getElem? hx
      obtain ⟨g, off, rfl, hgl, d0, d1⟩ := H.out.row k x hx
      have c0 := (HB.out.cell (p := ⟨g, _, none⟩) hgl).trans d0
      have c1 := (HB.out.cell (p := ⟨g, _, none⟩) hgl).trans d1
      clear d0 d1
      clear hx
      go_wp2_with (go_at_call 37; refine (HQ.out _ HB.out x hmem).mono ?_; rintro e w2 ⟨rfl, b2⟩; have HB2 := Lib.hid (HB.out.trans (b2.mono HB.out.size)); clear b2; rw [hyt])
      go_ret
      exact ⟨rfl, HB2.out⟩
set_option maxRecDepth 100000 in
set_option maxHeartbeats 4000000 in
theorem contains_any (g1 g2 : Nat) (l : List Id) (ao : Option Addr) (cap : Nat) (q : Id → Bool) (w : World) (h : IdsV w ao cap l)
    (hq : ∀ wx, Below w.heap.size w wx → ∀ x ∈ l, Calls Tryz.prog 123 #[idV x, .pointer (some ⟨g1, 0, none⟩), .pointer (some ⟨g2, 0, none⟩)] wx fun e w' => e = .returned (.bool (q x)) ∧ Below wx.heap.size wx w') (v : Bool) (hv : l.any q = v) :
    Calls Tryz.prog 124 #[.slice ao l.length cap, .func (.func 123) #[] #[.pointer (some ⟨g1, 0, none⟩), .pointer (some ⟨g2, 0, none⟩)]] w fun e w' => e = .returned (.bool v) ∧ Below w.heap.size w w' := by
  cases v with
  | false =>
    have HI := Lib.hid (lost_none g1 g2 l ao cap q w h hq (fun x hx => by simpa using List.any_eq_false.1 hv x hx))
    clear h hq hv
    go_enter Tryz.func124, Tryz.ntmps124
    go_wp2_with fail
    refine HI.out.mono ?_
    rintro e w1 ⟨rfl, hb1⟩
    have HB1 := Lib.hid hb1
    clear hb1
    go_wp2_with fail
    go_ret
    exact ⟨rfl, HB1.out⟩
  | true =>
    obtain ⟨n, y, h1, h2, h3⟩ := first_at q l hv
    have HI := Lib.hid (lost_at g1 g2 l ao cap q w h hq n y h1 h2 h3)
    clear h hq hv h1 h2 h3
    have hn0 : (0 : Int) ≤ (n : Int) := by omega
    go_enter Tryz.func124, Tryz.ntmps124
    go_wp2_with fail
    refine HI.out.mono ?_
    rintro e w1 ⟨rfl, hb1⟩
    have HB1 := Lib.hid hb1
    clear hb1
    go_wp2_with fail
    go_ret
    exact ⟨rfl, HB1.out⟩
end Go.Proofs.YtndfhejfhfhbdaaGreatDoor.O
