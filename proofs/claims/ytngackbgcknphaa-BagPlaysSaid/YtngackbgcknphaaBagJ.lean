/- Contracts: the kept ones' test, the closure that asks it, slices.IndexFunc with it. -/
import Derived.Test.YtngackbgcknphaaBagF
import Derived.Deep.RegionHeld3
import Derived.Deep.DeepCutAuto
namespace Go.Proofs.Ytngackbgcknphaa.B
open Go.RowKit M
set_option linter.unusedVariables false

/-- the test: is it to another one than to? -/
def others (o : Int) : Value := .func (.func 17) #[.agg #[.int .i64 o]] #[]
/-- the closure about it -/
def wrap (bx : Nat) : Value := .func (.func 22) #[] #[.pointer (some ⟨bx, 0, none⟩)]

set_option maxHeartbeats 400000 in
theorem keeps_fn (o f t : Int) (v : Value) (w : World) (r : Bool) (hr : decide (t ≠ o) = r) :
    Calls Try.prog 17 #[.agg #[.int .i64 o], .agg #[.int .i64 f, .int .i64 t, v]] w fun e w' => e = .returned (.bool r) ∧ Below w.heap.size w w' := by
  go_enter Try.func17, Try.ntmps17
  go_wp2_with fail
  go_ret
  refine ⟨ret_val (by rw [← hr]; congr 1; by_cases h : t = o <;> simp [h]), ?_⟩
  exact ((Below.refl _ _).alloc (Nat.le_refl _) _).alloc (by simp) _

set_option maxRecDepth 100000 in
set_option maxHeartbeats 400000 in
theorem wrap_fn (o : Int) (bx : Nat) (x : E) (w : World) (r : Bool) (hr : decide (x.t = o) = r) (hbx : w.heap[bx]? = some (.cells #[others o] 28 (0, 0))) (hv : BytesV w x.v x.l) (hl : x.l.length ≤ 100) :
    Calls Try.prog 22 #[.agg #[.int .i64 x.f, .int .i64 x.t, .slice x.ao x.l.length x.cap], .pointer (some ⟨bx, 0, none⟩)] w fun e w' => e = .returned (.bool r) ∧ Below w.heap.size w w' := by
  obtain ⟨f, t, ao, cap, l⟩ := x
  simp only at hr hl ⊢
  have hb := (Array.getElem?_eq_some_iff.1 hbx).1
  unfold others at hbx
  go_enter Try.func22, Try.ntmps22
  go_wp2_with fail
  obtain ⟨W0, hW0⟩ : ∃ W0, W0 = w.alloc (.cells #[.int .i64 f, .int .i64 t, .slice ao l.length cap] 24) := ⟨_, rfl⟩
  have hbox : W0.heap[w.heap.size]? = some (.cells #[.int .i64 f, .int .i64 t, .slice ao l.length cap] 24 (0, 0)) := by rw [hW0]; exact heap_alloc_new w _
  have hM0 : Mods (fun _ => False) w W0 := by rw [hW0]; exact (Mods.refl _ w).alloc _
  have hbel : Below w.heap.size w W0 := by rw [hW0]; exact (Below.refl _ _).alloc (Nat.le_refl _) _
  rw [← hW0]
  clear hW0
  have hz0 := heap_lt hbox
  have hbx0 := hM0.heap hbx (fun h => h)
  have c0 : W0.cell? ⟨bx, 0, none⟩ = some (.func (.func 17) #[.agg #[.int .i64 o]] #[]) := (cell_of_row W0 bx 0 _ _ (0, 0) hbx0).trans rfl
  have hbz : bx < W0.heap.size := heap_lt hbx0
  obtain ⟨d0, d1, d2⟩ := (box3 hbox).1
  have hv0 := hv.keep hM0 (fun _ _ _ h => h)
  have HB := Lib.hid hbel
  have HST := Lib.hid (show ∀ w', Below W0.heap.size W0 w' → (fun w' => (w'.cell? ⟨bx, 0, none⟩ = some (.func (.func 17) #[.agg #[.int .i64 o]] #[])) ∧ (w'.cell? ⟨w.heap.size, 0, none⟩ = some (.int .i64 f) ∧ w'.cell? ⟨w.heap.size, 1, none⟩ = some (.int .i64 t) ∧ w'.cell? ⟨w.heap.size, 2, none⟩ = some (.slice ao l.length cap)) ∧ Below W0.heap.size W0 w') w' from fun w' hb =>
    ⟨(hb.cell (p := ⟨bx, 0, none⟩) hbz).trans c0, ⟨(hb.cell (p := ⟨w.heap.size, 0, none⟩) hz0).trans d0, (hb.cell (p := ⟨w.heap.size, 1, none⟩) hz0).trans d1, (hb.cell (p := ⟨w.heap.size, 2, none⟩) hz0).trans d2⟩, hb⟩)
  have HS0 := Lib.hid (HST.out W0.drew (Below.refl _ _).drew)
  have HC := Lib.hid (show ∀ w', Below W0.heap.size W0 w' → Calls Try.prog 18 #[.agg #[.int .i64 f, .int .i64 t, .slice ao l.length cap]] w' fun e w2 => ∃ ao' cap', e = .returned (.agg #[.int .i64 f, .int .i64 t, .slice ao' l.length cap']) ∧ (fun w' => (w'.cell? ⟨bx, 0, none⟩ = some (.func (.func 17) #[.agg #[.int .i64 o]] #[])) ∧ (w'.cell? ⟨w.heap.size, 0, none⟩ = some (.int .i64 f) ∧ w'.cell? ⟨w.heap.size, 1, none⟩ = some (.int .i64 t) ∧ w'.cell? ⟨w.heap.size, 2, none⟩ = some (.slice ao l.length cap)) ∧ Below W0.heap.size W0 w') w2 from fun w' hb =>
    (copy_any f t ao cap l w' (by omega) (hv0.keep (Mods.of_below (S := fun _ => False) hb) (fun _ _ _ h => h))).mono fun e w2 ⟨ao', cap', he, _, _, hb2, _⟩ => ⟨ao', cap', he, HST.out w2 (hb.trans (hb2.mono hb.size))⟩)
  have HK := Lib.hid (show ∀ v w', Below W0.heap.size W0 w' → Calls Try.prog 17 #[.agg #[.int .i64 o], .agg #[.int .i64 f, .int .i64 t, v]] w' fun e w2 => e = .returned (.bool (!r)) ∧ (fun w' => (w'.cell? ⟨bx, 0, none⟩ = some (.func (.func 17) #[.agg #[.int .i64 o]] #[])) ∧ (w'.cell? ⟨w.heap.size, 0, none⟩ = some (.int .i64 f) ∧ w'.cell? ⟨w.heap.size, 1, none⟩ = some (.int .i64 t) ∧ w'.cell? ⟨w.heap.size, 2, none⟩ = some (.slice ao l.length cap)) ∧ Below W0.heap.size W0 w') w2 from fun v w' hb =>
    (keeps_fn o f t v w' (!r) (by rw [← hr]; by_cases h : t = o <;> simp [h])).mono fun e w2 hh => ⟨hh.1, HST.out w2 (hb.trans (hh.2.mono hb.size))⟩)
  clear c0 d0 d1 d2 hv0 hbel hbx hbx0 hbox hM0 hv hr
  go_region_held3 (fun w' => (w'.cell? ⟨bx, 0, none⟩ = some (.func (.func 17) #[.agg #[.int .i64 o]] #[])) ∧ (w'.cell? ⟨w.heap.size, 0, none⟩ = some (.int .i64 f) ∧ w'.cell? ⟨w.heap.size, 1, none⟩ = some (.int .i64 t) ∧ w'.cell? ⟨w.heap.size, 2, none⟩ = some (.slice ao l.length cap)) ∧ Below W0.heap.size W0 w')
    (first | exact HS0.out | assumption)
    ((first
      | (go_at_call 18; refine (HC.out _ (by obtain ⟨_, _, hb⟩ := (by assumption : (fun w' => (w'.cell? ⟨bx, 0, none⟩ = some (.func (.func 17) #[.agg #[.int .i64 o]] #[])) ∧ (w'.cell? ⟨w.heap.size, 0, none⟩ = some (.int .i64 f) ∧ w'.cell? ⟨w.heap.size, 1, none⟩ = some (.int .i64 t) ∧ w'.cell? ⟨w.heap.size, 2, none⟩ = some (.slice ao l.length cap)) ∧ Below W0.heap.size W0 w') _); exact hb)).mono ?_; rintro e wh ⟨ao', cap', rfl, h9⟩)
      | (go_at_call 17; refine (HK.out _ _ (by obtain ⟨_, _, hb⟩ := (by assumption : (fun w' => (w'.cell? ⟨bx, 0, none⟩ = some (.func (.func 17) #[.agg #[.int .i64 o]] #[])) ∧ (w'.cell? ⟨w.heap.size, 0, none⟩ = some (.int .i64 f) ∧ w'.cell? ⟨w.heap.size, 1, none⟩ = some (.int .i64 t) ∧ w'.cell? ⟨w.heap.size, 2, none⟩ = some (.slice ao l.length cap)) ∧ Below W0.heap.size W0 w') _); exact hb)).mono ?_; rintro e wh2 ⟨rfl, h10⟩)))
  have HB2 := Lib.hid (HB.out.trans (h10.2.2.mono HB.out.size))
  clear h9 h10
  go_wp2_with fail
  go_ret
  exact ⟨rfl, HB2.out⟩

set_option maxRecDepth 100000 in
set_option maxHeartbeats 400000 in
theorem index_none (B : Nat) (w : World) (ao : Option Addr) (cap : Nat) (L : List E) (o : Int) (bx : Nat) (h : w.ownsRow B 24 3 (.slice ao L.length cap) L.length (cellsE L)) (hok : ∀ x ∈ L, BytesV w x.v x.l ∧ x.l.length ≤ 100) (hle : L.length ≤ 4096)
    (hbx : w.heap[bx]? = some (.cells #[others o] 28 (0, 0))) (hno : ∀ x ∈ L, x.t ≠ o) :
    Calls Try.prog 24 #[.slice ao L.length cap, wrap bx] w fun e w' => e = .returned (.int .i64 (-1)) ∧ Below w.heap.size w w' := by
  have HOW := Lib.hid h
  have HBX := Lib.hid hbx
  have HOK := Lib.hid hok
  clear h hbx hok
  unfold wrap
  go_enter Try.func24, Try.ntmps24
  go_wp2_with fail
  go_loopw [8] (fun i wr => ∃ k : Nat, i = .int .i64 k ∧ k ≤ L.length ∧ Below w.heap.size w wr) (fun i _ => L.length - (intOf i).toNat)
  case atStart => exact ⟨0, rfl, Nat.zero_le _, Below.refl _ _⟩
  case round =>
    obtain ⟨k, rfl, hk, hbel⟩ := hrel
    have HB := Lib.hid hbel
    by_cases hlt : k < L.length
    · obtain ⟨x, hx⟩ : ∃ x, L[k]? = some x := ⟨_, List.getElem?_eq_getElem hlt⟩
      have hmem := List.mem_of_getElem? hx
      obtain ⟨hb1, hb2⟩ := HOK.out x hmem
      obtain ⟨g, rfl, hgl, hg⟩ := rowcell HOW.out (by omega)
      obtain ⟨q0, q1, q2⟩ := cellsE_get L k x hx
      have c0 := (hbel.cell (p := ⟨g, k * 3, none⟩) hgl).trans (hg _ _ q0).1
      have c1 := (hbel.cell (p := ⟨g, k * 3 + 1, none⟩) hgl).trans (hg _ _ q1).1
      have c2 := (hbel.cell (p := ⟨g, k * 3 + 2, none⟩) hgl).trans (hg _ _ q2).1
      have HV := Lib.hid (hb1.keep (Mods.of_below (S := fun _ => False) hbel) (fun _ _ _ h => h))
      have HBXr := Lib.hid ((hbel.block bx (heap_lt HBX.out)).trans HBX.out)
      have hkl : (k : Int) < (L.length : Int) := by omega
      clear hbel hb1 hg q0 q1 q2
      have hne := hno x hmem
      go_wp2_with (go_at_call 22; refine (wrap_fn o bx x _ false (decide_eq_false hne) HBXr.out HV.out hb2).mono ?_; rintro e w2 ⟨rfl, b2⟩; have HB2 := Lib.hid (HB.out.trans (b2.mono HB.out.size)); clear b2)
      go_roundw
      case rel => exact ⟨k + 1, by go_num, by omega, HB2.out⟩
      case measure => simp [intOf]; omega
    · have hkl : ¬ (k : Int) < (L.length : Int) := by omega
      clear hbel
      go_wp2_with fail
      go_ret
      exact ⟨rfl, HB.out⟩

set_option maxRecDepth 100000 in
set_option maxHeartbeats 400000 in
theorem index_at (B : Nat) (w : World) (ao : Option Addr) (cap : Nat) (L : List E) (o : Int) (bx : Nat) (h : w.ownsRow B 24 3 (.slice ao L.length cap) L.length (cellsE L)) (hok : ∀ x ∈ L, BytesV w x.v x.l ∧ x.l.length ≤ 100) (hle : L.length ≤ 4096)
    (hbx : w.heap[bx]? = some (.cells #[others o] 28 (0, 0))) (n : Nat) (x : E) (hyn : L[n]? = some x) (hyt : x.t = o) (hno : ∀ (j : Nat) (y : E), j < n → L[j]? = some y → y.t ≠ o) :
    Calls Try.prog 24 #[.slice ao L.length cap, wrap bx] w fun e w' => e = .returned (.int .i64 (n : Int)) ∧ Below w.heap.size w w' := by
  have HYT := Lib.hid hyt
  clear hyt
  have hnl : n < L.length := (List.getElem?_eq_some_iff.1 hyn).1
  have HOW := Lib.hid h
  have HBX := Lib.hid hbx
  have HOK := Lib.hid hok
  clear h hbx hok
  unfold wrap
  go_enter Try.func24, Try.ntmps24
  go_wp2_with fail
  go_loopw [8] (fun i wr => ∃ k : Nat, i = .int .i64 k ∧ k ≤ n ∧ Below w.heap.size w wr) (fun i _ => n - (intOf i).toNat)
  case atStart => exact ⟨0, rfl, Nat.zero_le _, Below.refl _ _⟩
  case round =>
    obtain ⟨k, rfl, hk, hbel⟩ := hrel
    have HB := Lib.hid hbel
    by_cases hlt : k < n
    · obtain ⟨x, hx⟩ : ∃ x, L[k]? = some x := ⟨_, List.getElem?_eq_getElem (by omega)⟩
      have hmem := List.mem_of_getElem? hx
      obtain ⟨hb1, hb2⟩ := HOK.out x hmem
      obtain ⟨g, rfl, hgl, hg⟩ := rowcell HOW.out (by omega)
      obtain ⟨q0, q1, q2⟩ := cellsE_get L k x hx
      have c0 := (hbel.cell (p := ⟨g, k * 3, none⟩) hgl).trans (hg _ _ q0).1
      have c1 := (hbel.cell (p := ⟨g, k * 3 + 1, none⟩) hgl).trans (hg _ _ q1).1
      have c2 := (hbel.cell (p := ⟨g, k * 3 + 2, none⟩) hgl).trans (hg _ _ q2).1
      have HV := Lib.hid (hb1.keep (Mods.of_below (S := fun _ => False) hbel) (fun _ _ _ h => h))
      have HBXr := Lib.hid ((hbel.block bx (heap_lt HBX.out)).trans HBX.out)
      have hkl : (k : Int) < (L.length : Int) := by omega
      clear hbel hb1 hg q0 q1 q2
      have hne := hno k x hlt hx
      go_wp2_with (go_at_call 22; refine (wrap_fn o bx x _ false (decide_eq_false hne) HBXr.out HV.out hb2).mono ?_; rintro e w2 ⟨rfl, b2⟩; have HB2 := Lib.hid (HB.out.trans (b2.mono HB.out.size)); clear b2)
      go_roundw
      case rel => exact ⟨k + 1, by go_num, by omega, HB2.out⟩
      case measure => simp [intOf]; omega
    · obtain rfl : k = n := by omega
      have hx := hyn
      have hmem := List.mem_of_getElem? hx
      obtain ⟨hb1, hb2⟩ := HOK.out x hmem
      obtain ⟨g, rfl, hgl, hg⟩ := rowcell HOW.out (by omega)
      obtain ⟨q0, q1, q2⟩ := cellsE_get L k x hx
      have c0 := (hbel.cell (p := ⟨g, k * 3, none⟩) hgl).trans (hg _ _ q0).1
      have c1 := (hbel.cell (p := ⟨g, k * 3 + 1, none⟩) hgl).trans (hg _ _ q1).1
      have c2 := (hbel.cell (p := ⟨g, k * 3 + 2, none⟩) hgl).trans (hg _ _ q2).1
      have HV := Lib.hid (hb1.keep (Mods.of_below (S := fun _ => False) hbel) (fun _ _ _ h => h))
      have HBXr := Lib.hid ((hbel.block bx (heap_lt HBX.out)).trans HBX.out)
      have hkl : (k : Int) < (L.length : Int) := by omega
      clear hbel hb1 hg q0 q1 q2
      go_wp2_with (go_at_call 22; refine (wrap_fn o bx x _ true (decide_eq_true HYT.out) HBXr.out HV.out hb2).mono ?_; rintro e w2 ⟨rfl, b2⟩; have HB2 := Lib.hid (HB.out.trans (b2.mono HB.out.size)); clear b2)
      go_ret
      exact ⟨rfl, HB2.out⟩
end Go.Proofs.Ytngackbgcknphaa.B
