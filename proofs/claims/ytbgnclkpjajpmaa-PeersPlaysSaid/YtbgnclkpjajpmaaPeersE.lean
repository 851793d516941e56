/- The walk of the law PeersPlays. -/
import Derived.Test.YtbgnclkpjajpmaaPeersD
import Derived.Deep.RegionHeld3
import Derived.Deep.DeepCutAuto
namespace Go.Proofs.Ytbgnclkpjajpmaa.P
open Go.RowKit

/-- a row of numbers -/
def rowOf (c : Nat) (s : Nat → Int) : Array Value := (Array.range c).map fun i => .int .i64 (s i)
structure Row (w : World) (b c : Nat) (s : Nat → Int) : Prop where
  cs : ∀ i, i < c → w.cell? ⟨b, i, none⟩ = some (.int .i64 (s i))
  fz : ∀ i, i < c → w.frozen? ⟨b, i, none⟩ = false
theorem Row.of_heap {w w' : World} {b c : Nat} {s : Nat → Int} (h : Row w b c s) (e : w'.heap[b]? = w.heap[b]?) : Row w' b c s :=
  ⟨fun i hi => (World.cell?_of_block (a := ⟨b, i, none⟩) e).trans (h.cs i hi), fun i hi => (World.frozen?_of_block (a := ⟨b, i, none⟩) e).trans (h.fz i hi)⟩
theorem row_new (w : World) (c : Nat) : Row (w.alloc (.cells (rowOf c fun _ => 0) 3)) w.heap.size c (fun _ => 0) :=
  ⟨fun i hi => by simp [rowOf, hi], fun i _ => by simp⟩
theorem Row.set {w : World} {b c : Nat} {s : Nat → Int} (h : Row w b c s) (i : Nat) (hi : i < c) (v : Int) : Row (w.setCell ⟨b, i, none⟩ (.int .i64 v)) b c (put s i v) := by
  have hc := h.cs i hi
  refine ⟨fun j hj => ?_, fun j hj => ?_⟩
  · by_cases e : j = i
    · subst e; rw [World.cell?_setCell_same _ _ _ hc]; simp [put]
    · rw [World.cell?_setCell_other _ _ _ _ (by simp <;> omega)]; simp only [put, if_neg e]; exact h.cs j hj
  · rw [World.frozen?_setCell]; exact h.fz j hj

theorem info_int : (Try.prog.info? 3).map (fun i => (i.zero, i.size, i.bytes)) = some (some (.int .i64 0), 1, 8) := by kernel_rfl
theorem madeZ (c : Nat) : madeCells (Value.int .i64 0).cells (c * 1) = rowOf c fun _ => 0 := by
  simp [madeCells, rowOf, Value.cells, Nat.mod_one]
theorem run_mk (c : Nat) (hc : c ≤ 7) (W : World) : (Instr.makeSlice 30 (.int .i64 (c : Int)) (.int .i64 (c : Int))).run Try.prog W = .ok (.slice (some ⟨W.heap.size, 0, none⟩) c c) (W.alloc (.cells (rowOf c fun _ => 0) 3)) := by
  obtain ⟨i, hi, hz, hs, hb⟩ := info_parts info_int
  have h := run_make (P := Try.prog) W 30 3 i _ Try.underlying30 hi hz .i64 .i64 (c : Int) (c : Int) (by omega) (by omega) (by rw [hb]; omega) (by omega)
  simp only [Int.toNat_natCast, hs, madeZ] at h
  exact h

set_option maxHeartbeats 400000 in
theorem count_any (n : Int) (w : World) : Calls Try.prog 11 #[.int .i64 n] w fun e w' => e = .returned (.int .i64 (max 0 (min n 7))) ∧ w = w' := by
  go_enter Try.func11, Try.ntmps11
  go_wp2
  all_goals go_ret
  all_goals exact ⟨ret_int (by omega), rfl⟩

set_option maxHeartbeats 400000 in
theorem refOf_any (b c : Nat) (s : Nat → Int) (r : Int) (w : World) (_hc : c ≤ 7) (hr : Row w b c s) (x : Int) (hx : ofV c s r = x) :
    Calls Try.prog 12 #[.slice (some ⟨b, 0, none⟩) c c, .int .i64 r] w fun e w' => e = .returned (.int .i64 x) ∧ w = w' := by
  rcases (show r < 0 ∨ (0 ≤ r ∧ (c : Int) ≤ r) ∨ (0 ≤ r ∧ r < c) from by omega) with h | ⟨h, h2⟩ | ⟨h, h2⟩
  · have HV := Lib.hid (hx.symm.trans (ofV_out (n := c) (s := s) (r := r) (by omega)))
    clear hr hx
    go_enter Try.func12, Try.ntmps12
    go_wp2
    go_ret
    exact ⟨ret_int HV.out.symm, rfl⟩
  · have HV := Lib.hid (hx.symm.trans (ofV_out (n := c) (s := s) (r := r) (by omega)))
    have h5 : ¬ r < 0 := by omega
    clear hr hx
    go_enter Try.func12, Try.ntmps12
    go_wp2
    go_ret
    exact ⟨ret_int HV.out.symm, rfl⟩
  · have HV := Lib.hid (hx.symm.trans (ofV_in (n := c) (s := s) (r := r) (by omega)))
    have cs := hr.cs r.toNat (by omega)
    have h5 : ¬ r < 0 := by omega
    clear hr hx
    go_enter Try.func12, Try.ntmps12
    go_wp2
    go_ret
    exact ⟨ret_int HV.out.symm, rfl⟩

set_option maxHeartbeats 1000000 in
theorem refAll_any (b n : Nat) (s : Nat → Int) (v : Int) (w : World) (hl : n ≤ 7) (ht : Row w b n s) (r : Bool) (hr : allV n s v = r) :
    Calls Try.prog 14 #[.slice (some ⟨b, 0, none⟩) n n, .int .i64 v] w fun e w' => e = .returned (.bool r) ∧ w = w' := by
  have HR := Lib.hid hr
  have HC := Lib.hid ht.cs
  clear ht hr
  go_enter Try.func14, Try.ntmps14
  go_wp2
  go_loop [5] (fun i => ∃ k : Nat, k ≤ n ∧ i = .int .i64 k ∧ ∀ j, j < k → v ≤ s j) (fun i => n - (intOf i).toNat)
  case atStart => exact ⟨0, Nat.zero_le _, rfl, fun j h => by omega⟩
  case round =>
    obtain ⟨k, hk, rfl, hall⟩ := hrel
    have HA := Lib.hid hall
    clear hall
    by_cases hlt : k < n
    · have hc : w.cell? ⟨b, k, none⟩ = some (.int .i64 (s k)) := HC.out k (by omega)
      by_cases hv : s k < v
      · go_wp2
        go_ret
        exact ⟨ret_bool ((allV_false hlt hv).symm.trans HR.out), rfl⟩
      · go_wp2
        go_round
        case rel => exact ⟨k + 1, by omega, by go_num, fun j hj => by
          by_cases e : j < k
          · exact HA.out j e
          · have : j = k := by omega
            subst this; omega⟩
        case measure => simp [intOf]; omega
    · have hkn : n = k := by omega
      subst hkn
      by_cases h0 : 0 < n
      · go_wp2
        go_ret
        exact ⟨ret_bool ((allV_true h0 HA.out).symm.trans HR.out), rfl⟩
      · have : n = 0 := by omega
        subst this
        go_wp2
        go_ret
        exact ⟨ret_bool (allV_zero.symm.trans HR.out), rfl⟩

/-- Go's own test: is it one of the table's, and a version? -/
def okB (F : Int) (c : Nat) (V : Int) : Bool := decide (0 ≤ F) && decide (F < (c : Int)) && ((V == 1) || (V == 2))
theorem okB_heard (F : Int) (c : Nat) (V : Int) : okB F c V = heardOk c F V := by
  simp only [okB, heardOk]
  by_cases h1 : 0 ≤ F <;> by_cases h2 : F < (c : Int) <;> by_cases h3 : V = 1 <;> by_cases h4 : V = 2 <;> simp [h1, h2, h3, h4]
theorem heard_miss {n : Nat} {s : Nat → Int} {i v : Int} (h : heardOk n i v = false) : heard n s i v = s := by simp only [heard, h]; rfl

set_option maxRecDepth 100000 in
set_option maxHeartbeats 20000000 in
theorem plays_any (n : Int) (ao : Option Addr) (b off len cap : Nat) (F V : Nat → Int) (r v : Int) (a : Bool) (w : World) (hw : Words w ao b off len F V) :
    Calls Try.prog 4 #[.int .i64 n, .slice ao len cap, .int .i64 r, .int .i64 v, .bool a] w fun e w' => e = .returned (.bool true) ∧ Below w.heap.size w w' := by
  have hle := hw.le
  unfold maxLen at hle
  by_cases hbig : 60 < len
  · go_enter Try.func4, Try.ntmps4
    go_wp2_with fail
    refine (awake_any w).mono ?_
    rintro e w7 ⟨rfl, b7⟩
    go_wp2_with fail
    go_ret
    exact ⟨rfl, b7⟩
  · have h60 : len ≤ 60 := by omega
    have HW := Lib.hid hw
    clear hw hle
    obtain ⟨c, hc⟩ : ∃ c : Nat, (c : Int) = max 0 (min n 7) := ⟨(max 0 (min n 7)).toNat, by omega⟩
    have c7 : c ≤ 7 := by omega
    go_enter Try.func4, Try.ntmps4
    have HC := Lib.hid hc
    clear hc
    go_wp2_with fail
    refine (new_val n w c (by have := HC.out; omega)).mono ?_
    rintro e w1 ⟨rfl, t1, b1, z1⟩
    go_wp2_with fail
    refine (count_any n w1).mono ?_
    rintro e w2 ⟨rfl, rfl⟩
    rw [← HC.out]
    have hmk := run_mk c c7
    go_wp2_with fail
    have r1 := row_new w1 c
    have t2 := t1.below (hb := (Below.refl w1.heap.size w1).alloc (Nat.le_refl _) (.cells (rowOf c fun _ => 0) 3)) (by omega)
    have b2 := b1.alloc (by omega) (.cells (rowOf c fun _ => 0) 3)
    rw [z1] at r1
    have z2 : w.heap.size + 1 < (w1.alloc (.cells (rowOf c fun _ => 0) 3)).heap.size := by simp; omega
    generalize w1.alloc _ = w2 at *
    clear t1 b1 z1 hmk
    go_loopw [13] (fun i wr => ∃ k : Nat, k ≤ len ∧ i = .int .i64 k ∧ IsTab wr w.heap.size c (after c F V k) ∧ Row wr (w.heap.size + 1) c (after c F V k) ∧ Below w.heap.size w wr ∧ w.heap.size + 1 < wr.heap.size) (fun i _ => len - (intOf i).toNat)
    case atStart => exact ⟨0, Nat.zero_le _, rfl, t2, r1, b2, z2⟩
    case round =>
      clear t2 r1 b2 z2
      obtain ⟨k, hk, rfl, tk, rk, bk, zk⟩ := hrel
      by_cases hlt : k < len
      · obtain rfl := HW.out.at' (by omega)
        have hb := HW.out.lt (by omega)
        have c1 := (bk.cell (p := ⟨b, off + k * 2, none⟩) hb).trans (HW.out.cf k hlt)
        have c2 := (bk.cell (p := ⟨b, off + k * 2 + 1, none⟩) hb).trans (HW.out.cv k hlt)
        have HT := Lib.hid tk
        have HB := Lib.hid bk
        have HR := Lib.hid rk
        clear tk bk rk
        go_upto_region 8 with fail
        go_cut [14] (fun s wx => s = .bool (heardOk c (F k) (V k)) ∧ wx = wr)
        case first =>
          rcases (show F k < 0 ∨ (0 ≤ F k ∧ (c : Int) ≤ F k) ∨ (0 ≤ F k ∧ F k < c ∧ V k = 1) ∨ (0 ≤ F k ∧ F k < c ∧ V k = 2) ∨ (0 ≤ F k ∧ F k < c ∧ V k ≠ 1 ∧ V k ≠ 2) from by omega) with h | ⟨h, h2⟩ | ⟨h, h2, h3⟩ | ⟨h, h2, h3⟩ | ⟨h, h2, h3, h4⟩
          · have HN := Lib.hid (show heardOk c (F k) (V k) = false by simp only [heardOk]; exact decide_eq_false (by omega))
            go_wp2_with fail
            go_meet
            case rel => exact ⟨congrArg Value.bool HN.out.symm, rfl⟩
          · have HN := Lib.hid (show heardOk c (F k) (V k) = false by simp only [heardOk]; exact decide_eq_false (by omega))
            go_wp2_with fail
            go_meet
            case rel => exact ⟨congrArg Value.bool HN.out.symm, rfl⟩
          · have HN := Lib.hid (show heardOk c (F k) (V k) = true by simp only [heardOk]; exact decide_eq_true (by omega))
            have e1 : (V k == 1) = true := by rw [beq_iff_eq]; exact h3
            clear h3
            go_wp2_with fail
            go_meet
            case rel => exact ⟨congrArg Value.bool HN.out.symm, rfl⟩
          · have HN := Lib.hid (show heardOk c (F k) (V k) = true by simp only [heardOk]; exact decide_eq_true (by omega))
            have e1 : (V k == 1) = false := by rw [beq_eq_false_iff_ne]; omega
            have e2 : (V k == 2) = true := by rw [beq_iff_eq]; exact h3
            clear h3
            go_wp2_with fail
            go_meet
            case rel => exact ⟨congrArg Value.bool HN.out.symm, rfl⟩
          · have HN := Lib.hid (show heardOk c (F k) (V k) = false by simp only [heardOk]; exact decide_eq_false (by omega))
            have e1 : (V k == 1) = false := by rw [beq_eq_false_iff_ne]; omega
            have e2 : (V k == 2) = false := by rw [beq_eq_false_iff_ne]; omega
            clear h3 h4
            go_wp2_with fail
            go_meet
            case rel => exact ⟨congrArg Value.bool HN.out.symm, rfl⟩
        case rest =>
          obtain ⟨rfl, rfl⟩ := hcut
          cases hok : heardOk c (F k) (V k)
          · have HN := Lib.hid hok
            clear hok
            have H := Lib.hid (hear_rel _ c _ (F k) (V k) _ false HT.out.drew HN.out)
            go_wp2_with fail
            go_region_held3 (fun w' => w'.cell? ⟨b, off + k * 2, none⟩ = some (.int .i64 (F k)) ∧ w'.cell? ⟨b, off + k * 2 + 1, none⟩ = some (.int .i64 (V k)))
              (first | go_keep | exact ⟨(b2.cell (p := ⟨b, off + k * 2, none⟩) hb).trans (HW.out.cf k hlt), (b2.cell (p := ⟨b, off + k * 2 + 1, none⟩) hb).trans (HW.out.cv k hlt)⟩)
              ((go_at_call 7; refine H.out.mono ?_; rintro e w2 ⟨rfl, t2, g2⟩; have b2 := grow_below HB.out.drew g2 (Nat.le_refl _) (Nat.le_refl _)))
            all_goals
              have b2 := grow_below HB.out.drew g2 (Nat.le_refl _) (Nat.le_refl _)
              have r2 : Row w2 (w.heap.size + 1) c (after c F V (k + 1)) := by
                have e : after c F V (k + 1) = after c F V k := heard_miss HN.out
                rw [e]
                exact HR.out.of_heap (g2.block _ zk (by simp))
              have z2 : w.heap.size + 1 < w2.heap.size := Nat.lt_of_lt_of_le zk g2.size
              clear g2
              go_wp2_with fail
              go_roundw
              case rel => exact ⟨k + 1, by omega, by go_num, t2, r2, b2, z2⟩
              case measure => simp [intOf]; omega
          · have HN := Lib.hid hok
            have hx : 0 ≤ F k ∧ F k < c ∧ (V k = 1 ∨ V k = 2) := by simpa [heardOk] using hok
            obtain ⟨x0, x1, _⟩ := hx
            clear hok
            have H := Lib.hid (hear_rel _ c _ (F k) (V k) _ true HT.out.drew HN.out)
            go_wp2_with fail
            go_region_held3 (fun w' => w'.cell? ⟨b, off + k * 2, none⟩ = some (.int .i64 (F k)) ∧ w'.cell? ⟨b, off + k * 2 + 1, none⟩ = some (.int .i64 (V k)))
              (first | go_keep | exact ⟨(b2.cell (p := ⟨b, off + k * 2, none⟩) hb).trans (HW.out.cf k hlt), (b2.cell (p := ⟨b, off + k * 2 + 1, none⟩) hb).trans (HW.out.cv k hlt)⟩)
              ((go_at_call 7; refine H.out.mono ?_; rintro e w2 ⟨rfl, t2, g2⟩; have b2 := grow_below HB.out.drew g2 (Nat.le_refl _) (Nat.le_refl _)))
            all_goals
              have b2 := grow_below HB.out.drew g2 (Nat.le_refl _) (Nat.le_refl _)
              have r2 : Row w2 (w.heap.size + 1) c (after c F V k) := HR.out.of_heap (g2.block _ zk (by simp))
              have z2 : w.heap.size + 1 < w2.heap.size := Nat.lt_of_lt_of_le zk g2.size
              have c3 := (b2.cell (p := ⟨b, off + k * 2, none⟩) hb).trans (HW.out.cf k hlt)
              have c4 := (b2.cell (p := ⟨b, off + k * 2 + 1, none⟩) hb).trans (HW.out.cv k hlt)
              have c5 := r2.cs (F k).toNat (by omega)
              have f5 := r2.fz (F k).toNat (by omega)
              have R2 := Lib.hid r2
              have T2 := Lib.hid t2
              have B2 := Lib.hid b2
              clear g2 c1 c2 r2 t2 b2
              go_wp2_with fail
            all_goals
              go_region
            all_goals
              go_wp2_with fail
              go_roundw
              case rel => exact ⟨k + 1, by omega, by go_num, T2.out.of_heap (Below.heap_setCell w2 _ _ w.heap.size (by simp)), (by
                have e : after c F V (k + 1) = put (after c F V k) (F k).toNat (V k) := heard_put HN.out
                rw [e]
                exact (R2.out.set (F k).toNat (by omega) (V k)).of_heap rfl), (B2.out.setCell (by simp) _).drew, (by simpa [World.setCell] using z2)⟩
              case measure => simp [intOf]; omega
      · have hs := after_mem c F V k
        obtain ⟨s, hsd⟩ : ∃ s, s = after c F V k := ⟨_, rfl⟩
        rw [← hsd] at tk rk hs
        clear hsd HW
        have hm := ofV_mem (n := c) hs r
        clear hs
        obtain ⟨β, hβ⟩ : ∃ β, allV c s v = β := ⟨_, rfl⟩
        have HA := Lib.hid hβ
        clear hβ
        obtain ⟨γ, hγ⟩ : ∃ γ : Bool, (decide (v = 2) && a) = γ := ⟨_, rfl⟩
        obtain ⟨tg, htg⟩ : ∃ tg, tagV v a = tg := ⟨_, rfl⟩
        obtain ⟨x, hx⟩ : ∃ x, ofV c s r = x := ⟨_, rfl⟩
        obtain ⟨f, hf⟩ : ∃ f, max (ofV c s r) 1 = f := ⟨_, rfl⟩
        have HG := Lib.hid hγ
        have HTG := Lib.hid htg
        have HX := Lib.hid hx
        have HF := Lib.hid hf
        have HM := Lib.hid hm
        clear hγ htg hx hf hm
        go_upto_region 14 with fail
        go_cut [95] (fun z wx => z = .bool γ ∧ wx = wr)
        case first =>
          by_cases hv : v = 2
          · have HA' := Lib.hid (show a = γ by rw [← HG.out, hv]; simp)
            subst hv
            go_wp2_with fail
            go_meet
            case rel => exact ⟨congrArg Value.bool HA'.out, rfl⟩
          · have e2 : (v == 2) = false := by rw [beq_eq_false_iff_ne]; exact hv
            have HA' := Lib.hid (show false = γ by rw [← HG.out]; simp [hv])
            clear hv
            go_wp2_with fail
            go_meet
            case rel => exact ⟨congrArg Value.bool HA'.out, rfl⟩
        case rest =>
          obtain ⟨rfl, hw⟩ := hcut
          rw [hw]
          clear hw
          go_upto_if 95 with fail
          go_cut [15] (fun z wx => z = .int .i64 tg ∧ wx = wr)
          case first =>
            cases γ
            · have HA' := Lib.hid (show (1 : Int) = tg by
                rw [← HTG.out]; unfold tagV; have := HG.out; rw [if_neg (by simpa using this)])
              go_wp2_with fail
              go_meet
              case rel => exact ⟨congrArg (Value.int .i64) HA'.out, rfl⟩
            · have HA' := Lib.hid (show (2 : Int) = tg by
                rw [← HTG.out]; unfold tagV; have := HG.out; rw [if_pos (by simpa using this)])
              go_wp2_with fail
              go_meet
              case rel => exact ⟨congrArg (Value.int .i64) HA'.out, rfl⟩
          case rest =>
            obtain ⟨rfl, hw⟩ := hcut
            rw [hw]
            clear hw
            go_wp2_with fail
            refine (refOf_any _ c s r _ c7 rk x HX.out).mono ?_
            rintro e w2 ⟨rfl, rfl⟩
            go_upto_if 99 with fail
            go_cut [16] (fun z wx => z = .int .i64 f ∧ wx = wr)
            case first =>
              by_cases hx2 : x = 2
              · have e2 : (x == 2) = true := by rw [beq_iff_eq]; exact hx2
                have HA' := Lib.hid (show (2 : Int) = f by rw [← HF.out, HX.out, hx2]; rfl)
                clear hx2
                go_wp2_with fail
                go_meet
                case rel => exact ⟨congrArg (Value.int .i64) HA'.out, rfl⟩
              · have e2 : (x == 2) = false := by rw [beq_eq_false_iff_ne]; exact hx2
                have HA' := Lib.hid (show (1 : Int) = f by have h1 := HM.out; have h2 := HX.out; have h3 := HF.out; omega)
                clear hx2
                go_wp2_with fail
                go_meet
                case rel => exact ⟨congrArg (Value.int .i64) HA'.out, rfl⟩
            case rest =>
              obtain ⟨rfl, hw⟩ := hcut
              rw [hw]
              clear hw
              go_wp2_with fail
              refine (of_val _ c s r _ x tk HX.out).mono ?_
              rintro e w3 ⟨rfl, rfl⟩
              go_wp2_with fail
              refine (refOf_any _ c s r _ c7 rk x HX.out).mono ?_
              rintro e w4 ⟨rfl, rfl⟩
              go_wp2_with fail
              refine (for_val _ c s r _ f tk HF.out).mono ?_
              rintro e w5 ⟨rfl, rfl⟩
              go_wp2_with fail
              refine (all_val _ c s v _ β tk HA.out).mono ?_
              rintro e w6 ⟨rfl, t6, b6⟩
              have b7 := bk.trans (b6.mono bk.size)
              have r7 := rk.of_heap (b6.block _ zk)
              clear bk b6 tk rk
              go_wp2_with fail
              refine (refAll_any _ c s v _ c7 r7 β HA.out).mono ?_
              rintro e w7 ⟨rfl, rfl⟩
              go_wp2_with fail
              refine (tag_val v a _ tg HTG.out).mono ?_
              rintro e w8 ⟨rfl, rfl⟩
              go_wp2_with fail
              refine (awake_any _).mono ?_
              rintro e w9 ⟨rfl, b9⟩
              have b9 := b7.trans (b9.mono b7.size)
              clear b7
              go_wp2_with fail
              go_ret
              exact ⟨rfl, b9⟩
end Go.Proofs.Ytbgnclkpjajpmaa.P
