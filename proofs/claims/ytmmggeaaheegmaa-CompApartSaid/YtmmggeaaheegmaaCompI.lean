/- The contract of find. -/
import Derived.Test.YtmmggeaaheegmaaCompH
namespace Go.Proofs.Ytmmggeaaheegmaa.K
open Go.RowKit M T
set_option linter.unusedVariables false
set_option linter.unusedSimpArgs false

theorem made_tab (n : Nat) : madeCells (Value.int .i64 0).cells n = tab n fun _ => 0 := by
  apply Array.ext_getElem?
  intro j
  by_cases hj : j < n
  · rw [tab_get n _ j hj]
    simp [madeCells, Value.cells, hj, Nat.mod_one]
  · have h2 : (tab n fun _ => 0)[j]? = none := by rw [Array.getElem?_eq_none_iff, tab_size]; omega
    rw [h2, Array.getElem?_eq_none_iff]
    simp [madeCells]; omega
theorem make_ints (n : Nat) (hn : n ≤ 10000) (w : World) : (Instr.makeSlice 26 (.int .i64 (n : Int)) (.int .i64 (n : Int))).run Try.prog w = .ok (.slice (some ⟨w.heap.size, 0, none⟩) n n) (w.alloc (.cells (tab n fun _ => 0) 3)) := by
  obtain ⟨i0, hi, hz0, hz1, hz2⟩ := info_parts info_int
  have h := run_make (P := Try.prog) w 26 3 i0 _ Try.underlying26 hi hz0 .i64 .i64 (n : Int) (n : Int) (by omega) (Int.le_refl _) (by rw [hz2]; omega) (by omega)
  simp only [Int.toNat_natCast, hz1, Nat.mul_one] at h
  rw [made_tab] at h
  exact h
/-- a finder, made -/
def Made (w : World) (n : Nat) (eo : Option Addr) (ec : Nat) (v : Value) (wx : World) : Prop :=
  ∃ b gN gL gO, v = .pointer (some ⟨b, 0, none⟩) ∧ wx.heap[b]? = some (.cells #[.slice eo n ec, .slice (some ⟨gN, 0, none⟩) n n, .slice (some ⟨gL, 0, none⟩) n n, .slice (some ⟨gO, 0, none⟩) n n, .slice none 0 0, .int .i64 0, .slice none 0 0] 37 (0, 0)) ∧
    wx.heap[gN]? = some (.cells (tab n fun _ => 0) 3 (0, 0)) ∧ wx.heap[gL]? = some (.cells (tab n fun _ => 0) 3 (0, 0)) ∧ wx.heap[gO]? = some (.cells (tab n fun _ => 0) 3 (0, 0)) ∧
    (gN ≠ gL ∧ gN ≠ gO ∧ gL ≠ gO) ∧ (w.heap.size ≤ b ∧ w.heap.size ≤ gN ∧ w.heap.size ≤ gL ∧ w.heap.size ≤ gO) ∧ Below w.heap.size w wx
theorem made_of (w : World) (n : Nat) (eo : Option Addr) (ec gN gL gO bb : Nat) (h1 : w.heap.size ≤ gN ∧ gN < w.heap.size + 3) (h2 : w.heap.size ≤ gL ∧ gL < w.heap.size + 3) (h3 : w.heap.size ≤ gO ∧ gO < w.heap.size + 3) (hne : gN ≠ gL ∧ gN ≠ gO ∧ gL ≠ gO) (hb : bb = w.heap.size + 3) :
    Made w n eo ec (.pointer (some ⟨bb, 0, none⟩)) ((((w.alloc (.cells (tab n fun _ => 0) 3)).alloc (.cells (tab n fun _ => 0) 3)).alloc (.cells (tab n fun _ => 0) 3)).alloc (.cells #[.slice eo n ec, .slice (some ⟨gN, 0, none⟩) n n, .slice (some ⟨gL, 0, none⟩) n n, .slice (some ⟨gO, 0, none⟩) n n, .slice none 0 0, .int .i64 0, .slice none 0 0] 37)).drew := by
  have hrow : ∀ g, w.heap.size ≤ g ∧ g < w.heap.size + 3 → ((((w.alloc (.cells (tab n fun _ => 0) 3)).alloc (.cells (tab n fun _ => 0) 3)).alloc (.cells (tab n fun _ => 0) 3)).alloc (.cells #[.slice eo n ec, .slice (some ⟨gN, 0, none⟩) n n, .slice (some ⟨gL, 0, none⟩) n n, .slice (some ⟨gO, 0, none⟩) n n, .slice none 0 0, .int .i64 0, .slice none 0 0] 37)).heap[g]? = some (.cells (tab n fun _ => 0) 3 (0, 0)) := by
    intro g hg
    rw [heap_al, if_neg (by simp; omega), heap_al]
    by_cases e3 : g = ((w.alloc (.cells (tab n fun _ => 0) 3)).alloc (.cells (tab n fun _ => 0) 3)).heap.size
    · rw [if_pos e3]
    · rw [if_neg e3, heap_al]
      by_cases e2 : g = (w.alloc (.cells (tab n fun _ => 0) 3)).heap.size
      · rw [if_pos e2]
      · rw [if_neg e2, heap_al]
        have e1 : g = w.heap.size := by simp at e2 e3; omega
        rw [if_pos e1]
  refine ⟨bb, gN, gL, gO, rfl, ?_, hrow gN h1, hrow gL h2, hrow gO h3, hne, ⟨by omega, h1.1, h2.1, h3.1⟩, ?_⟩
  · show (World.alloc _ _).heap[_]? = _
    rw [heap_al, if_pos (by simp; omega)]
  · exact (((((Below.refl _ _).alloc (Nat.le_refl _) _).alloc (by simp) _).alloc (by simp; omega) _).alloc (by simp; omega) _).drew
set_option maxRecDepth 100000 in
set_option maxHeartbeats 4000000 in
theorem find_any (E : Nat → List Int) (n : Nat) (eo : Option Addr) (ec : Nat) (w : World) (hEd : EdAt w.heap.size w eo n ec E) (hn : n ≤ 10000) :
    Calls Try.prog 15 #[.slice eo n ec] w fun e w' => ∃ b, e = .returned (.pointer (some ⟨b, 0, none⟩)) ∧ ∃ m s, (FD E n w.heap.size w eo ec w' b m s ∧ ∀ v, v < n → s.num v ≠ 0) := by
  have HED := Lib.hid hEd
  clear hEd
  have hmk := make_ints n hn
  go_enter Try.func15, Try.ntmps15
  go_upto_region 2 with fail
  go_cut [4] (fun v wx => Made w n eo ec v wx)
  case first =>
    go_region
    all_goals
      (first | go_meet | (go_wp2_with fail; go_meet))
    all_goals exact made_of w n eo ec _ _ _ _ (by omega) (by omega) (by omega) (by omega) (by omega)
  case rest =>
    obtain ⟨b, gN, gL, gO, rfl, hblk, hN, hL, hO, hne, hlo, hbel⟩ := hcut
    have h0 : FM w.heap.size n wc b ⟨eo, ec, gN, gL, gO, none, 0, none, 0, []⟩ ⟨fun _ => 0, fun _ => 0, fun _ => none, [], 0, []⟩ (fun _ => 0) :=
      ⟨hlo, hblk, hN, hL, hO, World.ownsRow_nil _ _ _ _, World.ownsRow_nil _ _ _ _, rfl, fun i c r h => (by simp at h), hne, fun a h => (by cases h), fun r h => (by cases h)⟩
    have HF0 := Lib.hid h0
    have HB0 := Lib.hid hbel
    clear hblk hN hL hO hne hlo hbel h0
    go_wp2_with fail
    go_loopw [19] (fun iv wr => ∃ k : Nat, iv = .int .i64 k ∧ k ≤ n ∧ FM w.heap.size n wr b ⟨eo, ec, gN, gL, gO, none, 0, none, 0, []⟩ ⟨fun _ => 0, fun _ => 0, fun _ => none, [], 0, []⟩ (fun y => if y < k then -1 else 0) ∧ Below w.heap.size w wr) (fun iv _ => n - (intOf iv).toNat)
    case atStart => exact ⟨0, rfl, Nat.zero_le _, by simpa using HF0.out, HB0.out⟩
    case round =>
      obtain ⟨k, rfl, hk, hf, hb⟩ := hrel
      have HF := Lib.hid hf
      have HB := Lib.hid hb
      by_cases hlt : k < n
      · obtain ⟨c0, c1, c2, c3, c4, c5, c6, cf⟩ := hf.cells
        obtain ⟨ko, fo⟩ := row_cell hf.ho k hlt
        have hkn : (k : Int) < (n : Int) := by omega
        have hgo := hf.lo.2.2.2
        clear hf hb
        go_wp2_with fail
        go_roundw
        case rel =>
          refine ⟨k + 1, by go_num, by omega, ?_, HB.out.setCell (p := ⟨gO, k, none⟩) hgo _⟩
          have h := HF.out.set_of k (-1)
          have e : upd (fun y => if y < k then (-1 : Int) else 0) k (-1) = fun y => if y < k + 1 then -1 else 0 := by
            funext y
            simp only [upd]
            by_cases e1 : y = k
            · simp [e1]
            · rw [if_neg e1]
              by_cases e2 : y < k
              · rw [if_pos e2, if_pos (by omega)]
              · rw [if_neg e2, if_neg (by omega)]
          rw [e] at h
          exact h
        case measure => simp [intOf]; omega
      · obtain rfl : k = n := by omega
        have hkn : ¬ ((k : Nat) : Int) < (k : Int) := by omega
        have hf2 : FM w.heap.size k wr b ⟨eo, ec, gN, gL, gO, none, 0, none, 0, []⟩ ⟨fun _ => 0, fun _ => 0, fun _ => none, [], 0, []⟩ (ofI ⟨fun _ => 0, fun _ => 0, fun _ => none, [], 0, []⟩) := by
          refine ⟨hf.lo, hf.blk, hf.hn, hf.hl, ?_, hf.stk, hf.cmp, hf.rl, hf.row, hf.ne, hf.sne, hf.rne⟩
          rw [hf.ho, tab_congr k _ (ofI ⟨fun _ => 0, fun _ => 0, fun _ => none, [], 0, []⟩) (fun y hy => by simp [hy, ofI])]
        have HFD := Lib.hid (show FD E k w.heap.size w eo ec wr b ⟨eo, ec, gN, gL, gO, none, 0, none, 0, []⟩ ⟨fun _ => 0, fun _ => 0, fun _ => none, [], 0, []⟩ from
          ⟨hf2, Inv.zero E k _, ⟨rfl, rfl⟩, ⟨Nat.le_refl _, by show 0 + unv k (fun _ => 0) = k; rw [unv_zero]; omega⟩, hb⟩)
        clear hf hb hf2
        go_wp2_with fail
        go_loopw [30] (fun iv wr2 => ∃ (q : Nat) (m : Lay) (s : St), iv = .int .i64 q ∧ q ≤ k ∧ FD E k w.heap.size w eo ec wr2 b m s ∧ ∀ v, v < q → s.num v ≠ 0) (fun iv _ => k - (intOf iv).toNat)
        case atStart => exact ⟨0, _, _, rfl, Nat.zero_le _, HFD.out, fun v hv => by omega⟩
        case round =>
          obtain ⟨q, m, s, rfl, hq, hfd, hall⟩ := hrel
          have HFD2 := Lib.hid hfd
          have HALL := Lib.hid hall
          by_cases hlt2 : q < k
          · obtain ⟨c0, c1, c2, c3, c4, c5, c6, cf⟩ := hfd.fm.cells
            obtain ⟨kn, fn⟩ := row_cell hfd.fm.hn q hlt2
            have hqk : (q : Int) < (k : Int) := by omega
            by_cases h0 : s.num q = 0
            · have e1 : ((s.num q : Int) == 0) = true := by rw [beq_iff_eq]; omega
              have H0 := Lib.hid h0
              clear hfd hall h0
              go_wp2_with fail
              refine (walk_any E k w.heap.size w eo ec wr b m s HED.out HFD2.out q hlt2 H0.out hn).mono ?_
              rintro e w5 ⟨rfl, m5, s5, hfd5, hq5, hmono⟩
              have HFD5 := Lib.hid hfd5
              have HM5 := Lib.hid (And.intro hq5 hmono)
              clear hfd5 hq5 hmono
              go_wp2_with fail
              go_roundw
              case rel => exact ⟨q + 1, m5, s5, by go_num, by omega, HFD5.out, fun v hv => by
                by_cases e : v = q
                · subst e; exact HM5.out.1
                · exact HM5.out.2 v (HALL.out v (by omega))⟩
              case measure => simp [intOf]; omega
            · have e1 : ((s.num q : Int) == 0) = false := by rw [beq_eq_false_iff_ne]; omega
              have H0 := Lib.hid h0
              clear hfd hall h0
              go_wp2_with fail
              go_roundw
              case rel => exact ⟨q + 1, m, s, by go_num, by omega, HFD2.out, fun v hv => by
                by_cases e : v = q
                · subst e; exact H0.out
                · exact HALL.out v (by omega)⟩
              case measure => simp [intOf]; omega
          · obtain rfl : q = k := by omega
            have hqk : ¬ ((q : Nat) : Int) < (q : Int) := by omega
            clear hfd hall
            go_wp2_with fail
            go_ret
            exact ⟨b, rfl, m, s, HFD2.out, HALL.out⟩
end Go.Proofs.Ytmmggeaaheegmaa.K
