/- Several texts in one. -/
import Derived.Test.YtkgjfagejnppbaaGreatDoorCompH
import Derived.Deep.RegionHeld3

/- The contract of find. -/
namespace Go.Proofs.YtkgjfagejnppbaaGreatDoor.K
open Go.RowKit M T
set_option linter.unusedVariables false
set_option linter.unusedSimpArgs false

theorem made_tab (n : Nat) : madeCells (Value.int .i64 0).cells n = tab n fun _ => 0 := by
  apply Array.ext_getElem?
  intro j
  by_cases hj : j < n
  · rw [tab_get n _ j hj]
    simp [madeCells, Value.cells, hj, Nat.mod_one]
  · have h2 : (tab n fun _ => 0)[j]? = none := by rw [Array.getElem?_eq_none_iff, tab_size]; omega
    rw [h2, Array.getElem?_eq_none_iff]
    simp [madeCells]; omega
theorem make_ints (n : Nat) (hn : n ≤ 10000) (w : World) : (Instr.makeSlice 87 (.int .i64 (n : Int)) (.int .i64 (n : Int))).run Tryz.prog w = .ok (.slice (some ⟨w.heap.size, 0, none⟩) n n) (w.alloc (.cells (tab n fun _ => 0) 3)) := by
  obtain ⟨i0, hi, hz0, hz1, hz2⟩ := info_parts info_int
  have h := run_make (P := Tryz.prog) w 87 3 i0 _ Tryz.underlying87 hi hz0 .i64 .i64 (n : Int) (n : Int) (by omega) (Int.le_refl _) (by rw [hz2]; omega) (by omega)
  simp only [Int.toNat_natCast, hz1, Nat.mul_one] at h
  rw [made_tab] at h
  exact h
/-- a finder, made -/
def Made (w : World) (n : Nat) (eo : Option Addr) (ec : Nat) (v : Value) (wx : World) : Prop :=
  ∃ b gN gL gO, v = .pointer (some ⟨b, 0, none⟩) ∧ wx.heap[b]? = some (.cells #[.slice eo n ec, .slice (some ⟨gN, 0, none⟩) n n, .slice (some ⟨gL, 0, none⟩) n n, .slice (some ⟨gO, 0, none⟩) n n, .slice none 0 0, .int .i64 0, .slice none 0 0] 117 (0, 0)) ∧
    wx.heap[gN]? = some (.cells (tab n fun _ => 0) 3 (0, 0)) ∧ wx.heap[gL]? = some (.cells (tab n fun _ => 0) 3 (0, 0)) ∧ wx.heap[gO]? = some (.cells (tab n fun _ => 0) 3 (0, 0)) ∧
    (gN ≠ gL ∧ gN ≠ gO ∧ gL ≠ gO) ∧ (w.heap.size ≤ b ∧ w.heap.size ≤ gN ∧ w.heap.size ≤ gL ∧ w.heap.size ≤ gO) ∧ Below w.heap.size w wx
theorem made_of (w : World) (n : Nat) (eo : Option Addr) (ec gN gL gO bb : Nat) (h1 : w.heap.size ≤ gN ∧ gN < w.heap.size + 3) (h2 : w.heap.size ≤ gL ∧ gL < w.heap.size + 3) (h3 : w.heap.size ≤ gO ∧ gO < w.heap.size + 3) (hne : gN ≠ gL ∧ gN ≠ gO ∧ gL ≠ gO) (hb : bb = w.heap.size + 3) :
    Made w n eo ec (.pointer (some ⟨bb, 0, none⟩)) ((((w.alloc (.cells (tab n fun _ => 0) 3)).alloc (.cells (tab n fun _ => 0) 3)).alloc (.cells (tab n fun _ => 0) 3)).alloc (.cells #[.slice eo n ec, .slice (some ⟨gN, 0, none⟩) n n, .slice (some ⟨gL, 0, none⟩) n n, .slice (some ⟨gO, 0, none⟩) n n, .slice none 0 0, .int .i64 0, .slice none 0 0] 117)).drew := by
  have hrow : ∀ g, w.heap.size ≤ g ∧ g < w.heap.size + 3 → ((((w.alloc (.cells (tab n fun _ => 0) 3)).alloc (.cells (tab n fun _ => 0) 3)).alloc (.cells (tab n fun _ => 0) 3)).alloc (.cells #[.slice eo n ec, .slice (some ⟨gN, 0, none⟩) n n, .slice (some ⟨gL, 0, none⟩) n n, .slice (some ⟨gO, 0, none⟩) n n, .slice none 0 0, .int .i64 0, .slice none 0 0] 117)).heap[g]? = some (.cells (tab n fun _ => 0) 3 (0, 0)) := by
    intro g hg
    rw [heap_al, if_neg (by simp; omega), heap_al]
    by_cases e3 : g = ((w.alloc (.cells (tab n fun _ => 0) 3)).alloc (.cells (tab n fun _ => 0) 3)).heap.size
    · rw [if_pos e3]
    · rw [if_neg e3, heap_al]
      by_cases e2 : g = (w.alloc (.cells (tab n fun _ => 0) 3)).heap.size
      · rw [if_pos e2]
      · rw [if_neg e2, heap_al]
        have e1 : g = w.heap.size := by simp at e2 e3; omega
        rw [if_pos e1]
  refine ⟨bb, gN, gL, gO, rfl, ?_, hrow gN h1, hrow gL h2, hrow gO h3, hne, ⟨by omega, h1.1, h2.1, h3.1⟩, ?_⟩
  · show (World.alloc _ _).heap[_]? = _
    rw [heap_al, if_pos (by simp; omega)]
  · exact (((((Below.refl _ _).alloc (Nat.le_refl _) _).alloc (by simp) _).alloc (by simp; omega) _).alloc (by simp; omega) _).drew
set_option maxRecDepth 100000 in
set_option maxHeartbeats 4000000 in
theorem find_any (E : Nat → List Int) (n : Nat) (eo : Option Addr) (ec : Nat) (w : World) (hEd : EdAt w.heap.size w eo n ec E) (hn : n ≤ 10000) :
    Calls Tryz.prog 51 #[.slice eo n ec] w fun e w' => ∃ b, e = .returned (.pointer (some ⟨b, 0, none⟩)) ∧ ∃ m s, (FD E n w.heap.size w eo ec w' b m s ∧ ∀ v, v < n → s.num v ≠ 0) := by
  have HED := Lib.hid hEd
  clear hEd
  have hmk := make_ints n hn
  go_enter Tryz.func51, Tryz.ntmps51
  go_upto_region 2 with fail
  go_cut [4] (fun v wx => Made w n eo ec v wx)
  case first =>
    go_region
    all_goals
      (first | go_meet | (go_wp2_with fail; go_meet))
    all_goals exact made_of w n eo ec _ _ _ _ (by omega) (by omega) (by omega) (by omega) (by omega)
  case rest =>
    obtain ⟨b, gN, gL, gO, rfl, hblk, hN, hL, hO, hne, hlo, hbel⟩ := hcut
    have h0 : FM w.heap.size n wc b ⟨eo, ec, gN, gL, gO, none, 0, none, 0, []⟩ ⟨fun _ => 0, fun _ => 0, fun _ => none, [], 0, []⟩ (fun _ => 0) :=
      ⟨hlo, hblk, hN, hL, hO, World.ownsRow_nil _ _ _ _, World.ownsRow_nil _ _ _ _, rfl, fun i c r h => (by simp at h), hne, fun a h => (by cases h), fun r h => (by cases h)⟩
    have HF0 := Lib.hid h0
    have HB0 := Lib.hid hbel
    clear hblk hN hL hO hne hlo hbel h0
    go_wp2_with fail
    go_loopw [19] (fun iv wr => ∃ k : Nat, iv = .int .i64 k ∧ k ≤ n ∧ FM w.heap.size n wr b ⟨eo, ec, gN, gL, gO, none, 0, none, 0, []⟩ ⟨fun _ => 0, fun _ => 0, fun _ => none, [], 0, []⟩ (fun y => if y < k then -1 else 0) ∧ Below w.heap.size w wr) (fun iv _ => n - (intOf iv).toNat)
    case atStart => exact ⟨0, rfl, Nat.zero_le _, by simpa using HF0.out, HB0.out⟩
    case round =>
      obtain ⟨k, rfl, hk, hf, hb⟩ := hrel
      have HF := Lib.hid hf
      have HB := Lib.hid hb
      by_cases hlt : k < n
      · obtain ⟨c0, c1, c2, c3, c4, c5, c6, cf⟩ := hf.cells
        obtain ⟨ko, fo⟩ := row_cell hf.ho k hlt
        have hkn : (k : Int) < (n : Int) := by omega
        have hgo := hf.lo.2.2.2
        clear hf hb
        go_wp2_with fail
        go_roundw
        case rel =>
          refine ⟨k + 1, by go_num, by omega, ?_, HB.out.setCell (p := ⟨gO, k, none⟩) hgo _⟩
          have h := HF.out.set_of k (-1)
          have e : upd (fun y => if y < k then (-1 : Int) else 0) k (-1) = fun y => if y < k + 1 then -1 else 0 := by
            funext y
            simp only [upd]
            by_cases e1 : y = k
            · simp [e1]
            · rw [if_neg e1]
              by_cases e2 : y < k
              · rw [if_pos e2, if_pos (by omega)]
              · rw [if_neg e2, if_neg (by omega)]
          rw [e] at h
          exact h
        case measure => simp [intOf]; omega
      · obtain rfl : k = n := by omega
        have hkn : ¬ ((k : Nat) : Int) < (k : Int) := by omega
        have hf2 : FM w.heap.size k wr b ⟨eo, ec, gN, gL, gO, none, 0, none, 0, []⟩ ⟨fun _ => 0, fun _ => 0, fun _ => none, [], 0, []⟩ (ofI ⟨fun _ => 0, fun _ => 0, fun _ => none, [], 0, []⟩) := by
          refine ⟨hf.lo, hf.blk, hf.hn, hf.hl, ?_, hf.stk, hf.cmp, hf.rl, hf.row, hf.ne, hf.sne, hf.rne⟩
          rw [hf.ho, tab_congr k _ (ofI ⟨fun _ => 0, fun _ => 0, fun _ => none, [], 0, []⟩) (fun y hy => by simp [hy, ofI])]
        have HFD := Lib.hid (show FD E k w.heap.size w eo ec wr b ⟨eo, ec, gN, gL, gO, none, 0, none, 0, []⟩ ⟨fun _ => 0, fun _ => 0, fun _ => none, [], 0, []⟩ from
          ⟨hf2, Inv.zero E k _, ⟨rfl, rfl⟩, ⟨Nat.le_refl _, by show 0 + unv k (fun _ => 0) = k; rw [unv_zero]; omega⟩, hb⟩)
        clear hf hb hf2
        go_wp2_with fail
        go_loopw [30] (fun iv wr2 => ∃ (q : Nat) (m : Lay) (s : St), iv = .int .i64 q ∧ q ≤ k ∧ FD E k w.heap.size w eo ec wr2 b m s ∧ ∀ v, v < q → s.num v ≠ 0) (fun iv _ => k - (intOf iv).toNat)
        case atStart => exact ⟨0, _, _, rfl, Nat.zero_le _, HFD.out, fun v hv => by omega⟩
        case round =>
          obtain ⟨q, m, s, rfl, hq, hfd, hall⟩ := hrel
          have HFD2 := Lib.hid hfd
          have HALL := Lib.hid hall
          by_cases hlt2 : q < k
          · obtain ⟨c0, c1, c2, c3, c4, c5, c6, cf⟩ := hfd.fm.cells
            obtain ⟨kn, fn⟩ := row_cell hfd.fm.hn q hlt2
            have hqk : (q : Int) < (k : Int) := by omega
            by_cases h0 : s.num q = 0
            · have e1 : ((s.num q : Int) == 0) = true := by rw [beq_iff_eq]; omega
              have H0 := Lib.hid h0
              clear hfd hall h0
              go_wp2_with fail
              refine (walk_any E k w.heap.size w eo ec wr b m s HED.out HFD2.out q hlt2 H0.out hn).mono ?_
              rintro e w5 ⟨rfl, m5, s5, hfd5, hq5, hmono⟩
              have HFD5 := Lib.hid hfd5
              have HM5 := Lib.hid (And.intro hq5 hmono)
              clear hfd5 hq5 hmono
              go_wp2_with fail
              go_roundw
              case rel => exact ⟨q + 1, m5, s5, by go_num, by omega, HFD5.out, fun v hv => by
                by_cases e : v = q
                · subst e; exact HM5.out.1
                · exact HM5.out.2 v (HALL.out v (by omega))⟩
              case measure => simp [intOf]; omega
            · have e1 : ((s.num q : Int) == 0) = false := by rw [beq_eq_false_iff_ne]; omega
              have H0 := Lib.hid h0
              clear hfd hall h0
              go_wp2_with fail
              go_roundw
              case rel => exact ⟨q + 1, m, s, by go_num, by omega, HFD2.out, fun v hv => by
                by_cases e : v = q
                · subst e; exact H0.out
                · exact HALL.out v (by omega)⟩
              case measure => simp [intOf]; omega
          · obtain rfl : q = k := by omega
            have hqk : ¬ ((q : Nat) : Int) < (q : Int) := by omega
            clear hfd hall
            go_wp2_with fail
            go_ret
            exact ⟨b, rfl, m, s, HFD2.out, HALL.out⟩
end Go.Proofs.YtkgjfagejnppbaaGreatDoor.K

/- What a found graph knows; the contract of ready, of the closure about it, of slices.IndexFunc with that. -/
namespace Go.Proofs.YtkgjfagejnppbaaGreatDoor.K
open Go.RowKit M T
set_option linter.unusedVariables false
set_option linter.unusedSimpArgs false

/-- components, and which one each node is in -/
structure Comp (E : Nat → List Int) (n : Nat) (C : List (List Nat)) (q : Nat → Nat) : Prop where
  d1 : ∀ v, v < n → ∃ c, C[q v]? = some c ∧ v ∈ c
  d2 : ∀ i c v, C[i]? = some c → v ∈ c → v < n ∧ q v = i
  d3 : ∀ c ∈ C, c.Pairwise (· < ·) ∧ c ≠ []
  d4 : ∀ u w, T.Edge E n u w → q w ≤ q u
  d5 : ∀ u w, u < n → w < n → q u = q w → Path E n u w
def qOf (s : St) (v : Nat) : Nat := (s.ofc v).getD 0
theorem comp_of {E : Nat → List Int} {n : Nat} {s : St} (h : Inv E n s []) (hall : ∀ v, v < n → s.num v ≠ 0) : Comp E n s.comps (qOf s) ∧ ∀ v, v < n → ofI s v = (qOf s v : Int) := by
  have hof : ∀ v, v < n → s.ofc v = some (qOf s v) := fun v hv => by
    obtain ⟨i, hi⟩ := h.all (hall v hv)
    rw [hi]; simp [qOf, hi]
  have hcm : ∀ (i : Nat) c v, s.comps[i]? = some c → v ∈ c → v < n ∧ qOf s v = i := fun i c v hc hv => by
    obtain ⟨h1, h2⟩ := h.i0.cm i c v hc hv
    exact ⟨(h.i0.num v h2).1, by simp [qOf, h1]⟩
  refine ⟨⟨fun v hv => h.i0.ofs v _ (hof v hv), hcm, h.i0.cs, fun u w he => ?_, fun u w hu hw e => ?_⟩, fun v hv => ofI_some (hof v hv)⟩
  · obtain ⟨j, hj, hle⟩ := h.i0.cl u w _ (hof u he.1) he
    rw [hof w he.2.1] at hj
    have := Option.some.inj hj
    omega
  · exact h.i0.sc u w _ (hof u hu) (by rw [hof w hw, e])

/-- an edge that holds nothing up -/
def okEdge (n : Nat) (q : Nat → Nat) (come : Nat → Bool) (ci : Nat) (x : Int) : Bool := !(decide (0 ≤ x ∧ x < (n : Int)) && (decide (q x.toNat ≠ ci) && !come (q x.toNat)))
def okNode (E : Nat → List Int) (n : Nat) (q : Nat → Nat) (come : Nat → Bool) (ci v : Nat) : Bool := (E v).all (okEdge n q come ci)
def rdy (E : Nat → List Int) (n : Nat) (C : List (List Nat)) (q : Nat → Nat) (come : Nat → Bool) (ci : Nat) : Bool := (C.getD ci []).all (okNode E n q come ci)
/-- a row of truths -/
def tabB (n : Nat) (f : Nat → Bool) : Array Value := ((List.range n).map fun v => Value.bool (f v)).toArray
theorem tabB_size (n : Nat) (f : Nat → Bool) : (tabB n f).size = n := by simp [tabB]
theorem tabB_get (n : Nat) (f : Nat → Bool) (v : Nat) (h : v < n) : (tabB n f)[v]? = some (.bool (f v)) := by simp [tabB, h]
theorem tabB_set (n : Nat) (f : Nat → Bool) (v : Nat) (x : Bool) : (tabB n f).setIfInBounds v (.bool x) = tabB n (upd f v x) := by
  apply Array.ext_getElem?
  intro j
  rw [Array.getElem?_setIfInBounds]
  by_cases hj : j < n
  · rw [tabB_get n _ j hj, tabB_get n _ j hj, tabB_size]
    by_cases e : v = j
    · subst e; simp [upd_same, hj]
    · rw [if_neg e, upd_other f x (fun e2 => e e2.symm)]
  · have h1 : (tabB n f)[j]? = none := by rw [Array.getElem?_eq_none_iff, tabB_size]; omega
    have h2 : (tabB n (upd f v x))[j]? = none := by rw [Array.getElem?_eq_none_iff, tabB_size]; omega
    rw [h1, h2, tabB_size]
    by_cases e : v = j
    · subst e; simp [hj]
    · rw [if_neg e]
theorem rowB_cell {w : World} {g n : Nat} {f : Nat → Bool} {T : TypeId} (h : w.heap[g]? = some (.cells (tabB n f) T (0, 0))) (v : Nat) (hv : v < n) : w.cell? ⟨g, v, none⟩ = some (.bool (f v)) ∧ w.frozen? ⟨g, v, none⟩ = false :=
  ⟨(cell_of_row w g v _ _ (0, 0) h).trans (tabB_get n f v hv), by simp [World.frozen?, h]⟩
theorem hdrs_get {R : List (Option Addr × Nat)} {C : List (List Nat)} {i : Nat} {r : Option Addr × Nat} {c : List Nat} (hr : R[i]? = some r) (hc : C[i]? = some c) : (hdrs R C)[i]? = some (.slice r.1 c.length r.2) := by
  simp [hdrs, List.getElem?_zipWith, hr, hc]

/-- all that is read of a finder -/
structure RD (E : Nat → List Int) (n : Nat) (w : World) (b : Nat) (C : List (List Nat)) (q : Nat → Nat) (eo : Option Addr) (ec : Nat) : Prop where
  hd : ∃ go co cc, w.cell? ⟨b, 0, none⟩ = some (.slice eo n ec) ∧ w.cell? ⟨b, 3, none⟩ = some (.slice (some ⟨go, 0, none⟩) n n) ∧ w.cell? ⟨b, 6, none⟩ = some (.slice co C.length cc) ∧ C.length ≤ cc ∧ cc ≤ maxLen ∧
    (∀ v, v < n → w.cell? ⟨go, v, none⟩ = some (.int .i64 (q v : Int))) ∧
    ∀ i c, C[i]? = some c → ∃ gc gr cr, co = some ⟨gc, 0, none⟩ ∧ w.cell? ⟨gc, i, none⟩ = some (.slice (some ⟨gr, 0, none⟩) c.length cr) ∧ c.length ≤ cr ∧ cr ≤ maxLen ∧ ∀ (j v : Nat), c[j]? = some v → w.cell? ⟨gr, j, none⟩ = some (.int .i64 (v : Int))
theorem RD.of {E : Nat → List Int} {n B : Nat} {W0 w : World} {eo : Option Addr} {ec b : Nat} {m : Lay} {s : St} (h : FD E n B W0 eo ec w b m s) (hall : ∀ v, v < n → s.num v ≠ 0) : RD E n w b s.comps (qOf s) eo ec := by
  obtain ⟨hc, hq⟩ := comp_of h.inv hall
  obtain ⟨c0, c1, c2, c3, c4, c5, c6, cf⟩ := h.fm.cells
  rw [h.he.1, h.he.2] at c0
  obtain ⟨_, _, e0, hle, hmx, _⟩ := own_view h.fm.cmp
  cases e0
  refine ⟨m.gO, m.co, m.cc, c0, c3, c6, hle, hmx, fun v hv => ?_, fun i c hi => ?_⟩
  · rw [(row_cell h.fm.ho v hv).1, hq v hv]
  · have hil := (List.getElem?_eq_some_iff.1 hi).1
    obtain ⟨gc, hgc, _, _, _, hcell⟩ := rowcell h.fm.cmp (by omega)
    obtain ⟨r, hr⟩ : ∃ r, m.R[i]? = some r := ⟨_, List.getElem?_eq_getElem (by rw [h.fm.rl]; exact hil)⟩
    have hne := (hc.d3 c (List.mem_of_getElem? hi)).2
    have hrow := h.fm.row i c r hi hr
    obtain ⟨gr, hgr, _, h1, h2, hcr⟩ := rowcell hrow (List.length_pos_iff.2 hne)
    refine ⟨gc, gr, r.2, hgc, ?_, h1, h2, fun j v hj => (hcr j _ (iv_get _ _ _ hj)).1⟩
    rw [← hgr]
    exact (hcell i _ (hdrs_get hr hi)).1

theorem all_take {α : Type} {l : List α} {f : α → Bool} {k : Nat} {x : α} (h : (l.take k).all f = true) (hx : l[k]? = some x) (hf : f x = true) : (l.take (k + 1)).all f = true := by
  rw [List.take_add_one, hx, List.all_append, h]
  simp [hf]
theorem all_no {α : Type} {l : List α} {f : α → Bool} {k : Nat} {x : α} (hx : l[k]? = some x) (hf : f x = false) : l.all f = false := by
  rw [← Bool.not_eq_true, List.all_eq_true]
  intro h
  have := h x (List.mem_of_getElem? hx)
  rw [hf] at this
  cases this
set_option maxRecDepth 100000 in
set_option maxHeartbeats 1000000 in
theorem ready_any (E : Nat → List Int) (n B : Nat) (w : World) (b : Nat) (C : List (List Nat)) (q : Nat → Nat) (eo : Option Addr) (ec : Nat) (hEd : EdAt B w eo n ec E) (hC : Comp E n C q) (h : RD E n w b C q eo ec) (ci gB : Nat) (come : Nat → Bool) (hci : ci < C.length) (hn : n ≤ 10000)
    (hcome : ∀ i, i < C.length → w.cell? ⟨gB, i, none⟩ = some (.bool (come i))) (hCl : C.length ≤ 10000) :
    Calls Tryz.prog 56 #[.pointer (some ⟨b, 0, none⟩), .int .i64 ci, .slice (some ⟨gB, 0, none⟩) C.length C.length] w fun e w' => e = .returned (.bool (rdy E n C q come ci)) ∧ w = w' := by
  obtain ⟨go, co, cc, c0, c3, c6, hle, hmx, hq, hrows⟩ := h.hd
  obtain ⟨c, hc⟩ : ∃ c, C[ci]? = some c := ⟨_, List.getElem?_eq_getElem hci⟩
  obtain ⟨gc, gr, cr, rfl, ch, hcr1, hcr2, hcell⟩ := hrows ci c hc
  have hgD : C.getD ci [] = c := by simp [List.getD, hc]
  have HED := Lib.hid hEd
  have HC := Lib.hid hC
  have HQ := Lib.hid hq
  have HCE := Lib.hid hcell
  have HCC := Lib.hid hc
  have HCO := Lib.hid hcome
  have HGD := Lib.hid hgD
  have hecl := hEd.le
  have hcil : (ci : Int) < (C.length : Int) := by omega
  have hcl : c.length ≤ 9223372036854775807 := by unfold maxLen at hcr2; omega
  clear hEd hC h hq hrows hcell hc hcome hgD
  go_enter Tryz.func56, Tryz.ntmps56
  go_wp2_with fail
  go_loopw [19] (fun iv wr => ∃ k : Nat, iv = .int .i64 k ∧ k ≤ c.length ∧ wr = w ∧ (c.take k).all (okNode E n q come ci) = true) (fun iv _ => c.length - (intOf iv).toNat)
  case atStart => exact ⟨0, rfl, Nat.zero_le _, rfl, rfl⟩
  case round =>
    obtain ⟨k, rfl, hk, rfl, hal⟩ := hrel
    have HAL := Lib.hid hal
    clear hal
    by_cases hlt : k < c.length
    · obtain ⟨v, hv⟩ : ∃ v, c[k]? = some v := ⟨_, List.getElem?_eq_getElem hlt⟩
      have cv := HCE.out k v hv
      have hvn : v < n := (HC.out.d2 ci c v HCC.out (List.mem_of_getElem? hv)).1
      obtain ⟨ge, off, ro, rc, rfl, hge, ce, hel, hem, hex⟩ := HED.out.row v hvn
      have HEX := Lib.hid hex
      have HV := Lib.hid hv
      have hkl : (k : Int) < (c.length : Int) := by omega
      have hvi : (v : Int) < (n : Int) := by omega
      have hem' : (E v).length ≤ 9223372036854775807 := by unfold maxLen at hem; omega
      clear hex hv
      go_wp2_with fail
      go_loopw [31] (fun iv wr2 => ∃ j : Nat, iv = .int .i64 j ∧ j ≤ (E v).length ∧ wr2 = wr ∧ ((E v).take j).all (okEdge n q come ci) = true) (fun iv _ => (E v).length - (intOf iv).toNat)
      case atStart => exact ⟨0, rfl, Nat.zero_le _, rfl, rfl⟩
      case round =>
        obtain ⟨j, rfl, hj, rfl, haj⟩ := hrel
        have HAJ := Lib.hid haj
        clear haj
        by_cases hjl : j < (E v).length
        · obtain ⟨x, hx⟩ : ∃ x, (E v)[j]? = some x := ⟨_, List.getElem?_eq_getElem hjl⟩
          obtain ⟨pb, po, rfl, hpB, cx⟩ := HEX.out j x hx
          have hji : (j : Int) < ((E v).length : Int) := by omega
          have HX := Lib.hid hx
          clear hx
          by_cases hx0 : x < 0
          · have HOK := Lib.hid (show okEdge n q come ci x = true by unfold okEdge; rw [decide_eq_false (by omega)]; rfl)
            go_wp2_with fail
            go_roundw
            case rel => exact ⟨j + 1, by go_num, by omega, by trivial, all_take HAJ.out HX.out HOK.out⟩
            case measure => simp [intOf]; omega
          · by_cases hxn : (n : Int) ≤ x
            · have HOK := Lib.hid (show okEdge n q come ci x = true by unfold okEdge; rw [decide_eq_false (by omega)]; rfl)
              go_wp2_with fail
              go_roundw
              case rel => exact ⟨j + 1, by go_num, by omega, by trivial, all_take HAJ.out HX.out HOK.out⟩
              case measure => simp [intOf]; omega
            · obtain ⟨xn, rfl⟩ : ∃ xn : Nat, x = xn := ⟨x.toNat, by omega⟩
              have hxl : xn < n := by omega
              have hxi : (xn : Int) < (n : Int) := by omega
              have hx0' : ¬ ((xn : Int) < 0) := by omega
              have cq := HQ.out xn hxl
              obtain ⟨c', hc', _⟩ := HC.out.d1 xn hxl
              have hql : q xn < C.length := (List.getElem?_eq_some_iff.1 hc').1
              have hqi : (q xn : Int) < (C.length : Int) := by omega
              clear hc'
              by_cases hqc : q xn = ci
              · have HOK := Lib.hid (show okEdge n q come ci xn = true by unfold okEdge; simp [hqc])
                have e1 : ((q xn : Int) != (ci : Int)) = false := by rw [bne_eq_false_iff_eq]; omega
                clear hqc
                go_wp2_with fail
                go_roundw
                case rel => exact ⟨j + 1, by go_num, by omega, by trivial, all_take HAJ.out HX.out HOK.out⟩
                case measure => simp [intOf]; omega
              · have e1 : ((q xn : Int) != (ci : Int)) = true := by rw [bne_iff_ne]; omega
                have cb := HCO.out (q xn) hql
                cases hcm : come (q xn) with
                | true =>
                  rw [hcm] at cb
                  have HOK := Lib.hid (show okEdge n q come ci xn = true by unfold okEdge; simp [hcm])
                  clear hqc hcm
                  go_wp2_with fail
                  go_roundw
                  case rel => exact ⟨j + 1, by go_num, by omega, by trivial, all_take HAJ.out HX.out HOK.out⟩
                  case measure => simp [intOf]; omega
                | false =>
                  rw [hcm] at cb
                  have HNO := Lib.hid (show okEdge n q come ci xn = false by unfold okEdge; simp [hcm, hqc, hxl])
                  have HRD := Lib.hid (show rdy E n C q come ci = false by
                    unfold rdy
                    rw [HGD.out]
                    exact all_no HV.out (all_no HX.out HNO.out))
                  clear hqc hcm
                  go_wp2_with fail
                  go_ret
                  exact ⟨by rw [HRD.out]; rfl, by trivial⟩
        · have hji : ¬ (j : Int) < ((E v).length : Int) := by omega
          have hjt : (E v).take j = E v := List.take_of_length_le (by omega)
          rw [hjt] at HAJ
          have HOK := Lib.hid (show okNode E n q come ci v = true from HAJ.out)
          clear hjt
          go_wp2_with fail
          go_roundw
          case rel => exact ⟨k + 1, by go_num, by omega, by trivial, all_take HAL.out HV.out HOK.out⟩
          case measure => simp [intOf]; omega
    · have hkl : ¬ (k : Int) < (c.length : Int) := by omega
      have hkt : c.take k = c := List.take_of_length_le (by omega)
      rw [hkt] at HAL
      have HRD := Lib.hid (show rdy E n C q come ci = true by unfold rdy; rw [HGD.out]; exact HAL.out)
      clear hkt
      go_wp2_with fail
      go_ret
      exact ⟨by rw [HRD.out]; rfl, by trivial⟩
end Go.Proofs.YtkgjfagejnppbaaGreatDoor.K
