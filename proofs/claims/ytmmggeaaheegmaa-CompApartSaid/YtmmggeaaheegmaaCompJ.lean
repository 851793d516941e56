/- What a found graph knows; the contract of ready, of the closure about it, of slices.IndexFunc with that. -/
import Derived.Test.YtmmggeaaheegmaaCompI
import Derived.Deep.RegionHeld3
namespace Go.Proofs.Ytmmggeaaheegmaa.K
open Go.RowKit M T
set_option linter.unusedVariables false
set_option linter.unusedSimpArgs false

/-- components, and which one each node is in -/
structure Comp (E : Nat → List Int) (n : Nat) (C : List (List Nat)) (q : Nat → Nat) : Prop where
  d1 : ∀ v, v < n → ∃ c, C[q v]? = some c ∧ v ∈ c
  d2 : ∀ i c v, C[i]? = some c → v ∈ c → v < n ∧ q v = i
  d3 : ∀ c ∈ C, c.Pairwise (· < ·) ∧ c ≠ []
  d4 : ∀ u w, T.Edge E n u w → q w ≤ q u
  d5 : ∀ u w, u < n → w < n → q u = q w → Path E n u w
def qOf (s : St) (v : Nat) : Nat := (s.ofc v).getD 0
theorem comp_of {E : Nat → List Int} {n : Nat} {s : St} (h : Inv E n s []) (hall : ∀ v, v < n → s.num v ≠ 0) : Comp E n s.comps (qOf s) ∧ ∀ v, v < n → ofI s v = (qOf s v : Int) := by
  have hof : ∀ v, v < n → s.ofc v = some (qOf s v) := fun v hv => by
    obtain ⟨i, hi⟩ := h.all (hall v hv)
    rw [hi]; simp [qOf, hi]
  have hcm : ∀ (i : Nat) c v, s.comps[i]? = some c → v ∈ c → v < n ∧ qOf s v = i := fun i c v hc hv => by
    obtain ⟨h1, h2⟩ := h.i0.cm i c v hc hv
    exact ⟨(h.i0.num v h2).1, by simp [qOf, h1]⟩
  refine ⟨⟨fun v hv => h.i0.ofs v _ (hof v hv), hcm, h.i0.cs, fun u w he => ?_, fun u w hu hw e => ?_⟩, fun v hv => ofI_some (hof v hv)⟩
  · obtain ⟨j, hj, hle⟩ := h.i0.cl u w _ (hof u he.1) he
    rw [hof w he.2.1] at hj
    have := Option.some.inj hj
    omega
  · exact h.i0.sc u w _ (hof u hu) (by rw [hof w hw, e])

/-- an edge that holds nothing up -/
def okEdge (n : Nat) (q : Nat → Nat) (come : Nat → Bool) (ci : Nat) (x : Int) : Bool := !(decide (0 ≤ x ∧ x < (n : Int)) && (decide (q x.toNat ≠ ci) && !come (q x.toNat)))
def okNode (E : Nat → List Int) (n : Nat) (q : Nat → Nat) (come : Nat → Bool) (ci v : Nat) : Bool := (E v).all (okEdge n q come ci)
def rdy (E : Nat → List Int) (n : Nat) (C : List (List Nat)) (q : Nat → Nat) (come : Nat → Bool) (ci : Nat) : Bool := (C.getD ci []).all (okNode E n q come ci)
/-- a row of truths -/
def tabB (n : Nat) (f : Nat → Bool) : Array Value := ((List.range n).map fun v => Value.bool (f v)).toArray
theorem tabB_size (n : Nat) (f : Nat → Bool) : (tabB n f).size = n := by simp [tabB]
theorem tabB_get (n : Nat) (f : Nat → Bool) (v : Nat) (h : v < n) : (tabB n f)[v]? = some (.bool (f v)) := by simp [tabB, h]
theorem tabB_set (n : Nat) (f : Nat → Bool) (v : Nat) (x : Bool) : (tabB n f).setIfInBounds v (.bool x) = tabB n (upd f v x) := by
  apply Array.ext_getElem?
  intro j
  rw [Array.getElem?_setIfInBounds]
  by_cases hj : j < n
  · rw [tabB_get n _ j hj, tabB_get n _ j hj, tabB_size]
    by_cases e : v = j
    · subst e; simp [upd_same, hj]
    · rw [if_neg e, upd_other f x (fun e2 => e e2.symm)]
  · have h1 : (tabB n f)[j]? = none := by rw [Array.getElem?_eq_none_iff, tabB_size]; omega
    have h2 : (tabB n (upd f v x))[j]? = none := by rw [Array.getElem?_eq_none_iff, tabB_size]; omega
    rw [h1, h2, tabB_size]
    by_cases e : v = j
    · subst e; simp [hj]
    · rw [if_neg e]
theorem rowB_cell {w : World} {g n : Nat} {f : Nat → Bool} {T : TypeId} (h : w.heap[g]? = some (.cells (tabB n f) T (0, 0))) (v : Nat) (hv : v < n) : w.cell? ⟨g, v, none⟩ = some (.bool (f v)) ∧ w.frozen? ⟨g, v, none⟩ = false :=
  ⟨(cell_of_row w g v _ _ (0, 0) h).trans (tabB_get n f v hv), by simp [World.frozen?, h]⟩
theorem hdrs_get {R : List (Option Addr × Nat)} {C : List (List Nat)} {i : Nat} {r : Option Addr × Nat} {c : List Nat} (hr : R[i]? = some r) (hc : C[i]? = some c) : (hdrs R C)[i]? = some (.slice r.1 c.length r.2) := by
  simp [hdrs, List.getElem?_zipWith, hr, hc]

/-- all that is read of a finder -/
structure RD (E : Nat → List Int) (n : Nat) (w : World) (b : Nat) (C : List (List Nat)) (q : Nat → Nat) (eo : Option Addr) (ec : Nat) : Prop where
  hd : ∃ go co cc, w.cell? ⟨b, 0, none⟩ = some (.slice eo n ec) ∧ w.cell? ⟨b, 3, none⟩ = some (.slice (some ⟨go, 0, none⟩) n n) ∧ w.cell? ⟨b, 6, none⟩ = some (.slice co C.length cc) ∧ C.length ≤ cc ∧ cc ≤ maxLen ∧
    (∀ v, v < n → w.cell? ⟨go, v, none⟩ = some (.int .i64 (q v : Int))) ∧
    ∀ i c, C[i]? = some c → ∃ gc gr cr, co = some ⟨gc, 0, none⟩ ∧ w.cell? ⟨gc, i, none⟩ = some (.slice (some ⟨gr, 0, none⟩) c.length cr) ∧ c.length ≤ cr ∧ cr ≤ maxLen ∧ ∀ (j v : Nat), c[j]? = some v → w.cell? ⟨gr, j, none⟩ = some (.int .i64 (v : Int))
theorem RD.of {E : Nat → List Int} {n B : Nat} {W0 w : World} {eo : Option Addr} {ec b : Nat} {m : Lay} {s : St} (h : FD E n B W0 eo ec w b m s) (hall : ∀ v, v < n → s.num v ≠ 0) : RD E n w b s.comps (qOf s) eo ec := by
  obtain ⟨hc, hq⟩ := comp_of h.inv hall
  obtain ⟨c0, c1, c2, c3, c4, c5, c6, cf⟩ := h.fm.cells
  rw [h.he.1, h.he.2] at c0
  obtain ⟨_, _, e0, hle, hmx, _⟩ := own_view h.fm.cmp
  cases e0
  refine ⟨m.gO, m.co, m.cc, c0, c3, c6, hle, hmx, fun v hv => ?_, fun i c hi => ?_⟩
  · rw [(row_cell h.fm.ho v hv).1, hq v hv]
  · have hil := (List.getElem?_eq_some_iff.1 hi).1
    obtain ⟨gc, hgc, _, _, _, hcell⟩ := rowcell h.fm.cmp (by omega)
    obtain ⟨r, hr⟩ : ∃ r, m.R[i]? = some r := ⟨_, List.getElem?_eq_getElem (by rw [h.fm.rl]; exact hil)⟩
    have hne := (hc.d3 c (List.mem_of_getElem? hi)).2
    have hrow := h.fm.row i c r hi hr
    obtain ⟨gr, hgr, _, h1, h2, hcr⟩ := rowcell hrow (List.length_pos_iff.2 hne)
    refine ⟨gc, gr, r.2, hgc, ?_, h1, h2, fun j v hj => (hcr j _ (iv_get _ _ _ hj)).1⟩
    rw [← hgr]
    exact (hcell i _ (hdrs_get hr hi)).1

theorem all_take {α : Type} {l : List α} {f : α → Bool} {k : Nat} {x : α} (h : (l.take k).all f = true) (hx : l[k]? = some x) (hf : f x = true) : (l.take (k + 1)).all f = true := by
  rw [List.take_add_one, hx, List.all_append, h]
  simp [hf]
theorem all_no {α : Type} {l : List α} {f : α → Bool} {k : Nat} {x : α} (hx : l[k]? = some x) (hf : f x = false) : l.all f = false := by
  rw [← Bool.not_eq_true, List.all_eq_true]
  intro h
  have := h x (List.mem_of_getElem? hx)
  rw [hf] at this
  cases this
set_option maxRecDepth 100000 in
set_option maxHeartbeats 1000000 in
theorem ready_any (E : Nat → List Int) (n B : Nat) (w : World) (b : Nat) (C : List (List Nat)) (q : Nat → Nat) (eo : Option Addr) (ec : Nat) (hEd : EdAt B w eo n ec E) (hC : Comp E n C q) (h : RD E n w b C q eo ec) (ci gB : Nat) (come : Nat → Bool) (hci : ci < C.length) (hn : n ≤ 10000)
    (hcome : ∀ i, i < C.length → w.cell? ⟨gB, i, none⟩ = some (.bool (come i))) (hCl : C.length ≤ 10000) :
    Calls Try.prog 20 #[.pointer (some ⟨b, 0, none⟩), .int .i64 ci, .slice (some ⟨gB, 0, none⟩) C.length C.length] w fun e w' => e = .returned (.bool (rdy E n C q come ci)) ∧ w = w' := by
  obtain ⟨go, co, cc, c0, c3, c6, hle, hmx, hq, hrows⟩ := h.hd
  obtain ⟨c, hc⟩ : ∃ c, C[ci]? = some c := ⟨_, List.getElem?_eq_getElem hci⟩
  obtain ⟨gc, gr, cr, rfl, ch, hcr1, hcr2, hcell⟩ := hrows ci c hc
  have hgD : C.getD ci [] = c := by simp [List.getD, hc]
  have HED := Lib.hid hEd
  have HC := Lib.hid hC
  have HQ := Lib.hid hq
  have HCE := Lib.hid hcell
  have HCC := Lib.hid hc
  have HCO := Lib.hid hcome
  have HGD := Lib.hid hgD
  have hecl := hEd.le
  have hcil : (ci : Int) < (C.length : Int) := by omega
  have hcl : c.length ≤ 9223372036854775807 := by unfold maxLen at hcr2; omega
  clear hEd hC h hq hrows hcell hc hcome hgD
  go_enter Try.func20, Try.ntmps20
  go_wp2_with fail
  go_loopw [19] (fun iv wr => ∃ k : Nat, iv = .int .i64 k ∧ k ≤ c.length ∧ wr = w ∧ (c.take k).all (okNode E n q come ci) = true) (fun iv _ => c.length - (intOf iv).toNat)
  case atStart => exact ⟨0, rfl, Nat.zero_le _, rfl, rfl⟩
  case round =>
    obtain ⟨k, rfl, hk, rfl, hal⟩ := hrel
    have HAL := Lib.hid hal
    clear hal
    by_cases hlt : k < c.length
    · obtain ⟨v, hv⟩ : ∃ v, c[k]? = some v := ⟨_, List.getElem?_eq_getElem hlt⟩
      have cv := HCE.out k v hv
      have hvn : v < n := (HC.out.d2 ci c v HCC.out (List.mem_of_getElem? hv)).1
      obtain ⟨ge, off, ro, rc, rfl, hge, ce, hel, hem, hex⟩ := HED.out.row v hvn
      have HEX := Lib.hid hex
      have HV := Lib.hid hv
      have hkl : (k : Int) < (c.length : Int) := by omega
      have hvi : (v : Int) < (n : Int) := by omega
      have hem' : (E v).length ≤ 9223372036854775807 := by unfold maxLen at hem; omega
      clear hex hv
      go_wp2_with fail
      go_loopw [31] (fun iv wr2 => ∃ j : Nat, iv = .int .i64 j ∧ j ≤ (E v).length ∧ wr2 = wr ∧ ((E v).take j).all (okEdge n q come ci) = true) (fun iv _ => (E v).length - (intOf iv).toNat)
      case atStart => exact ⟨0, rfl, Nat.zero_le _, rfl, rfl⟩
      case round =>
        obtain ⟨j, rfl, hj, rfl, haj⟩ := hrel
        have HAJ := Lib.hid haj
        clear haj
        by_cases hjl : j < (E v).length
        · obtain ⟨x, hx⟩ : ∃ x, (E v)[j]? = some x := ⟨_, List.getElem?_eq_getElem hjl⟩
          obtain ⟨pb, po, rfl, hpB, cx⟩ := HEX.out j x hx
          have hji : (j : Int) < ((E v).length : Int) := by omega
          have HX := Lib.hid hx
          clear hx
          by_cases hx0 : x < 0
          · have HOK := Lib.hid (show okEdge n q come ci x = true by unfold okEdge; rw [decide_eq_false (by omega)]; rfl)
            go_wp2_with fail
            go_roundw
            case rel => exact ⟨j + 1, by go_num, by omega, by trivial, all_take HAJ.out HX.out HOK.out⟩
            case measure => simp [intOf]; omega
          · by_cases hxn : (n : Int) ≤ x
            · have HOK := Lib.hid (show okEdge n q come ci x = true by unfold okEdge; rw [decide_eq_false (by omega)]; rfl)
              go_wp2_with fail
              go_roundw
              case rel => exact ⟨j + 1, by go_num, by omega, by trivial, all_take HAJ.out HX.out HOK.out⟩
              case measure => simp [intOf]; omega
            · obtain ⟨xn, rfl⟩ : ∃ xn : Nat, x = xn := ⟨x.toNat, by omega⟩
              have hxl : xn < n := by omega
              have hxi : (xn : Int) < (n : Int) := by omega
              have hx0' : ¬ ((xn : Int) < 0) := by omega
              have cq := HQ.out xn hxl
              obtain ⟨c', hc', _⟩ := HC.out.d1 xn hxl
              have hql : q xn < C.length := (List.getElem?_eq_some_iff.1 hc').1
              have hqi : (q xn : Int) < (C.length : Int) := by omega
              clear hc'
              by_cases hqc : q xn = ci
              · have HOK := Lib.hid (show okEdge n q come ci xn = true by unfold okEdge; simp [hqc])
                have e1 : ((q xn : Int) != (ci : Int)) = false := by rw [bne_eq_false_iff_eq]; omega
                clear hqc
                go_wp2_with fail
                go_roundw
                case rel => exact ⟨j + 1, by go_num, by omega, by trivial, all_take HAJ.out HX.out HOK.out⟩
                case measure => simp [intOf]; omega
              · have e1 : ((q xn : Int) != (ci : Int)) = true := by rw [bne_iff_ne]; omega
                have cb := HCO.out (q xn) hql
                cases hcm : come (q xn) with
                | true =>
                  rw [hcm] at cb
                  have HOK := Lib.hid (show okEdge n q come ci xn = true by unfold okEdge; simp [hcm])
                  clear hqc hcm
                  go_wp2_with fail
                  go_roundw
                  case rel => exact ⟨j + 1, by go_num, by omega, by trivial, all_take HAJ.out HX.out HOK.out⟩
                  case measure => simp [intOf]; omega
                | false =>
                  rw [hcm] at cb
                  have HNO := Lib.hid (show okEdge n q come ci xn = false by unfold okEdge; simp [hcm, hqc, hxl])
                  have HRD := Lib.hid (show rdy E n C q come ci = false by
                    unfold rdy
                    rw [HGD.out]
                    exact all_no HV.out (all_no HX.out HNO.out))
                  clear hqc hcm
                  go_wp2_with fail
                  go_ret
                  exact ⟨by rw [HRD.out]; rfl, by trivial⟩
        · have hji : ¬ (j : Int) < ((E v).length : Int) := by omega
          have hjt : (E v).take j = E v := List.take_of_length_le (by omega)
          rw [hjt] at HAJ
          have HOK := Lib.hid (show okNode E n q come ci v = true from HAJ.out)
          clear hjt
          go_wp2_with fail
          go_roundw
          case rel => exact ⟨k + 1, by go_num, by omega, by trivial, all_take HAL.out HV.out HOK.out⟩
          case measure => simp [intOf]; omega
    · have hkl : ¬ (k : Int) < (c.length : Int) := by omega
      have hkt : c.take k = c := List.take_of_length_le (by omega)
      rw [hkt] at HAL
      have HRD := Lib.hid (show rdy E n C q come ci = true by unfold rdy; rw [HGD.out]; exact HAL.out)
      clear hkt
      go_wp2_with fail
      go_ret
      exact ⟨by rw [HRD.out]; rfl, by trivial⟩
end Go.Proofs.Ytmmggeaaheegmaa.K
