/- CompOnce: the walk. -/
import Derived.Test.YtmmggeaaheegmaaCompAA
namespace Go.Proofs.Ytmmggeaaheegmaa.K
open Go.RowKit M T
set_option linter.unusedVariables false
set_option linter.unusedSimpArgs false

/-- a great graph: the example alone -/
def atf (q : Nat → Nat) (i : Nat) (c : List Nat) (k v : Nat) : Int := if q v < i then (q v : Int) + 1 else if v ∈ c.take k then (i : Int) + 1 else 0
structure AT (w1 w : World) (n g : Nat) (f : Nat → Int) : Prop where
  bel : Below w1.heap.size w1 w
  lo : w1.heap.size ≤ g
  tb : w.heap[g]? = some (.cells (tab n f) 3 (0, 0))
theorem AT.set {w1 w : World} {n g : Nat} {f : Nat → Int} (h : AT w1 w n g f) (v : Nat) (x : Int) : AT w1 (w.setCell ⟨g, v, none⟩ (.int .i64 x)) n g (upd f v x) := by
  refine ⟨h.bel.setCell (p := ⟨g, v, none⟩) h.lo _, h.lo, ?_⟩
  have := heap_set w g v (.int .i64 x) g _ _ _ h.tb
  rw [if_pos rfl, tab_set] at this
  exact this
theorem AT.drew {w1 w : World} {n g : Nat} {f : Nat → Int} (h : AT w1 w n g f) (k : Nat) : AT w1 (w.drewN k) n g f := ⟨h.bel.trans (below_dn _ w k), h.lo, h.tb⟩
theorem AT.congr {w1 w : World} {n g : Nat} {f f' : Nat → Int} (h : AT w1 w n g f) (e : ∀ v, v < n → f v = f' v) : AT w1 w n g f' := ⟨h.bel, h.lo, by rw [h.tb, tab_congr n f f' e]⟩
theorem take_has {c : List Nat} {k v : Nat} (hk : c[k]? = some v) (x : Nat) : x ∈ c.take (k + 1) ↔ x ∈ c.take k ∨ x = v := by
  rw [List.take_add_one, hk, List.mem_append]
  simp
theorem take_not {c : List Nat} (hs : c.Pairwise (· < ·)) {k v : Nat} (hk : c[k]? = some v) : v ∉ c.take k := by
  intro hm
  obtain ⟨j, hj⟩ := List.mem_iff_getElem?.1 hm
  have hjk : j < k := by
    have := (List.getElem?_eq_some_iff.1 hj).1
    rw [List.length_take] at this
    omega
  rw [List.getElem?_take_of_lt hjk] at hj
  have h1 := List.getElem?_eq_some_iff.1 hj
  have h2 := List.getElem?_eq_some_iff.1 hk
  have := List.pairwise_iff_getElem.1 hs j k h1.1 h2.1 hjk
  omega
section
variable {E : Nat → List Int} {n : Nat} {L : List (List Nat)} {q : Nat → Nat}
theorem atf_step (h : Comp E n L q) {i k v : Nat} {c : List Nat} (hc : L[i]? = some c) (hk : c[k]? = some v) : atf q i c k v = 0 ∧ upd (atf q i c k) v ((i : Int) + 1) = atf q i c (k + 1) := by
  have hv := h.d2 i c v hc (List.mem_of_getElem? hk)
  have hn := take_not (h.d3 c (List.mem_of_getElem? hc)).1 hk
  refine ⟨by unfold atf; rw [if_neg (by omega), if_neg hn], ?_⟩
  funext x
  unfold upd atf
  by_cases e : x = v
  · subst e
    rw [if_pos rfl, if_neg (by omega), if_pos ((take_has hk x).2 (.inr rfl))]
  · rw [if_neg e]
    by_cases e2 : q x < i
    · rw [if_pos e2, if_pos e2]
    · rw [if_neg e2, if_neg e2]
      by_cases e3 : x ∈ c.take k
      · rw [if_pos e3, if_pos ((take_has hk x).2 (.inl e3))]
      · rw [if_neg e3, if_neg (fun h => by rcases (take_has hk x).1 h with h | h; exact e3 h; exact e h)]
theorem atf_row (h : Comp E n L q) {i : Nat} {c c' : List Nat} (hc : L[i]? = some c) (v : Nat) (hv : v < n) : atf q i c c.length v = atf q (i + 1) c' 0 v := by
  have hm := h.mem_iff hc v
  unfold atf
  rw [List.take_of_length_le (Nat.le_refl _)]
  simp only [List.take_zero, List.not_mem_nil, if_false]
  by_cases e : q v < i
  · rw [if_pos e, if_pos (by omega)]
  · rw [if_neg e]
    by_cases e2 : q v = i
    · rw [if_pos (hm.2 ⟨hv, e2⟩), if_pos (by omega), e2]
    · rw [if_neg (fun h => e2 (hm.1 h).2), if_neg (by omega)]
theorem atf_all (h : Comp E n L q) (c : List Nat) (v : Nat) (hv : v < n) : atf q L.length c 0 v = (q v : Int) + 1 := by
  obtain ⟨c', hc', _⟩ := h.d1 v hv
  unfold atf
  rw [if_pos (List.getElem?_eq_some_iff.1 hc').1]
end
set_option maxRecDepth 100000 in
set_option maxHeartbeats 4000000 in
theorem once_all (E : Nat → List Int) (n : Nat) (eo : Option Addr) (ec : Nat) (w : World) (hEd : EdAt w.heap.size w eo n ec E) (hsz : ∀ i, i < n → (E i).length ≤ 140737488355328) :
    Calls Try.prog 3 #[.slice eo n ec] w fun e w' => e = .returned (.bool true) ∧ Below w.heap.size w w' := by
  have hgr := great_any E n w.heap.size eo ec w hEd hsz
  cases hg : greatB E n with
  | true =>
    rw [hg] at hgr
    clear hg hEd hsz
    go_enter Try.func3, Try.ntmps3
    go_wp2_with fail
    refine hgr.mono ?_
    rintro e w1 ⟨rfl, rfl⟩
    go_wp2_with fail
    refine (awake_any _).mono ?_
    rintro e w2 ⟨rfl, hb⟩
    have HB := Lib.hid hb
    clear hb
    go_wp2_with fail
    go_ret
    exact ⟨rfl, HB.out⟩
  | false =>
    rw [hg] at hgr
    have hn40 := (great_false hg).1
    have hn : n ≤ 10000 := by omega
    have HED := Lib.hid hEd
    have hmk := make_ints n hn
    have hec := hEd.le.2
    clear hg hsz hEd
    go_enter Try.func3, Try.ntmps3
    go_wp2_with fail
    refine hgr.mono ?_
    rintro e w1 ⟨rfl, rfl⟩
    go_wp2_with fail
    refine (comps_any E n eo ec w HED.out hn).mono ?_
    rintro e w1 ⟨oo, oc, R, L, q, rfl, hin, hout, hb1⟩
    have HIN := Lib.hid hin
    have HOUT := Lib.hid hout
    have HB1 := Lib.hid hb1
    have HED1 := Lib.hid (HED.out.below hb1)
    obtain ⟨_, _, e8, hcap1, hcap2, _⟩ := own_view hout.top
    cases e8
    have hLn := hin.co.count
    clear hin hout hb1 hgr
    go_upto_region 5 with fail
    obtain ⟨w2, hw2⟩ : ∃ w2, w2 = w1.alloc (.cells (tab n fun _ => 0) 3) := ⟨_, rfl⟩
    obtain ⟨g, hg⟩ : ∃ g, g = w1.heap.size := ⟨_, rfl⟩
    rw [← hw2, ← hg]
    have hat : AT w1 w2 n g (atf q 0 [] 0) := by
      refine ⟨by rw [hw2]; exact (Below.refl _ _).alloc (Nat.le_refl _) _, by rw [hg]; exact Nat.le_refl _, ?_⟩
      rw [hw2, hg, heap_alloc_new]
      have e : (atf q 0 [] 0) = fun _ => 0 := by funext v; unfold atf; simp
      rw [e]
    have HAT := Lib.hid hat
    clear hat hw2 hg hmk
    go_wp2_with fail
    go_loopw [5] (fun iv wr => ∃ i : Nat, iv = .int .i64 i ∧ i ≤ L.length ∧ AT w1 wr n g (atf q i [] 0)) (fun iv _ => L.length - (intOf iv).toNat)
    case atStart => exact ⟨0, rfl, Nat.zero_le _, HAT.out⟩
    case round =>
      clear HAT
      obtain ⟨i, rfl, hi, hat⟩ := hrel
      have HAT := Lib.hid hat
      by_cases hlt : i < L.length
      · have hii : (i : Int) < (L.length : Int) := by omega
        obtain ⟨c, hc⟩ : ∃ c, L[i]? = some c := ⟨_, List.getElem?_eq_getElem hlt⟩
        have HC := Lib.hid hc
        have hcl := HIN.out.co.row_len hc
        have HAT0 : Hid (AT w1 wr n g (atf q i c 0)) := Lib.hid (hat.congr fun v hv => by unfold atf; simp)
        clear hat hc HAT
        go_wp2_with fail
        go_loopw [6] (fun kv wr2 => ∃ k : Nat, kv = .int .i64 k ∧ k ≤ c.length ∧ AT w1 wr2 n g (atf q i c k)) (fun kv _ => c.length - (intOf kv).toNat)
        case atStart => exact ⟨0, rfl, Nat.zero_le _, HAT0.out⟩
        case round =>
          clear HAT0
          obtain ⟨k, rfl, hk, hat⟩ := hrel
          have HAT := Lib.hid hat
          obtain ⟨g1, a1, ca1, rfl, x1, r1⟩ := (HOUT.out.below hat.bel).hdr HC.out
          have hr1 := r1.le
          rw [ns_len] at hr1
          by_cases hkl : k < c.length
          · have hki : (k : Int) < (c.length : Int) := by omega
            obtain ⟨v, hv⟩ : ∃ v, c[k]? = some v := ⟨_, List.getElem?_eq_getElem hkl⟩
            have hvn := (HIN.out.co.d2 i c v HC.out (List.mem_of_getElem? hv)).1
            obtain ⟨hz, hup⟩ := atf_step HIN.out.co HC.out hv
            obtain ⟨pb, po, rfl, x2⟩ := r1.row k v (by unfold ns; rw [List.getElem?_map, hv]; rfl)
            obtain ⟨x3, f3⟩ := row_cell hat.tb v hvn
            rw [hz] at x3
            have HUP := Lib.hid hup
            have hv0 : ¬ (v : Int) < 0 := by omega
            have hvi : (v : Int) < (n : Int) := by omega
            have hvi' : ¬ (n : Int) ≤ (v : Int) := by omega
            by_cases hk0 : k = 0
            · subst hk0
              rw [Nat.add_zero] at x2
              clear hat hv hz hup r1
              go_wp2_with fail
              go_roundw
              case rel => exact ⟨0 + 1, by go_num, by omega, by rw [← HUP.out]; exact HAT.out.set v _⟩
              case measure => simp [intOf]; omega
            · obtain ⟨u, hu⟩ : ∃ u, c[k - 1]? = some u := ⟨_, List.getElem?_eq_getElem (by omega)⟩
              obtain ⟨pb', po', e7, x4⟩ := r1.row (k - 1) u (by unfold ns; rw [List.getElem?_map, hu]; rfl)
              cases e7
              have hlt2 : (u : Int) < (v : Int) := by
                have h1 := List.getElem?_eq_some_iff.1 hu
                have h2 := List.getElem?_eq_some_iff.1 hv
                have := List.pairwise_iff_getElem.1 (HIN.out.co.d3 c (List.mem_of_getElem? HC.out)).1 (k - 1) k h1.1 h2.1 (by omega)
                omega
              have hk1 : (0 : Int) < (k : Int) := by omega
              have hk2 : 1 ≤ k := by omega
              clear hat hv hz hup r1 hu hk0
              go_wp2_with fail
              go_roundw
              case rel => exact ⟨k + 1, by go_num, by omega, by rw [← HUP.out]; exact HAT.out.set v _⟩
              case measure => simp [intOf]; omega
          · obtain rfl : k = c.length := by omega
            have hki : ¬ (c.length : Int) < (c.length : Int) := by omega
            clear hat r1
            go_wp2_with fail
            go_roundw
            case rel => exact ⟨i + 1, by go_num, by omega, HAT.out.congr fun v hv => atf_row HIN.out.co HC.out v hv⟩
            case measure => simp [intOf]; omega
      · obtain rfl : i = L.length := by omega
        have hii : ¬ (L.length : Int) < (L.length : Int) := by omega
        have HA2 := Lib.hid (hat.congr fun v hv => atf_all HIN.out.co [] v hv)
        clear hat HAT
        go_wp2_with fail
        go_loopw [8] (fun vv wr3 => ∃ v : Nat, vv = .int .i64 v ∧ v ≤ n ∧ AT w1 wr3 n g (fun v => (q v : Int) + 1)) (fun vv _ => n - (intOf vv).toNat)
        case atStart => exact ⟨0, rfl, Nat.zero_le _, HA2.out⟩
        case round =>
          clear HA2
          obtain ⟨v, rfl, hv, hat⟩ := hrel
          have HAT := Lib.hid hat
          by_cases hvn : v < n
          · have hvi : (v : Int) < (n : Int) := by omega
            obtain ⟨ge, off, ro, rc, rfl, hge, ce', hel, hem, hex⟩ := HED1.out.row v hvn
            have hem' : (E v).length ≤ 9223372036854775807 := by unfold maxLen at hem; omega
            obtain ⟨x3, _⟩ := row_cell hat.tb v hvn
            have e3 : (((q v : Int) + 1) == 0) = false := by rw [beq_eq_false_iff_ne]; omega
            have HEX := Lib.hid hex
            have HCE := Lib.hid ce'
            have hsz1 := HB1.out.size
            clear hat hex ce'
            go_wp2_with fail
            go_loopw [9] (fun kv wr4 => ∃ k : Nat, kv = .int .i64 k ∧ k ≤ (E v).length ∧ AT w1 wr4 n g (fun v => (q v : Int) + 1)) (fun kv _ => (E v).length - (intOf kv).toNat)
            case atStart => exact ⟨0, rfl, Nat.zero_le _, HAT.out⟩
            case round =>
              clear HAT x3
              obtain ⟨k, rfl, hk, hat⟩ := hrel
              have HAT := Lib.hid hat
              have ce := (hat.bel.cell (p := ⟨ge, off + v, none⟩) (by show ge < _; omega)).trans HCE.out
              by_cases hkl : k < (E v).length
              · have hki : (k : Int) < ((E v).length : Int) := by omega
                obtain ⟨x, hx⟩ : ∃ x, (E v)[k]? = some x := ⟨_, List.getElem?_eq_getElem hkl⟩
                obtain ⟨pb, po, rfl, hpB, cx'⟩ := HEX.out k x hx
                have cx := (hat.bel.cell (p := ⟨pb, po + k, none⟩) (by show pb < _; omega)).trans cx'
                have HX := Lib.hid hx
                obtain ⟨x3, _⟩ := row_cell hat.tb v hvn
                clear hx cx'
                by_cases hx0 : x < 0
                · have hx0' : decide (0 ≤ x) = false := by rw [decide_eq_false_iff_not]; omega
                  clear hat
                  go_wp2_with fail
                  go_quiet (fail)
                  go_wp2_with fail
                  go_roundw
                  case rel => exact ⟨k + 1, by go_num, by omega, HAT.out.drew nq⟩
                  case measure => simp [intOf]; omega
                · have hx0' : decide (0 ≤ x) = true := by rw [decide_eq_true_iff]; omega
                  have hx1 : 0 ≤ x := by omega
                  by_cases hxn : (n : Int) ≤ x
                  · have hxn' : decide (x < (n : Int)) = false := by rw [decide_eq_false_iff_not]; omega
                    clear hat
                    go_wp2_with fail
                    go_quiet (fail)
                    go_wp2_with fail
                    go_roundw
                    case rel => exact ⟨k + 1, by go_num, by omega, HAT.out.drew nq⟩
                    case measure => simp [intOf]; omega
                  · obtain ⟨xn, rfl⟩ : ∃ xn : Nat, x = xn := ⟨x.toNat, by omega⟩
                    have hxl : xn < n := by omega
                    have hxi : (xn : Int) < (n : Int) := by omega
                    have hxn' : decide ((xn : Int) < (n : Int)) = true := by rw [decide_eq_true_iff]; omega
                    obtain ⟨x4, _⟩ := row_cell hat.tb xn hxl
                    have hle : ¬ (q v : Int) + 1 < (q xn : Int) + 1 := by
                      have := HIN.out.co.d4 v xn ⟨hvn, hxl, List.mem_of_getElem? HX.out⟩
                      omega
                    have hle' : decide ((q v : Int) + 1 < (q xn : Int) + 1) = false := by rw [decide_eq_false_iff_not]; exact hle
                    clear hat
                    go_wp2_with fail
                    go_quiet (fail)
                    go_wp2_with fail
                    go_roundw
                    case rel => exact ⟨k + 1, by go_num, by omega, HAT.out.drew nq⟩
                    case measure => simp [intOf]; omega
              · obtain rfl : k = (E v).length := by omega
                have hki : ¬ ((E v).length : Int) < ((E v).length : Int) := by omega
                clear hat
                go_wp2_with fail
                go_roundw
                case rel => exact ⟨v + 1, by go_num, by omega, HAT.out⟩
                case measure => simp [intOf]; omega
          · obtain rfl : v = n := by omega
            have hvi : ¬ (v : Int) < (v : Int) := by omega
            have HBE := Lib.hid (HB1.out.trans (hat.bel.mono HB1.out.size))
            clear hat HAT
            go_wp2_with fail
            refine (awake_any _).mono ?_
            rintro e w6 ⟨rfl, hb6⟩
            have HB6 := Lib.hid (HBE.out.trans (hb6.mono HBE.out.size))
            clear hb6
            go_wp2_with fail
            go_ret
            exact ⟨rfl, HB6.out⟩
end Go.Proofs.Ytmmggeaaheegmaa.K
