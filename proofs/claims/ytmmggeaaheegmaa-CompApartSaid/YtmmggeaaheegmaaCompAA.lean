/- CompFinds: the walk. -/
import Derived.Test.YtmmggeaaheegmaaCompZ
import Derived.BigQuiet
import Derived.Deep.QuietTactic
namespace Go.Proofs.Ytmmggeaaheegmaa.K
open Go.RowKit M T
set_option linter.unusedVariables false
set_option linter.unusedSimpArgs false

theorem EdAt.up {B B' : Nat} {w : World} {eo : Option Addr} {n ec : Nat} {E : Nat → List Int} (h : EdAt B w eo n ec E) (hB : B ≤ B') : EdAt B' w eo n ec E := by
  refine ⟨h.le, fun i hi => ?_⟩
  obtain ⟨g, off, ro, rc, e, hg, hc, h1, h2, hx⟩ := h.row i hi
  exact ⟨g, off, ro, rc, e, by omega, hc, h1, h2, fun j x hj => by obtain ⟨p, po, e, hp, hc⟩ := hx j x hj; exact ⟨p, po, e, by omega, hc⟩⟩
theorem EdAt.on {w w1 : World} {eo : Option Addr} {n ec : Nat} {E : Nat → List Int} (h : EdAt w.heap.size w eo n ec E) (hb : Below w.heap.size w w1) : EdAt w1.heap.size w1 eo n ec E := (h.below hb).up hb.size
theorem same_eq (a b : Option Addr) (c d : Nat) (l m : List Int) (w : World) (hl : l.length ≤ 1000000) (h1 : RowV w a c l) (h2 : RowV w b d m) (e : l = m) (n1 n2 : Nat) (e1 : l.length = n1) (e2 : m.length = n2) :
    Calls Try.prog 12 #[.slice a n1 c, .slice b n2 d] w fun e w' => e = .returned (.bool true) ∧ ∃ n, w' = w.drewN n := by
  subst e e1 e2
  have := same_any a b c d l l w hl hl h1 h2
  rwa [decide_eq_true rfl] at this
theorem RowV.drewN {w : World} {a : Option Addr} {c : Nat} {l : List Int} (h : RowV w a c l) (n : Nat) : RowV (w.drewN n) a c l := h.below (below_dn _ _ _)
theorem LeadsTo.len {E : Nat → List Int} {n : Nat} {f : Int} {l : List Nat} (h : LeadsTo E n f l) : l.length ≤ n :=
  nodup_le n l (h.srt.imp fun hlt => by omega) fun v hv => ((h.mem v).1 hv).1
set_option maxRecDepth 100000 in
set_option maxHeartbeats 4000000 in
theorem finds_all (E : Nat → List Int) (n : Nat) (eo : Option Addr) (ec : Nat) (f : Int) (w : World) (hEd : EdAt w.heap.size w eo n ec E) (hsz : ∀ i, i < n → (E i).length ≤ 140737488355328) :
    Calls Try.prog 6 #[.slice eo n ec, .int .i64 f] w fun e w' => e = .returned (.bool true) ∧ Below w.heap.size w w' := by
  have hgr := great_any E n w.heap.size eo ec w hEd hsz
  cases hg : greatB E n with
  | true =>
    rw [hg] at hgr
    clear hg hEd hsz
    go_enter Try.func6, Try.ntmps6
    go_wp2_with fail
    refine hgr.mono ?_
    rintro e w1 ⟨rfl, rfl⟩
    go_wp2_with fail
    refine (awake_any _).mono ?_
    rintro e w2 ⟨rfl, hb⟩
    have HB := Lib.hid hb
    clear hb
    go_wp2_with fail
    go_ret
    exact ⟨rfl, HB.out⟩
  | false =>
    rw [hg] at hgr
    have hn40 := (great_false hg).1
    have hn : n ≤ 10000 := by omega
    have HED := Lib.hid hEd
    clear hg hsz hEd
    go_enter Try.func6, Try.ntmps6
    go_wp2_with fail
    refine hgr.mono ?_
    rintro e w1 ⟨rfl, rfl⟩
    go_wp2_with fail
    refine (comps_any E n eo ec w HED.out hn).mono ?_
    rintro e w1 ⟨oo, oc, R, L, q, rfl, hin, hout, hb1⟩
    have HIN := Lib.hid hin
    have HOUT := Lib.hid hout
    have HB1 := Lib.hid hb1
    clear hin hout hb1 hgr
    go_wp2_with fail
    refine (refcomps_any E n eo ec w1 L q (HED.out.on HB1.out) hn HIN.out).mono ?_
    rintro e w2 ⟨oo2, oc2, R2, rfl, hout2, hb2⟩
    have HOUT2 := Lib.hid hout2
    have HO1 := Lib.hid (HOUT.out.below hb2)
    have HB2 := Lib.hid (HB1.out.trans (hb2.mono HB1.out.size))
    have e1 : ((L.length : Int) != (L.length : Int)) = false := by simp
    clear hout2 hb2 HOUT HB1
    go_wp2_with fail
    refine (leads_any E n eo ec f w2 (HED.out.on HB2.out) hn).mono ?_
    rintro e w3 ⟨a3, c3, l3, rfl, hl3, ho3, hb3⟩
    have HL3 := Lib.hid hl3
    have HR3 := Lib.hid (RowV.of_own ho3)
    have HOUT3 := Lib.hid (HOUT2.out.below hb3)
    have HO3 := Lib.hid (HO1.out.below hb3)
    have HB3 := Lib.hid (HB2.out.trans (hb3.mono HB2.out.size))
    clear hl3 ho3 hb3 HOUT2 HO1 HB2
    go_wp2_with fail
    refine (refleads_any E n eo ec f w3 (HED.out.on HB3.out) hn).mono ?_
    rintro e w4 ⟨a4, c4, l4, rfl, hl4, ho4, hb4⟩
    obtain rfl : l3 = l4 := HL3.out.one hl4
    have HR4 := Lib.hid (RowV.of_own ho4)
    have HR3 := Lib.hid (HR3.out.below hb4)
    have HOUT4 := Lib.hid (HOUT3.out.below hb4)
    have HO4 := Lib.hid (HO3.out.below hb4)
    have HB4 := Lib.hid (HB3.out.trans (hb4.mono HB3.out.size))
    have hll := hl4.len
    clear hl4 ho4 hb4 HOUT3 HO3 HB3 HL3
    go_wp2_with fail
    refine (same_eq a3 a4 c3 c4 (ns l3) (ns l3) w4 (by rw [ns_len]; omega) HR3.out HR4.out rfl l3.length l3.length (ns_len _) (ns_len _)).mono ?_
    rintro e w5 ⟨rfl, nd, rfl⟩
    have HOUT5 := Lib.hid (HOUT4.out.below (below_dn _ w4 nd))
    have HO5 := Lib.hid (HO4.out.below (below_dn _ w4 nd))
    have HB5 := Lib.hid (HB4.out.trans (below_dn _ w4 nd))
    obtain ⟨w5, hw5⟩ : ∃ w5, w5 = w4.drewN nd := ⟨_, rfl⟩
    rw [← hw5] at HOUT5 HO5 HB5 ⊢
    have hLn := HIN.out.co.count
    clear hw5 HR3 HR4 HOUT4 HO4 HB4
    go_wp2_with fail
    go_loopw [7] (fun iv wr => ∃ i : Nat, iv = .int .i64 i ∧ i ≤ L.length ∧ ∃ k, wr = w5.drewN k) (fun iv _ => L.length - (intOf iv).toNat)
    case atStart => exact ⟨0, rfl, Nat.zero_le _, 0, rfl⟩
    case round =>
      obtain ⟨i, rfl, hi, k, hk⟩ := hrel
      have HBW : Hid (Below w.heap.size w wr) := Lib.hid (by rw [hk]; exact HB5.out.trans (below_dn _ w5 k))
      have HK := Lib.hid hk
      by_cases hlt : i < L.length
      · have hii : (i : Int) < (L.length : Int) := by omega
        obtain ⟨c, hc⟩ : ∃ c, L[i]? = some c := ⟨_, List.getElem?_eq_getElem hlt⟩
        obtain ⟨g1, a1, ca1, rfl, x1, r1⟩ := (HO5.out.below (w1 := wr) (by rw [hk]; exact below_dn _ w5 k)).hdr hc
        obtain ⟨g2, a2, ca2, rfl, x2, r2⟩ := (HOUT5.out.below (w1 := wr) (by rw [hk]; exact below_dn _ w5 k)).hdr hc
        have hcl := HIN.out.co.row_len hc
        obtain ⟨_, _, e8, hcap1, hcap2, _⟩ := own_view HO5.out.top
        cases e8
        obtain ⟨_, _, e9, hcap3, hcap4, _⟩ := own_view HOUT5.out.top
        cases e9
        have HS := Lib.hid (fun m => same_eq a1 a2 ca1 ca2 (ns c) (ns c) (wr.drewN m) (by rw [ns_len]; omega) (r1.drewN m) (r2.drewN m) rfl c.length c.length (ns_len _) (ns_len _))
        clear r1 r2 hc hk
        go_wp2_with fail
        go_quiet ((go_at_call 12; exact Calls.quiet_of (HS.out _)))
        go_wp2_with fail
        go_roundw
        case rel => exact ⟨i + 1, by go_num, by omega, k + nq, by rw [HK.out]; exact drewN_add _ _ _⟩
        case measure => simp [intOf]; omega
      · have hii : ¬ (i : Int) < (L.length : Int) := by omega
        clear hk
        go_wp2_with fail
        refine (awake_any _).mono ?_
        rintro e w6 ⟨rfl, hb6⟩
        have HB6 := Lib.hid (HBW.out.trans (hb6.mono HBW.out.size))
        clear hb6
        go_wp2_with fail
        go_ret
        exact ⟨rfl, HB6.out⟩
end Go.Proofs.Ytmmggeaaheegmaa.K
