/- Several texts in one. -/
import Derived.Test.YtlbkbjeajcadiaaGreatDoorMrg25
import Derived.Test.YtlbkbjeajcadiaaGreatDoorMrg26
import Derived.Test.YtlbkbjeajcadiaaGreatDoorMrg9
import Derived.Test.YtlbkbjeajcadiaaGreatDoorCards
import Derived.Lib.LaidU8
import Derived.Lib.LaidTab
import Derived.LaidLaws
import Derived.PinnedBridge

/- The walk of BookHangs. -/
namespace Go.Proofs.YtlbkbjeajcadiaaGreatDoor.B
open Go.RowKit Go.Proofs.YtlbkbjeajcadiaaGreatDoor.M Go.BigFrame Go.Maps Go.Proofs.YtlbkbjeajcadiaaGreatDoor.O Go.Proofs.YtlbkbjeajcadiaaGreatDoor.P Go.Proofs.YtlbkbjeajcadiaaGreatDoor.Mp Go.Proofs.YtlbkbjeajcadiaaGreatDoor.Rw Go.Proofs.YtlbkbjeajcadiaaGreatDoor.R
set_option linter.unusedVariables false
set_option linter.unusedSimpArgs false

theorem Bk.idok {w : World} {p n : Nat} {R : List (O.Id × Rv)} {U : Nat → Prop} (h : Bk w p n R U) : ∀ q ∈ R, IdI q.1 := by
  obtain ⟨x, b, A, Fi, h1, h2, h3⟩ := h
  exact h1.recs.ok
theorem hang_mem {R : List (O.Id × Rv)} {c : Cmd} {i : O.Id} {l : List O.Id} {m : Int} (h : HangL R c i l m) : ∀ d ∈ l, d ∈ R.map Prod.fst := by
  obtain ⟨A, h1, h2, rfl, rfl⟩ := h
  intro d hd
  rw [setI_mem] at hd
  obtain ⟨q, hq, rfl⟩ := List.mem_map.1 hd
  have h3 := findD_of h2 (show (q.1, q.2) ∈ A from (mem_met.1 hq).1)
  rw [h1 q.1] at h3
  obtain ⟨y, hy, _⟩ := Option.bind_eq_some_iff.1 h3
  exact List.mem_map.2 ⟨_, findD_some hy, rfl⟩
/-- what the law asks of a record that was put -/
theorem hangs_put {R R2 : List (O.Id × Rv)} {r : Rv} {c : Cmd} {l : List O.Id} {m : Int} (h : PutR R r R2) (h0 : putE R r = 0) (hl : HangL R2 c ⟨-1, 0⟩ l m) : decide (r.id ∈ l) = meetsR c r ∧ (meetsR c r = true → r.seq ≤ m) ∧ r.id.n < nextN R2 r.id.r := by
  rcases h with ⟨h1, _⟩ | ⟨_, h2, h3, ao, cap, rfl⟩
  · exact absurd h0 h1
  · obtain ⟨A, g1, g2, rfl, rfl⟩ := hl
    have hid := id_of_ok h2
    rw [idOk_iff] at hid
    have hf : findD (putD R r.id { r with ao := ao, cap := cap }) r.id = some { r with ao := ao, cap := cap } := by rw [findD_put, if_pos rfl]
    have hne : r.id ≠ ⟨-1, 0⟩ := fun e => by rw [e] at hid; simp at hid
    obtain ⟨k1, k2⟩ := hang_has g1 g2 hf hne c
    have hm : meetsR c { r with ao := ao, cap := cap } = meetsR c r := meets_core rfl c
    rw [hm] at k1 k2
    refine ⟨?_, k2, ?_⟩
    · rw [Bool.eq_iff_iff, decide_eq_true_eq, setI_mem]
      exact k1
    · exact nextN_gt (p := (r.id, { r with ao := ao, cap := cap })) (mem_putD.2 (.inr rfl))
/-- a round's state -/
structure HgS (W wr : World) (p gn n : Nat) (R : List (O.Id × Rv)) (U : Nat → Prop) : Prop where
  bk : Bk wr p n R U
  ub : ∀ j, U j → W.heap.size ≤ j
  bel : Below W.heap.size W wr
  nb : wr.heap[gn]? = some (idO ⟨-1, 0⟩)
  nu : ¬ U gn
theorem HgS.below {W wr w2 : World} {p gn n : Nat} {R : List (O.Id × Rv)} {U : Nat → Prop} (h : HgS W wr p gn n R U) (hb : Below wr.heap.size wr w2) : HgS W w2 p gn n R U :=
  ⟨h.bk.below hb, h.ub, h.bel.trans (hb.mono h.bel.size), (hb.block _ (M.heap_lt h.nb)).trans h.nb, h.nu⟩
theorem HgS.put {W wr w2 : World} {p gn n m : Nat} {R R2 : List (O.Id × Rv)} {U U2 : Nat → Prop} (h : HgS W wr p gn n R U) (h1 : Bk w2 p m R2 U2) (h2 : Mods U wr w2) (h3 : ∀ j, U2 j → U j ∨ (wr.heap.size ≤ j ∧ j < w2.heap.size)) : HgS W w2 p gn m R2 U2 :=
  ⟨h1, fun j hj => (h3 j hj).elim (h.ub j) (fun hh => by have := h.bel.size; omega), h.bel.trans (h2.below (fun j hj => h.ub j hj) h.bel.size), h2.heap h.nb h.nu, fun hj => (h3 gn hj).elim h.nu (fun hh => by have := M.heap_lt h.nb; omega)⟩
theorem take_any {l : List O.Id} {k : Nat} {d i : O.Id} (h : l[k]? = some d) : decide (i ∈ l.take (k + 1)) = (decide (i ∈ l.take k) || decide (d = i)) := by
  rw [List.take_add_one, h, Bool.eq_iff_iff]
  simp only [Option.toList_some, List.mem_append, List.mem_singleton, decide_eq_true_eq, Bool.or_eq_true]
  exact or_congr_right ⟨fun e => e.symm, fun e => e.symm⟩
set_option maxRecDepth 100000 in
set_option maxHeartbeats 4000000 in
theorem hangs_law (X : List Rv) (ao : Option Addr) (cap : Nat) (c : Cmd) (w : World) (h : RecsV w ao cap X) (hc : CmdOk c) (hT : Tabs w) :
    Calls Tryz.prog 3 #[.slice ao X.length cap, cmdV c] w fun e w' => e = .returned (.bool true) ∧ Below w.heap.size w w' := by
  obtain ⟨hl1, hl2⟩ := h.le
  unfold maxLen at hl2
  have H := Lib.hid h
  have HT := Lib.hid hT
  have HCO := Lib.hid hc
  obtain ⟨gv, hgv⟩ : ∃ g, greatK X 12 = g := ⟨_, rfl⟩
  obtain ⟨gc, hgc⟩ : ∃ g, great6 c = g := ⟨_, rfl⟩
  clear h hT hc
  go_enter Tryz.func3, Tryz.ntmps3
  go_upto_region 1 with fail
  obtain ⟨W, hW⟩ : ∃ W, W = w.alloc (.cells (cmdA c) 24) := ⟨_, rfl⟩
  rw [← hW]
  have HB : Hid (Below w.heap.size w W) := Lib.hid (by rw [hW]; exact (Below.refl _ _).alloc (Nat.le_refl _) _)
  have HC : Hid (W.heap[w.heap.size]? = some (.cells (cmdA c) 24 (0, 0))) := Lib.hid (by rw [hW]; exact heap_alloc_new w _)
  clear hW
  have HGR := Lib.hid (great14_any X ao cap W (H.out.below HB.out) gv hgv)
  go_wp2_with fail
  refine HGR.out.mono ?_
  rintro e w0 ⟨rfl, rfl⟩
  clear HGR
  cases gv with
  | true =>
    have HAW := Lib.hid (awake_any W (HT.out.next HB.out))
    go_wp2_with fail
    refine HAW.out.mono ?_
    rintro e w5 ⟨rfl, hb⟩
    have HBE := Lib.hid (HB.out.trans (hb.mono HB.out.size))
    clear hb HAW
    go_wp2_with fail
    go_ret
    exact ⟨rfl, HBE.out⟩
  | false =>
    have HG6 := Lib.hid (great6_any c W HCO.out gc hgc)
    obtain ⟨⟨c0, c1, c2, c3, c4, c5⟩, _⟩ := box6 HC.out
    go_wp2_with fail
    refine HG6.out.mono ?_
    rintro e w1 ⟨rfl, hb1⟩
    have HB1 := Lib.hid hb1
    clear hb1 HG6 c0 c1 c2 c3 c4 c5
    have HBA := Lib.hid (HB.out.trans (HB1.out.mono HB.out.size))
    cases gc with
    | true =>
      have HAW := Lib.hid (awake_any w1 (HT.out.next HBA.out))
      go_wp2_with fail
      refine HAW.out.mono ?_
      rintro e w5 ⟨rfl, hb⟩
      have HBE := Lib.hid (HBA.out.trans (hb.mono HBA.out.size))
      clear hb HAW
      go_wp2_with fail
      go_ret
      exact ⟨rfl, HBE.out⟩
    | false =>
      obtain ⟨hl12, hall⟩ := greatK_no hgv
      have HALL := Lib.hid hall
      have HNW := Lib.hid (new_any [] none 0 w1 (RecsV.nil w1) (HT.out.next HBA.out) (by simp) (fun x hx => by cases hx) (fun x hx => by cases hx))
      clear hgv hgc hall
      go_wp2_with fail
      refine HNW.out.mono ?_
      rintro e w2 ⟨p, R, U, rfl, hbk, hrr, hU, hb2⟩
      obtain rfl : R = [] := ref_nil hrr
      have HBK := Lib.hid hbk
      have HU0 := Lib.hid hU
      have HB2 := Lib.hid hb2
      clear hbk hrr hU hb2 HNW
      go_upto_region 5 with fail
      obtain ⟨W3, hW⟩ : ∃ W3, W3 = w2.alloc (.cells #[.int .i64 (-1), .int .i64 0] 31) := ⟨_, rfl⟩
      rw [← hW]
      have hb3 : Below w2.heap.size w2 W3 := by rw [hW]; exact (Below.refl _ _).alloc (Nat.le_refl _) _
      have hnb : W3.heap[w2.heap.size]? = some (idO ⟨-1, 0⟩) := by rw [hW]; exact heap_alloc_new w2 _
      obtain ⟨gn, hgn⟩ : ∃ g, w2.heap.size = g := ⟨_, rfl⟩
      have HS0 := Lib.hid (show HgS W W3 p gn (4 * 0) [] U from ⟨HBK.out.below hb3, fun j hj => Nat.le_trans HB1.out.size (HU0.out j hj), HB1.out.trans ((HB2.out.trans (hb3.mono HB2.out.size)).mono HB1.out.size), by rw [← hgn]; exact hnb, fun hj => by have := HBK.out.lts _ hj; omega⟩)
      rw [hgn]
      clear hW hb3 hnb hgn HBK HU0 HB2
      go_wp2_with fail
      go_loopw [7] (fun kv wr => ∃ (k : Nat) (R : List (O.Id × Rv)) (U : Nat → Prop), kv = .int .i64 k ∧ k ≤ X.length ∧ HgS W wr p gn (4 * k) R U) (fun kv _ => X.length - (intOf kv).toNat)
      case atStart => exact ⟨0, [], U, rfl, Nat.zero_le _, HS0.out⟩
      case round =>
        obtain ⟨k, R, U2, rfl, hk, hs⟩ := hrel
        have HS := Lib.hid hs
        clear hs HS0
        have HBR := Lib.hid (HB.out.trans (HS.out.bel.mono HB.out.size))
        by_cases hkl : k < X.length
        · have hii : (k : Int) < (X.length : Int) := by omega
          obtain ⟨r, hr⟩ : ∃ r, X[k]? = some r := ⟨_, List.getElem?_eq_getElem hkl⟩
          obtain ⟨b, off, e0, hbl, hrec⟩ := H.out.row k r hr
          have HI := Lib.hid (H.out.ok r (List.mem_of_getElem? hr))
          have HLR := Lib.hid (HALL.out r (List.mem_of_getElem? hr))
          subst e0
          have HRC := Lib.hid (show ∀ wx, Below W.heap.size W wx → RecAt wx b (off + k * 16) r from fun wx hb => hrec.below (HB.out.trans (hb.mono HB.out.size)) hbl)
          clear hr hrec
          have HPT := Lib.hid (bput_any p (4 * k) R U2 r wr HS.out.bk (HI.out.below HBR.out) (HT.out.next HBR.out) (by have := HLR.out; omega) (by have := HLR.out; omega) (by omega))
          obtain ⟨c0, c1, c2, c3, c4, c5, c6, c7, c8, c9, c10, c11, c12, c13, c14, c15⟩ := HRC.out wr HS.out.bel
          go_wp2_with fail
          refine HPT.out.mono ?_
          clear c0 c1 c2 c3 c4 c5 c6 c7 c8 c9 c10 c11 c12 c13 c14 c15
          rintro e w3 ⟨rfl, R2, U3, g1, g2, g3, g4⟩
          have HS3 := Lib.hid (HS.out.put g1 g3 g4)
          have HPR := Lib.hid g2
          clear g1 g2 g3 g4 HPT
          have h44 : 4 * k + 4 = 4 * (k + 1) := by omega
          rw [h44] at HS3
          clear h44
          obtain ⟨pe, hpe⟩ : ∃ pe, putE R r = pe := ⟨_, rfl⟩
          rw [hpe]
          have HPE := Lib.hid hpe
          clear hpe
          cases hp : (pe != 0) with
          | true =>
            go_wp2_with fail
            go_roundw
            case rel => exact ⟨k + 1, R2, U3, by go_num, by omega, HS3.out⟩
            case measure => simp [intOf]; omega
          | false =>
            have HP0 := Lib.hid (show putE R r = 0 by rw [HPE.out]; simpa using hp)
            have HHG := Lib.hid (hang_any p (4 * (k + 1)) R2 U3 c ⟨-1, 0⟩ 1 w3 HS3.out.bk HCO.out.key HCO.out.client (by omega))
            have HC3 := Lib.hid ((HS3.out.bel.block _ (M.heap_lt HC.out)).trans HC.out)
            obtain ⟨⟨c0, c1, c2, c3, c4, c5⟩, _⟩ := box6 HC3.out
            obtain ⟨⟨d0, d1⟩, _⟩ := box2 HS3.out.nb
            go_wp2_with fail
            refine HHG.out.mono ?_
            rintro e w4 ⟨oo, oc, l, m, rfl, k1, k2, k3⟩
            have HHL := Lib.hid (hangs_put HPR.out HP0.out k1)
            have HMEM := Lib.hid (hang_mem k1)
            have HO4 := Lib.hid k2
            have HS4 := Lib.hid (HS3.out.below k3)
            rw [show hangV 1 m = m + 1 from rfl]
            clear k1 k2 k3 HHG c0 c1 c2 c3 c4 c5 d0 d1 HC3
            go_upto_region 10 with fail
            obtain ⟨w5, hw5⟩ : ∃ w5, w5 = w4.alloc (.cells #[.slice oo l.length oc, .int .i64 (m + 1), .int .i64 1] 38) := ⟨_, rfl⟩
            rw [← hw5]
            have hb5 : Below w4.heap.size w4 w5 := by rw [hw5]; exact (Below.refl _ _).alloc (Nat.le_refl _) _
            have HA5 := Lib.hid (show w5.heap[w4.heap.size]? = some (atrO oo l.length oc (m + 1) 1) by rw [hw5]; exact heap_alloc_new w4 _)
            have HS5 := Lib.hid (HS4.out.below hb5)
            have HV5 := Lib.hid (IdsV.of_own (eown_b HO4.out hb5) (fun d hd => by
              obtain ⟨q, hq, rfl⟩ := List.mem_map.1 (HMEM.out d hd)
              exact HS3.out.bk.idok q hq))
            clear hw5 hb5
            obtain ⟨ga, hga⟩ : ∃ g, w4.heap.size = g := ⟨_, rfl⟩
            rw [hga] at HA5 ⊢
            clear hga HO4 HS4
            have HCW := Lib.hid (show ∀ wx, Below W.heap.size W wx → wx.heap[w.heap.size]? = some (.cells (cmdA c) 24 (0, 0)) from fun wx hb => (hb.block _ (M.heap_lt HC.out)).trans HC.out)
            obtain ⟨o, ho⟩ : ∃ o, (decide (r.st ≠ 3) && decide (r.cmd.kind = 0) && decide (c.kind ≠ 0)) = o := ⟨_, rfl⟩
            obtain ⟨mt, hmt⟩ : ∃ x, meetsR c r = x := ⟨_, rfl⟩
            have HOO := Lib.hid ho
            have HMT := Lib.hid (show (decide (r.st ≠ 0) && (o || meet c r.cmd)) = mt by rw [← hmt, ← ho]; rfl)
            rw [hmt] at HHL
            clear ho hmt
            go_cut [9] (fun ov wx => ov = .bool o ∧ Below w5.heap.size w5 wx)
            case first =>
              have c2 := (HRC.out w5 HS5.out.bel).c2
              have c7 := (HRC.out w5 HS5.out.bel).c7
              obtain ⟨⟨d0, _⟩, _⟩ := box6 (HCW.out w5 HS5.out.bel)
              cases h1 : (r.st != 3) with
              | false =>
                have HO := Lib.hid (show false = o by
                  have h2 : r.st = 3 := by simpa using h1
                  rw [← HOO.out, show decide (r.st ≠ 3) = false from decide_eq_false (fun h => h h2)]; rfl)
                go_wp2_with fail
                go_meet
                exact ⟨by rw [HO.out], Below.refl _ _⟩
              | true =>
                have h2 : r.st ≠ 3 := by simpa using h1
                have HST := Lib.hid h2
                clear h2
                cases h3 : (r.cmd.kind == 0) with
                | false =>
                  have HO := Lib.hid (show false = o by
                    have h4 : r.cmd.kind ≠ 0 := by simpa using h3
                    rw [← HOO.out, decide_eq_false h4, Bool.and_false]; rfl)
                  go_wp2_with fail
                  go_meet
                  exact ⟨by rw [HO.out], Below.refl _ _⟩
                | true =>
                  have HO := Lib.hid (show (c.kind != 0) = o by
                    have h4 : r.cmd.kind = 0 := by simpa using h3
                    rw [← HOO.out, decide_eq_true HST.out, decide_eq_true h4, Bool.true_and, Bool.true_and]
                    rw [Bool.eq_iff_iff]; simp)
                  go_wp2_with fail
                  go_meet
                  exact ⟨by rw [HO.out], Below.refl _ _⟩
            case rest =>
            obtain ⟨rfl, hb6⟩ := hcut
            obtain ⟨w6, rfl⟩ : ∃ w1, w1 = wc := ⟨_, rfl⟩
            have HB6 := Lib.hid hb6
            have HS6 := Lib.hid (HS5.out.below hb6)
            clear hb6
            go_upto_region 11 with fail
            go_cut [10] (fun mv wx => mv = .bool mt ∧ Below w5.heap.size w5 wx)
            case first =>
              have HRM := Lib.hid (fun (y : Kin w6) => refmeet_any c r.cmd y.w _ rfl)
              obtain ⟨c0, c1, c2, c3, c4, c5, c6, c7, c8, c9, c10, c11, c12, c13, c14, c15⟩ := HRC.out w6 HS6.out.bel
              obtain ⟨⟨d0, d1, d2, d3, d4, d5⟩, _⟩ := box6 (HCW.out w6 HS6.out.bel)
              have k2 := Kin.cell c2
              have k7 := Kin.cell c7
              have k8 := Kin.cell c8
              have k9 := Kin.cell c9
              have k10 := Kin.cell c10
              have k11 := Kin.cell c11
              have k12 := Kin.cell c12
              have j0 := Kin.cell d0
              have j1 := Kin.cell d1
              have j2 := Kin.cell d2
              have j3 := Kin.cell d3
              have j4 := Kin.cell d4
              have j5 := Kin.cell d5
              clear c0 c1 c2 c3 c4 c5 c6 c7 c8 c9 c10 c11 c12 c13 c14 c15 d0 d1 d2 d3 d4 d5
              cases h1 : (r.st != 0) with
              | false =>
                have HO := Lib.hid (show false = mt by
                  have h2 : r.st = 0 := by simpa using h1
                  rw [← HMT.out, show decide (r.st ≠ 0) = false from decide_eq_false (fun h => h h2)]; rfl)
                refine wp_region_kin (by kernel_rfl) (by kernel_rfl) ?_
                repeat (go_big_quiet_step (fail))
                refine wpQuiet_nil ?_
                intro _ hxx
                obtain ⟨xk, rfl⟩ := hxx
                have HX := Lib.hid (HB6.out.trans (xk.h.mono HB6.out.size))
                go_wp2_with fail
                go_meet
                exact ⟨by rw [HO.out], HX.out⟩
              | true =>
                have HM2 := Lib.hid (show (o || meet c r.cmd) = mt by
                  have h2 : r.st ≠ 0 := by simpa using h1
                  rw [← HMT.out, decide_eq_true h2, Bool.true_and])
                cases o with
                | true =>
                  refine wp_region_kin (by kernel_rfl) (by kernel_rfl) ?_
                  repeat (go_big_quiet_step (fail))
                  refine wpQuiet_nil ?_
                  intro _ hxx
                  obtain ⟨xk, rfl⟩ := hxx
                  have HX := Lib.hid (HB6.out.trans (xk.h.mono HB6.out.size))
                  go_wp2_with fail
                  go_meet
                  exact ⟨by rw [← HM2.out]; rfl, HX.out⟩
                | false =>
                  refine wp_region_kin (by kernel_rfl) (by kernel_rfl) ?_
                  repeat (go_big_quiet_step ((go_at_call 12; exact Kin.call _ (HRM.out _))))
                  refine wpQuiet_nil ?_
                  intro _ hxx
                  obtain ⟨xk, rfl⟩ := hxx
                  have HX := Lib.hid (HB6.out.trans (xk.h.mono HB6.out.size))
                  go_wp2_with fail
                  go_meet
                  exact ⟨by rw [← HM2.out]; rfl, HX.out⟩
            case rest =>
            obtain ⟨rfl, hb7⟩ := hcut
            obtain ⟨w7, rfl⟩ : ∃ w1, w1 = wc := ⟨_, rfl⟩
            have HB7 := Lib.hid hb7
            clear hb7 HS6 HB6 HMT HOO
            go_wp2_with fail
            obtain ⟨wo, rfl⟩ : ∃ wo, wo = wr := ⟨_, rfl⟩
            go_loopw [11, 12] (fun hv kv wr2 => ∃ (j : Nat), hv = .bool (decide (r.id ∈ l.take j)) ∧ kv = .int .i64 j ∧ j ≤ l.length ∧ Below w5.heap.size w5 wr2) (fun _ kv _ => l.length - (intOf kv).toNat)
            case atStart => exact ⟨0, by simp, rfl, Nat.zero_le _, HB7.out⟩
            case round =>
              obtain ⟨j, rfl, rfl, hj, hb8⟩ := hrel
              have HB8 := Lib.hid hb8
              have HA8 := Lib.hid ((hb8.block _ (M.heap_lt HA5.out)).trans HA5.out)
              have HS8 := Lib.hid (HS5.out.below hb8)
              clear hb8 HB7
              obtain ⟨⟨a0, a1, a2⟩, _⟩ := box3 HA8.out
              obtain ⟨hz1, hz2⟩ := HV5.out.le
              unfold maxLen at hz2
              obtain ⟨hs, hhs⟩ : ∃ x, decide (r.id ∈ l.take j) = x := ⟨_, rfl⟩
              rw [hhs]
              have HHS := Lib.hid hhs
              clear hhs
              by_cases hjl : j < l.length
              · have hij : (j : Int) < (l.length : Int) := by omega
                obtain ⟨d, hd⟩ : ∃ d, l[j]? = some d := ⟨_, List.getElem?_eq_getElem hjl⟩
                have HTK := Lib.hid (take_any (i := r.id) hd)
                obtain ⟨b2, off2, e0, hbl2, r0, r1⟩ := HV5.out.row j d hd
                subst e0
                have c0 := (HRC.out _ HS8.out.bel).c0
                have c1 := (HRC.out _ HS8.out.bel).c1
                go_upto_region 16 with fail
                have k0 := Kin.cell a0
                have k1 := Kin.cell ((HB8.out.cell (p := ⟨b2, _, none⟩) hbl2).trans r0)
                have k2 := Kin.cell ((HB8.out.cell (p := ⟨b2, _, none⟩) hbl2).trans r1)
                have k3 := Kin.cell c0
                have k4 := Kin.cell c1
                clear a0 a1 a2 r0 r1 c0 c1 hd hbl2
                cases hs with
                | true =>
                  refine wp_region_kin (by kernel_rfl) (by kernel_rfl) ?_
                  repeat (go_big_quiet_step (fail))
                  refine wpQuiet_nil ?_
                  intro _ hxx
                  obtain ⟨xk, rfl⟩ := hxx
                  have HX := Lib.hid (HB8.out.trans (xk.h.mono HB8.out.size))
                  go_wp2_with fail
                  go_roundw
                  case rel => exact ⟨j + 1, by rw [HTK.out, HHS.out]; rfl, by go_num, by omega, HX.out⟩
                  case measure => simp [intOf]; omega
                | false =>
                  by_cases hde : d = r.id
                  · subst hde
                    have q1 := eql_yes r.id
                    refine wp_region_kin (by kernel_rfl) (by kernel_rfl) ?_
                    repeat (go_big_quiet_step (fail))
                    refine wpQuiet_nil ?_
                    intro _ hxx
                    obtain ⟨xk, rfl⟩ := hxx
                    have HX := Lib.hid (HB8.out.trans (xk.h.mono HB8.out.size))
                    go_wp2_with fail
                    go_roundw
                    case rel => exact ⟨j + 1, by rw [HTK.out]; simp, by go_num, by omega, HX.out⟩
                    case measure => simp [intOf]; omega
                  · have q1 := eql_no hde
                    refine wp_region_kin (by kernel_rfl) (by kernel_rfl) ?_
                    repeat (go_big_quiet_step (fail))
                    refine wpQuiet_nil ?_
                    intro _ hxx
                    obtain ⟨xk, rfl⟩ := hxx
                    have HX := Lib.hid (HB8.out.trans (xk.h.mono HB8.out.size))
                    go_wp2_with fail
                    go_roundw
                    case rel => exact ⟨j + 1, by rw [HTK.out, HHS.out, decide_eq_false hde]; rfl, by go_num, by omega, HX.out⟩
                    case measure => simp [intOf]; omega
              · obtain rfl : j = l.length := by omega
                have hij : ¬ (l.length : Int) < (l.length : Int) := by omega
                have hsm : hs = mt := by
                  have h1 := HHS.out
                  rw [List.take_of_length_le (Nat.le_refl _)] at h1
                  rw [← h1]
                  exact HHL.out.1
                subst hsm
                obtain ⟨nv, hnv⟩ : ∃ x, nextN R2 r.id.r = x := ⟨_, rfl⟩
                have HNV := Lib.hid hnv
                have hle2 : decide (nv ≤ r.id.n) = false := decide_eq_false (by rw [← hnv]; have := HHL.out.2.2; omega)
                clear hnv
                have HNX := Lib.hid (fun (y : Kin _) => next_any p (4 * (k + 1)) R2 U3 r.id.r y.w (HS8.out.bk.below y.h) nv HNV.out)
                go_upto_region 17 with fail
                have c0 := (HRC.out _ HS8.out.bel).c0
                have c1 := (HRC.out _ HS8.out.bel).c1
                have c14 := (HRC.out _ HS8.out.bel).c14
                have k0 := Kin.cell a0
                have k1 := Kin.cell a1
                have k3 := Kin.cell c0
                have k4 := Kin.cell c1
                have k5 := Kin.cell c14
                clear a0 a1 a2 c0 c1 c14
                cases hs with
                | true =>
                  have hle1 : decide (m + 1 ≤ r.seq) = false := decide_eq_false (by have := HHL.out.2.1 rfl; omega)
                  refine wp_region_kin (by kernel_rfl) (by kernel_rfl) ?_
                  repeat (go_big_quiet_step ((go_at_call 13; exact Kin.call _ (HNX.out _))))
                  refine wpQuiet_nil ?_
                  intro _ hxx
                  obtain ⟨xk, rfl⟩ := hxx
                  have HX := Lib.hid (HS8.out.below xk.h)
                  go_wp2_with fail
                  go_roundw
                  case rel => exact ⟨k + 1, R2, U3, by go_num, by omega, HX.out⟩
                  case measure => simp [intOf]; omega
                | false =>
                  refine wp_region_kin (by kernel_rfl) (by kernel_rfl) ?_
                  repeat (go_big_quiet_step ((go_at_call 13; exact Kin.call _ (HNX.out _))))
                  refine wpQuiet_nil ?_
                  intro _ hxx
                  obtain ⟨xk, rfl⟩ := hxx
                  have HX := Lib.hid (HS8.out.below xk.h)
                  go_wp2_with fail
                  go_roundw
                  case rel => exact ⟨k + 1, R2, U3, by go_num, by omega, HX.out⟩
                  case measure => simp [intOf]; omega
        · obtain rfl : k = X.length := by omega
          have hii : ¬ (X.length : Int) < (X.length : Int) := by omega
          have HAW := Lib.hid (awake_any wr (HT.out.next HBR.out))
          go_wp2_with fail
          refine HAW.out.mono ?_
          rintro e w5 ⟨rfl, hb⟩
          have HBE := Lib.hid (HBR.out.trans (hb.mono HBR.out.size))
          clear hb HAW
          go_wp2_with fail
          go_ret
          exact ⟨rfl, HBE.out⟩
end Go.Proofs.YtlbkbjeajcadiaaGreatDoor.B

/- From the listed variables of the rows to the tables that the walks take. -/
namespace Go.Proofs.YtlbkbjeajcadiaaGreatDoor.B
open Go.RowKit Go.PlainAid Go.Lib Go.Proofs.YtlbkbjeajcadiaaGreatDoor.R

theorem u8x : Go.Proofs.U8Extra Tryz.prog Tryz.lays260_ren := ⟨by kernel_rfl, by kernel_rfl, by kernel_rfl, by kernel_rfl, by kernel_rfl, by kernel_rfl, by kernel_rfl⟩
theorem accept_eq : Rows.laid_unicode_utf8_acceptRanges (H := Unit) = Go.Lib.acceptData := by kernel_rfl
theorem tabs_mk {W : World} (hu : Lib.Utf8Tabs 0 1 W) : Tabs W :=
  ⟨hu, World.block_lt_of_cell? W _ (hu.1 0 (by decide)), World.block_lt_of_cell? W _ (hu.2 0 (by decide)).1⟩
theorem tabsR_of {W : World} (hL : laidMet Tryz.prog Rows.bookWallsRow.laid W) : Tabs W :=
  tabs_mk (Go.Proofs.utf8Tabs_of_reads Tryz.lays260 u8x (Pinned.utf8First_eq ▸ Go.Lib.laidMet.reads hL (.tail _ (.head _))) (accept_eq ▸ Go.Lib.laidMet.reads hL (.head _)))
end Go.Proofs.YtlbkbjeajcadiaaGreatDoor.B
