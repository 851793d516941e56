/- CheckMore: the walk. -/
import Derived.Test.YtkgjfagejnppbaaGreatDoorMrg35
import Derived.Deep.DeepCutAuto
namespace Go.Proofs.YtkgjfagejnppbaaGreatDoor.X
open Go.RowKit Go.Proofs.YtkgjfagejnppbaaGreatDoor.M Go.BigFrame Go.Proofs.YtkgjfagejnppbaaGreatDoor.O Go.Proofs.YtkgjfagejnppbaaGreatDoor.P Go.Proofs.YtkgjfagejnppbaaGreatDoor.Mp Go.Proofs.YtkgjfagejnppbaaGreatDoor.Rw
set_option linter.unusedVariables false
set_option linter.unusedSimpArgs false

set_option maxRecDepth 100000 in
set_option maxHeartbeats 4000000 in
theorem more_law (L : List Cmd) (ao : Option Addr) (cap : Nat) (sq : Int) (w : World) (hV : CmdsV w.heap.size w ao cap L) (hsq : InI sq) (hT : TabsI w) :
    Calls Tryz.prog 5 #[.slice ao L.length cap, .int .i64 sq] w fun e w' => e = .returned (.bool true) ∧ Below w.heap.size w w' := by
  obtain ⟨hl1, hl2⟩ := hV.le
  unfold maxLen at hl2
  have HV := Lib.hid hV
  have HT := Lib.hid hT
  have HSQ := Lib.hid hsq
  clear hV hT hsq
  go_enter Tryz.func5, Tryz.ntmps5
  by_cases h12 : 12 < L.length
  · have e1 : (12 : Int) < (L.length : Int) := by omega
    go_wp2_with fail
    refine (cawake_any w HT.out).mono ?_
    rintro e w1 ⟨rfl, hb⟩
    have HB := Lib.hid hb
    clear hb
    go_wp2_with fail
    go_ret
    exact ⟨rfl, HB.out⟩
  · have e1 : ¬ (12 : Int) < (L.length : Int) := by omega
    go_wp2_with fail
    refine (snew_run w).mono ?_
    rintro e w3 ⟨s, p, b, q, rfl, hs⟩
    have HD0 := Lib.hid (BSt.start hs)
    clear hs
    go_wp2_with fail
    go_loopw [6, 7, 8, 9] (fun rv hv tv iv wr => ∃ (i m n : Nat) (X : List Rv) (C : List Cmd) (RP : List Rep) (ro ho tw : Option Addr) (rc hc tc : Nat), rv = .slice ro m rc ∧ hv = .slice ho m hc ∧ tv = .slice tw (m + m) tc ∧ iv = .int .i64 i ∧ i ≤ L.length ∧ X.length = m ∧ (m ≤ n ∧ n ≤ i) ∧ BPl Cmd.client i X C RP ∧ BSt w w3 wr s p b q n C X [] (C.map callE) (twiceR C RP) ro none ho tw rc 0 hc tc) (fun _ _ _ iv _ => L.length - (intOf iv).toNat)
    case atStart => exact ⟨0, 0, 0, [], [], [], none, none, none, 0, 0, 0, rfl, rfl, rfl, rfl, Nat.zero_le _, rfl, ⟨Nat.le_refl _, Nat.le_refl _⟩, BPl.nil _, HD0.out⟩
    case round =>
      obtain ⟨i, m, n, X, C, RP, ro, ho, tw, rc, hc, tc, rfl, rfl, rfl, rfl, hi, hm, hn, hp, hd⟩ := hrel
      have HP := Lib.hid hp
      have HD := Lib.hid hd
      have HMX := Lib.hid hm
      have HN := Lib.hid hn
      have HML := Lib.hid (show m ≤ i by omega)
      clear hp hd hm hn HD0
      by_cases hil : i < L.length
      · have hii : (i : Int) < (L.length : Int) := by omega
        have hi12 : (i : Int) ≤ 12 := by omega
        obtain ⟨l0, hx⟩ : ∃ c, L[i]? = some c := ⟨_, List.getElem?_eq_getElem hil⟩
        obtain ⟨lb, loff, e0, hlb, hrec⟩ := HV.out.row i l0 hx
        subst e0
        have HLO := Lib.hid (HV.out.ok l0 (List.mem_of_getElem? hx))
        obtain ⟨c0, c1, c2, c3, c4, c5⟩ := hrec.below HD.out.ses.bel hlb
        clear hrec hx
        go_upto_region 10 with fail
        obtain ⟨w5, hw5⟩ : ∃ w5, w5 = wr.alloc (.cells (cmdA l0) 30) := ⟨_, rfl⟩
        have HD5 := Lib.hid (show BSt w w3 w5 s p b q n C X [] (C.map callE) (twiceR C RP) ro none ho tw rc 0 hc tc by rw [hw5]; exact HD.out.below ((Below.refl _ _).alloc (Nat.le_refl _) _))
        obtain ⟨gc, hgc⟩ : ∃ gc, gc = wr.heap.size := ⟨_, rfl⟩
        have HGC := Lib.hid (show w5.heap[gc]? = some (.cells (cmdA l0) 30 (0, 0)) by rw [hw5, hgc]; exact heap_alloc_new wr _)
        have HGE := Lib.hid (show w3.heap.size ≤ gc by rw [hgc]; exact HD.out.le3)
        rw [← hw5, ← hgc]
        clear hw5 hgc c0 c1 c2 c3 c4 c5 HD
        obtain ⟨⟨c0, c1, c2, c3, c4, c5⟩, fz⟩ := box6 HGC.out
        have hk1 := HLO.out.key
        have hk2 := HLO.out.val
        unfold maxLen at hk1 hk2
        have HSK := Lib.hid (fun (b1 b2 b3 b4 : Bool) (h1 : decide (100 < l0.key.size) = b1) (h2 : decide (1100 < l0.val.size) = b2) (h3 : (l0.kind == 0) = b3) (h4 : (l0.kind == 6) = b4) => skip_val h1 h2 h3 h4)
        go_cut [52] (fun bv wx => ∃ v : Bool, bv = .bool v ∧ skipB l0 = v ∧ w5 = wx)
        case first =>
          obtain ⟨b3, h3⟩ : ∃ b3, (l0.kind == 0) = b3 := ⟨_, rfl⟩
          obtain ⟨b4, h4⟩ : ∃ b4, (l0.kind == 6) = b4 := ⟨_, rfl⟩
          by_cases g1 : 100 < l0.key.size
          · have e3 : (100 : Int) < (l0.key.size : Int) := by omega
            go_wp2_with fail
            go_meet
            refine ⟨_, rfl, ?_, rfl⟩
            unfold skipB
            rw [decide_eq_true g1]
            rfl
          · have e3 : ¬ (100 : Int) < (l0.key.size : Int) := by omega
            by_cases g2 : 1100 < l0.val.size
            · have e4 : (1100 : Int) < (l0.val.size : Int) := by omega
              go_wp2_with fail
              go_meet
              refine ⟨_, rfl, ?_, rfl⟩
              unfold skipB
              rw [decide_eq_false g1, decide_eq_true g2]
              rfl
            · have e4 : ¬ (1100 : Int) < (l0.val.size : Int) := by omega
              cases b3 with
              | true =>
                go_wp2_with fail
                go_meet
                refine ⟨_, rfl, ?_, rfl⟩
                unfold skipB
                rw [decide_eq_false g1, decide_eq_false g2, h3]
                rfl
              | false =>
                cases b4 with
                | true =>
                  go_wp2_with fail
                  go_meet
                  refine ⟨_, rfl, ?_, rfl⟩
                  unfold skipB
                  rw [decide_eq_false g1, decide_eq_false g2, h3, h4]
                  rfl
                | false =>
                  go_wp2_with fail
                  go_meet
                  refine ⟨_, rfl, ?_, rfl⟩
                  unfold skipB
                  rw [decide_eq_false g1, decide_eq_false g2, h3, h4]
                  rfl
        case rest =>
          obtain ⟨v, rfl, hsk, rfl⟩ := hcut
          have HSKV := Lib.hid hsk
          clear hsk HSK
          cases v with
          | true =>
            go_wp2_with fail
            go_roundw
            case rel => exact ⟨i + 1, m, n, X, C, RP, ro, ho, tw, rc, hc, tc, rfl, rfl, rfl, by go_num, by omega, HMX.out, by have := HN.out; omega, HP.out.skip, HD5.out⟩
            case measure => simp [intOf]; omega
          | false =>
            go_upto_region 13 with fail
            have hbx := box_set2 (v1 := 1 + (i : Int)) (v2 := 1) HGC.out
            obtain ⟨w6, hw6⟩ : ∃ w6, w6 = (w5.setCell ⟨gc, 1, none⟩ (.int .i64 (1 + (i : Int)))).setCell ⟨gc, 2, none⟩ (.int .i64 1) := ⟨_, rfl⟩
            rw [← hw6] at hbx ⊢
            clear hw6
            obtain ⟨c, hcd⟩ : ∃ c, c = ({ l0 with client := 1 + (i : Int), seq := 1 } : Cmd) := ⟨_, rfl⟩
            have HCL := Lib.hid (show c.client = (i : Int) + 1 by rw [hcd]; show 1 + (i : Int) = _; omega)
            have HCS := Lib.hid (show c.seq = 1 by rw [hcd])
            have HCO := Lib.hid (show CmdOk c by rw [hcd]; exact with_ok HLO.out (ini_of (by omega) (by omega)) (ini_of (by omega) (by omega)))
            have HCK := Lib.hid (show c.key.size ≤ 1000000 by rw [hcd]; have := skip_key HSKV.out; show l0.key.size ≤ _; omega)
            rw [← hcd] at hbx
            have HD6 := Lib.hid (HD5.out.box HGC.out HGE.out hbx.2 (HD5.out.recs.notbox HGC.out (by decide)) (by decide) (by decide))
            have HC6 := Lib.hid hbx.1
            clear hbx hcd c0 c1 c2 c3 c4 c5 fz HD5 HGC
            obtain ⟨⟨c0, c1, c2, c3, c4, c5⟩, _⟩ := box6 HC6.out
            obtain ⟨S2, r, F, hsd⟩ := ses_three (sesRun ⟨[], []⟩ C) c
            have HSD := Lib.hid hsd
            have HDO := Lib.hid (sdo_run HD6.out.ses (show SGood n (sesRun ⟨[], []⟩ C) from by
              have := SGood.run SGood.nil C
              exact this.mono (by have := HP.out.lenC.1; have := HN.out; have := HMX.out; omega)) (by have := HN.out; omega) HT.out c HCK.out HCO.out.client S2 r F hsd)
            clear hsd
            go_wp2_with fail
            refine HDO.out.mono ?_
            rintro e w7 ⟨rfl, hs7, hm7⟩
            have hc7 := hm7.heap HC6.out (fun h => by have := HD6.out.lt; have := HGE.out; omega)
            have HC7 := Lib.hid hc7
            clear c0 c1 c2 c3 c4 c5 HDO hc7
            cases F with
            | false =>
              have HD7 := Lib.hid (HD6.out.do_ (C2 := C) hs7 (by have := ses_still (s := sesRun ⟨[], []⟩ C) (c := c) (by rw [HSD.out]); rw [HSD.out] at this; exact this) hm7)
              clear hs7 hm7
              go_wp2_with fail
              go_roundw
              case rel => exact ⟨i + 1, m, n + 1, X, C, RP, ro, ho, tw, rc, hc, tc, rfl, rfl, rfl, by go_num, by omega, HMX.out, by have := HN.out; omega, HP.out.skip, HD7.out.below ((Below.refl _ _).alloc (Nat.le_refl _) _)⟩
              case measure => simp [intOf]; omega
            | true =>
              have HD7 := Lib.hid (HD6.out.do_ (C2 := C ++ [c]) hs7 (by rw [sesRun_snoc, HSD.out]) hm7)
              clear hs7 hm7
              go_upto_region 14 with fail
              obtain ⟨w8, hw8⟩ : ∃ w8, w8 = w7.alloc (.cells #[.int .i64 r.code, .string r.val, .int .i64 r.rev] 33) := ⟨_, rfl⟩
              have hb8 : Below w7.heap.size w7 w8 := by rw [hw8]; exact (Below.refl _ _).alloc (Nat.le_refl _) _
              obtain ⟨gr, hgr⟩ : ∃ gr, gr = w7.heap.size := ⟨_, rfl⟩
              have HD8 := Lib.hid (HD7.out.below hb8)
              have HC8 := Lib.hid ((hb8.block _ (M.heap_lt HC7.out)).trans HC7.out)
              have HR8 := Lib.hid (show w8.heap[gr]? = some (.cells #[.int .i64 r.code, .string r.val, .int .i64 r.rev] 33 (0, 0)) by rw [hw8, hgr]; exact heap_alloc_new w7 _)
              rw [← hw8, ← hgr]
              clear hw8 hb8 hgr
              obtain ⟨⟨c0, c1, c2, c3, c4, c5⟩, _⟩ := box6 HC8.out
              go_upto_region 16 with fail
              obtain ⟨w9, hw9⟩ : ∃ w9, w9 = w8.alloc (recO (mkR ⟨0, (i : Int) + 1⟩ c [] none 0)) := ⟨_, rfl⟩
              have hww : w8.alloc (.cells #[.int .i64 0, .int .i64 ((i : Int) + 1), .int .i64 3, .int .i64 0, .int .i64 0, .int .i64 0, .int .i64 0, .int .i64 c.kind, .int .i64 c.client, .int .i64 c.seq, .string c.key, .string c.val, .int .i64 c.rev, .slice none 0 0, .int .i64 0, .int .i64 2] 43) = w9 := by rw [hw9]; rfl
              rw [hww]
              have hb9 : Below w8.heap.size w8 w9 := by rw [hw9]; exact (Below.refl _ _).alloc (Nat.le_refl _) _
              obtain ⟨g, hg9⟩ : ∃ g, g = w8.heap.size := ⟨_, rfl⟩
              have HD9 := Lib.hid (HD8.out.below hb9)
              have HC9 := Lib.hid ((hb9.block _ (M.heap_lt HC8.out)).trans HC8.out)
              have HR9 := Lib.hid ((hb9.block _ (M.heap_lt HR8.out)).trans HR8.out)
              have HX9 := Lib.hid (show w9.heap[g]? = some (recO (mkR ⟨0, (i : Int) + 1⟩ c [] none 0)) by rw [hw9, hg9]; exact heap_alloc_new w8 _)
              have HG3 := Lib.hid (show w3.heap.size ≤ g by rw [hg9]; exact HD8.out.le3)
              have HNE := Lib.hid (show gc ≠ g ∧ gr ≠ g by have h1 := M.heap_lt HC8.out; have h2 := M.heap_lt HR8.out; omega)
              have HNR := Lib.hid (show ∀ a, ro = some a → ¬ a.block = g from fun a e => by obtain ⟨_, _, _, h6⟩ := HD8.out.recs.cells a e; omega)
              rw [← hg9]
              clear hw9 hww hb9 hg9 c0 c1 c2 c3 c4 c5 HD8 HC8 HR8 HD7 HC7 HD6 HC6
              go_wp2_with fail
              obtain ⟨wa, rfl⟩ : ∃ wa, wa = w9 := ⟨_, rfl⟩
              go_loopw [14] (fun kv wr2 => ∃ (k : Nat) (di : Option Addr) (dc : Nat), kv = .int .i64 k ∧ k ≤ m ∧ BSt w w3 wr2 s p b q (n + 1) (C ++ [c]) X ((idsX X).take k) (C.map callE) (twiceR C RP) ro di ho tw rc dc hc tc ∧ wr2.heap[g]? = some (recO (mkR ⟨0, (i : Int) + 1⟩ c ((idsX X).take k) di dc)) ∧ wr2.heap[gc]? = some (.cells (cmdA c) 30 (0, 0)) ∧ wr2.heap[gr]? = some (.cells #[.int .i64 r.code, .string r.val, .int .i64 r.rev] 33 (0, 0))) (fun kv _ => m - (intOf kv).toNat)
              case atStart => exact ⟨0, none, 0, rfl, Nat.zero_le _, HD9.out, HX9.out, HC9.out, HR9.out⟩
              case round =>
                obtain ⟨k, di, dc, rfl, hk, hd, hg, hgc, hgr⟩ := hrel
                have HD := Lib.hid hd
                have HG := Lib.hid hg
                have HC := Lib.hid hgc
                have HR := Lib.hid hgr
                clear hd hg hgc hgr HD9 HX9 HC9 HR9
                have hm12 : (m : Int) ≤ 12 := by have := HML.out; omega
                by_cases hkl : k < m
                · have hkm : (k : Int) < (m : Int) := by omega
                  have HKL := Lib.hid hkl
                  obtain ⟨y, hy⟩ : ∃ y, X[k]? = some y := ⟨_, List.getElem?_eq_getElem (by have := HMX.out; omega)⟩
                  obtain ⟨yb, yoff, ye, hyb, hyc⟩ := (HD.out.recs.view lRR).row k y hy
                  subst ye
                  have HY := Lib.hid (show ∀ w', Below wr.heap.size wr w' → w'.cell? ⟨yb, yoff + k * 16, none⟩ = some (.int .i64 y.id.r) ∧ w'.cell? ⟨yb, yoff + k * 16 + 1, none⟩ = some (.int .i64 y.id.n) from fun w' hb => ⟨(hb.cell (p := ⟨yb, _, none⟩) hyb).trans (hyc 0 (by decide)), (hb.cell (p := ⟨yb, _, none⟩) hyb).trans (hyc 1 (by decide))⟩)
                  have HYK := Lib.hid (show (idsX X)[k]? = some y.id by rw [List.getElem?_map, hy]; rfl)
                  have HNP := Lib.hid (show ¬ ∃ a, di = some a ∧ g = a.block from fun ⟨a, e, eg⟩ => HD.out.ids.notbox HG.out (by decide) a e eg.symm)
                  clear hy hyb hyc
                  go_upto_region 19 with fail
                  refine more_r19 wr w3.heap.size g di ((idsX X).take k) dc c ⟨0, (i : Int) + 1⟩ yb yoff k m rc y.id HD.out.le3 hkm (by have := HML.out; rw [List.length_take]; omega) HG (Lib.hid HD.out.ids) HNP HY _ (by kernel_rfl) _ _ _ _ _ _ _ _ _ _ _ _ _ _ _ _ _ _ _ _ _ _ _ _ _ _ _ _ _ _ _ _ _ _ _ _ _ _ _ _ _ _ _ _ _ _ _ _ _ _ _ _ _ _ _ _ _ _ _ _ _ _ _ _ _ _ _ _ _ _ _ _ _ _ _ _ _ _ _ _ _ _ _ _ _ _ _ _ _ _ _ _ _ _ _ _ _ _ _ _ _ _ _ _ _ _ _ _ _ _ _ _ _ _ _ _ _ _ _ _ _ _ _ _ _ _ _ _ _ _ _ _ _ _ _ _ (Lib.hid ?_)
                  intro x77 x78 x79 x80 x81 x82 x83 x84 x85 x86 x87 x88 ao2 cap2 w10 hown hmod hfr hbox
                  have HC10 := Lib.hid (hmod.heap HC.out (fun h => by
                    rcases h with ⟨a, e, eg⟩ | eg
                    · exact HD.out.ids.notbox HC.out (by decide) a e eg.symm
                    · exact HNE.out.1 eg))
                  have HR10 := Lib.hid (hmod.heap HR.out (fun h => by
                    rcases h with ⟨a, e, eg⟩ | eg
                    · exact HD.out.ids.notbox HR.out (by decide) a e eg.symm
                    · exact HNE.out.2 eg))
                  have hd10 := HD.out.idbox HG.out HG3.out HNR.out hown hmod hfr
                  rw [take_nextA HYK.out] at hd10 hbox
                  have HD10 := Lib.hid hd10
                  have HG10 := Lib.hid hbox
                  clear hown hmod hfr hbox hd10
                  dsimp only
                  go_wp2_with fail
                  go_roundw
                  case rel => exact ⟨k + 1, ao2, cap2, by go_num, (by have := HKL.out; omega), HD10.out, HG10.out, HC10.out, HR10.out⟩
                  case measure => have := HKL.out; simp [intOf]; omega
                · obtain rfl : k = m := by omega
                  have hkm : ¬ (k : Int) < (k : Int) := by omega
                  have hml := HML.out
                  have HTK := Lib.hid (show (idsX X).take k = idsX X from List.take_of_length_le (by have := HMX.out; simp; omega))
                  obtain ⟨xr, hxr⟩ : ∃ xr, xr = mkR ⟨0, (i : Int) + 1⟩ c (idsX X) di dc := ⟨_, rfl⟩
                  have HXR := Lib.hid hxr
                  have HGX := Lib.hid (show wr.heap[g]? = some (recO xr) by rw [hxr, ← HTK.out]; exact HG.out)
                  have HDX := Lib.hid (show BSt w w3 wr s p b q (n + 1) (C ++ [c]) X xr.deps (C.map callE) (twiceR C RP) ro xr.ao ho tw rc xr.cap hc tc by
                    have := HD.out
                    rw [HTK.out] at this
                    rw [hxr]
                    exact this)
                  have HLH := Lib.hid (show (C.map callE).length = k by rw [List.length_map]; have := HP.out.lenC.1; have := HMX.out; omega)
                  have HLT := Lib.hid (show (twiceR C RP).length = k + k by
                    have h1 := HP.out.lenC
                    have h2 := HMX.out
                    rw [twiceR_len (by omega)]
                    omega)
                  clear HTK hxr
                  obtain ⟨d0, d1, d2, d3, d4, d5, d6, d7, d8, d9, d10, d11, d12, d13, d14, d15⟩ := box16 HGX.out
                  go_upto_region 21 with (refine wpList_rowApp lRR (by rfl) _ _ (by rfl) w3.heap.size ro rc 1 X [xr] wr.heap.size (recA xr) (heap_alloc_new wr _) rfl rfl (by rw [HMX.out]; rfl) (HDX.out.recs.below ((Below.refl _ _).alloc (Nat.le_refl _) _)) (by rfl) (by rw [HMX.out]; simp; omega) (by have := HDX.out.le3; simp; omega) ?_
                                          intro ro2 rc2 w10 how hM hb hf
                                          have hal := (Below.refl wr.heap.size wr).alloc (Nat.le_refl _) (.cells (recA xr) 43)
                                          have hod := HDX.out.recs.below hal
                                          have HC10 := Lib.hid (hod.box ((hal.block _ (M.heap_lt HC.out)).trans HC.out) (by decide) hM)
                                          have HR10 := Lib.hid (hod.box ((hal.block _ (M.heap_lt HR.out)).trans HR.out) (by decide) hM)
                                          have HD10 := Lib.hid (((HDX.out.drop).below hal).rec_ how hM (HDX.out.ids.below hal) (fun a _ d e => by cases e))
                                          rw [HMX.out]
                                          clear how hM hb hf hal hod)
                  clear d0 d1 d2 d3 d4 d5 d6 d7 d8 d9 d10 d11 d12 d13 d14 d15 HD HG HC HR HGX HDX
                  obtain ⟨⟨c0, c1, c2, c3, c4, c5⟩, _⟩ := box6 HC10.out
                  go_upto_region 22 with (refine wpList_rowApp lRE (by rfl) _ _ (by rfl) w3.heap.size ho hc 1 (C.map callE) [callE c] w10.heap.size (evA (callE c)) (heap_alloc_new w10 _) rfl rfl (by rw [HLH.out]; rfl) (HD10.out.evs.below ((Below.refl _ _).alloc (Nat.le_refl _) _)) (by rfl) (by rw [HLH.out]; simp; omega) (by have := HD10.out.le3; simp; omega) ?_
                                          intro ho2 hc2 w11 how hM hb hf
                                          have hal := (Below.refl w10.heap.size w10).alloc (Nat.le_refl _) (.cells (evA (callE c)) 45)
                                          have hod := HD10.out.evs.below hal
                                          have HC11 := Lib.hid (hod.box ((hal.block _ (M.heap_lt HC10.out)).trans HC10.out) (by decide) hM)
                                          have HR11 := Lib.hid (hod.box ((hal.block _ (M.heap_lt HR10.out)).trans HR10.out) (by decide) hM)
                                          have HD11 := Lib.hid (((HD10.out).below hal).evs_ how hM hf)
                                          rw [HLH.out]
                                          clear how hM hb hf hal hod)
                  clear c0 c1 c2 c3 c4 c5 HD10 HC10 HR10
                  obtain ⟨⟨c0, c1, c2, c3, c4, c5⟩, _⟩ := box6 HC11.out
                  obtain ⟨⟨r0, r1, r2⟩, _, _⟩ := box3 HR11.out
                  go_upto_region 23 with fail
                  obtain ⟨w12, hw12⟩ : ∃ w12, w12 = w11.alloc (evO (ansE c.client 1 r)) := ⟨_, rfl⟩
                  have hww : w11.alloc (.cells #[.int .i64 2, .int .i64 0, .int .i64 0, .int .i64 0, .int .i64 0, .string ⟨#[]⟩, .string ⟨#[]⟩, .int .i64 0, .int .i64 c.client, .int .i64 1, .int .i64 r.code, .string r.val, .int .i64 r.rev] 45) = w12 := by rw [hw12]; rfl
                  rw [hww]
                  have hb12 : Below w11.heap.size w11 w12 := by rw [hw12]; exact (Below.refl _ _).alloc (Nat.le_refl _) _
                  have HD12 := Lib.hid (HD11.out.below hb12)
                  have hx12 : w12.heap[w11.heap.size]? = some (evO (ansE c.client 1 r)) := by rw [hw12]; exact heap_alloc_new w11 _
                  clear hw12 hww hb12 c0 c1 c2 c3 c4 c5 r0 r1 r2 HD11 HC11 HR11
                  obtain ⟨ev, hev⟩ : ∃ ev, ev = ansE c.client 1 r := ⟨_, rfl⟩
                  have HEV := Lib.hid hev
                  rw [← hev] at hx12
                  obtain ⟨p0, p1, p2, p3, p4, p5, p6, p7, p8, p9, p10, p11, p12⟩ := box13 hx12
                  clear hx12 hev
                  go_wp2_with (refine wpList_rowApp lRE (by rfl) _ _ (by rfl) w3.heap.size tw tc 2 (twiceR C RP) [ev, ev] w12.heap.size (([ev, ev].flatMap evC).toArray) (heap_alloc_new w12 _) rfl rfl (by rw [HLT.out]; rfl) (HD12.out.evt.below ((Below.refl _ _).alloc (Nat.le_refl _) _)) (by rfl) (by rw [HLT.out]; simp; omega) (by have := HD12.out.le3; simp; omega) ?_
                               intro tw2 tc2 w13 how hM hb hf
                               have hal := (Below.refl w12.heap.size w12).alloc (Nat.le_refl _) (.cells (([ev, ev].flatMap evC).toArray) 45)
                               have HD13 := Lib.hid (((HD12.out).below hal).evt_ how hM hf)
                               rw [HLT.out]
                               clear how hM hb hf hal)
                  go_roundw
                  case rel =>
                    have hev2 : ev = ansE c.client c.seq r := by rw [HEV.out, HCS.out]
                    have hlc := HP.out.lenC
                    refine ⟨i + 1, k + 1, n + 1, X ++ [xr], C ++ [c], RP ++ [r], ro2, ho2, tw2, rc2, hc2, tc2, rfl, rfl, ?_, by go_num, by omega, by rw [List.length_append, HMX.out]; rfl, by have := HN.out; omega, ?_, ?_⟩
                    · rw [show k + 1 + (k + 1) = k + k + 2 by omega]
                    · rw [HXR.out]
                      exact HP.out.more (fun c d h => congrArg Prod.fst h) (by omega) HCL.out HCO.out HCK.out HSD.out (by show (0 : Int) ≤ 0; decide) (by show (0 : Int) ≤ 6; decide) rfl di dc
                    · have := HD13.out
                      rw [hev2, ← twiceR_snoc (by omega), show C.map callE ++ [callE c] = (C ++ [c]).map callE by rw [List.map_append]; rfl] at this
                      exact this
                  case measure => simp [intOf]; omega
      · obtain rfl : i = L.length := by omega
        have hii : ¬ (L.length : Int) < (L.length : Int) := by omega
        have hm12 : (m : Int) ≤ 12 := by have := HML.out; omega
        have HLH := Lib.hid (show (C.map callE).length = m by rw [List.length_map]; have := HP.out.lenC.1; have := HMX.out; omega)
        have HLT := Lib.hid (show (twiceR C RP).length = m + m by
          have h1 := HP.out.lenC
          have h2 := HMX.out
          rw [twiceR_len (by omega)]
          omega)
        have HLA := Lib.hid (show (C.map callE ++ twiceR C RP).length = m + (m + m) by rw [List.length_append, HLH.out, HLT.out])
        have HL3 := Lib.hid (more_three HP.out (by omega) sq)
        have HCO := Lib.hid (show ∀ c ∈ C, CmdOk c from fun c hc => (HP.out.cl c hc).2.1)
        have HRK := Lib.hid (HP.out.recs (by omega))
        have HL12 := Lib.hid (show L.length ≤ 12 by omega)
        go_upto_region 25 with (first
          | (refine wpList_appsN lRE (by rfl) _ _ (by rfl) wr.heap.size (some ⟨wr.heap.size, 0, none⟩) 0 ho hc 0 m [] (C.map callE) rfl HLH.out (by rfl) (own_lit (B := wr.heap.size) lRE (X := []) (heap_alloc_new wr _) rfl (Nat.le_refl _) (Nat.zero_le _)) (by rfl) (((HD.out.evs.view lRE).below ((Below.refl _ _).alloc (Nat.le_refl _) _)).src lRE) (by omega) (by simp) ?_
             intro oa ca wa how hM hb hf
             have HWA := Lib.hid (((Below.refl wr.heap.size wr).alloc (Nat.le_refl _) (.cells #[] 45)).trans hb)
             have HOA := Lib.hid how
             rw [Nat.zero_add]
             clear how hM hb hf)
          | (refine wpList_appsN lRE (by rfl) _ _ (by rfl) wr.heap.size oa ca tw tc m (m + m) (C.map callE) (twiceR C RP) HLH.out HLT.out (by rfl) HOA.out (by rfl) (((HD.out.evt.view lRE).below HWA.out).src lRE) (by omega) HWA.out.size ?_
             intro ob cb wb how hM hb hf
             have HWB := Lib.hid (HWA.out.trans hb)
             have HOB := Lib.hid how
             clear how hM hb hf))
        have HDB := Lib.hid (HD.out.below HWB.out)
        clear HOA HWA HD HWB
        go_upto_region 26 with (first
          | (refine wpList_appsN lRE (by rfl) _ _ (by rfl) wb.heap.size (some ⟨wb.heap.size, 0, none⟩) 0 ob cb 0 (m + (m + m)) [] (C.map callE ++ twiceR C RP) rfl HLA.out (by rfl) (own_lit (B := wb.heap.size) lRE (X := []) (heap_alloc_new wb _) rfl (Nat.le_refl _) (Nat.zero_le _)) (by rfl) (((HOB.out.view lRE).below ((Below.refl _ _).alloc (Nat.le_refl _) _)).src lRE) (by omega) (by simp) ?_
             intro od cd wd how hM hb hf
             have HWD := Lib.hid (((Below.refl wb.heap.size wb).alloc (Nat.le_refl _) (.cells #[] 45)).trans hb)
             have HOD := Lib.hid how
             rw [Nat.zero_add]
             clear how hM hb hf)
          | (refine wpList_appsN lRE (by rfl) _ _ (by rfl) wb.heap.size od cd (some ⟨wd.heap.size, 0, none⟩) 1 (m + (m + m)) 1 (C.map callE ++ twiceR C RP) [ansE 50 sq ⟨0, nul, 0⟩] HLA.out rfl (by rfl) (HOD.out.below ((Below.refl _ _).alloc (Nat.le_refl _) _)) (by rfl) (src_of (S := sRE) (Y := [ansE 50 sq ⟨0, nul, 0⟩]) (heap_alloc_new wd _) rfl) (by omega) (by have := HWD.out.size; simp; omega) ?_
             intro oe ce we how hM hb hf
             have HWE := Lib.hid (HWD.out.trans (((Below.refl wd.heap.size wd).alloc (Nat.le_refl _) (.cells ([ansE 50 sq ⟨0, nul, 0⟩].flatMap evC).toArray 45)).mono HWD.out.size |>.trans hb))
             have HOE := Lib.hid how
             clear how hM hb hf))
        have HDE := Lib.hid (HDB.out.below HWE.out)
        have HVH := Lib.hid (HDE.out.evs.view lRE)
        have HVA := Lib.hid ((HOB.out.view lRE).below HWE.out)
        have HVE := Lib.hid (HOE.out.view lRE)
        have HRV := Lib.hid (HDE.out.recsV HP.out (by omega))
        have HLE := Lib.hid (show (C.map callE ++ twiceR C RP ++ [ansE 50 sq ⟨0, nul, 0⟩]).length = m + (m + m) + 1 by rw [List.length_append, HLA.out]; rfl)
        have HBE := Lib.hid HDE.out.ses.bel
        clear HOD HWD HDB HOB HOE HDE HWE
        have HLN := Lib.hid (linear_n HMX.out HLH.out HRV.out (HT.out.next HBE.out) HRK.out HVH.out (fun e he => more_evs (RP := RP) HCO.out e (List.mem_append_left _ he)) (by omega) HL3.out.1)
        go_wp2_with fail
        refine HLN.out.mono ?_
        rintro e w31 ⟨rfl, hb⟩
        have HB31 := Lib.hid (HBE.out.trans (hb.mono HBE.out.size))
        have HRV2 := Lib.hid (HRV.out.below hb)
        have HVA2 := Lib.hid (HVA.out.below hb)
        have HVE2 := Lib.hid (HVE.out.below hb)
        have HLN2 := Lib.hid (linear_n HMX.out HLA.out HRV2.out (HT.out.next HB31.out) HRK.out HVA2.out (more_evs HCO.out) (by omega) HL3.out.2.1)
        clear hb HLN
        go_wp2_with fail
        refine HLN2.out.mono ?_
        rintro e w32 ⟨rfl, hb⟩
        have HB32 := Lib.hid (HB31.out.trans (hb.mono HB31.out.size))
        have HRV3 := Lib.hid (HRV2.out.below hb)
        have HVE3 := Lib.hid (HVE2.out.below hb)
        have HLN3 := Lib.hid (linear_n HMX.out HLE.out HRV3.out (HT.out.next HB32.out) HRK.out HVE3.out (bad_evs HCO.out HSQ.out) (by omega) HL3.out.2.2)
        clear hb HLN2
        go_wp2_with fail
        refine HLN3.out.mono ?_
        rintro e w33 ⟨rfl, hb⟩
        have HB33 := Lib.hid (HB32.out.trans (hb.mono HB32.out.size))
        clear hb HLN3
        go_wp2_with fail
        refine (cawake_any _ (HT.out.next HB33.out)).mono ?_
        rintro e w34 ⟨rfl, hb⟩
        have HB34 := Lib.hid (HB33.out.trans (hb.mono HB33.out.size))
        clear hb
        go_wp2_with fail
        go_ret
        exact ⟨rfl, HB34.out⟩
end Go.Proofs.YtkgjfagejnppbaaGreatDoor.X
