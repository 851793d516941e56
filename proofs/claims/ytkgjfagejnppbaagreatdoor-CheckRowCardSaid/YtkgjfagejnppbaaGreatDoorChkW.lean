/- CheckRow: the walk. -/
import Derived.Test.YtkgjfagejnppbaaGreatDoorChkU
import Derived.Deep.DeepCutAuto
namespace Go.Proofs.YtkgjfagejnppbaaGreatDoor.X
open Go.RowKit Go.Proofs.YtkgjfagejnppbaaGreatDoor.M Go.BigFrame Go.Proofs.YtkgjfagejnppbaaGreatDoor.O Go.Proofs.YtkgjfagejnppbaaGreatDoor.P Go.Proofs.YtkgjfagejnppbaaGreatDoor.Mp Go.Proofs.YtkgjfagejnppbaaGreatDoor.Rw
set_option linter.unusedVariables false
set_option linter.unusedSimpArgs false

set_option maxRecDepth 100000 in
set_option maxHeartbeats 4000000 in
theorem row_law (L : List Cmd) (ao : Option Addr) (cap : Nat) (tn : Int) (w : World) (hV : CmdsV w.heap.size w ao cap L) (htn : InI tn) (hT : TabsI w) :
    Calls Tryz.prog 3 #[.slice ao L.length cap, .int .i64 tn] w fun e w' => e = .returned (.bool true) ∧ Below w.heap.size w w' := by
  obtain ⟨hl1, hl2⟩ := hV.le
  unfold maxLen at hl2
  have HV := Lib.hid hV
  have HT := Lib.hid hT
  have HTN := Lib.hid htn
  clear hV hT htn
  go_enter Tryz.func3, Tryz.ntmps3
  by_cases h12 : 12 < L.length
  · have e1 : (12 : Int) < (L.length : Int) := by omega
    go_wp2_with fail
    refine (cawake_any w HT.out).mono ?_
    rintro e w1 ⟨rfl, hb⟩
    have HB := Lib.hid hb
    clear hb
    go_wp2_with fail
    go_ret
    exact ⟨rfl, HB.out⟩
  · have e1 : ¬ (12 : Int) < (L.length : Int) := by omega
    go_wp2_with fail
    refine (snew_run w).mono ?_
    rintro e w3 ⟨s, p, b, q, rfl, hs⟩
    have HD0 := Lib.hid (BSt.start hs)
    clear hs
    go_wp2_with fail
    go_loopw [6, 7, 8, 9] (fun rv hv dv iv wr => ∃ (i m n : Nat) (X : List Rv) (C : List Cmd) (RP : List Rep) (ro ho di : Option Addr) (rc hc dc : Nat), rv = .slice ro m rc ∧ hv = .slice ho (m + m) hc ∧ dv = .slice di m dc ∧ iv = .int .i64 i ∧ i ≤ L.length ∧ X.length = m ∧ (m ≤ n ∧ n ≤ i) ∧ BPl Cmd.seq i X C RP ∧ BSt w w3 wr s p b q n C X (idsX X) (evsR C RP) [] ro di ho none rc dc hc 0) (fun _ _ _ iv _ => L.length - (intOf iv).toNat)
    case atStart => exact ⟨0, 0, 0, [], [], [], none, none, none, 0, 0, 0, rfl, rfl, rfl, rfl, Nat.zero_le _, rfl, ⟨Nat.le_refl _, Nat.le_refl _⟩, BPl.nil _, HD0.out⟩
    case round =>
      obtain ⟨i, m, n, X, C, RP, ro, ho, di, rc, hc, dc, rfl, rfl, rfl, rfl, hi, hm, hn, hp, hd⟩ := hrel
      have HP := Lib.hid hp
      have HD := Lib.hid hd
      have HMX := Lib.hid hm
      have HN := Lib.hid hn
      have HML := Lib.hid (show m ≤ i by omega)
      clear hp hd hm hn HD0
      by_cases hil : i < L.length
      · have hii : (i : Int) < (L.length : Int) := by omega
        have hi12 : (i : Int) ≤ 12 := by omega
        obtain ⟨l0, hx⟩ : ∃ c, L[i]? = some c := ⟨_, List.getElem?_eq_getElem hil⟩
        obtain ⟨lb, loff, e0, hlb, hrec⟩ := HV.out.row i l0 hx
        subst e0
        have HLO := Lib.hid (HV.out.ok l0 (List.mem_of_getElem? hx))
        obtain ⟨c0, c1, c2, c3, c4, c5⟩ := hrec.below HD.out.ses.bel hlb
        clear hrec hx
        go_upto_region 11 with fail
        obtain ⟨w5, hw5⟩ : ∃ w5, w5 = wr.alloc (.cells (cmdA l0) 30) := ⟨_, rfl⟩
        have HD5 := Lib.hid (show BSt w w3 w5 s p b q n C X (idsX X) (evsR C RP) [] ro di ho none rc dc hc 0 by rw [hw5]; exact HD.out.below ((Below.refl _ _).alloc (Nat.le_refl _) _))
        obtain ⟨gc, hgc⟩ : ∃ gc, gc = wr.heap.size := ⟨_, rfl⟩
        have HGC := Lib.hid (show w5.heap[gc]? = some (.cells (cmdA l0) 30 (0, 0)) by rw [hw5, hgc]; exact heap_alloc_new wr _)
        have HGE := Lib.hid (show w3.heap.size ≤ gc by rw [hgc]; exact HD.out.le3)
        rw [← hw5, ← hgc]
        clear hw5 hgc c0 c1 c2 c3 c4 c5 HD
        obtain ⟨⟨c0, c1, c2, c3, c4, c5⟩, fz⟩ := box6 HGC.out
        have hk1 := HLO.out.key
        have hk2 := HLO.out.val
        unfold maxLen at hk1 hk2
        have HSK := Lib.hid (fun (b1 b2 b3 b4 : Bool) (h1 : decide (100 < l0.key.size) = b1) (h2 : decide (1100 < l0.val.size) = b2) (h3 : (l0.kind == 0) = b3) (h4 : (l0.kind == 6) = b4) => skip_val h1 h2 h3 h4)
        go_cut [50] (fun bv wx => ∃ v : Bool, bv = .bool v ∧ skipB l0 = v ∧ w5 = wx)
        case first =>
          obtain ⟨b3, h3⟩ : ∃ b3, (l0.kind == 0) = b3 := ⟨_, rfl⟩
          obtain ⟨b4, h4⟩ : ∃ b4, (l0.kind == 6) = b4 := ⟨_, rfl⟩
          by_cases g1 : 100 < l0.key.size
          · have e3 : (100 : Int) < (l0.key.size : Int) := by omega
            go_wp2_with fail
            go_meet
            refine ⟨_, rfl, ?_, rfl⟩
            unfold skipB
            rw [decide_eq_true g1]
            rfl
          · have e3 : ¬ (100 : Int) < (l0.key.size : Int) := by omega
            by_cases g2 : 1100 < l0.val.size
            · have e4 : (1100 : Int) < (l0.val.size : Int) := by omega
              go_wp2_with fail
              go_meet
              refine ⟨_, rfl, ?_, rfl⟩
              unfold skipB
              rw [decide_eq_false g1, decide_eq_true g2]
              rfl
            · have e4 : ¬ (1100 : Int) < (l0.val.size : Int) := by omega
              cases b3 with
              | true =>
                go_wp2_with fail
                go_meet
                refine ⟨_, rfl, ?_, rfl⟩
                unfold skipB
                rw [decide_eq_false g1, decide_eq_false g2, h3]
                rfl
              | false =>
                cases b4 with
                | true =>
                  go_wp2_with fail
                  go_meet
                  refine ⟨_, rfl, ?_, rfl⟩
                  unfold skipB
                  rw [decide_eq_false g1, decide_eq_false g2, h3, h4]
                  rfl
                | false =>
                  go_wp2_with fail
                  go_meet
                  refine ⟨_, rfl, ?_, rfl⟩
                  unfold skipB
                  rw [decide_eq_false g1, decide_eq_false g2, h3, h4]
                  rfl
        case rest =>
          obtain ⟨v, rfl, hsk, rfl⟩ := hcut
          have HSKV := Lib.hid hsk
          clear hsk HSK
          cases v with
          | true =>
            go_wp2_with fail
            go_roundw
            case rel => exact ⟨i + 1, m, n, X, C, RP, ro, ho, di, rc, hc, dc, rfl, rfl, rfl, by go_num, by omega, HMX.out, by have := HN.out; omega, HP.out.skip, HD5.out⟩
            case measure => simp [intOf]; omega
          | false =>
            go_upto_region 14 with fail
            have hbx := box_set2r (v1 := 1 + (i : Int) % 3) (v2 := (i : Int) + 1) HGC.out
            obtain ⟨w6, hw6⟩ : ∃ w6, w6 = (w5.setCell ⟨gc, 2, none⟩ (.int .i64 ((i : Int) + 1))).setCell ⟨gc, 1, none⟩ (.int .i64 (1 + (i : Int) % 3)) := ⟨_, rfl⟩
            rw [← hw6] at hbx ⊢
            clear hw6
            obtain ⟨c, hcd⟩ : ∃ c, c = ({ l0 with client := 1 + (i : Int) % 3, seq := (i : Int) + 1 } : Cmd) := ⟨_, rfl⟩
            have HCL := Lib.hid (show c.seq = (i : Int) + 1 by rw [hcd])
            have HCO := Lib.hid (show CmdOk c by rw [hcd]; exact with_ok HLO.out (ini_of (by omega) (by omega)) (ini_of (by omega) (by omega)))
            have HCK := Lib.hid (show c.key.size ≤ 1000000 by rw [hcd]; have := skip_key HSKV.out; show l0.key.size ≤ _; omega)
            rw [← hcd] at hbx
            have HD6 := Lib.hid (HD5.out.box HGC.out HGE.out hbx.2 (HD5.out.recs.notbox HGC.out (by decide)) (by decide) (by decide))
            have HC6 := Lib.hid hbx.1
            clear hbx hcd c0 c1 c2 c3 c4 c5 fz HD5 HGC
            obtain ⟨⟨c0, c1, c2, c3, c4, c5⟩, _⟩ := box6 HC6.out
            obtain ⟨S2, r, F, hsd⟩ := ses_three (sesRun ⟨[], []⟩ C) c
            have HSD := Lib.hid hsd
            have HDO := Lib.hid (sdo_run HD6.out.ses (show SGood n (sesRun ⟨[], []⟩ C) from by
              have := SGood.run SGood.nil C
              exact this.mono (by have := HP.out.lenC.1; have := HN.out; have := HMX.out; omega)) (by have := HN.out; omega) HT.out c HCK.out HCO.out.client S2 r F hsd)
            clear hsd
            go_wp2_with fail
            refine HDO.out.mono ?_
            rintro e w7 ⟨rfl, hs7, hm7⟩
            have hc7 := hm7.heap HC6.out (fun h => by have := HD6.out.lt; have := HGE.out; omega)
            have HC7 := Lib.hid hc7
            clear c0 c1 c2 c3 c4 c5 HDO hc7
            cases F with
            | false =>
              have HD7 := Lib.hid (HD6.out.do_ (C2 := C) hs7 (by have := ses_still (s := sesRun ⟨[], []⟩ C) (c := c) (by rw [HSD.out]); rw [HSD.out] at this; exact this) hm7)
              clear hs7 hm7
              go_wp2_with fail
              go_roundw
              case rel => exact ⟨i + 1, m, n + 1, X, C, RP, ro, ho, di, rc, hc, dc, rfl, rfl, rfl, by go_num, by omega, HMX.out, by have := HN.out; omega, HP.out.skip, HD7.out.below ((Below.refl _ _).alloc (Nat.le_refl _) _)⟩
              case measure => simp [intOf]; omega
            | true =>
              have HD7 := Lib.hid (HD6.out.do_ (C2 := C ++ [c]) hs7 (by rw [sesRun_snoc, HSD.out]) hm7)
              clear hs7 hm7
              have hm12 : (m : Int) ≤ 12 := by have := HML.out; omega
              go_upto_region 15 with fail
              obtain ⟨w8, hw8⟩ : ∃ w8, w8 = w7.alloc (.cells #[.int .i64 r.code, .string r.val, .int .i64 r.rev] 33) := ⟨_, rfl⟩
              have hb8 : Below w7.heap.size w7 w8 := by rw [hw8]; exact (Below.refl _ _).alloc (Nat.le_refl _) _
              obtain ⟨gr, hgr⟩ : ∃ gr, gr = w7.heap.size := ⟨_, rfl⟩
              have HD8 := Lib.hid (HD7.out.below hb8)
              have HC8 := Lib.hid ((hb8.block _ (M.heap_lt HC7.out)).trans HC7.out)
              have HR8 := Lib.hid (show w8.heap[gr]? = some (.cells #[.int .i64 r.code, .string r.val, .int .i64 r.rev] 33 (0, 0)) by rw [hw8, hgr]; exact heap_alloc_new w7 _)
              rw [← hw8, ← hgr]
              clear hw8 hb8 hgr HD7 HC7 HD6 HC6
              go_upto_region 17 with fail
              obtain ⟨w9, hw9⟩ : ∃ w9, w9 = w8.alloc (idO ⟨(i : Int) % 3, (i : Int) + 1⟩) := ⟨_, rfl⟩
              have hb9 : Below w8.heap.size w8 w9 := by rw [hw9]; exact (Below.refl _ _).alloc (Nat.le_refl _) _
              obtain ⟨gi, hgi⟩ : ∃ gi, gi = w8.heap.size := ⟨_, rfl⟩
              have HD9 := Lib.hid (HD8.out.below hb9)
              have HC9 := Lib.hid ((hb9.block _ (M.heap_lt HC8.out)).trans HC8.out)
              have HR9 := Lib.hid ((hb9.block _ (M.heap_lt HR8.out)).trans HR8.out)
              have HI9 := Lib.hid (show w9.heap[gi]? = some (idO ⟨(i : Int) % 3, (i : Int) + 1⟩) by rw [hw9, hgi]; exact heap_alloc_new w8 _)
              rw [← hw9, ← hgi]
              clear hw9 hb9 hgi HD8 HC8 HR8
              have HLI := Lib.hid (show (idsX X).length = m by have := HMX.out; simp; omega)
              refine row_r17n m m w9 w3.heap.size gi gc ro X rc di (idsX X) dc c ⟨(i : Int) % 3, (i : Int) + 1⟩ HMX.out HLI.out HD9.out.le3 (by omega) (by omega) HI9 HC9 (Lib.hid HD9.out.recs) (Lib.hid (HD9.out.ids.view lRI)) _ (by kernel_rfl) _ _ _ _ _ _ _ _ _ _ _ _ _ _ _ _ _ _ _ _ _ _ _ _ _ _ _ _ _ _ _ _ _ _ _ _ _ _ _ _ _ _ _ _ _ _ _ _ _ _ _ _ _ _ _ _ _ _ _ _ _ _ _ _ _ _ _ _ _ _ _ _ _ _ _ _ _ _ _ _ _ _ _ _ _ _ _ _ _ _ _ _ _ _ _ _ _ _ _ _ _ _ _ _ _ _ _ _ _ _ _ _ _ _ _ _ _ _ _ _ _ _ _ _ _ _ _ _ _ _ _ _ _ _ _ _ _ _ _ _ _ _ (Lib.hid ?_)
              intro x71 x72 x73 x74 x75 x76 x77 x78 x79 x80 xo ro2 xc rc2 w10 hown hrec hmod
              have hd10 := HD9.out.rec2 hrec hmod hown
              have HC10 := Lib.hid (HD9.out.recs.box HC9.out (by decide) hmod)
              have HR10 := Lib.hid (HD9.out.recs.box HR9.out (by decide) hmod)
              have HI10 := Lib.hid (HD9.out.recs.box HI9.out (by decide) hmod)
              obtain ⟨xr, hxr⟩ : ∃ xr, xr = mkR ⟨(i : Int) % 3, (i : Int) + 1⟩ c (idsX X) xo xc := ⟨_, rfl⟩
              rw [← hxr] at hd10
              have HD10 := Lib.hid hd10
              have HXR := Lib.hid hxr
              clear hown hrec hmod hd10 hxr HD9 HC9 HR9 HI9
              dsimp only
              obtain ⟨⟨d0, d1⟩, _⟩ := box2 HI10.out
              go_upto_region 19 with (refine wpList_rowApp lRI (by rfl) _ _ (by rfl) w3.heap.size di dc 1 (idsX X) [(⟨(i : Int) % 3, (i : Int) + 1⟩ : O.Id)] w10.heap.size #[.int .i64 ((i : Int) % 3), .int .i64 ((i : Int) + 1)] (heap_alloc_new w10 _) rfl rfl (by rw [HLI.out]; rfl) (HD10.out.ids.below ((Below.refl _ _).alloc (Nat.le_refl _) _)) (by rfl) (by rw [HLI.out]; simp; omega) (by have := HD10.out.le3; simp; omega) ?_
                                      intro di2 dc2 w11 how hM hb hf
                                      have hal := (Below.refl w10.heap.size w10).alloc (Nat.le_refl _) (.cells #[.int .i64 ((i : Int) % 3), .int .i64 ((i : Int) + 1)] 37)
                                      have hod := HD10.out.ids.below hal
                                      have HC11 := Lib.hid (hod.box ((hal.block _ (M.heap_lt HC10.out)).trans HC10.out) (by decide) hM)
                                      have HR11 := Lib.hid (hod.box ((hal.block _ (M.heap_lt HR10.out)).trans HR10.out) (by decide) hM)
                                      have HD11 := Lib.hid (((HD10.out).below hal).ids_ how hM hf)
                                      rw [HLI.out]
                                      clear how hM hb hf hal hod)
              clear d0 d1 HD10 HC10 HR10 HI10
              have HLE := Lib.hid (show (evsR C RP).length = m + m by
                have h1 := HP.out.lenC
                have h2 := HMX.out
                rw [evsR_len (by omega)]
                omega)
              obtain ⟨⟨c0, c1, c2, c3, c4, c5⟩, _⟩ := box6 HC11.out
              obtain ⟨⟨r0, r1, r2⟩, _, _⟩ := box3 HR11.out
              go_wp2_with (refine wpList_rowApp lRE (by rfl) _ _ (by rfl) w3.heap.size ho hc 2 (evsR C RP) [callE c, ansE c.client c.seq r] w11.heap.size (([callE c, ansE c.client c.seq r].flatMap evC).toArray) (heap_alloc_new w11 _) rfl rfl (by rw [HLE.out]; rfl) (HD11.out.evs.below ((Below.refl _ _).alloc (Nat.le_refl _) _)) (by rfl) (by rw [HLE.out]; simp; omega) (by have := HD11.out.le3; simp; omega) ?_
                           intro ho2 hc2 w12 how hM hb hf
                           have hal := (Below.refl w11.heap.size w11).alloc (Nat.le_refl _) (.cells (([callE c, ansE c.client c.seq r].flatMap evC).toArray) 45)
                           have HD12 := Lib.hid (((HD11.out).below hal).evs_ how hM hf)
                           rw [HLE.out]
                           clear how hM hb hf hal)
              go_roundw
              case rel =>
                have hlc := HP.out.lenC
                have hidx : idsX (X ++ [xr]) = idsX X ++ [(⟨(i : Int) % 3, (i : Int) + 1⟩ : O.Id)] := by rw [HXR.out]; exact List.map_append
                refine ⟨i + 1, m + 1, n + 1, X ++ [xr], C ++ [c], RP ++ [r], ro2, ho2, di2, rc2, hc2, dc2, rfl, ?_, rfl, by go_num, by omega, by rw [List.length_append, HMX.out]; rfl, by have := HN.out; omega, ?_, ?_⟩
                · rw [show m + 1 + (m + 1) = m + m + 2 by omega]
                · rw [HXR.out]
                  exact HP.out.more (fun c d h => congrArg Prod.snd h) (by omega) HCL.out HCO.out HCK.out HSD.out (by show (0 : Int) ≤ (i : Int) % 3; omega) (by show (i : Int) % 3 ≤ 6; omega) rfl xo xc
                · have := HD12.out
                  rw [← evsR_snoc (by omega), ← hidx] at this
                  exact this
              case measure => simp [intOf]; omega
      · obtain rfl : i = L.length := by omega
        have hii : ¬ (L.length : Int) < (L.length : Int) := by omega
        have hm12 : (m : Int) ≤ 12 := by have := HML.out; omega
        have HL12 := Lib.hid (show L.length ≤ 12 by omega)
        have HLE := Lib.hid (show (evsR C RP).length = m + m by
          have h1 := HP.out.lenC
          have h2 := HMX.out
          rw [evsR_len (by omega)]
          omega)
        have HCO := Lib.hid (show ∀ c ∈ C, CmdOk c from fun c hc => (HP.out.cl c hc).2.1)
        have HEO := Lib.hid (row_evs (by have := HP.out.lenC; omega) HCO.out : ∀ e ∈ evsR C RP, EvOkM e)
        have HRK := Lib.hid (HP.out.recs (by omega))
        have HLI := Lib.hid (show LinV (X.map Rv.cmd) RP (evsR C RP) 0 by rw [HP.out.cm]; exact linR_ok HP.out.fr HP.out.nd)
        have HRV := Lib.hid (HD.out.recsV HP.out (by omega))
        have HH := Lib.hid (HD.out.evs.view lRE)
        have HB := Lib.hid HD.out.ses.bel
        have HLN := Lib.hid (linear_n HMX.out HLE.out HRV.out (HT.out.next HB.out) HRK.out HH.out HEO.out (by omega) HLI.out)
        go_wp2_with fail
        refine HLN.out.mono ?_
        rintro e w21 ⟨rfl, hb⟩
        have HB21 := Lib.hid (HB.out.trans (hb.mono HB.out.size))
        have HRV21 := Lib.hid (HRV.out.below hb)
        have HH21 := Lib.hid (HH.out.below hb)
        have HRN := Lib.hid (row_n HMX.out HRV21.out (HT.out.next HB21.out) HRK.out)
        clear hb HLN HRV HH HB HD
        go_wp2_with fail
        refine HRN.out.mono ?_
        rintro e w22 ⟨qo, qc, rfl, hb⟩
        have HB22 := Lib.hid (HB21.out.trans (hb.mono HB21.out.size))
        have HRV22 := Lib.hid (HRV21.out.below hb)
        have HH22 := Lib.hid (HH21.out.below hb)
        clear hb HRN HRV21 HH21 HB21
        go_wp2_with fail
        obtain ⟨wa, rfl⟩ : ∃ wa, wa = wr := ⟨_, rfl⟩
        go_loopw [14] (fun kv wr2 => ∃ (j : Nat), kv = .int .i64 j ∧ j ≤ m + m ∧ Below w22.heap.size w22 wr2) (fun kv _ => m + m - (intOf kv).toNat)
        case atStart => exact ⟨0, rfl, Nat.zero_le _, Below.refl _ _⟩
        case round =>
          obtain ⟨j, rfl, hj, hbj⟩ := hrel
          have HBJ := Lib.hid hbj
          clear hbj
          by_cases hjl : j < m + m
          · have HJL := Lib.hid hjl
            have hjj : (j : Int) < (m : Int) + (m : Int) := by omega
            obtain ⟨ev, hx⟩ : ∃ ev, (evsR C RP)[j]? = some ev := ⟨_, List.getElem?_eq_getElem (by have := HLE.out; omega)⟩
            have HX := Lib.hid hx
            obtain ⟨hb, hoff, e0, hbl, hev⟩ := ev_of (HH22.out.below HBJ.out) hx
            subst e0
            clear hx
            by_cases htn : (j : Int) = tn
            · subst htn
              rcases evsR_code HX.out with hk | hk
              · have hkn : (ev.kind != 2) = true := by rw [hk]; decide
                obtain ⟨p0, p1, p2, p3, p4, p5, p6, p7, p8, p9, p10, p11, p12⟩ := hev
                rw [hk] at p0
                clear hkn
                go_wp2_with fail
                go_roundw
                case rel => exact ⟨j + 1, by go_num, by have := HJL.out; omega, HBJ.out⟩
                case measure => have := HJL.out; simp [intOf]; omega
              · obtain ⟨p0, p1, p2, p3, p4, p5, p6, p7, p8, p9, p10, p11, p12⟩ := hev
                rw [hk] at p0
                have HK := Lib.hid hk
                clear hk
                go_upto_region 27 with (refine wpList_appsN lRE (by rfl) _ _ (by rfl) wr.heap.size (some ⟨wr.heap.size, 0, none⟩) 0 (some ⟨hb, hoff, none⟩) hc 0 (m + m) [] (evsR C RP) rfl HLE.out (by rfl) (own_lit (B := wr.heap.size) lRE (X := []) (heap_alloc_new wr _) rfl (Nat.le_refl _) (Nat.zero_le _)) (by rfl) (((HH22.out.below (HBJ.out.trans (((Below.refl _ _).alloc (Nat.le_refl _) _).mono HBJ.out.size)))).src lRE) (by omega) (by simp) ?_
                                        intro og cg w26 how hM hb2 hf
                                        have HB26 := Lib.hid (((Below.refl wr.heap.size wr).alloc (Nat.le_refl _) (.cells #[] 45)).trans hb2)
                                        have HOG := Lib.hid how
                                        rw [Nat.zero_add]
                                        clear how hM hb2 hf)
                clear p0 p1 p2 p3 p4 p5 p6 p7 p8 p9 p10 p11 p12
                obtain ⟨g, goff, e0, gev, gfz, gge, glt⟩ := own_ev HOG.out HX.out
                subst e0
                have HGG := Lib.hid gge
                obtain ⟨p0, p1, p2, p3, p4, p5, p6, p7, p8, p9, p10, p11, p12⟩ := gev
                have p12b := p12
                rw [Nat.add_assoc] at p12b
                go_upto_region 28 with fail
                obtain ⟨v, hv⟩ : ∃ v, v = RowKit.wrap64 (ev.rep.rev + 1) := ⟨_, rfl⟩
                rw [← hv]
                have hne : v ≠ ev.rep.rev := by rw [hv]; exact wrap_other _
                obtain ⟨w27, hw27⟩ : ∃ w27, w27 = w26.setCell ⟨g, goff + j * 13 + 12, none⟩ (.int .i64 v) := ⟨_, rfl⟩
                have hww : w26.setCell ⟨g, goff + j * 13 + 10 + 2, none⟩ (.int .i64 v) = w27 := by rw [hw27]
                rw [hww]
                have hrow : RowV sRE w27 (some ⟨g, goff, none⟩) cg ((evsR C RP).set j { ev with rep := { ev.rep with rev := v } }) := by
                  rw [hw27]
                  exact (HOG.out.view lRE).setcell (gfz _) HX.out (by show 12 < 13; decide) (by show 0 < 13; decide) lRE.len evc_set
                have hm27 : Mods (fun k => k = g) w26 w27 := by rw [hw27]; exact (Mods.refl (fun k => k = g) w26).setCell (p := ⟨g, goff + j * 13 + 12, none⟩) (fun _ => rfl) _
                have HB27 := Lib.hid (HBJ.out.trans ((HB26.out.trans (hm27.below (B := wr.heap.size) (fun k e => e ▸ HGG.out) HB26.out.size)).mono HBJ.out.size))
                obtain ⟨x, hx0, hlin⟩ := row_no HP.out HX.out HK.out hne
                have hxb : (x == 0) = false := by simpa using hx0
                have HLN := Lib.hid (linear_n (n := m + m) HMX.out (List.length_set.trans HLE.out) (HRV22.out.below HB27.out) (HT.out.next (HB22.out.trans (HB27.out.mono HB22.out.size))) HRK.out hrow (set_evs HEO.out HX.out) (by omega) hlin)
                clear hww hw27 hv hne hrow hm27 hlin hx0 p0 p1 p2 p3 p4 p5 p6 p7 p8 p9 p10 p11 p12 p12b gfz gge glt HOG HB26 HGG
                go_wp2_with fail
                refine HLN.out.mono ?_
                rintro e w28 ⟨rfl, hb3⟩
                have HB28 := Lib.hid (HB27.out.trans (hb3.mono HB27.out.size))
                clear hb3 HLN
                go_wp2_with fail
                go_roundw
                case rel => exact ⟨j + 1, by go_num, by have := HJL.out; omega, HB28.out⟩
                case measure => have := HJL.out; simp [intOf]; omega
            · have hb1 : ((j : Int) != tn) = true := by simpa using htn
              clear hev
              go_wp2_with fail
              go_roundw
              case rel => exact ⟨j + 1, by go_num, by have := HJL.out; omega, HBJ.out⟩
              case measure => have := HJL.out; simp [intOf]; omega
          · obtain rfl : j = m + m := by omega
            have hjj : ¬ (m : Int) + (m : Int) < (m : Int) + (m : Int) := by omega
            have HBF := Lib.hid (HB22.out.trans (HBJ.out.mono HB22.out.size))
            go_wp2_with fail
            refine (cawake_any _ (HT.out.next HBF.out)).mono ?_
            rintro e w34 ⟨rfl, hb⟩
            have HB34 := Lib.hid (HBF.out.trans (hb.mono HBF.out.size))
            clear hb
            go_wp2_with fail
            go_ret
            exact ⟨rfl, HB34.out⟩
end Go.Proofs.YtkgjfagejnppbaaGreatDoor.X
