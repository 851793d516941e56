/- The walk of SessionApart. -/
import Derived.Test.YtpeiamllkddhiaaDoorSesL
import Derived.Laws.Small
namespace Go.Proofs.YtpeiamllkddhiaaDoor.P
open Go.RowKit Go.Proofs.YtpeiamllkddhiaaDoor.R Go.Proofs.YtpeiamllkddhiaaDoor.M Go.BigFrame
set_option linter.unusedVariables false
set_option linter.unusedSimpArgs false

theorem sgood_take (L : List Cmd) (i : Nat) : SGood i (sesRun ⟨[], []⟩ (L.take i)) :=
  ((SGood.nil).run (L.take i)).mono (by rw [List.length_take]; omega)
set_option maxRecDepth 100000 in
set_option maxHeartbeats 4000000 in
theorem apart_no (L : List Cmd) (ao : Option Addr) (cap : Nat) (client : Int) (w : World) (hV : CmdsV w.heap.size w ao cap L) (hT : TabsI w) (h : greatB L 60 = true) :
    Calls Tryd.prog 7 #[.slice ao L.length cap, .int .i64 client] w fun e w' => e = .returned (.bool true) ∧ Below w.heap.size w w' := by
  have hgr := great60 w.heap.size L ao cap w hV
  have HT := Lib.hid hT
  rw [h] at hgr
  clear hV hT h
  go_enter Tryd.func7, Tryd.ntmps7
  go_wp2_with fail
  refine hgr.mono ?_
  rintro e w1 ⟨rfl, rfl⟩
  go_wp2_with fail
  refine (sawake_any _ (HT.out.next (Below.refl w.heap.size w))).mono ?_
  rintro e wz ⟨rfl, hbz⟩
  have HBZ := Lib.hid (((Below.refl w.heap.size w)).trans (hbz.mono ((Below.refl w.heap.size w)).size))
  clear hbz
  go_wp2_with fail
  go_ret
  exact ⟨rfl, HBZ.out⟩
set_option maxRecDepth 100000 in
set_option maxHeartbeats 4000000 in
theorem apart_all (L : List Cmd) (ao : Option Addr) (cap : Nat) (client : Int) (w : World) (hV : CmdsV w.heap.size w ao cap L) (hT : TabsI w) (hI : InI client) (hg : greatB L 60 = false) :
    Calls Tryd.prog 7 #[.slice ao L.length cap, .int .i64 client] w fun e w' => e = .returned (.bool true) ∧ Below w.heap.size w w' := by
  have hgr := great60 w.heap.size L ao cap w hV
  rw [hg] at hgr
  obtain ⟨hl60, hsz⟩ := great_no hg
  have HV := Lib.hid hV
  have HT := Lib.hid hT
  have HSZ := Lib.hid hsz
  clear hV hT hg hsz
  have HI := Lib.hid hI
  clear hI
  go_enter Tryd.func7, Tryd.ntmps7
  go_wp2_with fail
  refine hgr.mono ?_
  rintro e w1 ⟨rfl, rfl⟩
  clear hgr
  go_wp2_with fail
  refine (snew_run w).mono ?_
  rintro e w1 ⟨s, p, b, q, rfl, hr⟩
  have HR1 := Lib.hid hr
  clear hr
  go_wp2_with fail
  go_loopw [6] (fun iv wr => ∃ i : Nat, iv = .int .i64 i ∧ i ≤ L.length ∧ SRun w wr s p b q i (sesRun ⟨[], []⟩ (L.take i))) (fun iv _ => L.length - (intOf iv).toNat)
  case atStart => exact ⟨0, rfl, Nat.zero_le _, by rw [List.take_zero]; exact HR1.out⟩
  case round =>
    clear HR1
    obtain ⟨i, rfl, hi, hr⟩ := hrel
    by_cases hlt : i < L.length
    · have hii : (i : Int) < (L.length : Int) := by omega
      obtain ⟨c, hx⟩ : ∃ c, L[i]? = some c := ⟨_, List.getElem?_eq_getElem hlt⟩
      have HN0 := Lib.hid (sesRun_take ⟨[], []⟩ L i c hx)
      obtain ⟨S, hS⟩ : ∃ S, S = sesRun ⟨[], []⟩ (L.take i) := ⟨_, rfl⟩
      have HG : Hid (SGood i S) := Lib.hid (by rw [hS]; exact sgood_take L i)
      rw [← hS] at HN0 hr
      obtain ⟨S2, R, F, hd⟩ : ∃ S2 R F, sesDo S c = (S2, R, F) := ⟨_, _, _, rfl⟩
      have hown := @apart_own S c client
      have hap := @lookC_apart S c client
      rw [hd] at HN0 hown hap
      have HN : Hid (sesRun ⟨[], []⟩ (L.take (i + 1)) = S2) := HN0
      have HD := Lib.hid hd
      obtain ⟨ls, h1⟩ : ∃ ls, seqL (lookC S.C client) = ls := ⟨_, rfl⟩
      obtain ⟨lr, h2⟩ : ∃ lr, repL (lookC S.C client) = lr := ⟨_, rfl⟩
      obtain ⟨is, h3⟩ : ∃ is, (lookC S.C client).isSome = is := ⟨_, rfl⟩
      obtain ⟨ls2, k1⟩ : ∃ ls, seqL (lookC S2.C client) = ls := ⟨_, rfl⟩
      obtain ⟨lr2, k2⟩ : ∃ lr, repL (lookC S2.C client) = lr := ⟨_, rfl⟩
      obtain ⟨is2, k3⟩ : ∃ is, (lookC S2.C client).isSome = is := ⟨_, rfl⟩
      have HAP : Hid (c.client ≠ client → ls2 = ls ∧ lr2 = lr ∧ is2 = is) := Lib.hid fun h => by
        have := hap h
        rw [← h1, ← h2, ← h3, ← k1, ← k2, ← k3]
        simp only at this
        rw [this]
        exact ⟨rfl, rfl, rfl⟩
      rw [h1, h3] at hown
      simp only at hown
      rw [k1] at hown
      have HOWN := Lib.hid hown
      have HL1 := Lib.hid (show seqL (lookC S.C client) = ls ∧ repL (lookC S.C client) = lr ∧ (lookC S.C client).isSome = is from ⟨h1, h2, h3⟩)
      have HL2 := Lib.hid (show seqL (lookC S2.C client) = ls2 ∧ repL (lookC S2.C client) = lr2 ∧ (lookC S2.C client).isSome = is2 from ⟨k1, k2, k3⟩)
      have HR := Lib.hid hr
      clear HN0 hS hd hown hap h1 h2 h3 k1 k2 k3 hr
      have hok := HV.out.ok c (List.mem_of_getElem? hx)
      have HOK := Lib.hid hok
      obtain ⟨g, off, rfl, hgl, hcm⟩ := HV.out.row i c hx
      have HCM := Lib.hid hcm
      have hszc := HSZ.out c (List.mem_of_getElem? hx)
      have HX := Lib.hid hx
      obtain ⟨hcp1, hcp2⟩ := HV.out.le
      unfold maxLen at hcp2
      obtain ⟨c0, c1, c2, c3, c4, c5⟩ := HCM.out.below HR.out.bel hgl
      clear hx hcm hok
      have hsm : c.key.size ≤ 1000000 := by omega
      go_wp2_with fail
      refine (last_run HR.out client HI.out ls lr is HL1.out.1 HL1.out.2.1 HL1.out.2.2).mono ?_
      rintro e u1 ⟨rfl, hr1, _⟩
      have HR1 := Lib.hid hr1
      clear hr1 c0 c1 c2 c3 c4 c5
      go_upto_region 8 with fail
      obtain ⟨u2, hw⟩ : ∃ x, x = u1.alloc (repO lr) := ⟨_, rfl⟩
      rw [← hw]
      have HR2 := Lib.hid (HR1.out.next (w2 := u2) (by rw [hw]; exact (Below.refl _ _).alloc (Nat.le_refl _) _))
      have HX2 : Hid (u2.heap[u1.heap.size]? = some (repO lr)) := Lib.hid (by rw [hw]; exact heap_alloc_new u1 _)
      have hbu := HR1.out.ses.app.blt
      have hqu := HR1.out.ses.qlt
      clear hw
      obtain ⟨c0, c1, c2, c3, c4, c5⟩ := HCM.out.below HR2.out.bel hgl
      go_wp2_with fail
      refine (sdo_run HR2.out HG.out (by omega) HT.out c hsm HOK.out.client S2 R F HD.out).mono ?_
      rintro e u3 ⟨rfl, hr3, hm3⟩
      have HR3 := Lib.hid hr3
      have HX3 := Lib.hid (hm3.heap HX2.out (by omega))
      clear hr3 hm3 c0 c1 c2 c3 c4 c5
      go_upto_region 9 with fail
      obtain ⟨u4, hw⟩ : ∃ x, x = u3.alloc (repO R) := ⟨_, rfl⟩
      rw [← hw]
      have hb4 : Below u3.heap.size u3 u4 := by rw [hw]; exact (Below.refl _ _).alloc (Nat.le_refl _) _
      have HR4 := Lib.hid (HR3.out.next hb4)
      have HX4 := Lib.hid ((hb4.block _ (M.heap_lt HX3.out)).trans HX3.out)
      clear hw hb4
      go_wp2_with fail
      refine (last_run HR4.out client HI.out ls2 lr2 is2 HL2.out.1 HL2.out.2.1 HL2.out.2.2).mono ?_
      rintro e u5 ⟨rfl, hr5, hb5⟩
      have HR5 := Lib.hid hr5
      have HX5 := Lib.hid ((hb5.block _ (M.heap_lt HX4.out)).trans HX4.out)
      clear hr5 hb5
      go_upto_region 10 with fail
      obtain ⟨u6, hw⟩ : ∃ x, x = u5.alloc (repO lr2) := ⟨_, rfl⟩
      rw [← hw]
      have hb6 : Below u5.heap.size u5 u6 := by rw [hw]; exact (Below.refl _ _).alloc (Nat.le_refl _) _
      have HR6 := Lib.hid (HR5.out.next hb6)
      have hx6 := (hb6.block _ (M.heap_lt HX5.out)).trans HX5.out
      have hy6 : u6.heap[u5.heap.size]? = some (repO lr2) := by rw [hw]; exact heap_alloc_new u5 _
      clear hw hb6
      obtain ⟨⟨x0, x1, x2⟩, _, _⟩ := box3 hx6
      obtain ⟨⟨y0, y1, y2⟩, _, _⟩ := box3 hy6
      obtain ⟨c0, c1, c2, c3, c4, c5⟩ := HCM.out.below HR6.out.bel hgl
      clear hx6 hy6
      by_cases hq : c.client = client
      · have e1 : (c.client != client) = false := by rw [bne_eq_false_iff_eq]; exact hq
        have e2 : (c.client == client) = true := by rw [beq_iff_eq]; exact hq
        have HF : Hid (F = true → (ls2 != c.seq) = false) := Lib.hid fun h => by rw [bne_eq_false_iff_eq]; exact HOWN.out.2 h hq
        clear hq
        cases is with
        | false =>
          cases F with
          | false =>
            go_wp2_with fail
            go_roundw
            case rel => exact ⟨i + 1, by go_num, by omega, by rw [HN.out]; exact HR6.out⟩
            case measure => simp [intOf]; omega
          | true =>
            have e3 := HF.out rfl
            go_wp2_with fail
            go_roundw
            case rel => exact ⟨i + 1, by go_num, by omega, by rw [HN.out]; exact HR6.out⟩
            case measure => simp [intOf]; omega
        | true =>
          have e4 : ¬ ls2 < ls := by have := HOWN.out.1 rfl; omega
          cases F with
          | false =>
            go_wp2_with fail
            go_roundw
            case rel => exact ⟨i + 1, by go_num, by omega, by rw [HN.out]; exact HR6.out⟩
            case measure => simp [intOf]; omega
          | true =>
            have e3 := HF.out rfl
            go_wp2_with fail
            go_roundw
            case rel => exact ⟨i + 1, by go_num, by omega, by rw [HN.out]; exact HR6.out⟩
            case measure => simp [intOf]; omega
      · obtain ⟨a1, a2, a3⟩ := HAP.out hq
        have e1 : (c.client != client) = true := by rw [bne_iff_ne]; exact hq
        have e2 : (c.client == client) = false := by rw [beq_eq_false_iff_ne]; exact hq
        have e3 : (ls != ls) = false := by simp
        have e4 : ¬ ls < ls := by omega
        have q1 := rep_same_not lr.code lr.val lr.rev
        clear HOWN
        subst a1 a2 a3
        clear hq
        cases is2 with
        | false =>
          cases F with
          | false =>
            go_wp2_with fail
            go_roundw
            case rel => exact ⟨i + 1, by go_num, by omega, by rw [HN.out]; exact HR6.out⟩
            case measure => simp [intOf]; omega
          | true =>
            go_wp2_with fail
            go_roundw
            case rel => exact ⟨i + 1, by go_num, by omega, by rw [HN.out]; exact HR6.out⟩
            case measure => simp [intOf]; omega
        | true =>
          cases F with
          | false =>
            go_wp2_with fail
            go_roundw
            case rel => exact ⟨i + 1, by go_num, by omega, by rw [HN.out]; exact HR6.out⟩
            case measure => simp [intOf]; omega
          | true =>
            go_wp2_with fail
            go_roundw
            case rel => exact ⟨i + 1, by go_num, by omega, by rw [HN.out]; exact HR6.out⟩
            case measure => simp [intOf]; omega
    · obtain rfl : i = L.length := by omega
      have hii : ¬ (L.length : Int) < (L.length : Int) := by omega
      have HR := Lib.hid hr
      clear hr
      go_wp2_with fail
      refine (sawake_any _ (HT.out.next HR.out.bel)).mono ?_
      rintro e wz ⟨rfl, hbz⟩
      have HBZ := Lib.hid ((HR.out.bel).trans (hbz.mono (HR.out.bel).size))
      clear hbz
      go_wp2_with fail
      go_ret
      exact ⟨rfl, HBZ.out⟩
theorem apart_law (L : List Cmd) (ao : Option Addr) (cap : Nat) (client : Int) (w : World) (hV : CmdsV w.heap.size w ao cap L) (hT : TabsI w) (hI : InI client) :
    Calls Tryd.prog 7 #[.slice ao L.length cap, .int .i64 client] w fun e w' => e = .returned (.bool true) ∧ Below w.heap.size w w' := by
  cases h : greatB L 60 with
  | true => exact apart_no L ao cap client w hV hT h
  | false => exact apart_all L ao cap client w hV hT hI h
end Go.Proofs.YtpeiamllkddhiaaDoor.P
