/- The walk of AppReads. -/
import Derived.Test.YtpeiamllkddhiaaDoorAppZ
import Derived.Deep.DeepCutAuto
namespace Go.Proofs.YtpeiamllkddhiaaDoor.P
open Go.RowKit Go.Proofs.YtpeiamllkddhiaaDoor.R Go.Proofs.YtpeiamllkddhiaaDoor.M Go.BigFrame
set_option linter.unusedVariables false
set_option linter.unusedSimpArgs false

set_option maxRecDepth 100000 in
set_option maxHeartbeats 4000000 in
theorem reads_no (L : List Cmd) (ao : Option Addr) (cap : Nat) (c : Cmd) (w : World) (hV : CmdsV w.heap.size w ao cap L) (hC : CmdOk c) (hT : TabsI w) (h : greatB L 60 = true ∨ greatB [c] 1 = true) :
    Calls Tryd.prog 5 #[.slice ao L.length cap, cmdV c] w fun e w' => e = .returned (.bool true) ∧ Below w.heap.size w w' := by
  have HT := Lib.hid hT
  have HV := Lib.hid hV
  clear hV hT
  obtain ⟨gb, hg⟩ : ∃ gb, greatB L 60 = gb := ⟨_, rfl⟩
  rw [hg] at h
  cases gb with
  | true =>
    clear h
    go_enter Tryd.func5, Tryd.ntmps5
    go_upto_region 1 with fail
    obtain ⟨v0, hv0⟩ : ∃ v0, v0 = w.alloc (cmdO c) := ⟨_, rfl⟩
    rw [← hv0]
    have HV0 : Hid (Below w.heap.size w v0) := Lib.hid (by rw [hv0]; exact (Below.refl _ _).alloc (Nat.le_refl _) _)
    have HC0 : Hid (v0.heap[w.heap.size]? = some (cmdO c)) := Lib.hid (by rw [hv0]; exact heap_alloc_new w _)
    clear hv0
    have hgr := great60 w.heap.size L ao cap v0 (HV.out.below HV0.out)
    rw [hg] at hgr
    obtain ⟨⟨c0, c1, c2, c3, c4, c5⟩, _⟩ := box6 HC0.out
    go_wp2_with fail
    refine hgr.mono ?_
    rintro e w1 ⟨rfl, rfl⟩
    clear hgr
    go_wp2_with fail
    refine (awake_any _ (HT.out.next HV0.out)).mono ?_
    rintro e wz ⟨rfl, hbz⟩
    have HBZ := Lib.hid ((HV0.out).trans (hbz.mono (HV0.out).size))
    clear hbz
    go_wp2_with fail
    go_ret
    exact ⟨rfl, HBZ.out⟩
  | false =>
    have h1 : greatB [c] 1 = true := by simpa using h
    have HG1 := Lib.hid (fun (wx : World) (g : Nat) (hx : wx.heap[g]? = some (cmdO c)) => great_one hx hC true h1)
    clear h h1
    go_enter Tryd.func5, Tryd.ntmps5
    go_upto_region 1 with fail
    obtain ⟨v0, hv0⟩ : ∃ v0, v0 = w.alloc (cmdO c) := ⟨_, rfl⟩
    rw [← hv0]
    have HV0 : Hid (Below w.heap.size w v0) := Lib.hid (by rw [hv0]; exact (Below.refl _ _).alloc (Nat.le_refl _) _)
    have HC0 : Hid (v0.heap[w.heap.size]? = some (cmdO c)) := Lib.hid (by rw [hv0]; exact heap_alloc_new w _)
    clear hv0
    have hgr := great60 w.heap.size L ao cap v0 (HV.out.below HV0.out)
    rw [hg] at hgr
    obtain ⟨⟨c0, c1, c2, c3, c4, c5⟩, _⟩ := box6 HC0.out
    go_wp2_with fail
    refine hgr.mono ?_
    rintro e w1 ⟨rfl, rfl⟩
    clear hgr
    go_wp2_with fail
    refine (HG1.out _ _ (heap_alloc_new v0 _)).mono ?_
    rintro e w1 ⟨rfl, rfl⟩
    have HB1 : Hid (Below w.heap.size w (v0.alloc (cmdO c))) := Lib.hid (HV0.out.trans (((Below.refl _ _).alloc (Nat.le_refl _) _).mono HV0.out.size))
    go_wp2_with fail
    refine (awake_any _ (HT.out.next HB1.out)).mono ?_
    rintro e wz ⟨rfl, hbz⟩
    have HBZ := Lib.hid ((HB1.out).trans (hbz.mono (HB1.out).size))
    clear hbz
    go_wp2_with fail
    go_ret
    exact ⟨rfl, HBZ.out⟩
set_option maxRecDepth 100000 in
set_option maxHeartbeats 4000000 in
theorem reads_a (L : List Cmd) (ao : Option Addr) (cap : Nat) (c : Cmd) (w : World) (hV : CmdsV w.heap.size w ao cap L) (hC : CmdOk c) (hT : TabsI w) (hg : greatB L 60 = false) (hg1 : greatB [c] 1 = false) (hw : writes c = false) :
    Calls Tryd.prog 5 #[.slice ao L.length cap, cmdV c] w fun e w' => e = .returned (.bool true) ∧ Below w.heap.size w w' := by
  have hn1 := hg1
  have hgc := great_no hg1
  have hcs := hgc.2 c (List.mem_singleton.2 rfl)
  have HG1 := Lib.hid (fun (wx : World) (g : Nat) (hx : wx.heap[g]? = some (cmdO c)) => great_one hx hC false hg1)
  obtain ⟨hl60, hsz⟩ := great_no hg
  have HV := Lib.hid hV
  have HT := Lib.hid hT
  have HSZ := Lib.hid hsz
  clear hV hT hsz hn1 hgc hg1
  go_enter Tryd.func5, Tryd.ntmps5
  go_upto_region 1 with fail
  obtain ⟨v0, hv0⟩ : ∃ v0, v0 = w.alloc (cmdO c) := ⟨_, rfl⟩
  rw [← hv0]
  have HV0 : Hid (Below w.heap.size w v0) := Lib.hid (by rw [hv0]; exact (Below.refl _ _).alloc (Nat.le_refl _) _)
  have HC0 : Hid (v0.heap[w.heap.size]? = some (cmdO c)) := Lib.hid (by rw [hv0]; exact heap_alloc_new w _)
  clear hv0
  have hgr := great60 w.heap.size L ao cap v0 (HV.out.below HV0.out)
  rw [hg] at hgr
  obtain ⟨⟨c0, c1, c2, c3, c4, c5⟩, _⟩ := box6 HC0.out
  go_wp2_with fail
  refine hgr.mono ?_
  rintro e w1 ⟨rfl, rfl⟩
  clear hgr
  go_wp2_with fail
  refine (HG1.out _ _ (heap_alloc_new v0 _)).mono ?_
  rintro e w1 ⟨rfl, rfl⟩
  obtain ⟨v1, hv1⟩ : ∃ v1, v1 = v0.alloc (cmdO c) := ⟨_, rfl⟩
  rw [← hv1]
  have HV1 : Hid (Below w.heap.size w v1) := Lib.hid (by rw [hv1]; exact HV0.out.trans (((Below.refl _ _).alloc (Nat.le_refl _) _).mono HV0.out.size))
  have HCB : Hid (v1.heap[w.heap.size]? = some (cmdO c)) := Lib.hid (by rw [hv1]; exact (((Below.refl _ _).alloc (Nat.le_refl _) _).block _ (M.heap_lt HC0.out)).trans HC0.out)
  have HTV := Lib.hid (HT.out.next HV1.out)
  have hv1w : w.heap.size < v1.heap.size := M.heap_lt HCB.out
  clear hv1 c0 c1 c2 c3 c4 c5 HG1
  go_wp2_with fail
  refine (new_run v1).mono ?_
  rintro e w1 ⟨p, b, rfl, hr⟩
  have HR1 := Lib.hid hr
  clear hr
  go_wp2_with fail
  go_loopw [6] (fun iv wr => ∃ i : Nat, iv = .int .i64 i ∧ i ≤ L.length ∧ RunAt v1 wr p b i (run [] (L.take i))) (fun iv _ => L.length - (intOf iv).toNat)
  case atStart => exact ⟨0, rfl, Nat.zero_le _, by rw [List.take_zero]; exact HR1.out⟩
  case round =>
    clear HR1
    obtain ⟨i, rfl, hi, hr⟩ := hrel
    by_cases hlt : i < L.length
    · have hii : (i : Int) < (L.length : Int) := by omega
      obtain ⟨cz, hx⟩ : ∃ c, L[i]? = some c := ⟨_, List.getElem?_eq_getElem hlt⟩
      have HN := Lib.hid (run_take [] L i cz hx)
      obtain ⟨A, hA⟩ : ∃ A, A = run [] (L.take i) := ⟨_, rfl⟩
      have hG : Good i A := by rw [hA]; exact good_take L i
      rw [← hA] at HN hr
      have HR := Lib.hid hr
      have HD := Lib.hid (fun wx (h : RunAt v1 wx p b i A) (hs : cz.key.size ≤ 1000000) => do_run h hG (by omega) (HT.out.next HV1.out) cz hs _ _ rfl)
      clear hA hG hr
      obtain ⟨g, off, rfl, hgl, hcm⟩ := HV.out.row i cz hx
      have hszc := HSZ.out cz (List.mem_of_getElem? hx)
      obtain ⟨hcp1, hcp2⟩ := HV.out.le
      unfold maxLen at hcp2
      obtain ⟨c0, c1, c2, c3, c4, c5⟩ := hcm.below (Below.trans HV1.out (HR.out.bel.mono (Below.size HV1.out))) hgl
      clear hx hcm
      go_wp2_with fail
      refine (HD.out _ HR.out (by omega)).mono ?_
      rintro e w2 ⟨rfl, hr2, hm2⟩
      have HR2 := Lib.hid hr2
      clear hr2 hm2 c0 c1 c2 c3 c4 c5 HD
      go_wp2_with fail
      go_roundw
      case rel => exact ⟨i + 1, by go_num, by omega, by rw [HN.out]; exact HR2.out⟩
      case measure => simp [intOf]; omega
    · obtain rfl : i = L.length := by omega
      have hii : ¬ (L.length : Int) < (L.length : Int) := by omega
      rw [List.take_of_length_le (Nat.le_refl _)] at hr
      have HG : Hid (Good L.length (run [] L)) := Lib.hid (by have := good_take L L.length; rw [List.take_of_length_le (Nat.le_refl _)] at this; exact this)
      obtain ⟨A, hA⟩ : ∃ A, A = run [] L := ⟨_, rfl⟩
      rw [← hA] at hr HG
      have HAA := Lib.hid hA
      have HR := Lib.hid hr
      obtain ⟨n, hn⟩ : ∃ n, n = L.length := ⟨_, rfl⟩
      rw [← hn] at HR HG
      have hn60 : n ≤ 60 := by omega
      clear hA hr hn
      obtain ⟨R0, hR0⟩ : ∃ R0, findR A nul = R0 := ⟨_, rfl⟩
      obtain ⟨A1, R1, hd⟩ : ∃ A1 R1, appDo A c = (A1, R1) := ⟨_, _, rfl⟩
      obtain rfl : A1 = A := by have := @reads_same A c (.inl hw); rw [hd] at this; exact this
      have HR0 := Lib.hid hR0
      have HD1 := Lib.hid hd
      have HW := Lib.hid hw
      have HG2 := Lib.hid (HG.out.mono (show n ≤ n + 1 + 1 by omega))
      clear hR0 hd hw
      have HCX : Hid (wr.heap[w.heap.size]? = some (cmdO c)) := Lib.hid ((HR.out.bel.block _ hv1w).trans HCB.out)
      have HB0 : Hid (Boxed wr b [(w.heap.size, cmdO c)]) := Lib.hid (fun x hx => by
        obtain rfl := List.mem_singleton.1 hx
        exact ⟨HCX.out, by have := HR.out.bge; simp only; omega⟩)
      go_upto_region 9 with fail
      obtain ⟨u1, hw⟩ : ∃ x, x = wr.alloc (askO 5 ⟨#[]⟩) := ⟨_, rfl⟩
      rw [← hw]
      have HX1 := Lib.hid (HR.out.next (w2 := u1) (by rw [hw]; exact (Below.refl _ _).alloc (Nat.le_refl _) _))
      have hbx := HB0.out.alloc HR.out.app.blt (askO 5 ⟨#[]⟩)
      rw [← hw] at hbx
      have HB1 := Lib.hid hbx
      clear hw hbx
      obtain ⟨⟨c0, c1, c2, c3, c4, c5⟩, _⟩ := box6 (HB1.out.at (.head _))
      go_wp2_with fail
      refine (all_run HX1.out HG.out (by omega) HTV.out R0 HR0.out).mono ?_
      rintro e u2 ⟨rfl, hrx, hmx⟩
      have HX2 := Lib.hid hrx
      have HB2 := Lib.hid (HB1.out.mods hmx)
      clear hrx hmx
      clear c0 c1 c2 c3 c4 c5
      go_upto_region 10 with fail
      obtain ⟨u3, hw⟩ : ∃ x, x = u2.alloc (repO R0) := ⟨_, rfl⟩
      rw [← hw]
      have HX3 := Lib.hid (HX2.out.next (w2 := u3) (by rw [hw]; exact (Below.refl _ _).alloc (Nat.le_refl _) _))
      have hbx := HB2.out.alloc HX2.out.app.blt (repO R0)
      rw [← hw] at hbx
      have HB3 := Lib.hid hbx
      clear hw hbx
      obtain ⟨⟨c0, c1, c2, c3, c4, c5⟩, _⟩ := box6 (HB3.out.at (.tail _ (.tail _ (.head _))))
      go_wp2_with fail
      refine (do_run HX3.out (HG.out.mono (Nat.le_succ n)) (by omega) HTV.out c (by omega) A1 R1 HD1.out).mono ?_
      rintro e u4 ⟨rfl, hrx, hmx⟩
      have HX4 := Lib.hid hrx
      have HB4 := Lib.hid (HB3.out.mods hmx)
      clear hrx hmx
      clear c0 c1 c2 c3 c4 c5
      go_upto_region 11 with fail
      obtain ⟨u5, hw⟩ : ∃ x, x = u4.alloc (repO R1) := ⟨_, rfl⟩
      rw [← hw]
      have HX5 := Lib.hid (HX4.out.next (w2 := u5) (by rw [hw]; exact (Below.refl _ _).alloc (Nat.le_refl _) _))
      have hbx := HB4.out.alloc HX4.out.app.blt (repO R1)
      rw [← hw] at hbx
      have HB5 := Lib.hid hbx
      clear hw hbx
      obtain ⟨⟨c0, c1, c2, c3, c4, c5⟩, _⟩ := box6 (HB5.out.at (.tail _ (.tail _ (.head _))))
      go_wp2_with fail
      refine (all_run HX5.out HG2.out (by omega) HTV.out R0 HR0.out).mono ?_
      rintro e u6 ⟨rfl, hrx, hmx⟩
      have HX6 := Lib.hid hrx
      have HB6 := Lib.hid (HB5.out.mods hmx)
      clear hrx hmx
      clear c0 c1 c2 c3 c4 c5
      go_upto_region 12 with fail
      obtain ⟨u7, hw⟩ : ∃ x, x = u6.alloc (repO R0) := ⟨_, rfl⟩
      rw [← hw]
      have HX7 := Lib.hid (HX6.out.next (w2 := u7) (by rw [hw]; exact (Below.refl _ _).alloc (Nat.le_refl _) _))
      have hbx := HB6.out.alloc HX6.out.app.blt (repO R0)
      rw [← hw] at hbx
      have HB7 := Lib.hid hbx
      clear hw hbx
      obtain ⟨⟨c0, c1, c2, c3, c4, c5⟩, _⟩ := box6 (HB7.out.at (.tail _ (.tail _ (.tail _ (.tail _ (.head _))))))
      go_wp2_with fail
      refine (writes_any c u7 _ HW.out).mono ?_
      rintro e u8 ⟨rfl, hb8⟩
      have HX8 := Lib.hid (HX7.out.next hb8)
      have HB8 := Lib.hid (HB7.out.below hb8)
      clear hb8 c0 c1 c2 c3 c4 c5
      obtain ⟨⟨x0, x1, x2⟩, _⟩ := box3 (HB8.out.at (.tail _ (.tail _ (.head _))))
      obtain ⟨⟨y0, y1, y2⟩, _⟩ := box3 (HB8.out.at (.head _))
      have q1 := rep_same R0.code R0.val R0.rev
      go_wp2_with fail
      refine (awake_any _ (HTV.out.next HX8.out.bel)).mono ?_
      rintro e wz ⟨rfl, hbz⟩
      have HBZ := Lib.hid ((HV1.out.trans (HX8.out.bel.mono HV1.out.size)).trans (hbz.mono ((HV1.out.trans (HX8.out.bel.mono HV1.out.size)).size)))
      clear hbz
      go_wp2_with fail
      go_ret
      exact ⟨rfl, HBZ.out⟩
set_option maxRecDepth 100000 in
set_option maxHeartbeats 4000000 in
theorem reads_b (L : List Cmd) (ao : Option Addr) (cap : Nat) (c : Cmd) (w : World) (hV : CmdsV w.heap.size w ao cap L) (hC : CmdOk c) (hT : TabsI w) (hg : greatB L 60 = false) (hg1 : greatB [c] 1 = false) (hw : writes c = true) (hz : chk c ≠ 0) :
    Calls Tryd.prog 5 #[.slice ao L.length cap, cmdV c] w fun e w' => e = .returned (.bool true) ∧ Below w.heap.size w w' := by
  have hn1 := hg1
  have hgc := great_no hg1
  have hcs := hgc.2 c (List.mem_singleton.2 rfl)
  have HG1 := Lib.hid (fun (wx : World) (g : Nat) (hx : wx.heap[g]? = some (cmdO c)) => great_one hx hC false hg1)
  obtain ⟨hl60, hsz⟩ := great_no hg
  have HV := Lib.hid hV
  have HT := Lib.hid hT
  have HSZ := Lib.hid hsz
  clear hV hT hsz hn1 hgc hg1
  go_enter Tryd.func5, Tryd.ntmps5
  go_upto_region 1 with fail
  obtain ⟨v0, hv0⟩ : ∃ v0, v0 = w.alloc (cmdO c) := ⟨_, rfl⟩
  rw [← hv0]
  have HV0 : Hid (Below w.heap.size w v0) := Lib.hid (by rw [hv0]; exact (Below.refl _ _).alloc (Nat.le_refl _) _)
  have HC0 : Hid (v0.heap[w.heap.size]? = some (cmdO c)) := Lib.hid (by rw [hv0]; exact heap_alloc_new w _)
  clear hv0
  have hgr := great60 w.heap.size L ao cap v0 (HV.out.below HV0.out)
  rw [hg] at hgr
  obtain ⟨⟨c0, c1, c2, c3, c4, c5⟩, _⟩ := box6 HC0.out
  go_wp2_with fail
  refine hgr.mono ?_
  rintro e w1 ⟨rfl, rfl⟩
  clear hgr
  go_wp2_with fail
  refine (HG1.out _ _ (heap_alloc_new v0 _)).mono ?_
  rintro e w1 ⟨rfl, rfl⟩
  obtain ⟨v1, hv1⟩ : ∃ v1, v1 = v0.alloc (cmdO c) := ⟨_, rfl⟩
  rw [← hv1]
  have HV1 : Hid (Below w.heap.size w v1) := Lib.hid (by rw [hv1]; exact HV0.out.trans (((Below.refl _ _).alloc (Nat.le_refl _) _).mono HV0.out.size))
  have HCB : Hid (v1.heap[w.heap.size]? = some (cmdO c)) := Lib.hid (by rw [hv1]; exact (((Below.refl _ _).alloc (Nat.le_refl _) _).block _ (M.heap_lt HC0.out)).trans HC0.out)
  have HTV := Lib.hid (HT.out.next HV1.out)
  have hv1w : w.heap.size < v1.heap.size := M.heap_lt HCB.out
  clear hv1 c0 c1 c2 c3 c4 c5 HG1
  go_wp2_with fail
  refine (new_run v1).mono ?_
  rintro e w1 ⟨p, b, rfl, hr⟩
  have HR1 := Lib.hid hr
  clear hr
  go_wp2_with fail
  go_loopw [6] (fun iv wr => ∃ i : Nat, iv = .int .i64 i ∧ i ≤ L.length ∧ RunAt v1 wr p b i (run [] (L.take i))) (fun iv _ => L.length - (intOf iv).toNat)
  case atStart => exact ⟨0, rfl, Nat.zero_le _, by rw [List.take_zero]; exact HR1.out⟩
  case round =>
    clear HR1
    obtain ⟨i, rfl, hi, hr⟩ := hrel
    by_cases hlt : i < L.length
    · have hii : (i : Int) < (L.length : Int) := by omega
      obtain ⟨cz, hx⟩ : ∃ c, L[i]? = some c := ⟨_, List.getElem?_eq_getElem hlt⟩
      have HN := Lib.hid (run_take [] L i cz hx)
      obtain ⟨A, hA⟩ : ∃ A, A = run [] (L.take i) := ⟨_, rfl⟩
      have hG : Good i A := by rw [hA]; exact good_take L i
      rw [← hA] at HN hr
      have HR := Lib.hid hr
      have HD := Lib.hid (fun wx (h : RunAt v1 wx p b i A) (hs : cz.key.size ≤ 1000000) => do_run h hG (by omega) (HT.out.next HV1.out) cz hs _ _ rfl)
      clear hA hG hr
      obtain ⟨g, off, rfl, hgl, hcm⟩ := HV.out.row i cz hx
      have hszc := HSZ.out cz (List.mem_of_getElem? hx)
      obtain ⟨hcp1, hcp2⟩ := HV.out.le
      unfold maxLen at hcp2
      obtain ⟨c0, c1, c2, c3, c4, c5⟩ := hcm.below (Below.trans HV1.out (HR.out.bel.mono (Below.size HV1.out))) hgl
      clear hx hcm
      go_wp2_with fail
      refine (HD.out _ HR.out (by omega)).mono ?_
      rintro e w2 ⟨rfl, hr2, hm2⟩
      have HR2 := Lib.hid hr2
      clear hr2 hm2 c0 c1 c2 c3 c4 c5 HD
      go_wp2_with fail
      go_roundw
      case rel => exact ⟨i + 1, by go_num, by omega, by rw [HN.out]; exact HR2.out⟩
      case measure => simp [intOf]; omega
    · obtain rfl : i = L.length := by omega
      have hii : ¬ (L.length : Int) < (L.length : Int) := by omega
      rw [List.take_of_length_le (Nat.le_refl _)] at hr
      have HG : Hid (Good L.length (run [] L)) := Lib.hid (by have := good_take L L.length; rw [List.take_of_length_le (Nat.le_refl _)] at this; exact this)
      obtain ⟨A, hA⟩ : ∃ A, A = run [] L := ⟨_, rfl⟩
      rw [← hA] at hr HG
      have HAA := Lib.hid hA
      have HR := Lib.hid hr
      obtain ⟨n, hn⟩ : ∃ n, n = L.length := ⟨_, rfl⟩
      rw [← hn] at HR HG
      have hn60 : n ≤ 60 := by omega
      clear hA hr hn
      obtain ⟨R0, hR0⟩ : ∃ R0, findR A nul = R0 := ⟨_, rfl⟩
      obtain ⟨A1, R1, hd⟩ : ∃ A1 R1, appDo A c = (A1, R1) := ⟨_, _, rfl⟩
      obtain rfl : A1 = A := by have := @reads_same A c (.inr (.inl hz)); rw [hd] at this; exact this
      have HR0 := Lib.hid hR0
      have HD1 := Lib.hid hd
      have HW := Lib.hid hw
      have HG2 := Lib.hid (HG.out.mono (show n ≤ n + 1 + 1 by omega))
      obtain ⟨kz, hkz⟩ : ∃ kz, chk c = kz := ⟨_, rfl⟩
      have HZ := Lib.hid hkz
      have e1 : (kz != 0) = true := by rw [bne_iff_ne, ← hkz]; exact hz
      clear hR0 hd hw hz hkz
      have HCX : Hid (wr.heap[w.heap.size]? = some (cmdO c)) := Lib.hid ((HR.out.bel.block _ hv1w).trans HCB.out)
      have HB0 : Hid (Boxed wr b [(w.heap.size, cmdO c)]) := Lib.hid (fun x hx => by
        obtain rfl := List.mem_singleton.1 hx
        exact ⟨HCX.out, by have := HR.out.bge; simp only; omega⟩)
      go_upto_region 9 with fail
      obtain ⟨u1, hw⟩ : ∃ x, x = wr.alloc (askO 5 ⟨#[]⟩) := ⟨_, rfl⟩
      rw [← hw]
      have HX1 := Lib.hid (HR.out.next (w2 := u1) (by rw [hw]; exact (Below.refl _ _).alloc (Nat.le_refl _) _))
      have hbx := HB0.out.alloc HR.out.app.blt (askO 5 ⟨#[]⟩)
      rw [← hw] at hbx
      have HB1 := Lib.hid hbx
      clear hw hbx
      obtain ⟨⟨c0, c1, c2, c3, c4, c5⟩, _⟩ := box6 (HB1.out.at (.head _))
      go_wp2_with fail
      refine (all_run HX1.out HG.out (by omega) HTV.out R0 HR0.out).mono ?_
      rintro e u2 ⟨rfl, hrx, hmx⟩
      have HX2 := Lib.hid hrx
      have HB2 := Lib.hid (HB1.out.mods hmx)
      clear hrx hmx
      clear c0 c1 c2 c3 c4 c5
      go_upto_region 10 with fail
      obtain ⟨u3, hw⟩ : ∃ x, x = u2.alloc (repO R0) := ⟨_, rfl⟩
      rw [← hw]
      have HX3 := Lib.hid (HX2.out.next (w2 := u3) (by rw [hw]; exact (Below.refl _ _).alloc (Nat.le_refl _) _))
      have hbx := HB2.out.alloc HX2.out.app.blt (repO R0)
      rw [← hw] at hbx
      have HB3 := Lib.hid hbx
      clear hw hbx
      obtain ⟨⟨c0, c1, c2, c3, c4, c5⟩, _⟩ := box6 (HB3.out.at (.tail _ (.tail _ (.head _))))
      go_wp2_with fail
      refine (do_run HX3.out (HG.out.mono (Nat.le_succ n)) (by omega) HTV.out c (by omega) A1 R1 HD1.out).mono ?_
      rintro e u4 ⟨rfl, hrx, hmx⟩
      have HX4 := Lib.hid hrx
      have HB4 := Lib.hid (HB3.out.mods hmx)
      clear hrx hmx
      clear c0 c1 c2 c3 c4 c5
      go_upto_region 11 with fail
      obtain ⟨u5, hw⟩ : ∃ x, x = u4.alloc (repO R1) := ⟨_, rfl⟩
      rw [← hw]
      have HX5 := Lib.hid (HX4.out.next (w2 := u5) (by rw [hw]; exact (Below.refl _ _).alloc (Nat.le_refl _) _))
      have hbx := HB4.out.alloc HX4.out.app.blt (repO R1)
      rw [← hw] at hbx
      have HB5 := Lib.hid hbx
      clear hw hbx
      obtain ⟨⟨c0, c1, c2, c3, c4, c5⟩, _⟩ := box6 (HB5.out.at (.tail _ (.tail _ (.head _))))
      go_wp2_with fail
      refine (all_run HX5.out HG2.out (by omega) HTV.out R0 HR0.out).mono ?_
      rintro e u6 ⟨rfl, hrx, hmx⟩
      have HX6 := Lib.hid hrx
      have HB6 := Lib.hid (HB5.out.mods hmx)
      clear hrx hmx
      clear c0 c1 c2 c3 c4 c5
      go_upto_region 12 with fail
      obtain ⟨u7, hw⟩ : ∃ x, x = u6.alloc (repO R0) := ⟨_, rfl⟩
      rw [← hw]
      have HX7 := Lib.hid (HX6.out.next (w2 := u7) (by rw [hw]; exact (Below.refl _ _).alloc (Nat.le_refl _) _))
      have hbx := HB6.out.alloc HX6.out.app.blt (repO R0)
      rw [← hw] at hbx
      have HB7 := Lib.hid hbx
      clear hw hbx
      obtain ⟨⟨c0, c1, c2, c3, c4, c5⟩, _⟩ := box6 (HB7.out.at (.tail _ (.tail _ (.tail _ (.tail _ (.head _))))))
      go_wp2_with fail
      refine (writes_any c u7 _ HW.out).mono ?_
      rintro e u8 ⟨rfl, hb8⟩
      have HX8 := Lib.hid (HX7.out.next hb8)
      have HB8 := Lib.hid (HB7.out.below hb8)
      clear hb8 c0 c1 c2 c3 c4 c5
      obtain ⟨⟨c0, c1, c2, c3, c4, c5⟩, _⟩ := box6 (HB8.out.at (.tail _ (.tail _ (.tail _ (.tail _ (.head _))))))
      go_wp2_with fail
      refine (check_v c u8 (HTV.out.next HX8.out.bel).t (by omega) _ HZ.out).mono ?_
      rintro e u9 ⟨rfl, hb9⟩
      have HX9 := Lib.hid (HX8.out.next hb9)
      have HB9 := Lib.hid (HB8.out.below hb9)
      clear hb9 c0 c1 c2 c3 c4 c5
      obtain ⟨⟨x0, x1, x2⟩, _⟩ := box3 (HB9.out.at (.tail _ (.tail _ (.head _))))
      obtain ⟨⟨y0, y1, y2⟩, _⟩ := box3 (HB9.out.at (.head _))
      have q1 := rep_same R0.code R0.val R0.rev
      go_wp2_with fail
      refine (awake_any _ (HTV.out.next HX9.out.bel)).mono ?_
      rintro e wz ⟨rfl, hbz⟩
      have HBZ := Lib.hid ((HV1.out.trans (HX9.out.bel.mono HV1.out.size)).trans (hbz.mono ((HV1.out.trans (HX9.out.bel.mono HV1.out.size)).size)))
      clear hbz
      go_wp2_with fail
      go_ret
      exact ⟨rfl, HBZ.out⟩
set_option maxRecDepth 100000 in
set_option maxHeartbeats 4000000 in
theorem reads_c (L : List Cmd) (ao : Option Addr) (cap : Nat) (c : Cmd) (w : World) (hV : CmdsV w.heap.size w ao cap L) (hC : CmdOk c) (hT : TabsI w) (hg : greatB L 60 = false) (hg1 : greatB [c] 1 = false) (hw : writes c = true) (hz : chk c = 0) (hr : ∀ A, A = run [] L → (appDo A c).2.code ≠ 0) :
    Calls Tryd.prog 5 #[.slice ao L.length cap, cmdV c] w fun e w' => e = .returned (.bool true) ∧ Below w.heap.size w w' := by
  have hn1 := hg1
  have hgc := great_no hg1
  have hcs := hgc.2 c (List.mem_singleton.2 rfl)
  have HG1 := Lib.hid (fun (wx : World) (g : Nat) (hx : wx.heap[g]? = some (cmdO c)) => great_one hx hC false hg1)
  obtain ⟨hl60, hsz⟩ := great_no hg
  have HV := Lib.hid hV
  have HT := Lib.hid hT
  have HSZ := Lib.hid hsz
  clear hV hT hsz hn1 hgc hg1
  go_enter Tryd.func5, Tryd.ntmps5
  go_upto_region 1 with fail
  obtain ⟨v0, hv0⟩ : ∃ v0, v0 = w.alloc (cmdO c) := ⟨_, rfl⟩
  rw [← hv0]
  have HV0 : Hid (Below w.heap.size w v0) := Lib.hid (by rw [hv0]; exact (Below.refl _ _).alloc (Nat.le_refl _) _)
  have HC0 : Hid (v0.heap[w.heap.size]? = some (cmdO c)) := Lib.hid (by rw [hv0]; exact heap_alloc_new w _)
  clear hv0
  have hgr := great60 w.heap.size L ao cap v0 (HV.out.below HV0.out)
  rw [hg] at hgr
  obtain ⟨⟨c0, c1, c2, c3, c4, c5⟩, _⟩ := box6 HC0.out
  go_wp2_with fail
  refine hgr.mono ?_
  rintro e w1 ⟨rfl, rfl⟩
  clear hgr
  go_wp2_with fail
  refine (HG1.out _ _ (heap_alloc_new v0 _)).mono ?_
  rintro e w1 ⟨rfl, rfl⟩
  obtain ⟨v1, hv1⟩ : ∃ v1, v1 = v0.alloc (cmdO c) := ⟨_, rfl⟩
  rw [← hv1]
  have HV1 : Hid (Below w.heap.size w v1) := Lib.hid (by rw [hv1]; exact HV0.out.trans (((Below.refl _ _).alloc (Nat.le_refl _) _).mono HV0.out.size))
  have HCB : Hid (v1.heap[w.heap.size]? = some (cmdO c)) := Lib.hid (by rw [hv1]; exact (((Below.refl _ _).alloc (Nat.le_refl _) _).block _ (M.heap_lt HC0.out)).trans HC0.out)
  have HTV := Lib.hid (HT.out.next HV1.out)
  have hv1w : w.heap.size < v1.heap.size := M.heap_lt HCB.out
  clear hv1 c0 c1 c2 c3 c4 c5 HG1
  go_wp2_with fail
  refine (new_run v1).mono ?_
  rintro e w1 ⟨p, b, rfl, hr⟩
  have HR1 := Lib.hid hr
  clear hr
  go_wp2_with fail
  go_loopw [6] (fun iv wr => ∃ i : Nat, iv = .int .i64 i ∧ i ≤ L.length ∧ RunAt v1 wr p b i (run [] (L.take i))) (fun iv _ => L.length - (intOf iv).toNat)
  case atStart => exact ⟨0, rfl, Nat.zero_le _, by rw [List.take_zero]; exact HR1.out⟩
  case round =>
    clear HR1
    obtain ⟨i, rfl, hi, hr⟩ := hrel
    by_cases hlt : i < L.length
    · have hii : (i : Int) < (L.length : Int) := by omega
      obtain ⟨cz, hx⟩ : ∃ c, L[i]? = some c := ⟨_, List.getElem?_eq_getElem hlt⟩
      have HN := Lib.hid (run_take [] L i cz hx)
      obtain ⟨A, hA⟩ : ∃ A, A = run [] (L.take i) := ⟨_, rfl⟩
      have hG : Good i A := by rw [hA]; exact good_take L i
      rw [← hA] at HN hr
      have HR := Lib.hid hr
      have HD := Lib.hid (fun wx (h : RunAt v1 wx p b i A) (hs : cz.key.size ≤ 1000000) => do_run h hG (by omega) (HT.out.next HV1.out) cz hs _ _ rfl)
      clear hA hG hr
      obtain ⟨g, off, rfl, hgl, hcm⟩ := HV.out.row i cz hx
      have hszc := HSZ.out cz (List.mem_of_getElem? hx)
      obtain ⟨hcp1, hcp2⟩ := HV.out.le
      unfold maxLen at hcp2
      obtain ⟨c0, c1, c2, c3, c4, c5⟩ := hcm.below (Below.trans HV1.out (HR.out.bel.mono (Below.size HV1.out))) hgl
      clear hx hcm
      go_wp2_with fail
      refine (HD.out _ HR.out (by omega)).mono ?_
      rintro e w2 ⟨rfl, hr2, hm2⟩
      have HR2 := Lib.hid hr2
      clear hr2 hm2 c0 c1 c2 c3 c4 c5 HD
      go_wp2_with fail
      go_roundw
      case rel => exact ⟨i + 1, by go_num, by omega, by rw [HN.out]; exact HR2.out⟩
      case measure => simp [intOf]; omega
    · obtain rfl : i = L.length := by omega
      have hii : ¬ (L.length : Int) < (L.length : Int) := by omega
      rw [List.take_of_length_le (Nat.le_refl _)] at hr
      have HG : Hid (Good L.length (run [] L)) := Lib.hid (by have := good_take L L.length; rw [List.take_of_length_le (Nat.le_refl _)] at this; exact this)
      obtain ⟨A, hA⟩ : ∃ A, A = run [] L := ⟨_, rfl⟩
      rw [← hA] at hr HG
      have HAA := Lib.hid hA
      have HR := Lib.hid hr
      obtain ⟨n, hn⟩ : ∃ n, n = L.length := ⟨_, rfl⟩
      rw [← hn] at HR HG
      have hn60 : n ≤ 60 := by omega
      clear hA hr hn
      have hr2 := hr A HAA.out
      obtain ⟨R0, hR0⟩ : ∃ R0, findR A nul = R0 := ⟨_, rfl⟩
      obtain ⟨A1, R1, hd⟩ : ∃ A1 R1, appDo A c = (A1, R1) := ⟨_, _, rfl⟩
      obtain rfl : A1 = A := by have := @reads_same A c (.inr (.inr hr2)); rw [hd] at this; exact this
      have HR0 := Lib.hid hR0
      have HD1 := Lib.hid hd
      have HW := Lib.hid hw
      have HG2 := Lib.hid (HG.out.mono (show n ≤ n + 1 + 1 by omega))
      have HZ := Lib.hid hz
      rw [hd] at hr2
      have e1 : (R1.code != 0) = true := by rw [bne_iff_ne]; exact hr2
      clear hR0 hd hw hz hr hr2
      have HCX : Hid (wr.heap[w.heap.size]? = some (cmdO c)) := Lib.hid ((HR.out.bel.block _ hv1w).trans HCB.out)
      have HB0 : Hid (Boxed wr b [(w.heap.size, cmdO c)]) := Lib.hid (fun x hx => by
        obtain rfl := List.mem_singleton.1 hx
        exact ⟨HCX.out, by have := HR.out.bge; simp only; omega⟩)
      go_upto_region 9 with fail
      obtain ⟨u1, hw⟩ : ∃ x, x = wr.alloc (askO 5 ⟨#[]⟩) := ⟨_, rfl⟩
      rw [← hw]
      have HX1 := Lib.hid (HR.out.next (w2 := u1) (by rw [hw]; exact (Below.refl _ _).alloc (Nat.le_refl _) _))
      have hbx := HB0.out.alloc HR.out.app.blt (askO 5 ⟨#[]⟩)
      rw [← hw] at hbx
      have HB1 := Lib.hid hbx
      clear hw hbx
      obtain ⟨⟨c0, c1, c2, c3, c4, c5⟩, _⟩ := box6 (HB1.out.at (.head _))
      go_wp2_with fail
      refine (all_run HX1.out HG.out (by omega) HTV.out R0 HR0.out).mono ?_
      rintro e u2 ⟨rfl, hrx, hmx⟩
      have HX2 := Lib.hid hrx
      have HB2 := Lib.hid (HB1.out.mods hmx)
      clear hrx hmx
      clear c0 c1 c2 c3 c4 c5
      go_upto_region 10 with fail
      obtain ⟨u3, hw⟩ : ∃ x, x = u2.alloc (repO R0) := ⟨_, rfl⟩
      rw [← hw]
      have HX3 := Lib.hid (HX2.out.next (w2 := u3) (by rw [hw]; exact (Below.refl _ _).alloc (Nat.le_refl _) _))
      have hbx := HB2.out.alloc HX2.out.app.blt (repO R0)
      rw [← hw] at hbx
      have HB3 := Lib.hid hbx
      clear hw hbx
      obtain ⟨⟨c0, c1, c2, c3, c4, c5⟩, _⟩ := box6 (HB3.out.at (.tail _ (.tail _ (.head _))))
      go_wp2_with fail
      refine (do_run HX3.out (HG.out.mono (Nat.le_succ n)) (by omega) HTV.out c (by omega) A1 R1 HD1.out).mono ?_
      rintro e u4 ⟨rfl, hrx, hmx⟩
      have HX4 := Lib.hid hrx
      have HB4 := Lib.hid (HB3.out.mods hmx)
      clear hrx hmx
      clear c0 c1 c2 c3 c4 c5
      go_upto_region 11 with fail
      obtain ⟨u5, hw⟩ : ∃ x, x = u4.alloc (repO R1) := ⟨_, rfl⟩
      rw [← hw]
      have HX5 := Lib.hid (HX4.out.next (w2 := u5) (by rw [hw]; exact (Below.refl _ _).alloc (Nat.le_refl _) _))
      have hbx := HB4.out.alloc HX4.out.app.blt (repO R1)
      rw [← hw] at hbx
      have HB5 := Lib.hid hbx
      clear hw hbx
      obtain ⟨⟨c0, c1, c2, c3, c4, c5⟩, _⟩ := box6 (HB5.out.at (.tail _ (.tail _ (.head _))))
      go_wp2_with fail
      refine (all_run HX5.out HG2.out (by omega) HTV.out R0 HR0.out).mono ?_
      rintro e u6 ⟨rfl, hrx, hmx⟩
      have HX6 := Lib.hid hrx
      have HB6 := Lib.hid (HB5.out.mods hmx)
      clear hrx hmx
      clear c0 c1 c2 c3 c4 c5
      go_upto_region 12 with fail
      obtain ⟨u7, hw⟩ : ∃ x, x = u6.alloc (repO R0) := ⟨_, rfl⟩
      rw [← hw]
      have HX7 := Lib.hid (HX6.out.next (w2 := u7) (by rw [hw]; exact (Below.refl _ _).alloc (Nat.le_refl _) _))
      have hbx := HB6.out.alloc HX6.out.app.blt (repO R0)
      rw [← hw] at hbx
      have HB7 := Lib.hid hbx
      clear hw hbx
      obtain ⟨⟨c0, c1, c2, c3, c4, c5⟩, _⟩ := box6 (HB7.out.at (.tail _ (.tail _ (.tail _ (.tail _ (.head _))))))
      go_wp2_with fail
      refine (writes_any c u7 _ HW.out).mono ?_
      rintro e u8 ⟨rfl, hb8⟩
      have HX8 := Lib.hid (HX7.out.next hb8)
      have HB8 := Lib.hid (HB7.out.below hb8)
      clear hb8 c0 c1 c2 c3 c4 c5
      obtain ⟨⟨c0, c1, c2, c3, c4, c5⟩, _⟩ := box6 (HB8.out.at (.tail _ (.tail _ (.tail _ (.tail _ (.head _))))))
      go_wp2_with fail
      refine (check_v c u8 (HTV.out.next HX8.out.bel).t (by omega) _ HZ.out).mono ?_
      rintro e u9 ⟨rfl, hb9⟩
      have HX9 := Lib.hid (HX8.out.next hb9)
      have HB9 := Lib.hid (HB8.out.below hb9)
      clear hb9 c0 c1 c2 c3 c4 c5
      obtain ⟨⟨z0, z1, z2⟩, _⟩ := box3 (HB9.out.at (.tail _ (.head _)))
      obtain ⟨⟨x0, x1, x2⟩, _⟩ := box3 (HB9.out.at (.tail _ (.tail _ (.head _))))
      obtain ⟨⟨y0, y1, y2⟩, _⟩ := box3 (HB9.out.at (.head _))
      have q1 := rep_same R0.code R0.val R0.rev
      go_wp2_with fail
      refine (awake_any _ (HTV.out.next HX9.out.bel)).mono ?_
      rintro e wz ⟨rfl, hbz⟩
      have HBZ := Lib.hid ((HV1.out.trans (HX9.out.bel.mono HV1.out.size)).trans (hbz.mono ((HV1.out.trans (HX9.out.bel.mono HV1.out.size)).size)))
      clear hbz
      go_wp2_with fail
      go_ret
      exact ⟨rfl, HBZ.out⟩
set_option maxRecDepth 100000 in
set_option maxHeartbeats 4000000 in
theorem reads_d (L : List Cmd) (ao : Option Addr) (cap : Nat) (c : Cmd) (w : World) (hV : CmdsV w.heap.size w ao cap L) (hC : CmdOk c) (hT : TabsI w) (hg : greatB L 60 = false) (hg1 : greatB [c] 1 = false) (hw : writes c = true) (hz : chk c = 0) (hr : ∀ A, A = run [] L → (appDo A c).2.code = 0) (hk : c.kind = 3) :
    Calls Tryd.prog 5 #[.slice ao L.length cap, cmdV c] w fun e w' => e = .returned (.bool true) ∧ Below w.heap.size w w' := by
  have HK := Lib.hid hk
  clear hk
  have hn1 := hg1
  have hgc := great_no hg1
  have hcs := hgc.2 c (List.mem_singleton.2 rfl)
  have HG1 := Lib.hid (fun (wx : World) (g : Nat) (hx : wx.heap[g]? = some (cmdO c)) => great_one hx hC false hg1)
  obtain ⟨hl60, hsz⟩ := great_no hg
  have HV := Lib.hid hV
  have HT := Lib.hid hT
  have HSZ := Lib.hid hsz
  clear hV hT hsz hn1 hgc hg1
  go_enter Tryd.func5, Tryd.ntmps5
  go_upto_region 1 with fail
  obtain ⟨v0, hv0⟩ : ∃ v0, v0 = w.alloc (cmdO c) := ⟨_, rfl⟩
  rw [← hv0]
  have HV0 : Hid (Below w.heap.size w v0) := Lib.hid (by rw [hv0]; exact (Below.refl _ _).alloc (Nat.le_refl _) _)
  have HC0 : Hid (v0.heap[w.heap.size]? = some (cmdO c)) := Lib.hid (by rw [hv0]; exact heap_alloc_new w _)
  clear hv0
  have hgr := great60 w.heap.size L ao cap v0 (HV.out.below HV0.out)
  rw [hg] at hgr
  obtain ⟨⟨c0, c1, c2, c3, c4, c5⟩, _⟩ := box6 HC0.out
  go_wp2_with fail
  refine hgr.mono ?_
  rintro e w1 ⟨rfl, rfl⟩
  clear hgr
  go_wp2_with fail
  refine (HG1.out _ _ (heap_alloc_new v0 _)).mono ?_
  rintro e w1 ⟨rfl, rfl⟩
  obtain ⟨v1, hv1⟩ : ∃ v1, v1 = v0.alloc (cmdO c) := ⟨_, rfl⟩
  rw [← hv1]
  have HV1 : Hid (Below w.heap.size w v1) := Lib.hid (by rw [hv1]; exact HV0.out.trans (((Below.refl _ _).alloc (Nat.le_refl _) _).mono HV0.out.size))
  have HCB : Hid (v1.heap[w.heap.size]? = some (cmdO c)) := Lib.hid (by rw [hv1]; exact (((Below.refl _ _).alloc (Nat.le_refl _) _).block _ (M.heap_lt HC0.out)).trans HC0.out)
  have HTV := Lib.hid (HT.out.next HV1.out)
  have hv1w : w.heap.size < v1.heap.size := M.heap_lt HCB.out
  clear hv1 c0 c1 c2 c3 c4 c5 HG1
  go_wp2_with fail
  refine (new_run v1).mono ?_
  rintro e w1 ⟨p, b, rfl, hr⟩
  have HR1 := Lib.hid hr
  clear hr
  go_wp2_with fail
  go_loopw [6] (fun iv wr => ∃ i : Nat, iv = .int .i64 i ∧ i ≤ L.length ∧ RunAt v1 wr p b i (run [] (L.take i))) (fun iv _ => L.length - (intOf iv).toNat)
  case atStart => exact ⟨0, rfl, Nat.zero_le _, by rw [List.take_zero]; exact HR1.out⟩
  case round =>
    clear HR1
    obtain ⟨i, rfl, hi, hr⟩ := hrel
    by_cases hlt : i < L.length
    · have hii : (i : Int) < (L.length : Int) := by omega
      obtain ⟨cz, hx⟩ : ∃ c, L[i]? = some c := ⟨_, List.getElem?_eq_getElem hlt⟩
      have HN := Lib.hid (run_take [] L i cz hx)
      obtain ⟨A, hA⟩ : ∃ A, A = run [] (L.take i) := ⟨_, rfl⟩
      have hG : Good i A := by rw [hA]; exact good_take L i
      rw [← hA] at HN hr
      have HR := Lib.hid hr
      have HD := Lib.hid (fun wx (h : RunAt v1 wx p b i A) (hs : cz.key.size ≤ 1000000) => do_run h hG (by omega) (HT.out.next HV1.out) cz hs _ _ rfl)
      clear hA hG hr
      obtain ⟨g, off, rfl, hgl, hcm⟩ := HV.out.row i cz hx
      have hszc := HSZ.out cz (List.mem_of_getElem? hx)
      obtain ⟨hcp1, hcp2⟩ := HV.out.le
      unfold maxLen at hcp2
      obtain ⟨c0, c1, c2, c3, c4, c5⟩ := hcm.below (Below.trans HV1.out (HR.out.bel.mono (Below.size HV1.out))) hgl
      clear hx hcm
      go_wp2_with fail
      refine (HD.out _ HR.out (by omega)).mono ?_
      rintro e w2 ⟨rfl, hr2, hm2⟩
      have HR2 := Lib.hid hr2
      clear hr2 hm2 c0 c1 c2 c3 c4 c5 HD
      go_wp2_with fail
      go_roundw
      case rel => exact ⟨i + 1, by go_num, by omega, by rw [HN.out]; exact HR2.out⟩
      case measure => simp [intOf]; omega
    · obtain rfl : i = L.length := by omega
      have hii : ¬ (L.length : Int) < (L.length : Int) := by omega
      rw [List.take_of_length_le (Nat.le_refl _)] at hr
      have HG : Hid (Good L.length (run [] L)) := Lib.hid (by have := good_take L L.length; rw [List.take_of_length_le (Nat.le_refl _)] at this; exact this)
      obtain ⟨A, hA⟩ : ∃ A, A = run [] L := ⟨_, rfl⟩
      rw [← hA] at hr HG
      have HAA := Lib.hid hA
      have HR := Lib.hid hr
      obtain ⟨n, hn⟩ : ∃ n, n = L.length := ⟨_, rfl⟩
      rw [← hn] at HR HG
      have hn60 : n ≤ 60 := by omega
      clear hA hr hn
      have hk := HK.out
      have hr2 := hr A HAA.out
      obtain ⟨R0, hR0⟩ : ∃ R0, findR A nul = R0 := ⟨_, rfl⟩
      obtain ⟨A1, R1, hd⟩ : ∃ A1 R1, appDo A c = (A1, R1) := ⟨_, _, rfl⟩
      have HG2 : Hid (Good (n + 1 + 1) A1) := Lib.hid (by have := (HG.out.mono (Nat.le_succ n)).step c; rw [hd] at this; exact this)
      obtain ⟨R2, hR2⟩ : ∃ R2, findR A1 nul = R2 := ⟨_, rfl⟩
      have HR0 := Lib.hid hR0
      have HR2 := Lib.hid hR2
      have HD1 := Lib.hid hd
      have HW := Lib.hid hw
      have HZ := Lib.hid hz
      have hRR : R1 = (appDo A c).2 := by rw [hd]
      have hgd := reads_got_del HG.out.srt hw hz hr2 hk
      rw [hd, hR2, hR0] at hgd
      obtain ⟨R3, hR3⟩ : ∃ R3, R3 = (⟨8, nul, 0⟩ : Rep) := ⟨_, rfl⟩
      have HR3 := Lib.hid (show appDo A1 (getC c.key) = (A1, R3) by rw [hR3]; exact hgd.1)
      have H8 : Hid (R3.code = 8) := Lib.hid (by rw [hR3])
      have hlen := finds_all A
      rw [hR0] at hlen
      have hal := HG.out.len
      have e1 : (R1.code != 0) = false := by rw [bne_eq_false_iff_eq, hRR]; exact hr2
      have hwr : IntKind.i64.wrap (R0.rev - 1) = R0.rev - 1 := IntWalk.i64_in _ (by omega)
      have e3 : (R2.rev == R0.rev - 1) = true := by rw [beq_iff_eq]; exact hgd.2
      have e4 : (c.kind == 3) = true := by rw [hk]; rfl
      clear hR0 hd hw hz hr hr2 hgd hR2 hR3 hRR hlen hal hk
      have HCX : Hid (wr.heap[w.heap.size]? = some (cmdO c)) := Lib.hid ((HR.out.bel.block _ hv1w).trans HCB.out)
      have HB0 : Hid (Boxed wr b [(w.heap.size, cmdO c)]) := Lib.hid (fun x hx => by
        obtain rfl := List.mem_singleton.1 hx
        exact ⟨HCX.out, by have := HR.out.bge; simp only; omega⟩)
      go_upto_region 9 with fail
      obtain ⟨u1, hw⟩ : ∃ x, x = wr.alloc (askO 5 ⟨#[]⟩) := ⟨_, rfl⟩
      rw [← hw]
      have HX1 := Lib.hid (HR.out.next (w2 := u1) (by rw [hw]; exact (Below.refl _ _).alloc (Nat.le_refl _) _))
      have hbx := HB0.out.alloc HR.out.app.blt (askO 5 ⟨#[]⟩)
      rw [← hw] at hbx
      have HB1 := Lib.hid hbx
      clear hw hbx
      obtain ⟨⟨c0, c1, c2, c3, c4, c5⟩, _⟩ := box6 (HB1.out.at (.head _))
      go_wp2_with fail
      refine (all_run HX1.out HG.out (by omega) HTV.out R0 HR0.out).mono ?_
      rintro e u2 ⟨rfl, hrx, hmx⟩
      have HX2 := Lib.hid hrx
      have HB2 := Lib.hid (HB1.out.mods hmx)
      clear hrx hmx
      clear c0 c1 c2 c3 c4 c5
      go_upto_region 10 with fail
      obtain ⟨u3, hw⟩ : ∃ x, x = u2.alloc (repO R0) := ⟨_, rfl⟩
      rw [← hw]
      have HX3 := Lib.hid (HX2.out.next (w2 := u3) (by rw [hw]; exact (Below.refl _ _).alloc (Nat.le_refl _) _))
      have hbx := HB2.out.alloc HX2.out.app.blt (repO R0)
      rw [← hw] at hbx
      have HB3 := Lib.hid hbx
      clear hw hbx
      obtain ⟨⟨c0, c1, c2, c3, c4, c5⟩, _⟩ := box6 (HB3.out.at (.tail _ (.tail _ (.head _))))
      go_wp2_with fail
      refine (do_run HX3.out (HG.out.mono (Nat.le_succ n)) (by omega) HTV.out c (by omega) A1 R1 HD1.out).mono ?_
      rintro e u4 ⟨rfl, hrx, hmx⟩
      have HX4 := Lib.hid hrx
      have HB4 := Lib.hid (HB3.out.mods hmx)
      clear hrx hmx
      clear c0 c1 c2 c3 c4 c5
      go_upto_region 11 with fail
      obtain ⟨u5, hw⟩ : ∃ x, x = u4.alloc (repO R1) := ⟨_, rfl⟩
      rw [← hw]
      have HX5 := Lib.hid (HX4.out.next (w2 := u5) (by rw [hw]; exact (Below.refl _ _).alloc (Nat.le_refl _) _))
      have hbx := HB4.out.alloc HX4.out.app.blt (repO R1)
      rw [← hw] at hbx
      have HB5 := Lib.hid hbx
      clear hw hbx
      obtain ⟨⟨c0, c1, c2, c3, c4, c5⟩, _⟩ := box6 (HB5.out.at (.tail _ (.tail _ (.head _))))
      go_wp2_with fail
      refine (all_run HX5.out HG2.out (by omega) HTV.out R2 HR2.out).mono ?_
      rintro e u6 ⟨rfl, hrx, hmx⟩
      have HX6 := Lib.hid hrx
      have HB6 := Lib.hid (HB5.out.mods hmx)
      clear hrx hmx
      clear c0 c1 c2 c3 c4 c5
      go_upto_region 12 with fail
      obtain ⟨u7, hw⟩ : ∃ x, x = u6.alloc (repO R2) := ⟨_, rfl⟩
      rw [← hw]
      have HX7 := Lib.hid (HX6.out.next (w2 := u7) (by rw [hw]; exact (Below.refl _ _).alloc (Nat.le_refl _) _))
      have hbx := HB6.out.alloc HX6.out.app.blt (repO R2)
      rw [← hw] at hbx
      have HB7 := Lib.hid hbx
      clear hw hbx
      obtain ⟨⟨c0, c1, c2, c3, c4, c5⟩, _⟩ := box6 (HB7.out.at (.tail _ (.tail _ (.tail _ (.tail _ (.head _))))))
      go_wp2_with fail
      refine (writes_any c u7 _ HW.out).mono ?_
      rintro e u8 ⟨rfl, hb8⟩
      have HX8 := Lib.hid (HX7.out.next hb8)
      have HB8 := Lib.hid (HB7.out.below hb8)
      clear hb8 c0 c1 c2 c3 c4 c5
      obtain ⟨⟨c0, c1, c2, c3, c4, c5⟩, _⟩ := box6 (HB8.out.at (.tail _ (.tail _ (.tail _ (.tail _ (.head _))))))
      go_wp2_with fail
      refine (check_v c u8 (HTV.out.next HX8.out.bel).t (by omega) _ HZ.out).mono ?_
      rintro e u9 ⟨rfl, hb9⟩
      have HX9 := Lib.hid (HX8.out.next hb9)
      have HB9 := Lib.hid (HB8.out.below hb9)
      clear hb9 c0 c1 c2 c3 c4 c5
      obtain ⟨⟨z0, z1, z2⟩, _⟩ := box3 (HB9.out.at (.tail _ (.head _)))
      obtain ⟨⟨c0, c1, c2, c3, c4, c5⟩, _⟩ := box6 (HB9.out.at (.tail _ (.tail _ (.tail _ (.tail _ (.head _))))))
      go_wp2_with fail
      refine (get_run HX9.out (HG2.out.mono (Nat.le_succ _)) (by omega) HTV.out c.key (by omega) R3 HR3.out).mono ?_
      rintro e u10 ⟨rfl, hrx, hmx⟩
      have HX10 := Lib.hid hrx
      have HB10 := Lib.hid (HB9.out.mods hmx)
      clear hrx hmx
      clear c0 c1 c2 c3 c4 c5 z0 z1 z2
      go_upto_region 17 with fail
      obtain ⟨u11, hw⟩ : ∃ x, x = u10.alloc (repO R3) := ⟨_, rfl⟩
      rw [← hw]
      have HX11 := Lib.hid (HX10.out.next (w2 := u11) (by rw [hw]; exact (Below.refl _ _).alloc (Nat.le_refl _) _))
      have hbx := HB10.out.alloc HX10.out.app.blt (repO R3)
      rw [← hw] at hbx
      have HB11 := Lib.hid hbx
      clear hw hbx
      obtain ⟨⟨c0, c1, c2, c3, c4, c5⟩, _⟩ := box6 (HB11.out.at (.tail _ (.tail _ (.tail _ (.tail _ (.tail _ (.head _)))))))
      obtain ⟨⟨t0, t1, t2⟩, _⟩ := box3 (HB11.out.at (.head _))
      obtain ⟨⟨y0, y1, y2⟩, _⟩ := box3 (HB11.out.at (.tail _ (.head _)))
      obtain ⟨⟨z0, z1, z2⟩, _⟩ := box3 (HB11.out.at (.tail _ (.tail _ (.head _))))
      obtain ⟨⟨x0, x1, x2⟩, _⟩ := box3 (HB11.out.at (.tail _ (.tail _ (.tail _ (.head _)))))
      rw [H8.out] at t0
      go_wp2_with fail
      refine (awake_any _ (HTV.out.next HX11.out.bel)).mono ?_
      rintro e wz ⟨rfl, hbz⟩
      have HBZ := Lib.hid ((HV1.out.trans (HX11.out.bel.mono HV1.out.size)).trans (hbz.mono ((HV1.out.trans (HX11.out.bel.mono HV1.out.size)).size)))
      clear hbz
      go_wp2_with fail
      go_ret
      exact ⟨rfl, HBZ.out⟩
set_option maxRecDepth 100000 in
set_option maxHeartbeats 4000000 in
theorem reads_e (L : List Cmd) (ao : Option Addr) (cap : Nat) (c : Cmd) (w : World) (hV : CmdsV w.heap.size w ao cap L) (hC : CmdOk c) (hT : TabsI w) (hg : greatB L 60 = false) (hg1 : greatB [c] 1 = false) (hw : writes c = true) (hz : chk c = 0) (hr : ∀ A, A = run [] L → (appDo A c).2.code = 0) (hk : c.kind ≠ 3) :
    Calls Tryd.prog 5 #[.slice ao L.length cap, cmdV c] w fun e w' => e = .returned (.bool true) ∧ Below w.heap.size w w' := by
  have hn1 := hg1
  have hgc := great_no hg1
  have hcs := hgc.2 c (List.mem_singleton.2 rfl)
  have HG1 := Lib.hid (fun (wx : World) (g : Nat) (hx : wx.heap[g]? = some (cmdO c)) => great_one hx hC false hg1)
  obtain ⟨hl60, hsz⟩ := great_no hg
  have HV := Lib.hid hV
  have HT := Lib.hid hT
  have HSZ := Lib.hid hsz
  clear hV hT hsz hn1 hgc hg1
  go_enter Tryd.func5, Tryd.ntmps5
  go_upto_region 1 with fail
  obtain ⟨v0, hv0⟩ : ∃ v0, v0 = w.alloc (cmdO c) := ⟨_, rfl⟩
  rw [← hv0]
  have HV0 : Hid (Below w.heap.size w v0) := Lib.hid (by rw [hv0]; exact (Below.refl _ _).alloc (Nat.le_refl _) _)
  have HC0 : Hid (v0.heap[w.heap.size]? = some (cmdO c)) := Lib.hid (by rw [hv0]; exact heap_alloc_new w _)
  clear hv0
  have hgr := great60 w.heap.size L ao cap v0 (HV.out.below HV0.out)
  rw [hg] at hgr
  obtain ⟨⟨c0, c1, c2, c3, c4, c5⟩, _⟩ := box6 HC0.out
  go_wp2_with fail
  refine hgr.mono ?_
  rintro e w1 ⟨rfl, rfl⟩
  clear hgr
  go_wp2_with fail
  refine (HG1.out _ _ (heap_alloc_new v0 _)).mono ?_
  rintro e w1 ⟨rfl, rfl⟩
  obtain ⟨v1, hv1⟩ : ∃ v1, v1 = v0.alloc (cmdO c) := ⟨_, rfl⟩
  rw [← hv1]
  have HV1 : Hid (Below w.heap.size w v1) := Lib.hid (by rw [hv1]; exact HV0.out.trans (((Below.refl _ _).alloc (Nat.le_refl _) _).mono HV0.out.size))
  have HCB : Hid (v1.heap[w.heap.size]? = some (cmdO c)) := Lib.hid (by rw [hv1]; exact (((Below.refl _ _).alloc (Nat.le_refl _) _).block _ (M.heap_lt HC0.out)).trans HC0.out)
  have HTV := Lib.hid (HT.out.next HV1.out)
  have hv1w : w.heap.size < v1.heap.size := M.heap_lt HCB.out
  clear hv1 c0 c1 c2 c3 c4 c5 HG1
  go_wp2_with fail
  refine (new_run v1).mono ?_
  rintro e w1 ⟨p, b, rfl, hr⟩
  have HR1 := Lib.hid hr
  clear hr
  go_wp2_with fail
  go_loopw [6] (fun iv wr => ∃ i : Nat, iv = .int .i64 i ∧ i ≤ L.length ∧ RunAt v1 wr p b i (run [] (L.take i))) (fun iv _ => L.length - (intOf iv).toNat)
  case atStart => exact ⟨0, rfl, Nat.zero_le _, by rw [List.take_zero]; exact HR1.out⟩
  case round =>
    clear HR1
    obtain ⟨i, rfl, hi, hr⟩ := hrel
    by_cases hlt : i < L.length
    · have hii : (i : Int) < (L.length : Int) := by omega
      obtain ⟨cz, hx⟩ : ∃ c, L[i]? = some c := ⟨_, List.getElem?_eq_getElem hlt⟩
      have HN := Lib.hid (run_take [] L i cz hx)
      obtain ⟨A, hA⟩ : ∃ A, A = run [] (L.take i) := ⟨_, rfl⟩
      have hG : Good i A := by rw [hA]; exact good_take L i
      rw [← hA] at HN hr
      have HR := Lib.hid hr
      have HD := Lib.hid (fun wx (h : RunAt v1 wx p b i A) (hs : cz.key.size ≤ 1000000) => do_run h hG (by omega) (HT.out.next HV1.out) cz hs _ _ rfl)
      clear hA hG hr
      obtain ⟨g, off, rfl, hgl, hcm⟩ := HV.out.row i cz hx
      have hszc := HSZ.out cz (List.mem_of_getElem? hx)
      obtain ⟨hcp1, hcp2⟩ := HV.out.le
      unfold maxLen at hcp2
      obtain ⟨c0, c1, c2, c3, c4, c5⟩ := hcm.below (Below.trans HV1.out (HR.out.bel.mono (Below.size HV1.out))) hgl
      clear hx hcm
      go_wp2_with fail
      refine (HD.out _ HR.out (by omega)).mono ?_
      rintro e w2 ⟨rfl, hr2, hm2⟩
      have HR2 := Lib.hid hr2
      clear hr2 hm2 c0 c1 c2 c3 c4 c5 HD
      go_wp2_with fail
      go_roundw
      case rel => exact ⟨i + 1, by go_num, by omega, by rw [HN.out]; exact HR2.out⟩
      case measure => simp [intOf]; omega
    · obtain rfl : i = L.length := by omega
      have hii : ¬ (L.length : Int) < (L.length : Int) := by omega
      rw [List.take_of_length_le (Nat.le_refl _)] at hr
      have HG : Hid (Good L.length (run [] L)) := Lib.hid (by have := good_take L L.length; rw [List.take_of_length_le (Nat.le_refl _)] at this; exact this)
      obtain ⟨A, hA⟩ : ∃ A, A = run [] L := ⟨_, rfl⟩
      rw [← hA] at hr HG
      have HAA := Lib.hid hA
      have HR := Lib.hid hr
      obtain ⟨n, hn⟩ : ∃ n, n = L.length := ⟨_, rfl⟩
      rw [← hn] at HR HG
      have hn60 : n ≤ 60 := by omega
      clear hA hr hn
      have hr2 := hr A HAA.out
      obtain ⟨R0, hR0⟩ : ∃ R0, findR A nul = R0 := ⟨_, rfl⟩
      obtain ⟨A1, R1, hd⟩ : ∃ A1 R1, appDo A c = (A1, R1) := ⟨_, _, rfl⟩
      have HG2 : Hid (Good (n + 1 + 1) A1) := Lib.hid (by have := (HG.out.mono (Nat.le_succ n)).step c; rw [hd] at this; exact this)
      obtain ⟨R2, hR2⟩ : ∃ R2, findR A1 nul = R2 := ⟨_, rfl⟩
      have HR0 := Lib.hid hR0
      have HR2 := Lib.hid hR2
      have HD1 := Lib.hid hd
      have HW := Lib.hid hw
      have HZ := Lib.hid hz
      have hRR : R1 = (appDo A c).2 := by rw [hd]
      have hgd := reads_got_put HG.out hw hz hr2 hk
      rw [hd] at hgd
      obtain ⟨R3, hR3⟩ : ∃ R3, R3 = (⟨0, c.val, R1.rev⟩ : Rep) := ⟨_, rfl⟩
      have HR3 := Lib.hid (show appDo A1 (getC c.key) = (A1, R3) by rw [hR3]; exact hgd.1)
      have H8 : Hid (R3.code = 0) := Lib.hid (by rw [hR3])
      have H9 : Hid (R3.val = c.val) := Lib.hid (by rw [hR3])
      have H10 : Hid (R3.rev = R1.rev) := Lib.hid (by rw [hR3])
      have e1 : (R1.code != 0) = false := by rw [bne_eq_false_iff_eq, hRR]; exact hr2
      have e2 : (0 : Int) < R1.rev := hgd.2
      have e4 : (c.kind == 3) = false := by rw [beq_eq_false_iff_ne]; exact hk
      have q1 := rep_same 0 c.val R1.rev
      clear hR0 hd hw hz hr hr2 hgd hR2 hR3 hRR hk
      have HCX : Hid (wr.heap[w.heap.size]? = some (cmdO c)) := Lib.hid ((HR.out.bel.block _ hv1w).trans HCB.out)
      have HB0 : Hid (Boxed wr b [(w.heap.size, cmdO c)]) := Lib.hid (fun x hx => by
        obtain rfl := List.mem_singleton.1 hx
        exact ⟨HCX.out, by have := HR.out.bge; simp only; omega⟩)
      go_upto_region 9 with fail
      obtain ⟨u1, hw⟩ : ∃ x, x = wr.alloc (askO 5 ⟨#[]⟩) := ⟨_, rfl⟩
      rw [← hw]
      have HX1 := Lib.hid (HR.out.next (w2 := u1) (by rw [hw]; exact (Below.refl _ _).alloc (Nat.le_refl _) _))
      have hbx := HB0.out.alloc HR.out.app.blt (askO 5 ⟨#[]⟩)
      rw [← hw] at hbx
      have HB1 := Lib.hid hbx
      clear hw hbx
      obtain ⟨⟨c0, c1, c2, c3, c4, c5⟩, _⟩ := box6 (HB1.out.at (.head _))
      go_wp2_with fail
      refine (all_run HX1.out HG.out (by omega) HTV.out R0 HR0.out).mono ?_
      rintro e u2 ⟨rfl, hrx, hmx⟩
      have HX2 := Lib.hid hrx
      have HB2 := Lib.hid (HB1.out.mods hmx)
      clear hrx hmx
      clear c0 c1 c2 c3 c4 c5
      go_upto_region 10 with fail
      obtain ⟨u3, hw⟩ : ∃ x, x = u2.alloc (repO R0) := ⟨_, rfl⟩
      rw [← hw]
      have HX3 := Lib.hid (HX2.out.next (w2 := u3) (by rw [hw]; exact (Below.refl _ _).alloc (Nat.le_refl _) _))
      have hbx := HB2.out.alloc HX2.out.app.blt (repO R0)
      rw [← hw] at hbx
      have HB3 := Lib.hid hbx
      clear hw hbx
      obtain ⟨⟨c0, c1, c2, c3, c4, c5⟩, _⟩ := box6 (HB3.out.at (.tail _ (.tail _ (.head _))))
      go_wp2_with fail
      refine (do_run HX3.out (HG.out.mono (Nat.le_succ n)) (by omega) HTV.out c (by omega) A1 R1 HD1.out).mono ?_
      rintro e u4 ⟨rfl, hrx, hmx⟩
      have HX4 := Lib.hid hrx
      have HB4 := Lib.hid (HB3.out.mods hmx)
      clear hrx hmx
      clear c0 c1 c2 c3 c4 c5
      go_upto_region 11 with fail
      obtain ⟨u5, hw⟩ : ∃ x, x = u4.alloc (repO R1) := ⟨_, rfl⟩
      rw [← hw]
      have HX5 := Lib.hid (HX4.out.next (w2 := u5) (by rw [hw]; exact (Below.refl _ _).alloc (Nat.le_refl _) _))
      have hbx := HB4.out.alloc HX4.out.app.blt (repO R1)
      rw [← hw] at hbx
      have HB5 := Lib.hid hbx
      clear hw hbx
      obtain ⟨⟨c0, c1, c2, c3, c4, c5⟩, _⟩ := box6 (HB5.out.at (.tail _ (.tail _ (.head _))))
      go_wp2_with fail
      refine (all_run HX5.out HG2.out (by omega) HTV.out R2 HR2.out).mono ?_
      rintro e u6 ⟨rfl, hrx, hmx⟩
      have HX6 := Lib.hid hrx
      have HB6 := Lib.hid (HB5.out.mods hmx)
      clear hrx hmx
      clear c0 c1 c2 c3 c4 c5
      go_upto_region 12 with fail
      obtain ⟨u7, hw⟩ : ∃ x, x = u6.alloc (repO R2) := ⟨_, rfl⟩
      rw [← hw]
      have HX7 := Lib.hid (HX6.out.next (w2 := u7) (by rw [hw]; exact (Below.refl _ _).alloc (Nat.le_refl _) _))
      have hbx := HB6.out.alloc HX6.out.app.blt (repO R2)
      rw [← hw] at hbx
      have HB7 := Lib.hid hbx
      clear hw hbx
      obtain ⟨⟨c0, c1, c2, c3, c4, c5⟩, _⟩ := box6 (HB7.out.at (.tail _ (.tail _ (.tail _ (.tail _ (.head _))))))
      go_wp2_with fail
      refine (writes_any c u7 _ HW.out).mono ?_
      rintro e u8 ⟨rfl, hb8⟩
      have HX8 := Lib.hid (HX7.out.next hb8)
      have HB8 := Lib.hid (HB7.out.below hb8)
      clear hb8 c0 c1 c2 c3 c4 c5
      obtain ⟨⟨c0, c1, c2, c3, c4, c5⟩, _⟩ := box6 (HB8.out.at (.tail _ (.tail _ (.tail _ (.tail _ (.head _))))))
      go_wp2_with fail
      refine (check_v c u8 (HTV.out.next HX8.out.bel).t (by omega) _ HZ.out).mono ?_
      rintro e u9 ⟨rfl, hb9⟩
      have HX9 := Lib.hid (HX8.out.next hb9)
      have HB9 := Lib.hid (HB8.out.below hb9)
      clear hb9 c0 c1 c2 c3 c4 c5
      obtain ⟨⟨z0, z1, z2⟩, _⟩ := box3 (HB9.out.at (.tail _ (.head _)))
      obtain ⟨⟨c0, c1, c2, c3, c4, c5⟩, _⟩ := box6 (HB9.out.at (.tail _ (.tail _ (.tail _ (.tail _ (.head _))))))
      go_wp2_with fail
      refine (get_run HX9.out (HG2.out.mono (Nat.le_succ _)) (by omega) HTV.out c.key (by omega) R3 HR3.out).mono ?_
      rintro e u10 ⟨rfl, hrx, hmx⟩
      have HX10 := Lib.hid hrx
      have HB10 := Lib.hid (HB9.out.mods hmx)
      clear hrx hmx
      clear c0 c1 c2 c3 c4 c5 z0 z1 z2
      go_upto_region 17 with fail
      obtain ⟨u11, hw⟩ : ∃ x, x = u10.alloc (repO R3) := ⟨_, rfl⟩
      rw [← hw]
      have HX11 := Lib.hid (HX10.out.next (w2 := u11) (by rw [hw]; exact (Below.refl _ _).alloc (Nat.le_refl _) _))
      have hbx := HB10.out.alloc HX10.out.app.blt (repO R3)
      rw [← hw] at hbx
      have HB11 := Lib.hid hbx
      clear hw hbx
      obtain ⟨⟨c0, c1, c2, c3, c4, c5⟩, _⟩ := box6 (HB11.out.at (.tail _ (.tail _ (.tail _ (.tail _ (.tail _ (.head _)))))))
      obtain ⟨⟨t0, t1, t2⟩, _⟩ := box3 (HB11.out.at (.head _))
      obtain ⟨⟨y0, y1, y2⟩, _⟩ := box3 (HB11.out.at (.tail _ (.head _)))
      obtain ⟨⟨z0, z1, z2⟩, _⟩ := box3 (HB11.out.at (.tail _ (.tail _ (.head _))))
      obtain ⟨⟨x0, x1, x2⟩, _⟩ := box3 (HB11.out.at (.tail _ (.tail _ (.tail _ (.head _)))))
      rw [H8.out] at t0
      rw [H9.out] at t1
      rw [H10.out] at t2
      go_wp2_with fail
      refine (awake_any _ (HTV.out.next HX11.out.bel)).mono ?_
      rintro e wz ⟨rfl, hbz⟩
      have HBZ := Lib.hid ((HV1.out.trans (HX11.out.bel.mono HV1.out.size)).trans (hbz.mono ((HV1.out.trans (HX11.out.bel.mono HV1.out.size)).size)))
      clear hbz
      go_wp2_with fail
      go_ret
      exact ⟨rfl, HBZ.out⟩
theorem reads_law (L : List Cmd) (ao : Option Addr) (cap : Nat) (c : Cmd) (w : World) (hV : CmdsV w.heap.size w ao cap L) (hC : CmdOk c) (hT : TabsI w) :
    Calls Tryd.prog 5 #[.slice ao L.length cap, cmdV c] w fun e w' => e = .returned (.bool true) ∧ Below w.heap.size w w' := by
  by_cases h : greatB L 60 = true ∨ greatB [c] 1 = true
  · exact reads_no L ao cap c w hV hC hT h
  · simp only [not_or, Bool.not_eq_true] at h
    cases hw : writes c with
    | false => exact reads_a L ao cap c w hV hC hT h.1 h.2 hw
    | true =>
      by_cases hz : chk c = 0
      · by_cases hr : (appDo (run [] L) c).2.code = 0
        · by_cases hk : c.kind = 3
          · exact reads_d L ao cap c w hV hC hT h.1 h.2 hw hz (fun A hA => by rw [hA]; exact hr) hk
          · exact reads_e L ao cap c w hV hC hT h.1 h.2 hw hz (fun A hA => by rw [hA]; exact hr) hk
        · exact reads_c L ao cap c w hV hC hT h.1 h.2 hw hz (fun A hA => by rw [hA]; exact hr)
      · exact reads_b L ao cap c w hV hC hT h.1 h.2 hw hz
end Go.Proofs.YtpeiamllkddhiaaDoor.P
