/- The walk of AppFinds. -/
import Derived.Test.YtpeiamllkddhiaaDoorAppZ
import Derived.Laws.Small
import Derived.Deep.RegionHeld3
import Derived.Deep.DeepCutAuto
namespace Go.Proofs.YtpeiamllkddhiaaDoor.P
open Go.RowKit Go.Proofs.YtpeiamllkddhiaaDoor.R Go.Proofs.YtpeiamllkddhiaaDoor.M Go.BigFrame
set_option linter.unusedVariables false
set_option linter.unusedSimpArgs false

set_option maxRecDepth 100000 in
set_option maxHeartbeats 4000000 in
theorem finds_no (L : List Cmd) (ao : Option Addr) (cap : Nat) (key : ByteArray) (cut : Int) (w : World) (hV : CmdsV w.heap.size w ao cap L) (hT : TabsI w) (h : greatB L 60 = true ∨ 100 < key.size) :
    Calls Tryd.prog 4 #[.slice ao L.length cap, .string key, .int .i64 cut] w fun e w' => e = .returned (.bool true) ∧ Below w.heap.size w w' := by
  have hgr := great60 w.heap.size L ao cap w hV
  have HT := Lib.hid hT
  clear hV hT
  obtain ⟨gb, hgb⟩ : ∃ gb, greatB L 60 = gb := ⟨_, rfl⟩
  rw [hgb] at hgr h
  clear hgb
  cases gb with
  | true =>
    clear h
    go_enter Tryd.func4, Tryd.ntmps4
    go_wp2_with fail
    refine hgr.mono ?_
    rintro e w1 ⟨rfl, rfl⟩
    go_wp2_with fail
    refine (awake_any _ (HT.out.next (Below.refl w.heap.size w))).mono ?_
    rintro e wz ⟨rfl, hbz⟩
    have HBZ := Lib.hid (((Below.refl w.heap.size w)).trans (hbz.mono ((Below.refl w.heap.size w)).size))
    clear hbz
    go_wp2_with fail
    go_ret
    exact ⟨rfl, HBZ.out⟩
  | false =>
    have e1 : (100 : Int) < (key.size : Int) := by simp at h; omega
    clear h
    go_enter Tryd.func4, Tryd.ntmps4
    go_wp2_with fail
    refine hgr.mono ?_
    rintro e w1 ⟨rfl, rfl⟩
    go_wp2_with fail
    refine (awake_any _ (HT.out.next (Below.refl w.heap.size w))).mono ?_
    rintro e wz ⟨rfl, hbz⟩
    have HBZ := Lib.hid (((Below.refl w.heap.size w)).trans (hbz.mono ((Below.refl w.heap.size w)).size))
    clear hbz
    go_wp2_with fail
    go_ret
    exact ⟨rfl, HBZ.out⟩
set_option maxRecDepth 100000 in
set_option maxHeartbeats 4000000 in
theorem finds_all_w (L : List Cmd) (ao : Option Addr) (cap : Nat) (key : ByteArray) (cut : Int) (w : World) (hV : CmdsV w.heap.size w ao cap L) (hT : TabsI w) (hg : greatB L 60 = false) (hk : ¬ 100 < key.size) :
    Calls Tryd.prog 4 #[.slice ao L.length cap, .string key, .int .i64 cut] w fun e w' => e = .returned (.bool true) ∧ Below w.heap.size w w' := by
  have hgr := great60 w.heap.size L ao cap w hV
  rw [hg] at hgr
  obtain ⟨hl60, hsz⟩ := great_no hg
  have HV := Lib.hid hV
  have HT := Lib.hid hT
  have HSZ := Lib.hid hsz
  clear hV hT hg hsz
  have e1 : ¬ (100 : Int) < (key.size : Int) := by omega
  go_enter Tryd.func4, Tryd.ntmps4
  go_wp2_with fail
  refine hgr.mono ?_
  rintro e w1 ⟨rfl, rfl⟩
  clear hgr e1
  go_wp2_with fail
  refine (new_run w).mono ?_
  rintro e w1 ⟨p, b, rfl, hr⟩
  have HR1 := Lib.hid hr
  clear hr
  go_wp2_with fail
  go_loopw [8] (fun iv wr => ∃ i : Nat, iv = .int .i64 i ∧ i ≤ L.length ∧ RunAt w wr p b i (run [] (L.take i))) (fun iv _ => L.length - (intOf iv).toNat)
  case atStart => exact ⟨0, rfl, Nat.zero_le _, by rw [List.take_zero]; exact HR1.out⟩
  case round =>
    clear HR1
    obtain ⟨i, rfl, hi, hr⟩ := hrel
    by_cases hlt : i < L.length
    · have hii : (i : Int) < (L.length : Int) := by omega
      obtain ⟨c0, hx⟩ : ∃ c, L[i]? = some c := ⟨_, List.getElem?_eq_getElem hlt⟩
      have HN := Lib.hid (run_take [] L i c0 hx)
      obtain ⟨A, hA⟩ : ∃ A, A = run [] (L.take i) := ⟨_, rfl⟩
      have hG : Good i A := by rw [hA]; exact good_take L i
      rw [← hA] at HN hr
      have HR := Lib.hid hr
      have HD := Lib.hid (fun wx (h : RunAt w wx p b i A) (hs : c0.key.size ≤ 1000000) => do_run h hG (by omega) (HT.out.next (Below.refl w.heap.size w)) c0 hs _ _ rfl)
      clear hA hG hr
      obtain ⟨g, off, rfl, hgl, hcm⟩ := HV.out.row i c0 hx
      have hszc := HSZ.out c0 (List.mem_of_getElem? hx)
      obtain ⟨hcp1, hcp2⟩ := HV.out.le
      unfold maxLen at hcp2
      obtain ⟨c0, c1, c2, c3, c4, c5⟩ := hcm.below (Below.trans (Below.refl w.heap.size w) (HR.out.bel.mono (Below.size (Below.refl w.heap.size w)))) hgl
      clear hx hcm
      go_wp2_with fail
      refine (HD.out _ HR.out (by omega)).mono ?_
      rintro e w2 ⟨rfl, hr2, hm2⟩
      have HR2 := Lib.hid hr2
      clear hr2 hm2 c0 c1 c2 c3 c4 c5 HD
      go_wp2_with fail
      go_roundw
      case rel => exact ⟨i + 1, by go_num, by omega, by rw [HN.out]; exact HR2.out⟩
      case measure => simp [intOf]; omega
    · obtain rfl : i = L.length := by omega
      have hii : ¬ (L.length : Int) < (L.length : Int) := by omega
      rw [List.take_of_length_le (Nat.le_refl _)] at hr
      have HG : Hid (Good L.length (run [] L)) := Lib.hid (by have := good_take L L.length; rw [List.take_of_length_le (Nat.le_refl _)] at this; exact this)
      obtain ⟨A, hA⟩ : ∃ A, A = run [] L := ⟨_, rfl⟩
      rw [← hA] at hr HG
      have HAA := Lib.hid hA
      have HR := Lib.hid hr
      obtain ⟨n, hn⟩ : ∃ n, n = L.length := ⟨_, rfl⟩
      rw [← hn] at HR HG
      have hn60 : n ≤ 60 := by omega
      clear hA hr hn
      have HF := Lib.hid (finds_all A)
      obtain ⟨R0, hR0⟩ : ∃ R0, findR A nul = R0 := ⟨_, rfl⟩
      obtain ⟨R1, hR1⟩ : ∃ R1, (appDo A (findC key)).2 = R1 := ⟨_, rfl⟩
      have HFE := Lib.hid (fun (k : Nat) => @finds_end A key k)
      have HR0 := Lib.hid hR0
      have HR1 := Lib.hid hR1
      rw [hR0] at HF
      rw [hR0, hR1] at HFE
      clear hR0 hR1
      go_upto_region 9 with fail
      have HB0 := Lib.hid (Boxed.none wr b)
      obtain ⟨u1, hw⟩ : ∃ x, x = wr.alloc (askO 5 ⟨#[]⟩) := ⟨_, rfl⟩
      rw [← hw]
      have HX1 := Lib.hid (HR.out.next (w2 := u1) (by rw [hw]; exact (Below.refl _ _).alloc (Nat.le_refl _) _))
      have hbx := HB0.out.alloc HR.out.app.blt (askO 5 ⟨#[]⟩)
      rw [← hw] at hbx
      have HB1 := Lib.hid hbx
      clear hw hbx
      obtain ⟨⟨c0, c1, c2, c3, c4, c5⟩, _⟩ := box6 (HB1.out.at (.head _))
      go_wp2_with fail
      refine (all_run HX1.out HG.out (by omega) HT.out R0 HR0.out).mono ?_
      rintro e u2 ⟨rfl, hrx, hmx⟩
      have HX2 := Lib.hid hrx
      have HB2 := Lib.hid (HB1.out.mods hmx)
      clear hrx hmx
      clear c0 c1 c2 c3 c4 c5
      go_upto_region 10 with fail
      obtain ⟨u3, hw⟩ : ∃ x, x = u2.alloc (repO R0) := ⟨_, rfl⟩
      rw [← hw]
      have HX3 := Lib.hid (HX2.out.next (w2 := u3) (by rw [hw]; exact (Below.refl _ _).alloc (Nat.le_refl _) _))
      have hbx := HB2.out.alloc HX2.out.app.blt (repO R0)
      rw [← hw] at hbx
      have HB3 := Lib.hid hbx
      clear hw hbx
      have hs1 := HR.out.bel.size
      have hs2 := HX2.out.bel.size
      have hpl := HR.out.app.plt
      have hbl := HR.out.app.blt
      have hu1 : wr.heap.size < u1.heap.size := M.heap_lt (HB1.out.at (.head _))
      have hu2 : wr.heap.size < u2.heap.size := M.heap_lt (HB2.out.at (.head _))
      obtain ⟨⟨c0, c1, c2, c3, c4, c5⟩, fc⟩ := box6 (HB3.out.at (.tail _ (.head _)))
      have HB3' := Lib.hid HB3.out.swap
      go_upto_region 11 with fail
      clear c0 c1 c2 c3 c4 c5 fc
      have hm3 : Mods (fun k => k = wr.heap.size) u3 (u3.setCell ⟨wr.heap.size, 3, none⟩ (.string key)) := mods_set
      have ho3 := heap_set u3 wr.heap.size 3 (.string key) wr.heap.size _ _ _ (HB3'.out.at (.head _))
      rw [if_pos rfl] at ho3
      obtain ⟨u4, hw⟩ : ∃ x, x = u3.setCell ⟨wr.heap.size, 3, none⟩ (.string key) := ⟨_, rfl⟩
      rw [← hw] at hm3 ho3 ⊢
      have HX4 := Lib.hid (HX3.out.turned hm3 (by omega) (by omega) (by omega))
      have ho3' : u4.heap[wr.heap.size]? = some (askO 5 key) := ho3
      have HB4 := Lib.hid (HB3'.out.set hm3 (by simp <;> omega) ho3')
      clear hm3 ho3 ho3' hw
      obtain ⟨⟨c0, c1, c2, c3, c4, c5⟩, _⟩ := box6 (HB4.out.at (.head _))
      go_wp2_with fail
      refine (find_run HX4.out (HG.out.mono (Nat.le_succ n)) (by omega) HT.out key (by omega) R1 HR1.out).mono ?_
      rintro e u5 ⟨rfl, hrx, hmx⟩
      have HX5 := Lib.hid hrx
      have HB5 := Lib.hid (HB4.out.mods hmx)
      clear hrx hmx
      clear c0 c1 c2 c3 c4 c5
      go_upto_region 12 with fail
      obtain ⟨u6, hw⟩ : ∃ x, x = u5.alloc (repO R1) := ⟨_, rfl⟩
      rw [← hw]
      have HX6 := Lib.hid (HX5.out.next (w2 := u6) (by rw [hw]; exact (Below.refl _ _).alloc (Nat.le_refl _) _))
      have hbx := HB5.out.alloc HX5.out.app.blt (repO R1)
      rw [← hw] at hbx
      have HB6 := Lib.hid hbx
      clear hw hbx
      go_cut [12] (fun z wx => (∃ k : Nat, z = .int .i64 k ∧ k ≤ key.size) ∧ u6 = wx)
      case first =>
        by_cases h1 : (key.size : Int) < cut
        · by_cases h2 : (0 : Int) < (key.size : Int)
          ·
            go_wp2_with fail
            go_meet
            exact ⟨⟨key.size, by go_num, by omega⟩, rfl⟩
          ·
            go_wp2_with fail
            go_meet
            exact ⟨⟨0, by go_num, by omega⟩, rfl⟩
        · by_cases h2 : (0 : Int) < cut
          ·
            go_wp2_with fail
            go_meet
            exact ⟨⟨cut.toNat, by go_num, by omega⟩, rfl⟩
          ·
            go_wp2_with fail
            go_meet
            exact ⟨⟨0, by go_num, by omega⟩, rfl⟩
      case rest =>
        obtain ⟨⟨k, rfl, hkz⟩, rfl⟩ := hcut
        have hki : (k : Int) ≤ (key.size : Int) := by omega
        have hki0 : (0 : Int) ≤ (k : Int) := by omega
        have hu5 : wr.heap.size < u5.heap.size := M.heap_lt (HB5.out.at (.head _))
        obtain ⟨⟨c0, c1, c2, c3, c4, c5⟩, fc⟩ := box6 (HB6.out.at (.tail _ (.head _)))
        have HB6' := Lib.hid HB6.out.swap
        have hsm : (key.extract 0 k).size ≤ 1000000 := by simp; omega
        obtain ⟨R2, hR2⟩ : ∃ R2, (appDo A (findC (key.extract 0 k))).2 = R2 := ⟨_, rfl⟩
        have hfe := HFE.out k
        rw [hR2] at hfe
        have HFK := Lib.hid hfe
        have HR2 := Lib.hid hR2
        clear hfe hR2 HFE
        go_upto_region 14 with fail
        clear c0 c1 c2 c3 c4 c5 fc
        have hm3 : Mods (fun k => k = wr.heap.size) u6 (u6.setCell ⟨wr.heap.size, 3, none⟩ (.string (key.extract 0 k))) := mods_set
        have ho3 := heap_set u6 wr.heap.size 3 (.string (key.extract 0 k)) wr.heap.size _ _ _ (HB6'.out.at (.head _))
        rw [if_pos rfl] at ho3
        obtain ⟨u7, hw⟩ : ∃ x, x = u6.setCell ⟨wr.heap.size, 3, none⟩ (.string (key.extract 0 k)) := ⟨_, rfl⟩
        rw [← hw] at hm3 ho3 ⊢
        have HX7 := Lib.hid (HX6.out.turned hm3 (by omega) (by omega) (by omega))
        have ho3' : u7.heap[wr.heap.size]? = some (askO 5 (key.extract 0 k)) := ho3
        have HB7 := Lib.hid (HB6'.out.set hm3 (by simp <;> omega) ho3')
        clear hm3 ho3 ho3' hw
        obtain ⟨⟨c0, c1, c2, c3, c4, c5⟩, _⟩ := box6 (HB7.out.at (.head _))
        go_wp2_with fail
        refine (find_run HX7.out (HG.out.mono (by omega)) (by omega) HT.out (key.extract 0 k) hsm R2 HR2.out).mono ?_
        rintro e u8 ⟨rfl, hrx, hmx⟩
        have HX8 := Lib.hid hrx
        have HB8 := Lib.hid (HB7.out.mods hmx)
        clear hrx hmx
        clear c0 c1 c2 c3 c4 c5
        go_upto_region 15 with fail
        obtain ⟨u9, hw⟩ : ∃ x, x = u8.alloc (repO R2) := ⟨_, rfl⟩
        rw [← hw]
        have HX9 := Lib.hid (HX8.out.next (w2 := u9) (by rw [hw]; exact (Below.refl _ _).alloc (Nat.le_refl _) _))
        have hbx := HB8.out.alloc HX8.out.app.blt (repO R2)
        rw [← hw] at hbx
        have HB9 := Lib.hid hbx
        clear hw hbx
        have hu8 : wr.heap.size < u8.heap.size := M.heap_lt (HB8.out.at (.head _))
        obtain ⟨⟨x0, x1, x2⟩, _⟩ := box3 (HB9.out.at (.tail _ (.tail _ (.tail _ (.head _)))))
        rw [HF.out] at x2
        have HXD := Lib.hid (HX9.out.next ((Below.refl _ _).drew))
        have HS0 : Hid ((fun w' => w'.cell? ⟨u2.heap.size, 2, none⟩ = some (.int .i64 (A.length : Int))) u9.drew) := Lib.hid x2
        have HK := Lib.hid (show Calls Tryd.prog 15 #[.pointer (some ⟨p, 0, none⟩)] u9.drew fun e w2 => ∃ oo oc, e = .returned (.slice oo A.length oc) ∧ (fun w' => w'.cell? ⟨u2.heap.size, 2, none⟩ = some (.int .i64 (A.length : Int))) w2 ∧ Below u9.heap.size u9 w2 from
          (keys_any p b _ A u9.drew HXD.out.app HG.out.srt (by omega)).mono fun e w2 hh => by
            obtain ⟨oo, oc, he, _, hb2⟩ := hh
            have hb2 : Below u9.heap.size u9 w2 := ((Below.refl _ _).drew).trans hb2
            exact ⟨oo, oc, he, (hb2.cell (p := ⟨u2.heap.size, 2, none⟩) (M.heap_lt (HB9.out.at (.tail _ (.tail _ (.tail _ (.head _))))))).trans x2, hb2⟩)
        have hne : ((A.length : Int) != (A.length : Int)) = false := by simp
        clear x0 x1 x2
        go_region_held3 (fun w' => w'.cell? ⟨u2.heap.size, 2, none⟩ = some (.int .i64 (A.length : Int)))
          (first | exact HS0.out | exact h9)
          ((go_at_call 15; refine HK.out.mono ?_; rintro e u10 ⟨oo, oc, rfl, h9, hb9⟩))
        have HB10 := Lib.hid (HB9.out.below hb9)
        have HX10 := Lib.hid (HX9.out.next hb9)
        clear h9 hb9
        obtain ⟨⟨z0, z1, z2⟩, _⟩ := box3 (HB10.out.at (.head _))
        obtain ⟨⟨y0, y1, y2⟩, _⟩ := box3 (HB10.out.at (.tail _ (.tail _ (.head _))))
        obtain ⟨⟨x0, x1, x2⟩, _⟩ := box3 (HB10.out.at (.tail _ (.tail _ (.tail _ (.head _)))))
        by_cases hz1 : R1.code = 0
        · by_cases hz2 : R2.code = 0
          · obtain ⟨g1, g2⟩ := HFK.out hz1 hz2
            rw [HF.out] at g2 x2
            have e1 : (R1.code != 0) = false := by rw [bne_eq_false_iff_eq]; exact hz1
            have e2 : (R2.code != 0) = false := by rw [bne_eq_false_iff_eq]; exact hz2
            clear hz1 hz2
            go_wp2_with fail
            refine (awake_any _ (HT.out.next HX10.out.bel)).mono ?_
            rintro e wz ⟨rfl, hbz⟩
            have HBZ := Lib.hid (HX10.out.bel.trans (hbz.mono HX10.out.bel.size))
            clear hbz
            go_wp2_with fail
            go_ret
            exact ⟨rfl, HBZ.out⟩
          · have e1 : (R1.code != 0) = false := by rw [bne_eq_false_iff_eq]; exact hz1
            have e2 : (R2.code != 0) = true := by rw [bne_iff_ne]; exact hz2
            clear hz1 hz2
            go_wp2_with fail
            refine (awake_any _ (HT.out.next HX10.out.bel)).mono ?_
            rintro e wz ⟨rfl, hbz⟩
            have HBZ := Lib.hid (HX10.out.bel.trans (hbz.mono HX10.out.bel.size))
            clear hbz
            go_wp2_with fail
            go_ret
            exact ⟨rfl, HBZ.out⟩
        · have e1 : (R1.code != 0) = true := by rw [bne_iff_ne]; exact hz1
          clear hz1
          go_wp2_with fail
          refine (awake_any _ (HT.out.next HX10.out.bel)).mono ?_
          rintro e wz ⟨rfl, hbz⟩
          have HBZ := Lib.hid (HX10.out.bel.trans (hbz.mono HX10.out.bel.size))
          clear hbz
          go_wp2_with fail
          go_ret
          exact ⟨rfl, HBZ.out⟩
theorem finds_law (L : List Cmd) (ao : Option Addr) (cap : Nat) (key : ByteArray) (cut : Int) (w : World) (hV : CmdsV w.heap.size w ao cap L) (hT : TabsI w) :
    Calls Tryd.prog 4 #[.slice ao L.length cap, .string key, .int .i64 cut] w fun e w' => e = .returned (.bool true) ∧ Below w.heap.size w w' := by
  by_cases h : greatB L 60 = true ∨ 100 < key.size
  · exact finds_no L ao cap key cut w hV hT h
  · simp only [not_or] at h
    exact finds_all_w L ao cap key cut w hV hT (by simpa using h.1) h.2
end Go.Proofs.YtpeiamllkddhiaaDoor.P
