/- The walk of SessionOnce. -/
import Derived.Test.YtpeiamllkddhiaaDoorSesApartW
import Derived.Deep.RegionHeld3
import Derived.BigQuiet
import Derived.Deep.QuietTactic
namespace Go.Proofs.YtpeiamllkddhiaaDoor.P
open Go.RowKit Go.Proofs.YtpeiamllkddhiaaDoor.R Go.Proofs.YtpeiamllkddhiaaDoor.M Go.BigFrame
set_option linter.unusedVariables false
set_option linter.unusedSimpArgs false

set_option maxRecDepth 100000 in
set_option maxHeartbeats 4000000 in
theorem once_no (L Bt : List Cmd) (ao ao2 : Option Addr) (cap cap2 : Nat) (c : Cmd) (w : World) (hV : CmdsV w.heap.size w ao cap L) (hV2 : CmdsV w.heap.size w ao2 cap2 Bt) (hC : CmdOk c) (hT : TabsI w) (h : greatB L 60 = true ∨ greatB Bt 60 = true ∨ greatB [c] 1 = true ∨ chk c ≠ 0 ∨ c.client = 0) :
    Calls Tryd.prog 9 #[.slice ao L.length cap, .slice ao2 Bt.length cap2, cmdV c] w fun e w' => e = .returned (.bool true) ∧ Below w.heap.size w w' := by
  have HT := Lib.hid hT
  have HV := Lib.hid hV
  have HVM := Lib.hid hV2
  clear hV hT hV2
  obtain ⟨gb, hg⟩ : ∃ gb, greatB L 60 = gb := ⟨_, rfl⟩
  obtain ⟨gb2, hg2⟩ : ∃ gb, greatB Bt 60 = gb := ⟨_, rfl⟩
  rw [hg, hg2] at h
  cases gb with
  | true =>
    clear h
    go_enter Tryd.func9, Tryd.ntmps9
    go_upto_region 1 with fail
    obtain ⟨v0, hv0⟩ : ∃ v0, v0 = w.alloc (cmdO c) := ⟨_, rfl⟩
    rw [← hv0]
    have HV0 : Hid (Below w.heap.size w v0) := Lib.hid (by rw [hv0]; exact (Below.refl _ _).alloc (Nat.le_refl _) _)
    have HC0 : Hid (v0.heap[w.heap.size]? = some (cmdO c)) := Lib.hid (by rw [hv0]; exact heap_alloc_new w _)
    clear hv0
    have hgr := great60 w.heap.size L ao cap v0 (HV.out.below HV0.out)
    have hgr2 := great60 w.heap.size Bt ao2 cap2 v0 (HVM.out.below HV0.out)
    rw [hg] at hgr
    rw [hg2] at hgr2
    obtain ⟨⟨c0, c1, c2, c3, c4, c5⟩, _⟩ := box6 HC0.out
    go_wp2_with fail
    refine hgr.mono ?_
    rintro e w1 ⟨rfl, rfl⟩
    clear hgr
    clear hgr2
    go_wp2_with fail
    refine (sawake_any _ (HT.out.next HV0.out)).mono ?_
    rintro e wz ⟨rfl, hbz⟩
    have HBZ := Lib.hid ((HV0.out).trans (hbz.mono (HV0.out).size))
    clear hbz
    go_wp2_with fail
    go_ret
    exact ⟨rfl, HBZ.out⟩
  | false =>
    cases gb2 with
    | true =>
      clear h
      go_enter Tryd.func9, Tryd.ntmps9
      go_upto_region 1 with fail
      obtain ⟨v0, hv0⟩ : ∃ v0, v0 = w.alloc (cmdO c) := ⟨_, rfl⟩
      rw [← hv0]
      have HV0 : Hid (Below w.heap.size w v0) := Lib.hid (by rw [hv0]; exact (Below.refl _ _).alloc (Nat.le_refl _) _)
      have HC0 : Hid (v0.heap[w.heap.size]? = some (cmdO c)) := Lib.hid (by rw [hv0]; exact heap_alloc_new w _)
      clear hv0
      have hgr := great60 w.heap.size L ao cap v0 (HV.out.below HV0.out)
      have hgr2 := great60 w.heap.size Bt ao2 cap2 v0 (HVM.out.below HV0.out)
      rw [hg] at hgr
      rw [hg2] at hgr2
      obtain ⟨⟨c0, c1, c2, c3, c4, c5⟩, _⟩ := box6 HC0.out
      go_wp2_with fail
      refine hgr.mono ?_
      rintro e w1 ⟨rfl, rfl⟩
      clear hgr
      go_wp2_with fail
      refine hgr2.mono ?_
      rintro e w1 ⟨rfl, rfl⟩
      clear hgr2
      go_wp2_with fail
      refine (sawake_any _ (HT.out.next HV0.out)).mono ?_
      rintro e wz ⟨rfl, hbz⟩
      have HBZ := Lib.hid ((HV0.out).trans (hbz.mono (HV0.out).size))
      clear hbz
      go_wp2_with fail
      go_ret
      exact ⟨rfl, HBZ.out⟩
    | false =>
      obtain ⟨g3, hg3⟩ : ∃ g3, greatB [c] 1 = g3 := ⟨_, rfl⟩
      have HG1 := Lib.hid (fun (wx : World) (g : Nat) (hx : wx.heap[g]? = some (cmdO c)) => great_one hx hC g3 hg3)
      rw [hg3] at h
      cases g3 with
      | true =>
        clear h hg3
        go_enter Tryd.func9, Tryd.ntmps9
        go_upto_region 1 with fail
        obtain ⟨v0, hv0⟩ : ∃ v0, v0 = w.alloc (cmdO c) := ⟨_, rfl⟩
        rw [← hv0]
        have HV0 : Hid (Below w.heap.size w v0) := Lib.hid (by rw [hv0]; exact (Below.refl _ _).alloc (Nat.le_refl _) _)
        have HC0 : Hid (v0.heap[w.heap.size]? = some (cmdO c)) := Lib.hid (by rw [hv0]; exact heap_alloc_new w _)
        clear hv0
        have hgr := great60 w.heap.size L ao cap v0 (HV.out.below HV0.out)
        have hgr2 := great60 w.heap.size Bt ao2 cap2 v0 (HVM.out.below HV0.out)
        rw [hg] at hgr
        rw [hg2] at hgr2
        obtain ⟨⟨c0, c1, c2, c3, c4, c5⟩, _⟩ := box6 HC0.out
        go_wp2_with fail
        refine hgr.mono ?_
        rintro e w1 ⟨rfl, rfl⟩
        clear hgr
        go_wp2_with fail
        refine hgr2.mono ?_
        rintro e w1 ⟨rfl, rfl⟩
        clear hgr2
        go_wp2_with fail
        refine (HG1.out _ _ (heap_alloc_new v0 _)).mono ?_
        rintro e w1 ⟨rfl, rfl⟩
        obtain ⟨v1, hv1⟩ : ∃ v1, v1 = v0.alloc (cmdO c) := ⟨_, rfl⟩
        rw [← hv1]
        have HV1 : Hid (Below w.heap.size w v1) := Lib.hid (by rw [hv1]; exact HV0.out.trans (((Below.refl _ _).alloc (Nat.le_refl _) _).mono HV0.out.size))
        have HC1 : Hid (v1.heap[w.heap.size]? = some (cmdO c)) := Lib.hid (by rw [hv1]; exact (((Below.refl _ _).alloc (Nat.le_refl _) _).block _ (M.heap_lt HC0.out)).trans HC0.out)
        clear hv1 c0 c1 c2 c3 c4 c5 HG1
        obtain ⟨⟨c0, c1, c2, c3, c4, c5⟩, _⟩ := box6 HC1.out
        go_wp2_with fail
        refine (sawake_any _ (HT.out.next HV1.out)).mono ?_
        rintro e wz ⟨rfl, hbz⟩
        have HBZ := Lib.hid ((HV1.out).trans (hbz.mono (HV1.out).size))
        clear hbz
        go_wp2_with fail
        go_ret
        exact ⟨rfl, HBZ.out⟩
      | false =>
        have hcs := (great_no hg3).2 c (List.mem_singleton.2 rfl)
        obtain ⟨kz, hkz⟩ : ∃ kz, chk c = kz := ⟨_, rfl⟩
        have HZ := Lib.hid hkz
        have h5 : kz ≠ 0 ∨ c.client = 0 := by
          rw [hkz] at h
          rcases h with h | h | h | h | h
          · cases h
          · cases h
          · cases h
          · exact .inl h
          · exact .inr h
        clear h hg3 hkz
        by_cases hz : kz = 0
        · subst hz
          have HK := Lib.hid (show (c.client == 0) = true by rw [beq_iff_eq]; rcases h5 with h | h; exact absurd rfl h; exact h)
          clear h5
          go_enter Tryd.func9, Tryd.ntmps9
          go_upto_region 1 with fail
          obtain ⟨v0, hv0⟩ : ∃ v0, v0 = w.alloc (cmdO c) := ⟨_, rfl⟩
          rw [← hv0]
          have HV0 : Hid (Below w.heap.size w v0) := Lib.hid (by rw [hv0]; exact (Below.refl _ _).alloc (Nat.le_refl _) _)
          have HC0 : Hid (v0.heap[w.heap.size]? = some (cmdO c)) := Lib.hid (by rw [hv0]; exact heap_alloc_new w _)
          clear hv0
          have hgr := great60 w.heap.size L ao cap v0 (HV.out.below HV0.out)
          have hgr2 := great60 w.heap.size Bt ao2 cap2 v0 (HVM.out.below HV0.out)
          rw [hg] at hgr
          rw [hg2] at hgr2
          obtain ⟨⟨c0, c1, c2, c3, c4, c5⟩, _⟩ := box6 HC0.out
          go_wp2_with fail
          refine hgr.mono ?_
          rintro e w1 ⟨rfl, rfl⟩
          clear hgr
          go_wp2_with fail
          refine hgr2.mono ?_
          rintro e w1 ⟨rfl, rfl⟩
          clear hgr2
          go_wp2_with fail
          refine (HG1.out _ _ (heap_alloc_new v0 _)).mono ?_
          rintro e w1 ⟨rfl, rfl⟩
          obtain ⟨v1, hv1⟩ : ∃ v1, v1 = v0.alloc (cmdO c) := ⟨_, rfl⟩
          rw [← hv1]
          have HV1 : Hid (Below w.heap.size w v1) := Lib.hid (by rw [hv1]; exact HV0.out.trans (((Below.refl _ _).alloc (Nat.le_refl _) _).mono HV0.out.size))
          have HC1 : Hid (v1.heap[w.heap.size]? = some (cmdO c)) := Lib.hid (by rw [hv1]; exact (((Below.refl _ _).alloc (Nat.le_refl _) _).block _ (M.heap_lt HC0.out)).trans HC0.out)
          clear hv1 c0 c1 c2 c3 c4 c5 HG1
          obtain ⟨⟨c0, c1, c2, c3, c4, c5⟩, _⟩ := box6 HC1.out
          go_wp2_with fail
          refine (check_v c v1 (HT.out.next HV1.out).t (by omega) _ HZ.out).mono ?_
          rintro e v2 ⟨rfl, hb2⟩
          have HV2 := Lib.hid (HV1.out.trans (hb2.mono HV1.out.size))
          have HC2 := Lib.hid ((hb2.block _ (M.heap_lt HC1.out)).trans HC1.out)
          clear hb2 c0 c1 c2 c3 c4 c5
          obtain ⟨⟨c0, c1, c2, c3, c4, c5⟩, _⟩ := box6 HC2.out
          have e2 := HK.out
          go_wp2_with fail
          refine (sawake_any _ (HT.out.next HV2.out)).mono ?_
          rintro e wz ⟨rfl, hbz⟩
          have HBZ := Lib.hid ((HV2.out).trans (hbz.mono (HV2.out).size))
          clear hbz
          go_wp2_with fail
          go_ret
          exact ⟨rfl, HBZ.out⟩
        · have e1 : (kz != 0) = true := by rw [bne_iff_ne]; exact hz
          clear hz h5
          go_enter Tryd.func9, Tryd.ntmps9
          go_upto_region 1 with fail
          obtain ⟨v0, hv0⟩ : ∃ v0, v0 = w.alloc (cmdO c) := ⟨_, rfl⟩
          rw [← hv0]
          have HV0 : Hid (Below w.heap.size w v0) := Lib.hid (by rw [hv0]; exact (Below.refl _ _).alloc (Nat.le_refl _) _)
          have HC0 : Hid (v0.heap[w.heap.size]? = some (cmdO c)) := Lib.hid (by rw [hv0]; exact heap_alloc_new w _)
          clear hv0
          have hgr := great60 w.heap.size L ao cap v0 (HV.out.below HV0.out)
          have hgr2 := great60 w.heap.size Bt ao2 cap2 v0 (HVM.out.below HV0.out)
          rw [hg] at hgr
          rw [hg2] at hgr2
          obtain ⟨⟨c0, c1, c2, c3, c4, c5⟩, _⟩ := box6 HC0.out
          go_wp2_with fail
          refine hgr.mono ?_
          rintro e w1 ⟨rfl, rfl⟩
          clear hgr
          go_wp2_with fail
          refine hgr2.mono ?_
          rintro e w1 ⟨rfl, rfl⟩
          clear hgr2
          go_wp2_with fail
          refine (HG1.out _ _ (heap_alloc_new v0 _)).mono ?_
          rintro e w1 ⟨rfl, rfl⟩
          obtain ⟨v1, hv1⟩ : ∃ v1, v1 = v0.alloc (cmdO c) := ⟨_, rfl⟩
          rw [← hv1]
          have HV1 : Hid (Below w.heap.size w v1) := Lib.hid (by rw [hv1]; exact HV0.out.trans (((Below.refl _ _).alloc (Nat.le_refl _) _).mono HV0.out.size))
          have HC1 : Hid (v1.heap[w.heap.size]? = some (cmdO c)) := Lib.hid (by rw [hv1]; exact (((Below.refl _ _).alloc (Nat.le_refl _) _).block _ (M.heap_lt HC0.out)).trans HC0.out)
          clear hv1 c0 c1 c2 c3 c4 c5 HG1
          obtain ⟨⟨c0, c1, c2, c3, c4, c5⟩, _⟩ := box6 HC1.out
          go_wp2_with fail
          refine (check_v c v1 (HT.out.next HV1.out).t (by omega) _ HZ.out).mono ?_
          rintro e v2 ⟨rfl, hb2⟩
          have HV2 := Lib.hid (HV1.out.trans (hb2.mono HV1.out.size))
          have HC2 := Lib.hid ((hb2.block _ (M.heap_lt HC1.out)).trans HC1.out)
          clear hb2 c0 c1 c2 c3 c4 c5
          obtain ⟨⟨c0, c1, c2, c3, c4, c5⟩, _⟩ := box6 HC2.out
          go_wp2_with fail
          refine (sawake_any _ (HT.out.next HV2.out)).mono ?_
          rintro e wz ⟨rfl, hbz⟩
          have HBZ := Lib.hid ((HV2.out).trans (hbz.mono (HV2.out).size))
          clear hbz
          go_wp2_with fail
          go_ret
          exact ⟨rfl, HBZ.out⟩
/-- between the two: the sessions, the command's box, the first answer's box -/
structure MidAt (v wx : World) (s p b q n : Nat) (S : Ses) (gc gr : Nat) (c : Cmd) (R : Rep) : Prop where
  run : SRun v wx s p b q n S
  cb : wx.heap[gc]? = some (cmdO c)
  rb : wx.heap[gr]? = some (repO R)
  n1 : gc ≠ b ∧ gc ≠ q
  n2 : gr ≠ b ∧ gr ≠ q
theorem MidAt.next {v wx wy : World} {s p b q n gc gr : Nat} {S : Ses} {c : Cmd} {R : Rep} (h : MidAt v wx s p b q n S gc gr c R) (hb : Below wx.heap.size wx wy) : MidAt v wy s p b q n S gc gr c R :=
  ⟨h.run.next hb, (hb.block _ (M.heap_lt h.cb)).trans h.cb, (hb.block _ (M.heap_lt h.rb)).trans h.rb, h.n1, h.n2⟩
theorem MidAt.did {v wx wy : World} {s p b q n m gc gr : Nat} {S S2 : Ses} {c : Cmd} {R : Rep} (h : MidAt v wx s p b q n S gc gr c R) (hr : SRun v wy s p b q m S2) (hm : Mods (fun k => k = b ∨ k = q) wx wy) : MidAt v wy s p b q m S2 gc gr c R :=
  ⟨hr, hm.heap h.cb (fun e => by rcases e with e | e; exact h.n1.1 e; exact h.n1.2 e), hm.heap h.rb (fun e => by rcases e with e | e; exact h.n2.1 e; exact h.n2.2 e), h.n1, h.n2⟩
set_option maxRecDepth 100000 in
set_option maxHeartbeats 4000000 in
theorem once_all (L Bt : List Cmd) (ao ao2 : Option Addr) (cap cap2 : Nat) (c : Cmd) (w : World) (hV : CmdsV w.heap.size w ao cap L) (hV2 : CmdsV w.heap.size w ao2 cap2 Bt) (hC : CmdOk c) (hT : TabsI w) (hg : greatB L 60 = false) (hg2 : greatB Bt 60 = false) (hg3 : greatB [c] 1 = false) (hz : chk c = 0) (h0 : c.client ≠ 0) :
    Calls Tryd.prog 9 #[.slice ao L.length cap, .slice ao2 Bt.length cap2, cmdV c] w fun e w' => e = .returned (.bool true) ∧ Below w.heap.size w w' := by
  have hcs := (great_no hg3).2 c (List.mem_singleton.2 rfl)
  have HG1 := Lib.hid (fun (wx : World) (g : Nat) (hx : wx.heap[g]? = some (cmdO c)) => great_one hx hC false hg3)
  have HCI := Lib.hid hC.client
  obtain ⟨hl60, hsz⟩ := great_no hg
  obtain ⟨hm60, hszm⟩ := great_no hg2
  have HV := Lib.hid hV
  have HVM := Lib.hid hV2
  have HT := Lib.hid hT
  have HSZ := Lib.hid hsz
  have HSZM := Lib.hid hszm
  have HZ := Lib.hid hz
  have H0 := Lib.hid h0
  have HK := Lib.hid (show (c.client == 0) = false by rw [beq_eq_false_iff_ne]; exact h0)
  have hsmc : c.key.size ≤ 1000000 := by omega
  clear hV hT hV2 hsz hszm hg3 hz h0
  go_enter Tryd.func9, Tryd.ntmps9
  go_upto_region 1 with fail
  obtain ⟨v0, hv0⟩ : ∃ v0, v0 = w.alloc (cmdO c) := ⟨_, rfl⟩
  rw [← hv0]
  have HV0 : Hid (Below w.heap.size w v0) := Lib.hid (by rw [hv0]; exact (Below.refl _ _).alloc (Nat.le_refl _) _)
  have HC0 : Hid (v0.heap[w.heap.size]? = some (cmdO c)) := Lib.hid (by rw [hv0]; exact heap_alloc_new w _)
  clear hv0
  have hgr := great60 w.heap.size L ao cap v0 (HV.out.below HV0.out)
  have hgr2 := great60 w.heap.size Bt ao2 cap2 v0 (HVM.out.below HV0.out)
  rw [hg] at hgr
  rw [hg2] at hgr2
  obtain ⟨⟨c0, c1, c2, c3, c4, c5⟩, _⟩ := box6 HC0.out
  go_wp2_with fail
  refine hgr.mono ?_
  rintro e w1 ⟨rfl, rfl⟩
  clear hgr
  go_wp2_with fail
  refine hgr2.mono ?_
  rintro e w1 ⟨rfl, rfl⟩
  clear hgr2
  go_wp2_with fail
  refine (HG1.out _ _ (heap_alloc_new v0 _)).mono ?_
  rintro e w1 ⟨rfl, rfl⟩
  obtain ⟨v1, hv1⟩ : ∃ v1, v1 = v0.alloc (cmdO c) := ⟨_, rfl⟩
  rw [← hv1]
  have HV1 : Hid (Below w.heap.size w v1) := Lib.hid (by rw [hv1]; exact HV0.out.trans (((Below.refl _ _).alloc (Nat.le_refl _) _).mono HV0.out.size))
  have HC1 : Hid (v1.heap[w.heap.size]? = some (cmdO c)) := Lib.hid (by rw [hv1]; exact (((Below.refl _ _).alloc (Nat.le_refl _) _).block _ (M.heap_lt HC0.out)).trans HC0.out)
  clear hv1 c0 c1 c2 c3 c4 c5 HG1
  obtain ⟨⟨c0, c1, c2, c3, c4, c5⟩, _⟩ := box6 HC1.out
  go_wp2_with fail
  refine (check_v c v1 (HT.out.next HV1.out).t (by omega) _ HZ.out).mono ?_
  rintro e v2 ⟨rfl, hb2⟩
  have HV2 := Lib.hid (HV1.out.trans (hb2.mono HV1.out.size))
  have HC2 := Lib.hid ((hb2.block _ (M.heap_lt HC1.out)).trans HC1.out)
  clear hb2 c0 c1 c2 c3 c4 c5
  obtain ⟨⟨c0, c1, c2, c3, c4, c5⟩, _⟩ := box6 HC2.out
  have e2 := HK.out
  have HTV := Lib.hid (HT.out.next HV2.out)
  have hv2w : w.heap.size < v2.heap.size := M.heap_lt HC2.out
  go_wp2_with fail
  refine (snew_run v2).mono ?_
  rintro e w1 ⟨s, p, b, q, rfl, hr⟩
  have HR1 := Lib.hid hr
  clear hr e2 c0 c1 c2 c3 c4 c5
  go_wp2_with fail
  go_loopw [8] (fun iv wr => ∃ i : Nat, iv = .int .i64 i ∧ i ≤ L.length ∧ SRun v2 wr s p b q i (sesRun ⟨[], []⟩ (L.take i))) (fun iv _ => L.length - (intOf iv).toNat)
  case atStart => exact ⟨0, rfl, Nat.zero_le _, by rw [List.take_zero]; exact HR1.out⟩
  case round =>
    clear HR1
    obtain ⟨i, rfl, hi, hr⟩ := hrel
    by_cases hlt : i < L.length
    · have hii : (i : Int) < (L.length : Int) := by omega
      obtain ⟨x, hx⟩ : ∃ x, L[i]? = some x := ⟨_, List.getElem?_eq_getElem hlt⟩
      have HN0 := Lib.hid (sesRun_take ⟨[], []⟩ L i x hx)
      obtain ⟨S, hS⟩ : ∃ S, S = sesRun ⟨[], []⟩ (L.take i) := ⟨_, rfl⟩
      have HG : Hid (SGood i S) := Lib.hid (by rw [hS]; exact sgood_take L i)
      rw [← hS] at HN0 hr
      obtain ⟨S2, R, F, hd⟩ : ∃ S2 R F, sesDo S x = (S2, R, F) := ⟨_, _, _, rfl⟩
      rw [hd] at HN0
      have HN : Hid (sesRun ⟨[], []⟩ (L.take (i + 1)) = S2) := HN0
      have HD := Lib.hid hd
      have HR := Lib.hid hr
      have HOK := Lib.hid (HV.out.ok x (List.mem_of_getElem? hx))
      clear HN0 hS hd hr
      obtain ⟨g, off, rfl, hgl, hcm⟩ := HV.out.row i x hx
      have hszc := HSZ.out x (List.mem_of_getElem? hx)
      obtain ⟨hcp1, hcp2⟩ := HV.out.le
      unfold maxLen at hcp2
      obtain ⟨c0, c1, c2, c3, c4, c5⟩ := hcm.below (Below.trans HV2.out (HR.out.bel.mono (Below.size HV2.out))) hgl
      clear hx hcm
      have hsm : x.key.size ≤ 1000000 := by omega
      go_wp2_with fail
      refine (sdo_run HR.out HG.out (by omega) HTV.out x hsm HOK.out.client S2 R F HD.out).mono ?_
      rintro e u3 ⟨rfl, hr3, hm3⟩
      have HR3 := Lib.hid hr3
      clear hr3 hm3 c0 c1 c2 c3 c4 c5
      go_wp2_with fail
      go_roundw
      case rel => exact ⟨i + 1, by go_num, by omega, by rw [HN.out]; exact HR3.out⟩
      case measure => simp [intOf]; omega
    · obtain rfl : i = L.length := by omega
      have hii : ¬ (L.length : Int) < (L.length : Int) := by omega
      rw [List.take_of_length_le (Nat.le_refl _)] at hr
      have HG : Hid (SGood L.length (sesRun ⟨[], []⟩ L)) := Lib.hid (by have := sgood_take L L.length; rw [List.take_of_length_le (Nat.le_refl _)] at this; exact this)
      obtain ⟨S, hS⟩ : ∃ S, S = sesRun ⟨[], []⟩ L := ⟨_, rfl⟩
      rw [← hS] at hr HG
      have HR := Lib.hid hr
      obtain ⟨n, hn⟩ : ∃ n, n = L.length := ⟨_, rfl⟩
      rw [← hn] at HR HG
      have hn60 : n ≤ 60 := by omega
      obtain ⟨u0, rfl⟩ : ∃ u0, u0 = wr := ⟨_, rfl⟩
      clear hS hr hn
      obtain ⟨S1, R, F, hd⟩ : ∃ S1 R F, sesDo S c = (S1, R, F) := ⟨_, _, _, rfl⟩
      have HD := Lib.hid hd
      have HG1 : Hid (SGood (n + 1) S1) := Lib.hid (by have := HG.out.step c; rw [hd] at this; exact this)
      have HAG := Lib.hid (show ∀ t : Ses, lookC t.C c.client = lookC S1.C c.client → sesDo t c = (t, R, false) from fun t ht => by
        have := @once_again S t c HZ.out H0.out (by rw [hd]; exact ht)
        rw [hd] at this
        exact this)
      have hcx : u0.heap[w.heap.size]? = some (cmdO c) := (HR.out.bel.block _ hv2w).trans HC2.out
      have HCX := Lib.hid hcx
      have hbge := HR.out.bge
      have hqge := HR.out.qge
      clear hd
      obtain ⟨⟨c0, c1, c2, c3, c4, c5⟩, _⟩ := box6 hcx
      clear hcx
      go_wp2_with fail
      refine (sdo_run HR.out HG.out (by omega) HTV.out c hsmc HCI.out S1 R F HD.out).mono ?_
      rintro e u1 ⟨rfl, hr1, hm1⟩
      have HR1 := Lib.hid hr1
      have HC1' := Lib.hid (hm1.heap HCX.out (by omega))
      have hbu := hr1.ses.app.blt
      have hqu := hr1.ses.qlt
      clear hr1 hm1 c0 c1 c2 c3 c4 c5
      go_upto_region 9 with fail
      obtain ⟨u2, hw⟩ : ∃ x, x = u1.alloc (repO R) := ⟨_, rfl⟩
      rw [← hw]
      obtain ⟨gr, hgr0⟩ : ∃ gr, gr = u1.heap.size := ⟨_, rfl⟩
      rw [← hgr0]
      have hb2 : Below u1.heap.size u1 u2 := by rw [hw]; exact (Below.refl _ _).alloc (Nat.le_refl _) _
      have HMI : Hid (MidAt v2 u2 s p b q (n + 1) S1 w.heap.size gr c R) := Lib.hid ⟨HR1.out.next hb2, (hb2.block _ (M.heap_lt HC1'.out)).trans HC1'.out, by rw [hgr0, hw]; exact heap_alloc_new u1 _, ⟨by omega, by omega⟩, ⟨by omega, by omega⟩⟩
      clear hw hb2 hgr0
      go_wp2_with fail
      go_loopw [11] (fun jv wr => ∃ j : Nat, jv = .int .i64 j ∧ j ≤ Bt.length ∧ MidAt v2 wr s p b q (n + 1 + j) (sesRun S1 (Bt.take j)) w.heap.size gr c R ∧ lookC (sesRun S1 (Bt.take j)).C c.client = lookC S1.C c.client) (fun jv _ => Bt.length - (intOf jv).toNat)
      case atStart => exact ⟨0, rfl, Nat.zero_le _, by rw [List.take_zero]; exact HMI.out, by rw [List.take_zero]; rfl⟩
      case round =>
        clear HMI
        obtain ⟨j, rfl, hj, hmi, hlk⟩ := hrel
        by_cases hlt2 : j < Bt.length
        · have hjj : (j : Int) < (Bt.length : Int) := by omega
          obtain ⟨x, hx⟩ : ∃ x, Bt[j]? = some x := ⟨_, List.getElem?_eq_getElem hlt2⟩
          have HN0 := Lib.hid (sesRun_take S1 Bt j x hx)
          have HGJ : Hid (SGood (n + 1 + j) (sesRun S1 (Bt.take j))) := Lib.hid ((HG1.out.run (Bt.take j)).mono (by rw [List.length_take]; omega))
          obtain ⟨T, hTT⟩ : ∃ T, T = sesRun S1 (Bt.take j) := ⟨_, rfl⟩
          rw [← hTT] at HN0 hmi hlk HGJ
          obtain ⟨T2, RT, FT, hdt⟩ : ∃ S2 R F, sesDo T x = (S2, R, F) := ⟨_, _, _, rfl⟩
          have HAP := Lib.hid (show x.client ≠ c.client → lookC T2.C c.client = lookC S1.C c.client from fun h => by
            have := @lookC_apart T x c.client h
            rw [hdt] at this
            exact this.trans hlk)
          rw [hdt] at HN0
          have HN : Hid (sesRun S1 (Bt.take (j + 1)) = T2) := HN0
          have HDT := Lib.hid hdt
          have HMJ := Lib.hid hmi
          have HOK := Lib.hid (HVM.out.ok x (List.mem_of_getElem? hx))
          clear HN0 hTT hdt hmi hlk
          obtain ⟨g, off, rfl, hgl, hcm⟩ := HVM.out.row j x hx
          have HCM := Lib.hid hcm
          have hszc := HSZM.out x (List.mem_of_getElem? hx)
          obtain ⟨hcp1, hcp2⟩ := HVM.out.le
          unfold maxLen at hcp2
          obtain ⟨x0, x1, x2, x3, x4, x5⟩ := hcm.below (Below.trans HV2.out (HMJ.out.run.bel.mono (Below.size HV2.out))) hgl
          obtain ⟨⟨c0, c1, c2, c3, c4, c5⟩, _⟩ := box6 HMJ.out.cb
          clear hx hcm
          have hsm : x.key.size ≤ 1000000 := by omega
          obtain ⟨be, hbe⟩ : ∃ be, be = (x.client == c.client) := ⟨_, rfl⟩
          have e3 := hbe.symm
          have HBE := Lib.hid hbe
          clear hbe
          have k0 := Kin.cell x1
          have k1 := Kin.cell c1
          clear c0 c1 c2 c3 c4 c5 x0 x1 x2 x3 x4 x5
          go_upto_region 12 with fail
          refine wp_region_kin (by kernel_rfl) (by kernel_rfl) ?_
          repeat (go_big_quiet_step (fail))
          refine wpQuiet_nil ?_
          intro _ hxx
          obtain ⟨xk, rfl⟩ := hxx
          obtain ⟨u3, hu3⟩ : ∃ u3, u3 = xk.w := ⟨_, rfl⟩
          have HM3 := Lib.hid (HMJ.out.next (wy := u3) (by rw [hu3]; exact xk.h))
          rw [← hu3]
          clear hu3 k0 k1
          cases be with
          | true =>
            go_wp2_with fail
            refine (sawake_any _ (HTV.out.next (HM3.out.run.bel))).mono ?_
            rintro e wz ⟨rfl, hbz⟩
            have HBZ := Lib.hid ((HV2.out.trans ((HM3.out.run.bel).mono HV2.out.size)).trans (hbz.mono ((HV2.out.trans ((HM3.out.run.bel).mono HV2.out.size)).size)))
            clear hbz
            go_wp2_with fail
            go_ret
            exact ⟨rfl, HBZ.out⟩
          | false =>
            have HNE := Lib.hid (show x.client ≠ c.client from beq_eq_false_iff_ne.1 HBE.out.symm)
            obtain ⟨x0, x1, x2, x3, x4, x5⟩ := HCM.out.below (Below.trans HV2.out (HM3.out.run.bel.mono (Below.size HV2.out))) hgl
            go_wp2_with fail
            refine (sdo_run HM3.out.run HGJ.out (by omega) HTV.out x hsm HOK.out.client T2 RT FT HDT.out).mono ?_
            rintro e u4 ⟨rfl, hr4, hm4⟩
            have HM4 := Lib.hid (HM3.out.did hr4 hm4)
            clear hr4 hm4 x0 x1 x2 x3 x4 x5
            go_wp2_with fail
            go_roundw
            case rel => exact ⟨j + 1, by go_num, by omega, by rw [HN.out]; exact HM4.out, by rw [HN.out]; exact HAP.out HNE.out⟩
            case measure => simp [intOf]; omega
        · obtain rfl : j = Bt.length := by omega
          have hjj : ¬ (Bt.length : Int) < (Bt.length : Int) := by omega
          rw [List.take_of_length_le (Nat.le_refl _)] at hmi hlk
          have HGT0 := Lib.hid (HG1.out.run Bt)
          obtain ⟨T, hTT⟩ : ∃ T, T = sesRun S1 Bt := ⟨_, rfl⟩
          rw [← hTT] at hmi hlk HGT0
          obtain ⟨m, hm⟩ : ∃ m, m = n + 1 + Bt.length := ⟨_, rfl⟩
          rw [← hm] at hmi HGT0
          have hm150 : m ≤ 150 := by omega
          have HGT : Hid (SGood m T) := HGT0
          have HAGT := Lib.hid (HAG.out T hlk)
          have HM0 := Lib.hid hmi
          obtain ⟨R0, hR0⟩ : ∃ R0, findR T.A nul = R0 := ⟨_, rfl⟩
          have HR0 := Lib.hid hR0
          obtain ⟨u3, rfl⟩ : ∃ u3, u3 = wr := ⟨_, rfl⟩
          clear hTT hm hmi hlk hR0
          go_wp2_with fail
          refine (sapp_run HM0.out.run).mono ?_
          rintro e y1 ⟨p2, b2, rfl, ha, _, hb, hp2, hb2⟩
          have hz1 := M.heap_lt HM0.out.cb
          have hz2 := M.heap_lt HM0.out.rb
          have hz3 := HM0.out.run.ses.slt
          have hz4 := HM0.out.run.ses.app.plt
          have hz5 := HM0.out.run.ses.app.blt
          have hz6 := HM0.out.run.ses.qlt
          have HA1 := Lib.hid ha
          have HM1 := Lib.hid (HM0.out.next hb)
          have hb2g := ha.bge
          clear ha hb
          go_wp2_with fail
          refine (all_any y1).mono ?_
          rintro e y2 ⟨rfl, hb⟩
          have HA2 := Lib.hid (HA1.out.next hb)
          have HM2 := Lib.hid (HM1.out.next hb)
          clear hb
          go_wp2_with fail
          refine (all_run HA2.out HGT.out.app (by omega) HTV.out R0 HR0.out).mono ?_
          rintro e u5 ⟨rfl, _, hm5⟩
          have HM5 : Hid (MidAt v2 u5 s p b q m T w.heap.size gr c R) := Lib.hid ⟨HM2.out.run.apart hm5 hb2g (by omega) (by omega) (by omega) (by omega), hm5.heap HM2.out.cb (by omega), hm5.heap HM2.out.rb (by omega), HM2.out.n1, HM2.out.n2⟩
          clear hm5 HA1 HA2 HM1 HM2
          go_upto_region 16 with fail
          obtain ⟨u6, hw⟩ : ∃ x, x = u5.alloc (repO R0) := ⟨_, rfl⟩
          rw [← hw]
          have HM6 := Lib.hid (HM5.out.next (wy := u6) (by rw [hw]; exact (Below.refl _ _).alloc (Nat.le_refl _) _))
          have HX6 : Hid (u6.heap[u5.heap.size]? = some (repO R0)) := Lib.hid (by rw [hw]; exact heap_alloc_new u5 _)
          have h5b := HM5.out.run.ses.app.blt
          have h5q := HM5.out.run.ses.qlt
          clear hw
          obtain ⟨⟨c0, c1, c2, c3, c4, c5⟩, _⟩ := box6 HM6.out.cb
          go_wp2_with fail
          refine (sdo_run HM6.out.run HGT.out (by omega) HTV.out c hsmc HCI.out T R false HAGT.out).mono ?_
          rintro e u7 ⟨rfl, hr7, hm7⟩
          have HM7 := Lib.hid (HM6.out.did hr7 hm7)
          have HX7 := Lib.hid (hm7.heap HX6.out (by omega))
          clear hr7 hm7 c0 c1 c2 c3 c4 c5
          go_upto_region 17 with fail
          obtain ⟨u8, hw⟩ : ∃ x, x = u7.alloc (repO R) := ⟨_, rfl⟩
          rw [← hw]
          have hb8 : Below u7.heap.size u7 u8 := by rw [hw]; exact (Below.refl _ _).alloc (Nat.le_refl _) _
          have HM8 := Lib.hid (HM7.out.next hb8)
          have HX8 := Lib.hid ((hb8.block _ (M.heap_lt HX7.out)).trans HX7.out)
          have HY8 : Hid (u8.heap[u7.heap.size]? = some (repO R)) := Lib.hid (by rw [hw]; exact heap_alloc_new u7 _)
          clear hw hb8
          have hy1 := M.heap_lt HX8.out
          have hy2 := M.heap_lt HY8.out
          have hy3 := M.heap_lt HM8.out.rb
          have HS := Lib.hid (show ∀ w' : World, (w'.heap[gr]? = some (repO R) ∧ w'.heap[u5.heap.size]? = some (repO R0) ∧ w'.heap[u7.heap.size]? = some (repO R)) → (fun w' => w'.cell? ⟨gr, 0, none⟩ = some (.int .i64 R.code) ∧ w'.cell? ⟨gr, 1, none⟩ = some (.string R.val) ∧ w'.cell? ⟨gr, 2, none⟩ = some (.int .i64 R.rev) ∧ w'.cell? ⟨u5.heap.size, 0, none⟩ = some (.int .i64 R0.code) ∧ w'.cell? ⟨u5.heap.size, 1, none⟩ = some (.string R0.val) ∧ w'.cell? ⟨u5.heap.size, 2, none⟩ = some (.int .i64 R0.rev) ∧ w'.cell? ⟨u7.heap.size, 0, none⟩ = some (.int .i64 R.code) ∧ w'.cell? ⟨u7.heap.size, 1, none⟩ = some (.string R.val) ∧ w'.cell? ⟨u7.heap.size, 2, none⟩ = some (.int .i64 R.rev)) w' from fun w' h => by
            obtain ⟨⟨a0, a1, a2⟩, _⟩ := box3 h.1
            obtain ⟨⟨b0, b1, b2⟩, _⟩ := box3 h.2.1
            obtain ⟨⟨d0, d1, d2⟩, _⟩ := box3 h.2.2
            exact ⟨a0, a1, a2, b0, b1, b2, d0, d1, d2⟩)
          have HBX : Hid (u8.drew.heap[gr]? = some (repO R) ∧ u8.drew.heap[u5.heap.size]? = some (repO R0) ∧ u8.drew.heap[u7.heap.size]? = some (repO R)) := Lib.hid ⟨HM8.out.rb, HX8.out, HY8.out⟩
          have HS0 := Lib.hid (HS.out u8.drew HBX.out)
          have BXB := Lib.hid (show ∀ w2 w3 : World, (w2.heap[gr]? = some (repO R) ∧ w2.heap[u5.heap.size]? = some (repO R0) ∧ w2.heap[u7.heap.size]? = some (repO R)) → Below w2.heap.size w2 w3 → (w3.heap[gr]? = some (repO R) ∧ w3.heap[u5.heap.size]? = some (repO R0) ∧ w3.heap[u7.heap.size]? = some (repO R)) from fun w2 w3 h hb => ⟨(hb.block _ (M.heap_lt h.1)).trans h.1, (hb.block _ (M.heap_lt h.2.1)).trans h.2.1, (hb.block _ (M.heap_lt h.2.2)).trans h.2.2⟩)
          have HAPP := Lib.hid (show Calls Tryd.prog 26 #[.pointer (some ⟨s, 0, none⟩)] u8.drew fun e w2 => ∃ p3 b3, e = .returned (.pointer (some ⟨p3, 0, none⟩)) ∧ ((fun w' => w'.cell? ⟨gr, 0, none⟩ = some (.int .i64 R.code) ∧ w'.cell? ⟨gr, 1, none⟩ = some (.string R.val) ∧ w'.cell? ⟨gr, 2, none⟩ = some (.int .i64 R.rev) ∧ w'.cell? ⟨u5.heap.size, 0, none⟩ = some (.int .i64 R0.code) ∧ w'.cell? ⟨u5.heap.size, 1, none⟩ = some (.string R0.val) ∧ w'.cell? ⟨u5.heap.size, 2, none⟩ = some (.int .i64 R0.rev) ∧ w'.cell? ⟨u7.heap.size, 0, none⟩ = some (.int .i64 R.code) ∧ w'.cell? ⟨u7.heap.size, 1, none⟩ = some (.string R.val) ∧ w'.cell? ⟨u7.heap.size, 2, none⟩ = some (.int .i64 R.rev)) w2 ∧ (RunAt v2 w2 p3 b3 (m + 1) T.A ∧ (w2.heap[gr]? = some (repO R) ∧ w2.heap[u5.heap.size]? = some (repO R0) ∧ w2.heap[u7.heap.size]? = some (repO R)) ∧ gr ≠ b3 ∧ u5.heap.size ≠ b3 ∧ u7.heap.size ≠ b3)) from
            (sapp_run (HM8.out.next (Below.refl _ _).drew).run).mono fun e w2 hh => by
              obtain ⟨p3, b3, he, ha, _, hb, hp3, hb3⟩ := hh
              have hb3 : u8.heap.size ≤ b3 := hb3
              have hbx := BXB.out _ _ HBX.out hb
              exact ⟨p3, b3, he, HS.out _ hbx, ha, hbx, by omega, by omega, by omega⟩)
          have HALL := Lib.hid (show ∀ (w2 : World) (p3 b3 : Nat), (RunAt v2 w2 p3 b3 (m + 1) T.A ∧ (w2.heap[gr]? = some (repO R) ∧ w2.heap[u5.heap.size]? = some (repO R0) ∧ w2.heap[u7.heap.size]? = some (repO R)) ∧ gr ≠ b3 ∧ u5.heap.size ≠ b3 ∧ u7.heap.size ≠ b3) → Calls Tryd.prog 27 #[] w2 fun e w3 => e = .returned (.agg #[.int .i64 5, .int .i64 1, .int .i64 1, .string ⟨#[]⟩, .string ⟨#[]⟩, .int .i64 0]) ∧ ((fun w' => w'.cell? ⟨gr, 0, none⟩ = some (.int .i64 R.code) ∧ w'.cell? ⟨gr, 1, none⟩ = some (.string R.val) ∧ w'.cell? ⟨gr, 2, none⟩ = some (.int .i64 R.rev) ∧ w'.cell? ⟨u5.heap.size, 0, none⟩ = some (.int .i64 R0.code) ∧ w'.cell? ⟨u5.heap.size, 1, none⟩ = some (.string R0.val) ∧ w'.cell? ⟨u5.heap.size, 2, none⟩ = some (.int .i64 R0.rev) ∧ w'.cell? ⟨u7.heap.size, 0, none⟩ = some (.int .i64 R.code) ∧ w'.cell? ⟨u7.heap.size, 1, none⟩ = some (.string R.val) ∧ w'.cell? ⟨u7.heap.size, 2, none⟩ = some (.int .i64 R.rev)) w3 ∧ (RunAt v2 w3 p3 b3 (m + 1) T.A ∧ (w3.heap[gr]? = some (repO R) ∧ w3.heap[u5.heap.size]? = some (repO R0) ∧ w3.heap[u7.heap.size]? = some (repO R)) ∧ gr ≠ b3 ∧ u5.heap.size ≠ b3 ∧ u7.heap.size ≠ b3)) from fun w2 p3 b3 h =>
            (all_any w2).mono fun e w3 hh => by
              have hbx := BXB.out _ _ h.2.1 hh.2
              exact ⟨hh.1, HS.out _ hbx, h.1.next hh.2, hbx, h.2.2⟩)
          have HDO := Lib.hid (show ∀ (w2 : World) (p3 b3 : Nat), (RunAt v2 w2 p3 b3 (m + 1) T.A ∧ (w2.heap[gr]? = some (repO R) ∧ w2.heap[u5.heap.size]? = some (repO R0) ∧ w2.heap[u7.heap.size]? = some (repO R)) ∧ gr ≠ b3 ∧ u5.heap.size ≠ b3 ∧ u7.heap.size ≠ b3) → Calls Tryd.prog 14 #[.pointer (some ⟨p3, 0, none⟩), .agg #[.int .i64 5, .int .i64 1, .int .i64 1, .string ⟨#[]⟩, .string ⟨#[]⟩, .int .i64 0]] w2 fun e w3 => e = .returned (repV R0) ∧ ((fun w' => w'.cell? ⟨gr, 0, none⟩ = some (.int .i64 R.code) ∧ w'.cell? ⟨gr, 1, none⟩ = some (.string R.val) ∧ w'.cell? ⟨gr, 2, none⟩ = some (.int .i64 R.rev) ∧ w'.cell? ⟨u5.heap.size, 0, none⟩ = some (.int .i64 R0.code) ∧ w'.cell? ⟨u5.heap.size, 1, none⟩ = some (.string R0.val) ∧ w'.cell? ⟨u5.heap.size, 2, none⟩ = some (.int .i64 R0.rev) ∧ w'.cell? ⟨u7.heap.size, 0, none⟩ = some (.int .i64 R.code) ∧ w'.cell? ⟨u7.heap.size, 1, none⟩ = some (.string R.val) ∧ w'.cell? ⟨u7.heap.size, 2, none⟩ = some (.int .i64 R.rev)) w3 ∧ (Below v2.heap.size v2 w3 ∧ (w3.heap[gr]? = some (repO R) ∧ w3.heap[u5.heap.size]? = some (repO R0) ∧ w3.heap[u7.heap.size]? = some (repO R)))) from fun w2 p3 b3 h =>
            (all_run h.1 (HGT.out.app.mono (Nat.le_succ m)) (by omega) HTV.out R0 HR0.out).mono fun e w3 hh => by
              have hbx : (w3.heap[gr]? = some (repO R) ∧ w3.heap[u5.heap.size]? = some (repO R0) ∧ w3.heap[u7.heap.size]? = some (repO R)) := ⟨hh.2.2.heap h.2.1.1 h.2.2.1, hh.2.2.heap h.2.1.2.1 h.2.2.2.1, hh.2.2.heap h.2.1.2.2 h.2.2.2.2⟩
              exact ⟨hh.1, HS.out _ hbx, hh.2.1.bel, hbx⟩)
          have HAW := Lib.hid (show ∀ (w2 : World), (Below v2.heap.size v2 w2 ∧ (w2.heap[gr]? = some (repO R) ∧ w2.heap[u5.heap.size]? = some (repO R0) ∧ w2.heap[u7.heap.size]? = some (repO R))) → Calls Tryd.prog 21 #[] w2 fun e w3 => e = .returned (.bool true) ∧ ((fun w' => w'.cell? ⟨gr, 0, none⟩ = some (.int .i64 R.code) ∧ w'.cell? ⟨gr, 1, none⟩ = some (.string R.val) ∧ w'.cell? ⟨gr, 2, none⟩ = some (.int .i64 R.rev) ∧ w'.cell? ⟨u5.heap.size, 0, none⟩ = some (.int .i64 R0.code) ∧ w'.cell? ⟨u5.heap.size, 1, none⟩ = some (.string R0.val) ∧ w'.cell? ⟨u5.heap.size, 2, none⟩ = some (.int .i64 R0.rev) ∧ w'.cell? ⟨u7.heap.size, 0, none⟩ = some (.int .i64 R.code) ∧ w'.cell? ⟨u7.heap.size, 1, none⟩ = some (.string R.val) ∧ w'.cell? ⟨u7.heap.size, 2, none⟩ = some (.int .i64 R.rev)) w3 ∧ Below v2.heap.size v2 w3) from fun w2 h =>
            (sawake_any w2 (HTV.out.next h.1)).mono fun e w3 hh => by
              have hbx := BXB.out _ _ h.2 hh.2
              exact ⟨hh.1, HS.out _ hbx, h.1.trans (hh.2.mono h.1.size)⟩)
          have q1 := rep_same R.code R.val R.rev
          have q2 := rep_same R0.code R0.val R0.rev
          clear HM5 HM6 HM7 HM8 HX6 HX7 HX8 HY8 HBX
          go_region_held3 (fun w' => w'.cell? ⟨gr, 0, none⟩ = some (.int .i64 R.code) ∧ w'.cell? ⟨gr, 1, none⟩ = some (.string R.val) ∧ w'.cell? ⟨gr, 2, none⟩ = some (.int .i64 R.rev) ∧ w'.cell? ⟨u5.heap.size, 0, none⟩ = some (.int .i64 R0.code) ∧ w'.cell? ⟨u5.heap.size, 1, none⟩ = some (.string R0.val) ∧ w'.cell? ⟨u5.heap.size, 2, none⟩ = some (.int .i64 R0.rev) ∧ w'.cell? ⟨u7.heap.size, 0, none⟩ = some (.int .i64 R.code) ∧ w'.cell? ⟨u7.heap.size, 1, none⟩ = some (.string R.val) ∧ w'.cell? ⟨u7.heap.size, 2, none⟩ = some (.int .i64 R.rev))
            (first | exact HS0.out | exact h6 | exact h7 | exact h8 | exact h9)
            ((first | (go_at_call 26; refine HAPP.out.mono ?_; rintro e w6 ⟨p3, b3, rfl, h6, k6⟩) | (go_at_call 27; refine (HALL.out _ _ _ k6).mono ?_; rintro e w7 ⟨rfl, h7, k7⟩) | (go_at_call 14; refine (HDO.out _ _ _ k7).mono ?_; rintro e w8 ⟨rfl, h8, k8⟩) | (go_at_call 21; refine (HAW.out _ k8).mono ?_; rintro e w9 ⟨rfl, h9, k9⟩)))
          have HE := Lib.hid (HV2.out.trans (k9.mono HV2.out.size))
          clear h6 k6 h7 k7 h8 k8 h9 k9 HAPP HALL HDO HAW HS HS0 BXB q1 q2
          go_wp2_with fail
          go_ret
          exact ⟨rfl, HE.out⟩
theorem once_law (L Bt : List Cmd) (ao ao2 : Option Addr) (cap cap2 : Nat) (c : Cmd) (w : World) (hV : CmdsV w.heap.size w ao cap L) (hV2 : CmdsV w.heap.size w ao2 cap2 Bt) (hC : CmdOk c) (hT : TabsI w) :
    Calls Tryd.prog 9 #[.slice ao L.length cap, .slice ao2 Bt.length cap2, cmdV c] w fun e w' => e = .returned (.bool true) ∧ Below w.heap.size w w' := by
  by_cases h : greatB L 60 = true ∨ greatB Bt 60 = true ∨ greatB [c] 1 = true ∨ chk c ≠ 0 ∨ c.client = 0
  · exact once_no L Bt ao ao2 cap cap2 c w hV hV2 hC hT h
  · simp only [not_or, Bool.not_eq_true, Decidable.not_not] at h
    exact once_all L Bt ao ao2 cap cap2 c w hV hV2 hC hT h.1 h.2.1 h.2.2.1 h.2.2.2.1 h.2.2.2.2
end Go.Proofs.YtpeiamllkddhiaaDoor.P
