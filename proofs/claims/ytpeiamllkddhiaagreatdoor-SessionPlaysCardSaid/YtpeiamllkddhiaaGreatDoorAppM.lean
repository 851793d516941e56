/- The reference's Do, the other ways; its contract. -/
import Derived.Test.YtpeiamllkddhiaaGreatDoorAppJ
namespace Go.Proofs.YtpeiamllkddhiaaGreatDoor.P
open Go.RowKit Go.Proofs.YtpeiamllkddhiaaGreatDoor.R Go.Proofs.YtpeiamllkddhiaaGreatDoor.M Go.BigFrame
set_option linter.unusedVariables false
set_option linter.unusedSimpArgs false
set_option maxRecDepth 100000 in
set_option maxHeartbeats 2000000 in
theorem refdo_cas0 (A : List Ent) (ao : Option Addr) (cap : Nat) (c : Cmd) (w : World) (h : SetsV w ao cap A) (N : Nat) (hg : Good N A) (hN : N ≤ 100000) (hs : c.key.size ≤ 1000000) (hz : chk c = 0) (hk : c.kind = 4) (hl : revOf A c.key ≠ c.rev) :
    Calls Tryz.prog 12 #[.slice ao A.length cap, cmdV c] w (DoPost A c w) := by
  have HC := Lib.hid (fun W => refcheck_v c W hs 0 hz)
  have h0 := Lib.hid hz
  have HSV := Lib.hid h
  have HK := Lib.hid hk
  have HL := Lib.hid hl
  have HG := Lib.hid hg
  clear h hs hz hk hl hg
  go_enter Tryz.func12, Tryz.ntmps12
  go_wp2_with fail
  refine (HC.out _).mono ?_
  rintro e w1 ⟨rfl, hb⟩
  have hd : DoAt c w w1 := by
    refine DoAt.next (w1 := (w.alloc (.cells (cmdA c) 38)).alloc (.cells #[.int .i64 0, .string ⟨#[]⟩, .int .i64 0] 33)) ⟨((Below.refl _ _).alloc (Nat.le_refl _) _).alloc (by simp) _, ?_, ?_⟩ hb
    · rw [heap_al, if_neg (by simp), heap_alloc_new]
    · rw [heap_al, if_pos (by simp)]
  have HD := Lib.hid hd
  clear hb hd
  obtain ⟨⟨c0, c1, c2, c3, c4, c5⟩, fc⟩ := box6 HD.out.cb
  go_wp2_with fail
  refine (at_any A ao cap c.key w1 (HSV.out.below HD.out.bel)).mono ?_
  rintro e w2 ⟨rfl, rfl⟩
  obtain ⟨iv, hiv⟩ : ∃ iv, iv = atI A c.key := ⟨_, rfl⟩
  rw [← hiv]
  have HI := Lib.hid hiv
  clear hiv
  go_upto_if 26 with fail
  go_cut [7, 8] (fun iv bv wx => LookAt A c w iv bv wx)
  case first =>
    obtain ⟨wA, hwA⟩ : ∃ wA, wA = w1.alloc (.cells #[.string c.key, .string ⟨#[]⟩, .int .i64 0] 64) := ⟨_, rfl⟩
    rw [← hwA]
    have hb8 : wA.heap[w1.heap.size]? = some (.cells #[.string c.key, .string ⟨#[]⟩, .int .i64 0] 64 (0, 0)) := by rw [hwA, heap_al, if_pos rfl]
    have HDA : Hid (DoAt c w wA) := Lib.hid (by rw [hwA]; exact HD.out.next ((Below.refl _ _).alloc (Nat.le_refl _) _))
    have HSA : Hid (SetsV wA ao cap A) := Lib.hid (HSV.out.below HDA.out.bel)
    have HLT := Lib.hid (M.heap_lt HD.out.rb)
    clear hwA
    obtain ⟨⟨s0, s1, s2⟩, fs, ss⟩ := box3 hb8
    have HB8 := Lib.hid hb8
    clear hb8
    obtain ⟨L, hL⟩ : ∃ L, look A c.key = L := ⟨_, rfl⟩
    cases L with
    | none =>
      obtain rfl : iv = -1 := HI.out.trans (look_at.1 hL)
      have HL := Lib.hid hL
      clear hL
      go_wp2_with fail
      go_meet
      refine ⟨by rw [HI.out], HDA.out, w1.heap.size, rfl, HLT.out, ?_⟩
      unfold revOf
      rw [HL.out]
      exact HB8.out
    | some x =>
      obtain ⟨i, hi, hx⟩ := look_at.2 x hL
      obtain rfl : iv = (i : Int) := HI.out.trans hi
      have hil := (List.getElem?_eq_some_iff.1 hx).1
      obtain ⟨b, off, rfl, _, x0, x1, x2⟩ := HSA.out.row i x hx
      obtain ⟨hl1, hl2⟩ := HSA.out.le
      unfold maxLen at hl2
      have hii : (i : Int) < (A.length : Int) := by omega
      have h0i : (0 : Int) ≤ (i : Int) := by omega
      have HL := Lib.hid hL
      clear hL hx hi
      go_wp2_with fail
      go_meet
      refine ⟨by rw [HI.out], HDA.out.set3 HLT.out HB8.out, w1.heap.size, rfl, HLT.out, ?_⟩
      unfold revOf
      rw [HL.out, ← (look_key HL.out).1]
      exact set3 HB8.out
  case rest =>
    clear c0 c1 c2 c3 c4 c5 fc HI HD
    obtain ⟨rfl, hd2, b, rfl, hbb, hbx⟩ := hcut
    obtain ⟨⟨c0, c1, c2, c3, c4, c5⟩, _⟩ := box6 hd2.cb
    obtain ⟨⟨d0, d1, d2⟩, fd, sd⟩ := box3 hd2.rb
    obtain ⟨⟨s0, s1, s2⟩, _, _⟩ := box3 hbx
    have HD := Lib.hid hd2
    have HBX := Lib.hid hbx
    have HBB := Lib.hid hbb
    have HKD := Lib.hid (formBad_kind (chk_good h0.out).1)
    have hk := HK.out
    have hrev : revOf A c.key = revO (look A c.key) := rfl
    clear hd2 hbx hbb
    rw [hk] at c0
    obtain ⟨r, hr⟩ : ∃ r, revOf A c.key = r := ⟨_, rfl⟩
    have hr2 := HG.out.rev c.key
    rw [hr] at hr2 s2
    have hr0 : 0 ≤ r := hr2.1
    have hr1 : r ≤ 100000 := by omega
    have HR := Lib.hid hr
    clear hr hr2 hrev s1
    have HV : Hid (act A c = (A, ⟨10, nul, r⟩)) := Lib.hid (by unfold act; rw [if_neg (by rw [HK.out]; decide), if_neg (by rw [HK.out]; decide), if_neg (by rw [HK.out]; decide), if_pos HK.out, if_neg HL.out, HR.out])
    have hne : (r != c.rev) = true := by rw [bne_iff_ne, ← HR.out]; exact HL.out
    go_wp2_with fail
    go_still_tail 5, (by kernel_rfl)
    go_wp2_with fail
    refine ret_box (w.heap.size + 1) #[.int .i64 10, .string nul, .int .i64 r] 33 (.tuple #[.slice ao A.length cap, .agg #[.int .i64 10, .string nul, .int .i64 r]]) ?_ (fun W' h => ?_) rfl ?_
    · exact set3 HD.out.rb
    · obtain ⟨⟨r0, r1, r2⟩, _, _⟩ := box3 h
      simp [results, Tryz.results12, go_sem, r0, r1, r2]
    · exact DoPost.mk HV.out (HSV.out.below (set3_below (by omega) HD.out.bel).drew) (set3_below (by omega) HD.out.bel).drew
set_option maxRecDepth 100000 in
set_option maxHeartbeats 2000000 in
theorem refdo_cas1 (A : List Ent) (ao : Option Addr) (cap : Nat) (c : Cmd) (w : World) (h : SetsV w ao cap A) (N : Nat) (hg : Good N A) (hN : N ≤ 100000) (hs : c.key.size ≤ 1000000) (hz : chk c = 0) (hk : c.kind = 4) (hl : revOf A c.key = c.rev) :
    Calls Tryz.prog 12 #[.slice ao A.length cap, cmdV c] w (DoPost A c w) := by
  have HC := Lib.hid (fun W => refcheck_v c W hs 0 hz)
  have h0 := Lib.hid hz
  have HSV := Lib.hid h
  have HK := Lib.hid hk
  have HL := Lib.hid hl
  have HG := Lib.hid hg
  clear h hs hz hk hl hg
  go_enter Tryz.func12, Tryz.ntmps12
  go_wp2_with fail
  refine (HC.out _).mono ?_
  rintro e w1 ⟨rfl, hb⟩
  have hd : DoAt c w w1 := by
    refine DoAt.next (w1 := (w.alloc (.cells (cmdA c) 38)).alloc (.cells #[.int .i64 0, .string ⟨#[]⟩, .int .i64 0] 33)) ⟨((Below.refl _ _).alloc (Nat.le_refl _) _).alloc (by simp) _, ?_, ?_⟩ hb
    · rw [heap_al, if_neg (by simp), heap_alloc_new]
    · rw [heap_al, if_pos (by simp)]
  have HD := Lib.hid hd
  clear hb hd
  obtain ⟨⟨c0, c1, c2, c3, c4, c5⟩, fc⟩ := box6 HD.out.cb
  go_wp2_with fail
  refine (at_any A ao cap c.key w1 (HSV.out.below HD.out.bel)).mono ?_
  rintro e w2 ⟨rfl, rfl⟩
  obtain ⟨iv, hiv⟩ : ∃ iv, iv = atI A c.key := ⟨_, rfl⟩
  rw [← hiv]
  have HI := Lib.hid hiv
  clear hiv
  go_upto_if 26 with fail
  go_cut [7, 8] (fun iv bv wx => LookAt A c w iv bv wx)
  case first =>
    obtain ⟨wA, hwA⟩ : ∃ wA, wA = w1.alloc (.cells #[.string c.key, .string ⟨#[]⟩, .int .i64 0] 64) := ⟨_, rfl⟩
    rw [← hwA]
    have hb8 : wA.heap[w1.heap.size]? = some (.cells #[.string c.key, .string ⟨#[]⟩, .int .i64 0] 64 (0, 0)) := by rw [hwA, heap_al, if_pos rfl]
    have HDA : Hid (DoAt c w wA) := Lib.hid (by rw [hwA]; exact HD.out.next ((Below.refl _ _).alloc (Nat.le_refl _) _))
    have HSA : Hid (SetsV wA ao cap A) := Lib.hid (HSV.out.below HDA.out.bel)
    have HLT := Lib.hid (M.heap_lt HD.out.rb)
    clear hwA
    obtain ⟨⟨s0, s1, s2⟩, fs, ss⟩ := box3 hb8
    have HB8 := Lib.hid hb8
    clear hb8
    obtain ⟨L, hL⟩ : ∃ L, look A c.key = L := ⟨_, rfl⟩
    cases L with
    | none =>
      obtain rfl : iv = -1 := HI.out.trans (look_at.1 hL)
      have HL := Lib.hid hL
      clear hL
      go_wp2_with fail
      go_meet
      refine ⟨by rw [HI.out], HDA.out, w1.heap.size, rfl, HLT.out, ?_⟩
      unfold revOf
      rw [HL.out]
      exact HB8.out
    | some x =>
      obtain ⟨i, hi, hx⟩ := look_at.2 x hL
      obtain rfl : iv = (i : Int) := HI.out.trans hi
      have hil := (List.getElem?_eq_some_iff.1 hx).1
      obtain ⟨b, off, rfl, _, x0, x1, x2⟩ := HSA.out.row i x hx
      obtain ⟨hl1, hl2⟩ := HSA.out.le
      unfold maxLen at hl2
      have hii : (i : Int) < (A.length : Int) := by omega
      have h0i : (0 : Int) ≤ (i : Int) := by omega
      have HL := Lib.hid hL
      clear hL hx hi
      go_wp2_with fail
      go_meet
      refine ⟨by rw [HI.out], HDA.out.set3 HLT.out HB8.out, w1.heap.size, rfl, HLT.out, ?_⟩
      unfold revOf
      rw [HL.out, ← (look_key HL.out).1]
      exact set3 HB8.out
  case rest =>
    clear c0 c1 c2 c3 c4 c5 fc HI HD
    obtain ⟨rfl, hd2, b, rfl, hbb, hbx⟩ := hcut
    obtain ⟨⟨c0, c1, c2, c3, c4, c5⟩, _⟩ := box6 hd2.cb
    obtain ⟨⟨d0, d1, d2⟩, fd, sd⟩ := box3 hd2.rb
    obtain ⟨⟨s0, s1, s2⟩, _, _⟩ := box3 hbx
    have HD := Lib.hid hd2
    have HBX := Lib.hid hbx
    have HBB := Lib.hid hbb
    have HKD := Lib.hid (formBad_kind (chk_good h0.out).1)
    have hk := HK.out
    have hrev : revOf A c.key = revO (look A c.key) := rfl
    clear hd2 hbx hbb
    rw [hk] at c0
    obtain ⟨r, hr⟩ : ∃ r, revOf A c.key = r := ⟨_, rfl⟩
    have hr2 := HG.out.rev c.key
    rw [hr] at hr2 s2
    have hr0 : 0 ≤ r := hr2.1
    have hr1 : r ≤ 100000 := by omega
    have HR := Lib.hid hr
    clear hr hr2 hrev s1
    have HV : Hid (act A c = (put A ⟨c.key, c.val, r + 1⟩, ⟨0, nul, r + 1⟩)) := Lib.hid (by unfold act; rw [if_neg (by rw [HK.out]; decide), if_neg (by rw [HK.out]; decide), if_neg (by rw [HK.out]; decide), if_pos HK.out, if_pos HL.out, HR.out])
    have hne : (r != c.rev) = false := by rw [bne_eq_false_iff_eq, ← HR.out]; exact HL.out
    go_wp2_with fail
    have hzc : w.heap.size < wc.heap.size := M.heap_lt HD.out.cb
    have hzb : b < wc.heap.size := M.heap_lt HBX.out
    have hzr : w.heap.size + 1 < wc.heap.size := M.heap_lt HD.out.rb
    have hA : A.length ≤ 100000 := by have := HG.out.len; omega
    have HS0 : Hid ((fun w' => w'.cell? ⟨w.heap.size, 3, none⟩ = some (.string c.key) ∧ w'.cell? ⟨w.heap.size, 4, none⟩ = some (.string c.val) ∧ w'.cell? ⟨b, 2, none⟩ = some (.int .i64 r) ∧ Below w.heap.size w w') wc.drew) := Lib.hid ⟨c3, c4, s2, HD.out.bel.drew⟩
    have HK3 := Lib.hid (show ∀ (W : World) (u0 u1 u2 : Value), (fun w' => w'.cell? ⟨w.heap.size, 3, none⟩ = some (.string c.key) ∧ w'.cell? ⟨w.heap.size, 4, none⟩ = some (.string c.val) ∧ w'.cell? ⟨b, 2, none⟩ = some (.int .i64 r) ∧ Below w.heap.size w w') W → (fun w' => w'.cell? ⟨w.heap.size, 3, none⟩ = some (.string c.key) ∧ w'.cell? ⟨w.heap.size, 4, none⟩ = some (.string c.val) ∧ w'.cell? ⟨b, 2, none⟩ = some (.int .i64 r) ∧ Below w.heap.size w w') (((W.setCell ⟨w.heap.size + 1, 0, none⟩ u0).setCell ⟨w.heap.size + 1, 1, none⟩ u1).setCell ⟨w.heap.size + 1, 2, none⟩ u2) from fun W u0 u1 u2 hW =>
      ⟨(far3 (by simp)).trans hW.1, (far3 (by simp)).trans hW.2.1, (far3 (by have := HBB.out; simp; omega)).trans hW.2.2.1, set3_below (by omega) hW.2.2.2⟩)
    have HWO := Lib.hid (show Calls Tryz.prog 23 #[.slice ao A.length cap, .agg #[.string c.key, .string c.val, .int .i64 (r + 1)]] wc.drew fun e w2 => ∃ oo oc, e = .returned (.slice oo (put A ⟨c.key, c.val, r + 1⟩).length oc) ∧ (fun w' => w'.cell? ⟨w.heap.size, 3, none⟩ = some (.string c.key) ∧ w'.cell? ⟨w.heap.size, 4, none⟩ = some (.string c.val) ∧ w'.cell? ⟨b, 2, none⟩ = some (.int .i64 r) ∧ Below w.heap.size w w') w2 ∧ (SetsV w2 oo oc (put A ⟨c.key, c.val, r + 1⟩) ∧ (∀ a, oo = some a → wc.heap.size ≤ a.block) ∧ DoAt c w w2) from
      (with_any A ao cap ⟨c.key, c.val, r + 1⟩ wc.drew (HSV.out.below HD.out.bel.drew) hA HG.out.srt).mono fun e w2 hh => by
        obtain ⟨oo, oc, he, ho, hb2⟩ := hh
        have hb2 : Below wc.heap.size wc w2 := ((Below.refl _ _).drew).trans hb2
        exact ⟨oo, oc, he, ⟨(hb2.cell (p := ⟨w.heap.size, 3, none⟩) hzc).trans c3, (hb2.cell (p := ⟨w.heap.size, 4, none⟩) hzc).trans c4, (hb2.cell (p := ⟨b, 2, none⟩) hzb).trans s2, HD.out.bel.trans (hb2.mono HD.out.bel.size)⟩, SetsV.of_own ho, fun a ha => (own_heap ho a ha).choose_spec.2, HD.out.next hb2⟩)
    obtain ⟨PA, hPA⟩ : ∃ PA, PA = put A ⟨c.key, c.val, r + 1⟩ := ⟨_, rfl⟩
    rw [← hPA] at HWO HV
    have hwr : IntKind.i64.wrap (r + 1) = r + 1 := IntWalk.i64_in _ (by omega)
    clear c0 c1 c2 c3 c4 c5 s0 s2 d0 d1 d2 fd sd hk hPA
    go_region_held3 (fun w' => w'.cell? ⟨w.heap.size, 3, none⟩ = some (.string c.key) ∧ w'.cell? ⟨w.heap.size, 4, none⟩ = some (.string c.val) ∧ w'.cell? ⟨b, 2, none⟩ = some (.int .i64 r) ∧ Below w.heap.size w w')
      (first | exact HS0.out | exact h9 | exact HK3.out _ _ _ _ h9)
      ((go_at_call 23; refine HWO.out.mono ?_; rintro e w9 ⟨oo, oc, rfl, h9, hs9, ho9, hd9⟩; obtain ⟨⟨d0, d1, d2⟩, fd, sd⟩ := box3 hd9.rb))
    have HS9 := Lib.hid hs9
    have HO9 := Lib.hid (show ∀ a, oo = some a → w.heap.size + 1 < a.block from fun a ha => by have := ho9 a ha; omega)
    have H9 := Lib.hid h9
    have HD9 := Lib.hid hd9
    clear hs9 ho9 h9 hd9
    go_wp2_with fail
    refine ret_box (w.heap.size + 1) #[.int .i64 0, .string nul, .int .i64 (r + 1)] 33 (.tuple #[.slice oo PA.length oc, .agg #[.int .i64 0, .string nul, .int .i64 (r + 1)]]) ?_ (fun W' h => ?_) rfl ?_
    · exact set3 HD9.out.rb
    · obtain ⟨⟨r0, r1, r2⟩, _, _⟩ := box3 h
      simp [results, Tryz.results12, go_sem, r0, r1, r2]
    · exact DoPost.mk HV.out (HS9.out.far HO9.out) (set3_below (by omega) H9.out.2.2.2)
set_option maxRecDepth 100000 in
set_option maxHeartbeats 2000000 in
theorem refdo_none0 (A : List Ent) (ao : Option Addr) (cap : Nat) (c : Cmd) (w : World) (h : SetsV w ao cap A) (N : Nat) (hg : Good N A) (hN : N ≤ 100000) (hs : c.key.size ≤ 1000000) (hz : chk c = 0) (hk : c.kind = 0) (hl : True) :
    Calls Tryz.prog 12 #[.slice ao A.length cap, cmdV c] w (DoPost A c w) := by
  have HC := Lib.hid (fun W => refcheck_v c W hs 0 hz)
  have h0 := Lib.hid hz
  have HSV := Lib.hid h
  have HK := Lib.hid hk
  have HL := Lib.hid hl
  have HG := Lib.hid hg
  clear h hs hz hk hl hg
  go_enter Tryz.func12, Tryz.ntmps12
  go_wp2_with fail
  refine (HC.out _).mono ?_
  rintro e w1 ⟨rfl, hb⟩
  have hd : DoAt c w w1 := by
    refine DoAt.next (w1 := (w.alloc (.cells (cmdA c) 38)).alloc (.cells #[.int .i64 0, .string ⟨#[]⟩, .int .i64 0] 33)) ⟨((Below.refl _ _).alloc (Nat.le_refl _) _).alloc (by simp) _, ?_, ?_⟩ hb
    · rw [heap_al, if_neg (by simp), heap_alloc_new]
    · rw [heap_al, if_pos (by simp)]
  have HD := Lib.hid hd
  clear hb hd
  obtain ⟨⟨c0, c1, c2, c3, c4, c5⟩, fc⟩ := box6 HD.out.cb
  go_wp2_with fail
  refine (at_any A ao cap c.key w1 (HSV.out.below HD.out.bel)).mono ?_
  rintro e w2 ⟨rfl, rfl⟩
  obtain ⟨iv, hiv⟩ : ∃ iv, iv = atI A c.key := ⟨_, rfl⟩
  rw [← hiv]
  have HI := Lib.hid hiv
  clear hiv
  go_upto_if 26 with fail
  go_cut [7, 8] (fun iv bv wx => LookAt A c w iv bv wx)
  case first =>
    obtain ⟨wA, hwA⟩ : ∃ wA, wA = w1.alloc (.cells #[.string c.key, .string ⟨#[]⟩, .int .i64 0] 64) := ⟨_, rfl⟩
    rw [← hwA]
    have hb8 : wA.heap[w1.heap.size]? = some (.cells #[.string c.key, .string ⟨#[]⟩, .int .i64 0] 64 (0, 0)) := by rw [hwA, heap_al, if_pos rfl]
    have HDA : Hid (DoAt c w wA) := Lib.hid (by rw [hwA]; exact HD.out.next ((Below.refl _ _).alloc (Nat.le_refl _) _))
    have HSA : Hid (SetsV wA ao cap A) := Lib.hid (HSV.out.below HDA.out.bel)
    have HLT := Lib.hid (M.heap_lt HD.out.rb)
    clear hwA
    obtain ⟨⟨s0, s1, s2⟩, fs, ss⟩ := box3 hb8
    have HB8 := Lib.hid hb8
    clear hb8
    obtain ⟨L, hL⟩ : ∃ L, look A c.key = L := ⟨_, rfl⟩
    cases L with
    | none =>
      obtain rfl : iv = -1 := HI.out.trans (look_at.1 hL)
      have HL := Lib.hid hL
      clear hL
      go_wp2_with fail
      go_meet
      refine ⟨by rw [HI.out], HDA.out, w1.heap.size, rfl, HLT.out, ?_⟩
      unfold revOf
      rw [HL.out]
      exact HB8.out
    | some x =>
      obtain ⟨i, hi, hx⟩ := look_at.2 x hL
      obtain rfl : iv = (i : Int) := HI.out.trans hi
      have hil := (List.getElem?_eq_some_iff.1 hx).1
      obtain ⟨b, off, rfl, _, x0, x1, x2⟩ := HSA.out.row i x hx
      obtain ⟨hl1, hl2⟩ := HSA.out.le
      unfold maxLen at hl2
      have hii : (i : Int) < (A.length : Int) := by omega
      have h0i : (0 : Int) ≤ (i : Int) := by omega
      have HL := Lib.hid hL
      clear hL hx hi
      go_wp2_with fail
      go_meet
      refine ⟨by rw [HI.out], HDA.out.set3 HLT.out HB8.out, w1.heap.size, rfl, HLT.out, ?_⟩
      unfold revOf
      rw [HL.out, ← (look_key HL.out).1]
      exact set3 HB8.out
  case rest =>
    clear c0 c1 c2 c3 c4 c5 fc HI HD
    obtain ⟨rfl, hd2, b, rfl, hbb, hbx⟩ := hcut
    obtain ⟨⟨c0, c1, c2, c3, c4, c5⟩, _⟩ := box6 hd2.cb
    obtain ⟨⟨d0, d1, d2⟩, fd, sd⟩ := box3 hd2.rb
    obtain ⟨⟨s0, s1, s2⟩, _, _⟩ := box3 hbx
    have HD := Lib.hid hd2
    have HBX := Lib.hid hbx
    have HBB := Lib.hid hbb
    have HKD := Lib.hid (formBad_kind (chk_good h0.out).1)
    have hk := HK.out
    have hrev : revOf A c.key = revO (look A c.key) := rfl
    clear hd2 hbx hbb
    rw [hk] at c0
    have HV : Hid (act A c = (A, ⟨0, nul, 0⟩)) := Lib.hid (by unfold act; rw [if_neg (by rw [HK.out]; decide), if_neg (by rw [HK.out]; decide), if_neg (by rw [HK.out]; decide), if_neg (by rw [HK.out]; decide), if_neg (by rw [HK.out]; decide)]; rfl)
    go_wp2_with fail
    refine ret_box (w.heap.size + 1) #[.int .i64 0, .string nul, .int .i64 0] 33 (.tuple #[.slice ao A.length cap, .agg #[.int .i64 0, .string nul, .int .i64 0]]) ?_ (fun W' h => ?_) rfl ?_
    · exact set3 HD.out.rb
    · obtain ⟨⟨r0, r1, r2⟩, _, _⟩ := box3 h
      simp [results, Tryz.results12, go_sem, r0, r1, r2]
    · exact DoPost.mk HV.out (HSV.out.below (set3_below (by omega) HD.out.bel)) (set3_below (by omega) HD.out.bel)
set_option maxRecDepth 100000 in
set_option maxHeartbeats 2000000 in
theorem refdo_none6 (A : List Ent) (ao : Option Addr) (cap : Nat) (c : Cmd) (w : World) (h : SetsV w ao cap A) (N : Nat) (hg : Good N A) (hN : N ≤ 100000) (hs : c.key.size ≤ 1000000) (hz : chk c = 0) (hk : c.kind = 6) (hl : True) :
    Calls Tryz.prog 12 #[.slice ao A.length cap, cmdV c] w (DoPost A c w) := by
  have HC := Lib.hid (fun W => refcheck_v c W hs 0 hz)
  have h0 := Lib.hid hz
  have HSV := Lib.hid h
  have HK := Lib.hid hk
  have HL := Lib.hid hl
  have HG := Lib.hid hg
  clear h hs hz hk hl hg
  go_enter Tryz.func12, Tryz.ntmps12
  go_wp2_with fail
  refine (HC.out _).mono ?_
  rintro e w1 ⟨rfl, hb⟩
  have hd : DoAt c w w1 := by
    refine DoAt.next (w1 := (w.alloc (.cells (cmdA c) 38)).alloc (.cells #[.int .i64 0, .string ⟨#[]⟩, .int .i64 0] 33)) ⟨((Below.refl _ _).alloc (Nat.le_refl _) _).alloc (by simp) _, ?_, ?_⟩ hb
    · rw [heap_al, if_neg (by simp), heap_alloc_new]
    · rw [heap_al, if_pos (by simp)]
  have HD := Lib.hid hd
  clear hb hd
  obtain ⟨⟨c0, c1, c2, c3, c4, c5⟩, fc⟩ := box6 HD.out.cb
  go_wp2_with fail
  refine (at_any A ao cap c.key w1 (HSV.out.below HD.out.bel)).mono ?_
  rintro e w2 ⟨rfl, rfl⟩
  obtain ⟨iv, hiv⟩ : ∃ iv, iv = atI A c.key := ⟨_, rfl⟩
  rw [← hiv]
  have HI := Lib.hid hiv
  clear hiv
  go_upto_if 26 with fail
  go_cut [7, 8] (fun iv bv wx => LookAt A c w iv bv wx)
  case first =>
    obtain ⟨wA, hwA⟩ : ∃ wA, wA = w1.alloc (.cells #[.string c.key, .string ⟨#[]⟩, .int .i64 0] 64) := ⟨_, rfl⟩
    rw [← hwA]
    have hb8 : wA.heap[w1.heap.size]? = some (.cells #[.string c.key, .string ⟨#[]⟩, .int .i64 0] 64 (0, 0)) := by rw [hwA, heap_al, if_pos rfl]
    have HDA : Hid (DoAt c w wA) := Lib.hid (by rw [hwA]; exact HD.out.next ((Below.refl _ _).alloc (Nat.le_refl _) _))
    have HSA : Hid (SetsV wA ao cap A) := Lib.hid (HSV.out.below HDA.out.bel)
    have HLT := Lib.hid (M.heap_lt HD.out.rb)
    clear hwA
    obtain ⟨⟨s0, s1, s2⟩, fs, ss⟩ := box3 hb8
    have HB8 := Lib.hid hb8
    clear hb8
    obtain ⟨L, hL⟩ : ∃ L, look A c.key = L := ⟨_, rfl⟩
    cases L with
    | none =>
      obtain rfl : iv = -1 := HI.out.trans (look_at.1 hL)
      have HL := Lib.hid hL
      clear hL
      go_wp2_with fail
      go_meet
      refine ⟨by rw [HI.out], HDA.out, w1.heap.size, rfl, HLT.out, ?_⟩
      unfold revOf
      rw [HL.out]
      exact HB8.out
    | some x =>
      obtain ⟨i, hi, hx⟩ := look_at.2 x hL
      obtain rfl : iv = (i : Int) := HI.out.trans hi
      have hil := (List.getElem?_eq_some_iff.1 hx).1
      obtain ⟨b, off, rfl, _, x0, x1, x2⟩ := HSA.out.row i x hx
      obtain ⟨hl1, hl2⟩ := HSA.out.le
      unfold maxLen at hl2
      have hii : (i : Int) < (A.length : Int) := by omega
      have h0i : (0 : Int) ≤ (i : Int) := by omega
      have HL := Lib.hid hL
      clear hL hx hi
      go_wp2_with fail
      go_meet
      refine ⟨by rw [HI.out], HDA.out.set3 HLT.out HB8.out, w1.heap.size, rfl, HLT.out, ?_⟩
      unfold revOf
      rw [HL.out, ← (look_key HL.out).1]
      exact set3 HB8.out
  case rest =>
    clear c0 c1 c2 c3 c4 c5 fc HI HD
    obtain ⟨rfl, hd2, b, rfl, hbb, hbx⟩ := hcut
    obtain ⟨⟨c0, c1, c2, c3, c4, c5⟩, _⟩ := box6 hd2.cb
    obtain ⟨⟨d0, d1, d2⟩, fd, sd⟩ := box3 hd2.rb
    obtain ⟨⟨s0, s1, s2⟩, _, _⟩ := box3 hbx
    have HD := Lib.hid hd2
    have HBX := Lib.hid hbx
    have HBB := Lib.hid hbb
    have HKD := Lib.hid (formBad_kind (chk_good h0.out).1)
    have hk := HK.out
    have hrev : revOf A c.key = revO (look A c.key) := rfl
    clear hd2 hbx hbb
    rw [hk] at c0
    have HV : Hid (act A c = (A, ⟨0, nul, 0⟩)) := Lib.hid (by unfold act; rw [if_neg (by rw [HK.out]; decide), if_neg (by rw [HK.out]; decide), if_neg (by rw [HK.out]; decide), if_neg (by rw [HK.out]; decide), if_neg (by rw [HK.out]; decide)]; rfl)
    go_wp2_with fail
    refine ret_box (w.heap.size + 1) #[.int .i64 0, .string nul, .int .i64 0] 33 (.tuple #[.slice ao A.length cap, .agg #[.int .i64 0, .string nul, .int .i64 0]]) ?_ (fun W' h => ?_) rfl ?_
    · exact set3 HD.out.rb
    · obtain ⟨⟨r0, r1, r2⟩, _, _⟩ := box3 h
      simp [results, Tryz.results12, go_sem, r0, r1, r2]
    · exact DoPost.mk HV.out (HSV.out.below (set3_below (by omega) HD.out.bel)) (set3_below (by omega) HD.out.bel)
set_option maxRecDepth 100000 in
set_option maxHeartbeats 2000000 in
theorem refdo_find (A : List Ent) (ao : Option Addr) (cap : Nat) (c : Cmd) (w : World) (h : SetsV w ao cap A) (N : Nat) (hg : Good N A) (hN : N ≤ 100000) (hs : c.key.size ≤ 1000000) (hz : chk c = 0) (hk : c.kind = 5) (hl : True) :
    Calls Tryz.prog 12 #[.slice ao A.length cap, cmdV c] w (DoPost A c w) := by
  have HC := Lib.hid (fun W => refcheck_v c W hs 0 hz)
  have h0 := Lib.hid hz
  have HSV := Lib.hid h
  have HK := Lib.hid hk
  have HL := Lib.hid hl
  have HG := Lib.hid hg
  clear h hs hz hk hl hg
  go_enter Tryz.func12, Tryz.ntmps12
  go_wp2_with fail
  refine (HC.out _).mono ?_
  rintro e w1 ⟨rfl, hb⟩
  have hd : DoAt c w w1 := by
    refine DoAt.next (w1 := (w.alloc (.cells (cmdA c) 38)).alloc (.cells #[.int .i64 0, .string ⟨#[]⟩, .int .i64 0] 33)) ⟨((Below.refl _ _).alloc (Nat.le_refl _) _).alloc (by simp) _, ?_, ?_⟩ hb
    · rw [heap_al, if_neg (by simp), heap_alloc_new]
    · rw [heap_al, if_pos (by simp)]
  have HD := Lib.hid hd
  clear hb hd
  obtain ⟨⟨c0, c1, c2, c3, c4, c5⟩, fc⟩ := box6 HD.out.cb
  go_wp2_with fail
  refine (at_any A ao cap c.key w1 (HSV.out.below HD.out.bel)).mono ?_
  rintro e w2 ⟨rfl, rfl⟩
  obtain ⟨iv, hiv⟩ : ∃ iv, iv = atI A c.key := ⟨_, rfl⟩
  rw [← hiv]
  have HI := Lib.hid hiv
  clear hiv
  go_upto_if 26 with fail
  go_cut [7, 8] (fun iv bv wx => LookAt A c w iv bv wx)
  case first =>
    obtain ⟨wA, hwA⟩ : ∃ wA, wA = w1.alloc (.cells #[.string c.key, .string ⟨#[]⟩, .int .i64 0] 64) := ⟨_, rfl⟩
    rw [← hwA]
    have hb8 : wA.heap[w1.heap.size]? = some (.cells #[.string c.key, .string ⟨#[]⟩, .int .i64 0] 64 (0, 0)) := by rw [hwA, heap_al, if_pos rfl]
    have HDA : Hid (DoAt c w wA) := Lib.hid (by rw [hwA]; exact HD.out.next ((Below.refl _ _).alloc (Nat.le_refl _) _))
    have HSA : Hid (SetsV wA ao cap A) := Lib.hid (HSV.out.below HDA.out.bel)
    have HLT := Lib.hid (M.heap_lt HD.out.rb)
    clear hwA
    obtain ⟨⟨s0, s1, s2⟩, fs, ss⟩ := box3 hb8
    have HB8 := Lib.hid hb8
    clear hb8
    obtain ⟨L, hL⟩ : ∃ L, look A c.key = L := ⟨_, rfl⟩
    cases L with
    | none =>
      obtain rfl : iv = -1 := HI.out.trans (look_at.1 hL)
      have HL := Lib.hid hL
      clear hL
      go_wp2_with fail
      go_meet
      refine ⟨by rw [HI.out], HDA.out, w1.heap.size, rfl, HLT.out, ?_⟩
      unfold revOf
      rw [HL.out]
      exact HB8.out
    | some x =>
      obtain ⟨i, hi, hx⟩ := look_at.2 x hL
      obtain rfl : iv = (i : Int) := HI.out.trans hi
      have hil := (List.getElem?_eq_some_iff.1 hx).1
      obtain ⟨b, off, rfl, _, x0, x1, x2⟩ := HSA.out.row i x hx
      obtain ⟨hl1, hl2⟩ := HSA.out.le
      unfold maxLen at hl2
      have hii : (i : Int) < (A.length : Int) := by omega
      have h0i : (0 : Int) ≤ (i : Int) := by omega
      have HL := Lib.hid hL
      clear hL hx hi
      go_wp2_with fail
      go_meet
      refine ⟨by rw [HI.out], HDA.out.set3 HLT.out HB8.out, w1.heap.size, rfl, HLT.out, ?_⟩
      unfold revOf
      rw [HL.out, ← (look_key HL.out).1]
      exact set3 HB8.out
  case rest =>
    clear c0 c1 c2 c3 c4 c5 fc HI HD
    obtain ⟨rfl, hd2, b, rfl, hbb, hbx⟩ := hcut
    obtain ⟨⟨c0, c1, c2, c3, c4, c5⟩, _⟩ := box6 hd2.cb
    obtain ⟨⟨d0, d1, d2⟩, fd, sd⟩ := box3 hd2.rb
    obtain ⟨⟨s0, s1, s2⟩, _, _⟩ := box3 hbx
    have HD := Lib.hid hd2
    have HBX := Lib.hid hbx
    have HBB := Lib.hid hbb
    have HKD := Lib.hid (formBad_kind (chk_good h0.out).1)
    have hk := HK.out
    have hrev : revOf A c.key = revO (look A c.key) := rfl
    clear hd2 hbx hbb
    rw [hk] at c0
    have HV : Hid (act A c = (A, ⟨0, joinB (linesB A c.key), ((linesB A c.key).length : Nat)⟩)) := Lib.hid (by unfold act; rw [if_neg (by rw [HK.out]; decide), if_neg (by rw [HK.out]; decide), if_neg (by rw [HK.out]; decide), if_neg (by rw [HK.out]; decide), if_pos HK.out, findR_lines])
    go_wp2_with fail
    obtain ⟨wA, hwA⟩ : ∃ wA, wA = wc.alloc (.cells #[.int .i64 0, .string ⟨#[]⟩, .int .i64 0] 33) := ⟨_, rfl⟩
    rw [← hwA]
    have HF0 : Hid (FindAt A c w wc.heap.size 0 wA) := Lib.hid (by
      rw [hwA]
      refine ⟨HD.out.next ((Below.refl _ _).alloc (Nat.le_refl _) _), M.heap_lt HD.out.rb, ?_⟩
      rw [heap_al, if_pos rfl]
      rfl)
    obtain ⟨b9, hb9⟩ : ∃ b9, b9 = wc.heap.size := ⟨_, rfl⟩
    rw [← hb9] at HF0 ⊢
    clear hwA hb9 c0 c1 c2 c3 c4 c5 s0 s1 s2 d0 d1 d2 fd sd hk hrev
    go_loopw [10] (fun iv wr => ∃ k : Nat, iv = .int .i64 k ∧ k ≤ A.length ∧ FindAt A c w b9 k wr) (fun iv _ => A.length - (intOf iv).toNat)
    case atStart => exact ⟨0, rfl, Nat.zero_le _, HF0.out⟩
    case round =>
      clear HF0
      obtain ⟨k, rfl, hk, hf⟩ := hrel
      have HF := Lib.hid hf
      clear hf
      by_cases hlt : k < A.length
      · have hli : (k : Int) < (A.length : Int) := by omega
        obtain ⟨x, hx⟩ : ∃ x, A[k]? = some x := ⟨_, List.getElem?_eq_getElem hlt⟩
        obtain ⟨g, off, rfl, hgl, x0, x1, x2⟩ := (HSV.out.below HF.out.at_.bel).row k x hx
        obtain ⟨⟨c0, c1, c2, c3, c4, c5⟩, _⟩ := box6 HF.out.at_.cb
        obtain ⟨hl1, hl2⟩ := HSV.out.le
        unfold maxLen at hl2
        have HX := Lib.hid hx
        cases hbg : begs x.key c.key with
        | false =>
          have HL2 := Lib.hid (findAt_skip hx hbg)
          have HBG := Lib.hid (fun W => refBegins_t x.key c.key W false hbg)
          clear hx hbg
          go_wp2_with fail
          go_quiet ((go_at_call 24; exact Calls.quiet_of_same ((HBG.out _).mono fun e w' h => ⟨h.1, h.2.symm⟩)))
          go_wp2_with fail
          go_roundw
          case rel => exact ⟨k + 1, by go_num, by omega, by unfold FindAt; rw [HL2.out]; exact HF.out.drewN nq⟩
          case measure => simp [intOf]; omega
        | true =>
          have HL2 := Lib.hid (findAt_more hx hbg)
          have HBG := Lib.hid (fun W => refBegins_t x.key c.key W true hbg)
          have hxm := List.mem_of_getElem? hx
          obtain ⟨rv, hrv⟩ : ∃ rv : Nat, x.rev = rv := ⟨x.rev.toNat, by have := (HG.out.ent x hxm).1; omega⟩
          have hxe := HG.out.ent x hxm
          have hrv2 : rv ≤ 1000000 := by omega
          have hq1 := quote_size (key_size hxe.2.2.1)
          have hq2 := quote_size hxe.2.2.2
          have hdd := digs_size rv (by omega) (by omega)
          have hks := key_size hxe.2.2.1
          have hR0 := lines_take (i := k) HG.out hN c.key
          have HLN : Hid (lineB x = ⟨(quoteL x.key).toArray⟩ ++ ⟨#[61]⟩ ++ digs rv ++ ⟨#[58]⟩ ++ ⟨(quoteL x.val).toArray⟩) := Lib.hid (by unfold lineB; rw [hrv])
          have QK := Lib.hid (fun W => refQuote_any x.key W (by omega))
          have QV := Lib.hid (fun W => refQuote_any x.val W (by have := hxe.2.2.2; omega))
          have QD := Lib.hid (fun W => text_any rv W hrv2)
          obtain ⟨Q1, hQ1⟩ : ∃ Q1, Q1 = (⟨(quoteL x.key).toArray⟩ : ByteArray) := ⟨_, rfl⟩
          obtain ⟨Q2, hQ2⟩ : ∃ Q2, Q2 = (⟨(quoteL x.val).toArray⟩ : ByteArray) := ⟨_, rfl⟩
          obtain ⟨DD, hDD⟩ : ∃ DD, DD = digs rv := ⟨_, rfl⟩
          rw [← hQ1] at hq1 HLN QK
          rw [← hQ2] at hq2 HLN QV
          rw [← hDD] at hdd HLN QD
          have HRV := Lib.hid hrv
          rw [hrv] at x2
          obtain ⟨L0, hL0⟩ : ∃ L0, L0 = linesB (A.take k) c.key := ⟨_, rfl⟩
          rw [← hL0] at HL2 hR0
          have hfb : FindB c w b9 (joinB L0) (L0.length : Nat) wr := by rw [hL0]; exact HF.out
          obtain ⟨m, hm⟩ : ∃ m : Int, m = (L0.length : Nat) := ⟨_, rfl⟩
          obtain ⟨R0, hRR⟩ : ∃ R0, R0 = joinB L0 := ⟨_, rfl⟩
          rw [← hm, ← hRR] at hfb
          rw [← hRR] at hR0
          have hll : L0.length ≤ 100000 := by rw [hL0]; have h1 := lines_len (A.take k) c.key; have h2 := List.length_take_le k A; have h3 := HG.out.len; omega
          have hm0 : 0 ≤ m := by omega
          have hm1 : m ≤ 100000 := by omega
          have HJ := Lib.hid (joinB_snoc L0 (lineB x))
          have HM := Lib.hid hm
          have HR := Lib.hid hRR
          have HFB := Lib.hid hfb
          clear hx hbg hxm hrv hxe hQ1 hQ2 hDD hL0 hfb hm hRR HF hks
          go_wp2_with fail
          go_quiet ((go_at_call 24; exact Calls.quiet_of_same ((HBG.out _).mono fun e w' h => ⟨h.1, h.2.symm⟩)))
          obtain ⟨w2, hw2⟩ : ∃ w2, w2 = wr.drewN nq := ⟨_, rfl⟩
          rw [← hw2]
          have HFB : Hid (FindB c w b9 R0 m w2) := Lib.hid (by rw [hw2]; exact HFB.out.drewN nq)
          clear hw2 x0 x1 x2 c0 c1 c2 c3 c4 c5 hgl
          obtain ⟨⟨e0, e1, e2⟩, fe, se⟩ := box3 HFB.out.bx
          by_cases hn : 0 < m
          · have HREL : Hid (joinB (L0 ++ [lineB x]) = R0 ++ ⟨#[32]⟩ ++ Q1 ++ ⟨#[61]⟩ ++ DD ++ ⟨#[58]⟩ ++ Q2) := Lib.hid (by
              rw [HJ.out, if_neg (by intro h; have := HM.out; rw [h] at this; simp at this; omega), HLN.out, ← HR.out]
              simp only [ByteArray.append_assoc]
              rfl)
            go_wp2_with fail
            obtain ⟨R1, hR1⟩ : ∃ R1, R1 = R0 ++ (⟨#[32]⟩ : ByteArray) := ⟨_, rfl⟩
            have hR1s : R1.size ≤ 2000000001 := by rw [hR1, ByteArray.size_append]; have e : (⟨#[32]⟩ : ByteArray).size = 1 := rfl; omega
            rw [← hR1] at HREL ⊢
            clear hR1
            obtain ⟨wX, hwX⟩ : ∃ wX, wX = w2.setCell ⟨b9, 1, none⟩ (.string R1) := ⟨_, rfl⟩
            rw [← hwX]
            have HFX : Hid (FindB c w b9 R1 m wX) := Lib.hid (by rw [hwX]; exact HFB.out.setR)
            clear hwX e0 e1 e2 fe se hR0
            obtain ⟨_, _, e9, hgl, x0, x1, x2⟩ := (HSV.out.below HFX.out.at_.bel).row k x HX.out
            cases e9
            rw [HRV.out] at x2
            obtain ⟨⟨_, e1, e2⟩, fe, _⟩ := box3 HFX.out.bx
            have hb9 : b9 < wX.heap.size := M.heap_lt HFX.out.bx
            have k0 := Kin.cell x0
            have k1 := Kin.cell x1
            have k2 := Kin.cell x2
            have k3 := Kin.cell e1
            have k4 := Kin.cell e2
            have k5 : ∀ (y : Kin wX) (o : Nat), y.w.frozen? ⟨b9, o, none⟩ = false := fun y o => (y.h.frozen (p := ⟨b9, o, none⟩) hb9).trans (fe o)
            clear x0 x1 x2 e1 e2 fe
            refine wp_region_kin_tail 26 (by kernel_rfl) (by kernel_rfl) ?_
            simp only [List.take_succ_cons, List.take_zero, List.drop_succ_cons, List.drop_zero]
            repeat (go_big_quiet_step ((first | (go_at_call 25; with_reducible exact Kin.call _ (QK.out _)) | (go_at_call 25; with_reducible exact Kin.call _ (QV.out _)) | (go_at_call 26; with_reducible exact Kin.call _ (QD.out _)))))
            refine wpQuiet_nil ?_
            intro _ hx
            obtain ⟨xk, rfl⟩ := hx
            go_wp2_with fail
            go_roundw
            case rel => exact ⟨k + 1, by go_num, by omega, by
              unfold FindAt
              rw [HL2.out, HREL.out, List.length_append, show ((L0.length + [lineB x].length : Nat) : Int) = m + 1 by rw [HM.out]; simp]
              exact ((HFX.out.next xk.h).setR).setM⟩
            case measure => simp [intOf]; omega
          · have HREL : Hid (joinB (L0 ++ [lineB x]) = R0 ++ Q1 ++ ⟨#[61]⟩ ++ DD ++ ⟨#[58]⟩ ++ Q2) := Lib.hid (by
              have h0 : L0 = [] := by
                have := HM.out
                have h2 : L0.length = 0 := by omega
                exact List.eq_nil_of_length_eq_zero h2
              rw [HJ.out, if_pos h0, HLN.out, HR.out, h0]
              rw [show joinB [] = ByteArray.empty from rfl, ByteArray.empty_append])
            go_wp2_with fail
            obtain ⟨R1, hR1⟩ : ∃ R1, R1 = R0 := ⟨_, rfl⟩
            have hR1s : R1.size ≤ 2000000001 := by rw [hR1]; omega
            obtain ⟨wX, hwX⟩ : ∃ wX, wX = w2 := ⟨_, rfl⟩
            rw [← hR1] at HREL
            rw [← hwX]
            have HFX : Hid (FindB c w b9 R1 m wX) := Lib.hid (by rw [hwX, hR1]; exact HFB.out)
            clear hwX hR1 e0 e1 e2 fe se hR0
            obtain ⟨_, _, e9, hgl, x0, x1, x2⟩ := (HSV.out.below HFX.out.at_.bel).row k x HX.out
            cases e9
            rw [HRV.out] at x2
            obtain ⟨⟨_, e1, e2⟩, fe, _⟩ := box3 HFX.out.bx
            have hb9 : b9 < wX.heap.size := M.heap_lt HFX.out.bx
            have k0 := Kin.cell x0
            have k1 := Kin.cell x1
            have k2 := Kin.cell x2
            have k3 := Kin.cell e1
            have k4 := Kin.cell e2
            have k5 : ∀ (y : Kin wX) (o : Nat), y.w.frozen? ⟨b9, o, none⟩ = false := fun y o => (y.h.frozen (p := ⟨b9, o, none⟩) hb9).trans (fe o)
            clear x0 x1 x2 e1 e2 fe
            refine wp_region_kin_tail 26 (by kernel_rfl) (by kernel_rfl) ?_
            simp only [List.take_succ_cons, List.take_zero, List.drop_succ_cons, List.drop_zero]
            repeat (go_big_quiet_step ((first | (go_at_call 25; with_reducible exact Kin.call _ (QK.out _)) | (go_at_call 25; with_reducible exact Kin.call _ (QV.out _)) | (go_at_call 26; with_reducible exact Kin.call _ (QD.out _)))))
            refine wpQuiet_nil ?_
            intro _ hx
            obtain ⟨xk, rfl⟩ := hx
            go_wp2_with fail
            go_roundw
            case rel => exact ⟨k + 1, by go_num, by omega, by
              unfold FindAt
              rw [HL2.out, HREL.out, List.length_append, show ((L0.length + [lineB x].length : Nat) : Int) = m + 1 by rw [HM.out]; simp]
              exact ((HFX.out.next xk.h).setR).setM⟩
            case measure => simp [intOf]; omega
      · obtain rfl : k = A.length := by omega
        have hli : ¬ (A.length : Int) < (A.length : Int) := by omega
        have hf := HF.out
        unfold FindAt at hf
        rw [List.take_of_length_le (Nat.le_refl _)] at hf
        obtain ⟨RR, hRR⟩ : ∃ RR, RR = joinB (linesB A c.key) := ⟨_, rfl⟩
        obtain ⟨mm, hmm⟩ : ∃ mm : Int, mm = ((linesB A c.key).length : Nat) := ⟨_, rfl⟩
        rw [← hRR, ← hmm] at hf HV
        obtain ⟨⟨d0, d1, d2⟩, fd, sd⟩ := box3 hf.at_.rb
        obtain ⟨⟨e0, e1, e2⟩, _, _⟩ := box3 hf.bx
        have HF := Lib.hid hf
        have HD := Lib.hid hf.at_
        clear hf hRR hmm
        go_wp2_with fail
        go_still_tail 3, (by kernel_rfl)
        go_wp2_with fail
        refine ret_box (w.heap.size + 1) #[.int .i64 0, .string RR, .int .i64 mm] 33 (.tuple #[.slice ao A.length cap, .agg #[.int .i64 0, .string RR, .int .i64 mm]]) ?_ (fun W' h => ?_) rfl ?_
        · exact set3 HD.out.rb
        · obtain ⟨⟨r0, r1, r2⟩, _, _⟩ := box3 h
          simp [results, Tryz.results12, go_sem, r0, r1, r2]
        · exact DoPost.mk HV.out (HSV.out.below (set3_below (by omega) HD.out.bel).drew) (set3_below (by omega) HD.out.bel).drew
/-- THE CONTRACT OF THE REFERENCE's Do. -/
def RefDone (A : List Ent) (c : Cmd) (w : World) (e : Ending) (w' : World) : Prop :=
  ∃ oo oc, e = .returned (.tuple #[.slice oo (appDo A c).1.length oc, repV (appDo A c).2]) ∧ SetsV w' oo oc (appDo A c).1 ∧ Below w.heap.size w w'
theorem refdo_any (A : List Ent) (ao : Option Addr) (cap : Nat) (c : Cmd) (w : World) (h : SetsV w ao cap A) (N : Nat) (hg : Good N A) (hN : N ≤ 100000) (hs : c.key.size ≤ 1000000) :
    Calls Tryz.prog 12 #[.slice ao A.length cap, cmdV c] w (RefDone A c w) := by
  by_cases hz : chk c = 0
  · have he : appDo A c = act A c := by unfold appDo; rw [if_pos hz]
    have key : Calls Tryz.prog 12 #[.slice ao A.length cap, cmdV c] w (DoPost A c w) := by
      have hk := formBad_kind (chk_good hz).1
      rcases (by omega : c.kind = 0 ∨ c.kind = 1 ∨ c.kind = 2 ∨ c.kind = 3 ∨ c.kind = 4 ∨ c.kind = 5 ∨ c.kind = 6) with k | k | k | k | k | k | k
      · exact refdo_none0 A ao cap c w h N hg hN hs hz k trivial
      · cases hl : look A c.key with
        | none => exact refdo_get0 A ao cap c w h N hg hN hs hz k hl
        | some x => exact refdo_get1 A ao cap c w h N hg hN hs hz k x hl
      · exact refdo_put A ao cap c w h N hg hN hs hz k trivial
      · cases hl : look A c.key with
        | none => exact refdo_del0 A ao cap c w h N hg hN hs hz k hl
        | some x => exact refdo_del1 A ao cap c w h N hg hN hs hz k x hl
      · by_cases hr : revOf A c.key = c.rev
        · exact refdo_cas1 A ao cap c w h N hg hN hs hz k hr
        · exact refdo_cas0 A ao cap c w h N hg hN hs hz k hr
      · exact refdo_find A ao cap c w h N hg hN hs hz k trivial
      · exact refdo_none6 A ao cap c w h N hg hN hs hz k trivial
    refine key.mono fun e w' hh => ?_
    unfold RefDone
    rw [he]
    exact hh
  · have he : appDo A c = (A, ⟨chk c, nul, 0⟩) := by unfold appDo; rw [if_neg hz]
    refine (refdo_bad A ao cap c w h hs _ rfl hz).mono fun e w' hh => ?_
    unfold RefDone
    rw [he]
    exact ⟨ao, cap, hh.1, h.below hh.2, hh.2⟩
end Go.Proofs.YtpeiamllkddhiaaGreatDoor.P
