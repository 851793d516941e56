/- The document's sessions: Do, where nothing is done anew. -/
import Derived.Test.YtpeiamllkddhiaaGreatDoorSesA
import Derived.BigQuiet
import Derived.Deep.QuietTactic
namespace Go.Proofs.YtpeiamllkddhiaaGreatDoor.P
open Go.RowKit Go.Proofs.YtpeiamllkddhiaaGreatDoor.R Go.Proofs.YtpeiamllkddhiaaGreatDoor.M Go.BigFrame
set_option linter.unusedVariables false
set_option linter.unusedSimpArgs false

/-- the boxes of the call: the sessions, the command, what is done -/
structure RDo (oa : Option Addr) (la ca : Nat) (oc : Option Addr) (lc cc : Nat) (c : Cmd) (w wx : World) : Prop where
  bel : Below w.heap.size w wx
  sb : wx.heap[w.heap.size]? = some (.cells #[.slice oa la ca, .slice oc lc cc] 30 (0, 0))
  cb : wx.heap[w.heap.size + 1]? = some (cmdO c)
  db : wx.heap[w.heap.size + 2]? = some (.cells #[.slice none 0 0, .slice none 0 0, .int .i64 0, .string ⟨#[]⟩, .int .i64 0, .bool false] 35 (0, 0))
theorem RDo.next {oa oc : Option Addr} {la ca lc cc : Nat} {c : Cmd} {w w1 w2 : World} (h : RDo oa la ca oc lc cc c w w1) (hb : Below w1.heap.size w1 w2) : RDo oa la ca oc lc cc c w w2 :=
  ⟨h.bel.trans (hb.mono h.bel.size), (hb.block _ (M.heap_lt h.sb)).trans h.sb, (hb.block _ (M.heap_lt h.cb)).trans h.cb, (hb.block _ (M.heap_lt h.db)).trans h.db⟩
theorem rdo_start (oa : Option Addr) (la ca : Nat) (oc : Option Addr) (lc cc : Nat) (c : Cmd) (w : World) :
    RDo oa la ca oc lc cc c w (((w.alloc (.cells #[.slice oa la ca, .slice oc lc cc] 30)).alloc (cmdO c)).alloc (.cells #[.slice none 0 0, .slice none 0 0, .int .i64 0, .string ⟨#[]⟩, .int .i64 0, .bool false] 35)) := by
  refine ⟨(((Below.refl _ _).alloc (Nat.le_refl _) _).alloc (by simp) _).alloc (by simp; omega) _, ?_, ?_, ?_⟩
  · rw [heap_al, if_neg (by simp; omega), heap_al, if_neg (by simp), heap_alloc_new]
  · rw [heap_al, if_neg (by simp), heap_al, if_pos (by simp)]
  · rw [heap_al, if_pos (by simp)]
/-- what the document's Do leaves -/
def SPost (S2 : Ses) (R : Rep) (F : Bool) (w : World) (e : Ending) (w' : World) : Prop :=
  ∃ oa ca oc cc, e = .returned (.agg #[.slice oa S2.A.length ca, .slice oc S2.C.length cc, .int .i64 R.code, .string R.val, .int .i64 R.rev, .bool F]) ∧ SetsV w' oa ca S2.A ∧ LstV w' oc cc S2.C ∧ Below w.heap.size w w'
set_option maxRecDepth 100000 in
set_option maxHeartbeats 2000000 in
theorem sref_bad (S : Ses) (oa oc : Option Addr) (ca cc : Nat) (c : Cmd) (w : World) (hA : SetsV w oa ca S.A) (hC : LstV w oc cc S.C) (hs : c.key.size ≤ 1000000) (v : Int) (hv : chk c = v) (h0 : v ≠ 0) : Calls Tryz.prog 8 #[.agg #[.slice oa S.A.length ca, .slice oc S.C.length cc], cmdV c] w (SPost S ⟨v, nul, 0⟩ false w) := by
  have HCK := Lib.hid (fun W => refcheck_v c W hs v hv)
  have e0 : (v != 0) = true := by rw [bne_iff_ne]; exact h0
  clear hv h0
  have HA := Lib.hid hA
  have HC := Lib.hid hC
  clear hA hC
  go_enter Tryz.func8, Tryz.ntmps8
  go_upto_region 1 with fail
  obtain ⟨W, hW⟩ : ∃ W, W = ((w.alloc (.cells #[.slice oa S.A.length ca, .slice oc S.C.length cc] 30)).alloc (cmdO c)).alloc (.cells #[.slice none 0 0, .slice none 0 0, .int .i64 0, .string ⟨#[]⟩, .int .i64 0, .bool false] 35) := ⟨_, rfl⟩
  rw [← hW]
  have HD : Hid (RDo oa S.A.length ca oc S.C.length cc c w W) := Lib.hid (by rw [hW]; exact rdo_start oa S.A.length ca oc S.C.length cc c w)
  clear hW
  obtain ⟨⟨c0, c1, c2, c3, c4, c5⟩, _⟩ := box6 HD.out.cb
  go_wp2_with fail
  refine (HCK.out _).mono ?_
  rintro e w1 ⟨rfl, hb1⟩
  have HD1 := Lib.hid (HD.out.next hb1)
  clear c0 c1 c2 c3 c4 c5 hb1 HD
  obtain ⟨⟨c0, c1, c2, c3, c4, c5⟩, _⟩ := box6 HD1.out.cb
  obtain ⟨s0, s1⟩ := boxS HD1.out.sb
  obtain ⟨⟨d0, d1, d2, d3, d4, d5⟩, fd⟩ := box6 HD1.out.db
  go_wp2_with fail
  refine ret_box (w.heap.size + 2) #[.slice oa S.A.length ca, .slice oc S.C.length cc, .int .i64 v, .string nul, .int .i64 0, .bool false] 35 (.agg #[.slice oa S.A.length ca, .slice oc S.C.length cc, .int .i64 v, .string nul, .int .i64 0, .bool false]) ?_ (fun W' h => ?_) rfl ?_
  · exact set6 HD1.out.db
  · obtain ⟨⟨r0, r1, r2, r3, r4, r5⟩, _⟩ := box6 h
    simp [results, Tryz.results8, go_sem, r0, r1, r2, r3, r4, r5]
  · exact ⟨oa, ca, oc, cc, rfl, HA.out.below (set6_below (by omega) HD1.out.bel), HC.out.below (set6_below (by omega) HD1.out.bel), set6_below (by omega) HD1.out.bel⟩
set_option maxRecDepth 100000 in
set_option maxHeartbeats 2000000 in
theorem sref_none (S : Ses) (oa oc : Option Addr) (ca cc : Nat) (c : Cmd) (w : World) (hA : SetsV w oa ca S.A) (hC : LstV w oc cc S.C) (hs : c.key.size ≤ 1000000) (hv : chk c = 0) (h0 : bare c = true) : Calls Tryz.prog 8 #[.agg #[.slice oa S.A.length ca, .slice oc S.C.length cc], cmdV c] w (SPost S Rep.zero false w) := by
  have HCK := Lib.hid (fun W => refcheck_v c W hs 0 hv)
  have hb : ((c.kind == 0) || (c.kind == 6)) = true := by rw [← h0]; unfold bare; rw [dec_beq, dec_beq]
  obtain ⟨k0, hk0⟩ : ∃ b, b = (c.kind == 0) := ⟨_, rfl⟩
  obtain ⟨k6, hk6⟩ : ∃ b, b = (c.kind == 6) := ⟨_, rfl⟩
  rw [← hk0, ← hk6] at hb
  have e0 := hk0.symm
  have e6 := hk6.symm
  clear hv h0 hk0 hk6
  cases k0 with
  | true =>
    clear hb
    have HA := Lib.hid hA
    have HC := Lib.hid hC
    clear hA hC
    go_enter Tryz.func8, Tryz.ntmps8
    go_upto_region 1 with fail
    obtain ⟨W, hW⟩ : ∃ W, W = ((w.alloc (.cells #[.slice oa S.A.length ca, .slice oc S.C.length cc] 30)).alloc (cmdO c)).alloc (.cells #[.slice none 0 0, .slice none 0 0, .int .i64 0, .string ⟨#[]⟩, .int .i64 0, .bool false] 35) := ⟨_, rfl⟩
    rw [← hW]
    have HD : Hid (RDo oa S.A.length ca oc S.C.length cc c w W) := Lib.hid (by rw [hW]; exact rdo_start oa S.A.length ca oc S.C.length cc c w)
    clear hW
    obtain ⟨⟨c0, c1, c2, c3, c4, c5⟩, _⟩ := box6 HD.out.cb
    go_wp2_with fail
    refine (HCK.out _).mono ?_
    rintro e w1 ⟨rfl, hb1⟩
    have HD1 := Lib.hid (HD.out.next hb1)
    clear c0 c1 c2 c3 c4 c5 hb1 HD
    obtain ⟨⟨c0, c1, c2, c3, c4, c5⟩, _⟩ := box6 HD1.out.cb
    obtain ⟨s0, s1⟩ := boxS HD1.out.sb
    obtain ⟨⟨d0, d1, d2, d3, d4, d5⟩, fd⟩ := box6 HD1.out.db
    go_wp2_with fail
    refine ret_box (w.heap.size + 2) #[.slice oa S.A.length ca, .slice oc S.C.length cc, .int .i64 0, .string nul, .int .i64 0, .bool false] 35 (.agg #[.slice oa S.A.length ca, .slice oc S.C.length cc, .int .i64 0, .string nul, .int .i64 0, .bool false]) ?_ (fun W' h => ?_) rfl ?_
    · exact set6 HD1.out.db
    · obtain ⟨⟨r0, r1, r2, r3, r4, r5⟩, _⟩ := box6 h
      simp [results, Tryz.results8, go_sem, r0, r1, r2, r3, r4, r5]
    · exact ⟨oa, ca, oc, cc, rfl, HA.out.below (set6_below (by omega) HD1.out.bel), HC.out.below (set6_below (by omega) HD1.out.bel), set6_below (by omega) HD1.out.bel⟩
  | false =>
    obtain rfl : k6 = true := by simpa using hb
    clear hb
    have HA := Lib.hid hA
    have HC := Lib.hid hC
    clear hA hC
    go_enter Tryz.func8, Tryz.ntmps8
    go_upto_region 1 with fail
    obtain ⟨W, hW⟩ : ∃ W, W = ((w.alloc (.cells #[.slice oa S.A.length ca, .slice oc S.C.length cc] 30)).alloc (cmdO c)).alloc (.cells #[.slice none 0 0, .slice none 0 0, .int .i64 0, .string ⟨#[]⟩, .int .i64 0, .bool false] 35) := ⟨_, rfl⟩
    rw [← hW]
    have HD : Hid (RDo oa S.A.length ca oc S.C.length cc c w W) := Lib.hid (by rw [hW]; exact rdo_start oa S.A.length ca oc S.C.length cc c w)
    clear hW
    obtain ⟨⟨c0, c1, c2, c3, c4, c5⟩, _⟩ := box6 HD.out.cb
    go_wp2_with fail
    refine (HCK.out _).mono ?_
    rintro e w1 ⟨rfl, hb1⟩
    have HD1 := Lib.hid (HD.out.next hb1)
    clear c0 c1 c2 c3 c4 c5 hb1 HD
    obtain ⟨⟨c0, c1, c2, c3, c4, c5⟩, _⟩ := box6 HD1.out.cb
    obtain ⟨s0, s1⟩ := boxS HD1.out.sb
    obtain ⟨⟨d0, d1, d2, d3, d4, d5⟩, fd⟩ := box6 HD1.out.db
    go_wp2_with fail
    refine ret_box (w.heap.size + 2) #[.slice oa S.A.length ca, .slice oc S.C.length cc, .int .i64 0, .string nul, .int .i64 0, .bool false] 35 (.agg #[.slice oa S.A.length ca, .slice oc S.C.length cc, .int .i64 0, .string nul, .int .i64 0, .bool false]) ?_ (fun W' h => ?_) rfl ?_
    · exact set6 HD1.out.db
    · obtain ⟨⟨r0, r1, r2, r3, r4, r5⟩, _⟩ := box6 h
      simp [results, Tryz.results8, go_sem, r0, r1, r2, r3, r4, r5]
    · exact ⟨oa, ca, oc, cc, rfl, HA.out.below (set6_below (by omega) HD1.out.bel), HC.out.below (set6_below (by omega) HD1.out.bel), set6_below (by omega) HD1.out.bel⟩
set_option maxRecDepth 100000 in
set_option maxHeartbeats 2000000 in
theorem sref_same (S : Ses) (oa oc : Option Addr) (ca cc : Nat) (c : Cmd) (w : World) (hA : SetsV w oa ca S.A) (hC : LstV w oc cc S.C) (hs : c.key.size ≤ 1000000) (hv : chk c = 0) (h0 : bare c = false) (j : Nat) (x : Lst) (i : Int) (hi : atC S.C c.client = i) (hij : i = (j : Int)) (hj : S.C[j]? = some x) (hq : x.seq = c.seq) : Calls Tryz.prog 8 #[.agg #[.slice oa S.A.length ca, .slice oc S.C.length cc], cmdV c] w (SPost S x.rep false w) := by
  subst hij
  have HJ := Lib.hid hj
  have hjl := (List.getElem?_eq_some_iff.1 hj).1
  have hji : (j : Int) < (S.C.length : Int) := by omega
  have hj0 : (0 : Int) ≤ (j : Int) := by omega
  obtain ⟨hle1, hle2⟩ := hC.le
  unfold maxLen at hle2
  clear hj
  have HQ := Lib.hid (show (x.seq == c.seq) = true by rw [beq_iff_eq]; exact hq)
  clear hq
  have HCK := Lib.hid (fun W => refcheck_v c W hs 0 hv)
  have HK0 := Lib.hid (show (c.kind == 0) = false by rw [← dec_beq]; unfold bare at h0; exact (Bool.or_eq_false_iff.1 h0).1)
  have HK6 := Lib.hid (show (c.kind == 6) = false by rw [← dec_beq]; unfold bare at h0; exact (Bool.or_eq_false_iff.1 h0).2)
  have HI := Lib.hid hi
  clear hv h0 hi
  have HA := Lib.hid hA
  have HC := Lib.hid hC
  clear hA hC
  go_enter Tryz.func8, Tryz.ntmps8
  go_upto_region 1 with fail
  obtain ⟨W, hW⟩ : ∃ W, W = ((w.alloc (.cells #[.slice oa S.A.length ca, .slice oc S.C.length cc] 30)).alloc (cmdO c)).alloc (.cells #[.slice none 0 0, .slice none 0 0, .int .i64 0, .string ⟨#[]⟩, .int .i64 0, .bool false] 35) := ⟨_, rfl⟩
  rw [← hW]
  have HD : Hid (RDo oa S.A.length ca oc S.C.length cc c w W) := Lib.hid (by rw [hW]; exact rdo_start oa S.A.length ca oc S.C.length cc c w)
  clear hW
  obtain ⟨⟨c0, c1, c2, c3, c4, c5⟩, _⟩ := box6 HD.out.cb
  go_wp2_with fail
  refine (HCK.out _).mono ?_
  rintro e w1 ⟨rfl, hb1⟩
  have HD1 := Lib.hid (HD.out.next hb1)
  clear c0 c1 c2 c3 c4 c5 hb1 HD
  obtain ⟨⟨c0, c1, c2, c3, c4, c5⟩, _⟩ := box6 HD1.out.cb
  have e0 := HK0.out
  have e6 := HK6.out
  obtain ⟨s0, s1⟩ := boxS HD1.out.sb
  go_wp2_with fail
  refine (sat_any S.C oa oc S.A.length ca cc c.client w1 (HC.out.below HD1.out.bel) _ HI.out).mono ?_
  rintro e w2 ⟨rfl, hb2⟩
  have HD2 := Lib.hid (HD1.out.next hb2)
  clear c0 c1 c2 c3 c4 c5 s0 s1 e0 e6 hb2
  go_upto_region 7 with fail
  obtain ⟨b, off, rfl, hbl, l0, l1, l2, l3, l4⟩ := HC.out.row j x HJ.out
  have HLC := Lib.hid (fun (wx : World) (h : Below w.heap.size w wx) => (show (wx.cell? ⟨b, off + j * 5, none⟩ = some (.int .i64 x.client) ∧ wx.cell? ⟨b, off + j * 5 + 1, none⟩ = some (.int .i64 x.seq)) ∧ wx.cell? ⟨b, off + j * 5 + 1, none⟩ = some (.int .i64 x.seq) ∧ wx.cell? ⟨b, off + j * 5 + 2, none⟩ = some (.int .i64 x.rep.code) ∧ wx.cell? ⟨b, off + j * 5 + 3, none⟩ = some (.string x.rep.val) ∧ wx.cell? ⟨b, off + j * 5 + 4, none⟩ = some (.int .i64 x.rep.rev) from
    ⟨⟨(h.cell (p := ⟨b, _, none⟩) hbl).trans l0, (h.cell (p := ⟨b, _, none⟩) hbl).trans l1⟩, (h.cell (p := ⟨b, _, none⟩) hbl).trans l1, (h.cell (p := ⟨b, _, none⟩) hbl).trans l2, (h.cell (p := ⟨b, _, none⟩) hbl).trans l3, (h.cell (p := ⟨b, _, none⟩) hbl).trans l4⟩))
  clear l0 l1 l2 l3 l4
  obtain ⟨⟨l0, l1⟩, _⟩ := HLC.out _ HD2.out.bel
  obtain ⟨⟨_, _, c2, _, _, _⟩, _⟩ := box6 HD2.out.cb
  have k0 := Kin.cell (boxS HD2.out.sb).2
  have k1 := Kin.cell l1
  have k2 := Kin.cell c2
  clear l0 l1 c2
  have e1 := HQ.out
  refine wp_region_kin (by kernel_rfl) (by kernel_rfl) ?_
  repeat (go_big_quiet_step (fail))
  refine wpQuiet_nil ?_
  intro _ hxx
  obtain ⟨xk, rfl⟩ := hxx
  obtain ⟨w3, hw⟩ : ∃ x, x = xk.w := ⟨_, rfl⟩
  have HD3 := Lib.hid (HD2.out.next (w2 := w3) (by rw [hw]; exact xk.h))
  rw [← hw]
  clear hw
  clear k0 k1 k2 e1
  go_upto_region 8 with fail
  obtain ⟨_, _, l2, l3, l4⟩ := HLC.out _ HD3.out.bel
  have k0 := Kin.cell (boxS HD3.out.sb).1
  have k1 := Kin.cell (boxS HD3.out.sb).2
  have k2 := Kin.cell l2
  have k3 := Kin.cell l3
  have k4 := Kin.cell l4
  clear l2 l3 l4
  refine wp_region_kin_tail 8 (by kernel_rfl) (by kernel_rfl) ?_
  simp only [List.take_succ_cons, List.take_zero, List.drop_succ_cons, List.drop_zero]
  repeat (go_big_quiet_step (fail))
  refine wpQuiet_nil ?_
  intro _ hxx
  obtain ⟨xk, rfl⟩ := hxx
  obtain ⟨w4, hw⟩ : ∃ x, x = xk.w := ⟨_, rfl⟩
  have HD4 := Lib.hid (HD3.out.next (w2 := w4) (by rw [hw]; exact xk.h))
  rw [← hw]
  clear hw k0 k1 k2 k3 k4
  obtain ⟨⟨d0, d1, d2, d3, d4, d5⟩, fd⟩ := box6 HD4.out.db
  go_wp2_with fail
  refine ret_box (w.heap.size + 2) #[.slice oa S.A.length ca, .slice (some ⟨b, off, none⟩) S.C.length cc, .int .i64 x.rep.code, .string x.rep.val, .int .i64 x.rep.rev, .bool false] 35 (.agg #[.slice oa S.A.length ca, .slice (some ⟨b, off, none⟩) S.C.length cc, .int .i64 x.rep.code, .string x.rep.val, .int .i64 x.rep.rev, .bool false]) ?_ (fun W' h => ?_) rfl ?_
  · exact set6 HD4.out.db
  · obtain ⟨⟨r0, r1, r2, r3, r4, r5⟩, _⟩ := box6 h
    simp [results, Tryz.results8, go_sem, r0, r1, r2, r3, r4, r5]
  · exact ⟨oa, ca, some ⟨b, off, none⟩, cc, rfl, HA.out.below (set6_below (by omega) HD4.out.bel), HC.out.below (set6_below (by omega) HD4.out.bel), set6_below (by omega) HD4.out.bel⟩
set_option maxRecDepth 100000 in
set_option maxHeartbeats 2000000 in
theorem sref_old (S : Ses) (oa oc : Option Addr) (ca cc : Nat) (c : Cmd) (w : World) (hA : SetsV w oa ca S.A) (hC : LstV w oc cc S.C) (hs : c.key.size ≤ 1000000) (hv : chk c = 0) (h0 : bare c = false) (j : Nat) (x : Lst) (i : Int) (hi : atC S.C c.client = i) (hij : i = (j : Int)) (hj : S.C[j]? = some x) (hq : c.seq < x.seq) : Calls Tryz.prog 8 #[.agg #[.slice oa S.A.length ca, .slice oc S.C.length cc], cmdV c] w (SPost S ⟨14, nul, 0⟩ false w) := by
  subst hij
  have HJ := Lib.hid hj
  have hjl := (List.getElem?_eq_some_iff.1 hj).1
  have hji : (j : Int) < (S.C.length : Int) := by omega
  have hj0 : (0 : Int) ≤ (j : Int) := by omega
  obtain ⟨hle1, hle2⟩ := hC.le
  unfold maxLen at hle2
  clear hj
  have HQ := Lib.hid (show (x.seq == c.seq) = false by rw [beq_eq_false_iff_ne]; omega)
  have HQ2 := Lib.hid hq
  clear hq
  have HCK := Lib.hid (fun W => refcheck_v c W hs 0 hv)
  have HK0 := Lib.hid (show (c.kind == 0) = false by rw [← dec_beq]; unfold bare at h0; exact (Bool.or_eq_false_iff.1 h0).1)
  have HK6 := Lib.hid (show (c.kind == 6) = false by rw [← dec_beq]; unfold bare at h0; exact (Bool.or_eq_false_iff.1 h0).2)
  have HI := Lib.hid hi
  clear hv h0 hi
  have HA := Lib.hid hA
  have HC := Lib.hid hC
  clear hA hC
  go_enter Tryz.func8, Tryz.ntmps8
  go_upto_region 1 with fail
  obtain ⟨W, hW⟩ : ∃ W, W = ((w.alloc (.cells #[.slice oa S.A.length ca, .slice oc S.C.length cc] 30)).alloc (cmdO c)).alloc (.cells #[.slice none 0 0, .slice none 0 0, .int .i64 0, .string ⟨#[]⟩, .int .i64 0, .bool false] 35) := ⟨_, rfl⟩
  rw [← hW]
  have HD : Hid (RDo oa S.A.length ca oc S.C.length cc c w W) := Lib.hid (by rw [hW]; exact rdo_start oa S.A.length ca oc S.C.length cc c w)
  clear hW
  obtain ⟨⟨c0, c1, c2, c3, c4, c5⟩, _⟩ := box6 HD.out.cb
  go_wp2_with fail
  refine (HCK.out _).mono ?_
  rintro e w1 ⟨rfl, hb1⟩
  have HD1 := Lib.hid (HD.out.next hb1)
  clear c0 c1 c2 c3 c4 c5 hb1 HD
  obtain ⟨⟨c0, c1, c2, c3, c4, c5⟩, _⟩ := box6 HD1.out.cb
  have e0 := HK0.out
  have e6 := HK6.out
  obtain ⟨s0, s1⟩ := boxS HD1.out.sb
  go_wp2_with fail
  refine (sat_any S.C oa oc S.A.length ca cc c.client w1 (HC.out.below HD1.out.bel) _ HI.out).mono ?_
  rintro e w2 ⟨rfl, hb2⟩
  have HD2 := Lib.hid (HD1.out.next hb2)
  clear c0 c1 c2 c3 c4 c5 s0 s1 e0 e6 hb2
  go_upto_region 7 with fail
  obtain ⟨b, off, rfl, hbl, l0, l1, l2, l3, l4⟩ := HC.out.row j x HJ.out
  have HLC := Lib.hid (fun (wx : World) (h : Below w.heap.size w wx) => (show (wx.cell? ⟨b, off + j * 5, none⟩ = some (.int .i64 x.client) ∧ wx.cell? ⟨b, off + j * 5 + 1, none⟩ = some (.int .i64 x.seq)) ∧ wx.cell? ⟨b, off + j * 5 + 1, none⟩ = some (.int .i64 x.seq) ∧ wx.cell? ⟨b, off + j * 5 + 2, none⟩ = some (.int .i64 x.rep.code) ∧ wx.cell? ⟨b, off + j * 5 + 3, none⟩ = some (.string x.rep.val) ∧ wx.cell? ⟨b, off + j * 5 + 4, none⟩ = some (.int .i64 x.rep.rev) from
    ⟨⟨(h.cell (p := ⟨b, _, none⟩) hbl).trans l0, (h.cell (p := ⟨b, _, none⟩) hbl).trans l1⟩, (h.cell (p := ⟨b, _, none⟩) hbl).trans l1, (h.cell (p := ⟨b, _, none⟩) hbl).trans l2, (h.cell (p := ⟨b, _, none⟩) hbl).trans l3, (h.cell (p := ⟨b, _, none⟩) hbl).trans l4⟩))
  clear l0 l1 l2 l3 l4
  obtain ⟨⟨l0, l1⟩, _⟩ := HLC.out _ HD2.out.bel
  obtain ⟨⟨_, _, c2, _, _, _⟩, _⟩ := box6 HD2.out.cb
  have k0 := Kin.cell (boxS HD2.out.sb).2
  have k1 := Kin.cell l1
  have k2 := Kin.cell c2
  clear l0 l1 c2
  have e1 := HQ.out
  refine wp_region_kin (by kernel_rfl) (by kernel_rfl) ?_
  repeat (go_big_quiet_step (fail))
  refine wpQuiet_nil ?_
  intro _ hxx
  obtain ⟨xk, rfl⟩ := hxx
  obtain ⟨w3, hw⟩ : ∃ x, x = xk.w := ⟨_, rfl⟩
  have HD3 := Lib.hid (HD2.out.next (w2 := w3) (by rw [hw]; exact xk.h))
  rw [← hw]
  clear hw
  clear k0 k1 k2 e1
  go_upto_region 9 with fail
  obtain ⟨l1, _⟩ := HLC.out _ HD3.out.bel
  obtain ⟨⟨_, _, c2, _, _, _⟩, _⟩ := box6 HD3.out.cb
  have k0 := Kin.cell (boxS HD3.out.sb).2
  have k1 := Kin.cell l1.2
  have k2 := Kin.cell c2
  have e2 := HQ2.out
  clear l1 c2
  refine wp_region_kin (by kernel_rfl) (by kernel_rfl) ?_
  repeat (go_big_quiet_step (fail))
  refine wpQuiet_nil ?_
  intro _ hxx
  obtain ⟨xk, rfl⟩ := hxx
  obtain ⟨w4, hw⟩ : ∃ x, x = xk.w := ⟨_, rfl⟩
  have HD4 := Lib.hid (HD3.out.next (w2 := w4) (by rw [hw]; exact xk.h))
  rw [← hw]
  clear hw
  clear k0 k1 k2 e2
  obtain ⟨s0, s1⟩ := boxS HD4.out.sb
  obtain ⟨⟨d0, d1, d2, d3, d4, d5⟩, fd⟩ := box6 HD4.out.db
  go_wp2_with fail
  refine ret_box (w.heap.size + 2) #[.slice oa S.A.length ca, .slice (some ⟨b, off, none⟩) S.C.length cc, .int .i64 14, .string nul, .int .i64 0, .bool false] 35 (.agg #[.slice oa S.A.length ca, .slice (some ⟨b, off, none⟩) S.C.length cc, .int .i64 14, .string nul, .int .i64 0, .bool false]) ?_ (fun W' h => ?_) rfl ?_
  · exact set6 HD4.out.db
  · obtain ⟨⟨r0, r1, r2, r3, r4, r5⟩, _⟩ := box6 h
    simp [results, Tryz.results8, go_sem, r0, r1, r2, r3, r4, r5]
  · exact ⟨oa, ca, some ⟨b, off, none⟩, cc, rfl, HA.out.below (set6_below (by omega) HD4.out.bel), HC.out.below (set6_below (by omega) HD4.out.bel), set6_below (by omega) HD4.out.bel⟩
end Go.Proofs.YtpeiamllkddhiaaGreatDoor.P
