/- Several texts in one. -/
import Derived.Test.YtkgjfagejnppbaaGreatDoorMrg29
import Derived.Deep.RegionHeld3
import Derived.Test.YtkgjfagejnppbaaGreatDoorCards
import Derived.Lib.LaidU8
import Derived.Lib.LaidTab
import Derived.LaidLaws
import Derived.PinnedBridge

/- Sessions: Do, Last. -/
namespace Go.Proofs.YtkgjfagejnppbaaGreatDoor.P
open Go.RowKit Go.Proofs.YtkgjfagejnppbaaGreatDoor.R Go.Proofs.YtkgjfagejnppbaaGreatDoor.M Go.BigFrame Go.Maps
set_option linter.unusedVariables false
set_option linter.unusedSimpArgs false

theorem box4 {w : World} {b : Nat} {v0 v1 v2 v3 : Value} {T : TypeId} (h : w.heap[b]? = some (.cells #[v0, v1, v2, v3] T (0, 0))) :
    w.cell? ⟨b, 0, none⟩ = some v0 ∧ w.cell? ⟨b, 1, none⟩ = some v1 ∧ w.cell? ⟨b, 2, none⟩ = some v2 ∧ w.cell? ⟨b, 3, none⟩ = some v3 :=
  ⟨cell_of_row w b 0 _ _ _ h, cell_of_row w b 1 _ _ _ h, cell_of_row w b 2 _ _ _ h, cell_of_row w b 3 _ _ _ h⟩
set_option maxRecDepth 100000 in
set_option maxHeartbeats 2000000 in
theorem sdo_bad (s : Nat) (c : Cmd) (w : World) (hT : TabsI w) (hs : c.key.size ≤ 1000000) (v : Int) (hv : chk c = v) (h0 : v ≠ 0) :
    Calls Tryz.prog 8 #[.pointer (some ⟨s, 0, none⟩), cmdV c] w fun e w' => e = .returned (.tuple #[repV (⟨v, nul, 0⟩ : Rep), .bool false]) ∧ Below w.heap.size w w' := by
  have HT := Lib.hid hT
  have HCK := Lib.hid (fun W (hT : Tabs W) => check_v c W hT hs v hv)
  have e0 : (v != 0) = true := by rw [bne_iff_ne]; exact h0
  clear hT hv h0
  go_enter Tryz.func8, Tryz.ntmps8
  go_upto_region 1 with fail
  obtain ⟨W, hW⟩ : ∃ W, W = (w.alloc (.cells (cmdA c) 30)).alloc (.cells #[.int .i64 0, .string ⟨#[]⟩, .int .i64 0] 33) := ⟨_, rfl⟩
  rw [← hW]
  have HD : Hid (DoAt c w W) := Lib.hid (by rw [hW]; exact doAt_start c w)
  clear hW
  obtain ⟨⟨c0, c1, c2, c3, c4, c5⟩, _⟩ := box6 HD.out.cb
  have HTW := Lib.hid (HT.out.next HD.out.bel)
  go_wp2_with fail
  refine (HCK.out _ HTW.out.t).mono ?_
  rintro e w1 ⟨rfl, hb1⟩
  have HD1 := Lib.hid (HD.out.next hb1)
  clear c0 c1 c2 c3 c4 c5 hb1
  obtain ⟨⟨d0, d1, d2⟩, fd, sd⟩ := box3 HD1.out.rb
  go_wp2_with fail
  refine ret_box (w.heap.size + 1) #[.int .i64 v, .string nul, .int .i64 0] 33 (.tuple #[.agg #[.int .i64 v, .string nul, .int .i64 0], .bool false]) ?_ (fun W' h => ?_) rfl ?_
  · exact set3 HD1.out.rb
  · obtain ⟨⟨r0, r1, r2⟩, _, _⟩ := box3 h
    simp [results, Tryz.results8, go_sem, r0, r1, r2]
  · exact ⟨rfl, set3_below (by omega) HD1.out.bel⟩
set_option maxRecDepth 100000 in
set_option maxHeartbeats 2000000 in
theorem sdo_none (s : Nat) (c : Cmd) (w : World) (hT : TabsI w) (hs : c.key.size ≤ 1000000) (hv : chk c = 0) (h0 : c.client = 0) :
    Calls Tryz.prog 8 #[.pointer (some ⟨s, 0, none⟩), cmdV c] w fun e w' => e = .returned (.tuple #[repV (⟨0, nul, 0⟩ : Rep), .bool false]) ∧ Below w.heap.size w w' := by
  have HT := Lib.hid hT
  have HCK := Lib.hid (fun W (hT : Tabs W) => check_v c W hT hs 0 hv)
  have HK := Lib.hid (show (c.client == 0) = true by rw [beq_iff_eq]; exact h0)
  clear hT hv h0
  go_enter Tryz.func8, Tryz.ntmps8
  go_upto_region 1 with fail
  obtain ⟨W, hW⟩ : ∃ W, W = (w.alloc (.cells (cmdA c) 30)).alloc (.cells #[.int .i64 0, .string ⟨#[]⟩, .int .i64 0] 33) := ⟨_, rfl⟩
  rw [← hW]
  have HD : Hid (DoAt c w W) := Lib.hid (by rw [hW]; exact doAt_start c w)
  clear hW
  obtain ⟨⟨c0, c1, c2, c3, c4, c5⟩, _⟩ := box6 HD.out.cb
  have HTW := Lib.hid (HT.out.next HD.out.bel)
  go_wp2_with fail
  refine (HCK.out _ HTW.out.t).mono ?_
  rintro e w1 ⟨rfl, hb1⟩
  have HD1 := Lib.hid (HD.out.next hb1)
  clear c0 c1 c2 c3 c4 c5 hb1
  obtain ⟨⟨d0, d1, d2⟩, fd, sd⟩ := box3 HD1.out.rb
  obtain ⟨⟨c0, c1, c2, c3, c4, c5⟩, _⟩ := box6 HD1.out.cb
  have e0 := HK.out
  go_wp2_with fail
  refine ret_box (w.heap.size + 1) #[.int .i64 0, .string nul, .int .i64 0] 33 (.tuple #[.agg #[.int .i64 0, .string nul, .int .i64 0], .bool false]) ?_ (fun W' h => ?_) rfl ?_
  · exact set3 HD1.out.rb
  · obtain ⟨⟨r0, r1, r2⟩, _, _⟩ := box3 h
    simp [results, Tryz.results8, go_sem, r0, r1, r2]
  · exact ⟨rfl, set3_below (by omega) HD1.out.bel⟩
set_option maxRecDepth 100000 in
set_option maxHeartbeats 2000000 in
theorem sdo_same (s p b q n : Nat) (S : Ses) (c : Cmd) (w : World) (h : SesAt w s p b q n S) (hT : TabsI w) (hs : c.key.size ≤ 1000000) (hi : InI c.client) (hv : chk c = 0) (h0 : c.client ≠ 0) (ls : Int) (lr : Rep) (hl1 : seqL (lookC S.C c.client) = ls) (hl2 : repL (lookC S.C c.client) = lr) (hq : c.seq = ls) :
    Calls Tryz.prog 8 #[.pointer (some ⟨s, 0, none⟩), cmdV c] w fun e w' => e = .returned (.tuple #[repV lr, .bool false]) ∧ Below w.heap.size w w' := by
  have HQ := Lib.hid (show (c.seq == ls) = true by rw [beq_iff_eq]; exact hq)
  clear hq
  have HH := Lib.hid h
  have HT := Lib.hid hT
  have HCK := Lib.hid (fun W (hT : Tabs W) => check_v c W hT hs 0 hv)
  have HK := Lib.hid (show (c.client == 0) = false by rw [beq_eq_false_iff_ne]; exact h0)
  have HL1 := Lib.hid hl1
  have HL2 := Lib.hid hl2
  have HI := Lib.hid hi
  have hlw := h.qlt
  have hsw := h.slt
  clear hT hv h0 h hl1 hl2 hi
  go_enter Tryz.func8, Tryz.ntmps8
  go_upto_region 1 with fail
  obtain ⟨W, hW⟩ : ∃ W, W = (w.alloc (.cells (cmdA c) 30)).alloc (.cells #[.int .i64 0, .string ⟨#[]⟩, .int .i64 0] 33) := ⟨_, rfl⟩
  rw [← hW]
  have HD : Hid (DoAt c w W) := Lib.hid (by rw [hW]; exact doAt_start c w)
  clear hW
  obtain ⟨⟨c0, c1, c2, c3, c4, c5⟩, _⟩ := box6 HD.out.cb
  have HTW := Lib.hid (HT.out.next HD.out.bel)
  go_wp2_with fail
  refine (HCK.out _ HTW.out.t).mono ?_
  rintro e w1 ⟨rfl, hb1⟩
  have HD1 := Lib.hid (HD.out.next hb1)
  clear c0 c1 c2 c3 c4 c5 hb1
  obtain ⟨⟨c0, c1, c2, c3, c4, c5⟩, _⟩ := box6 HD1.out.cb
  have e0 := HK.out
  have HA1 := Lib.hid (HH.out.below HD1.out.bel)
  have hzc : w.heap.size < w1.heap.size := M.heap_lt HD1.out.cb
  have hzs := HA1.out.slt
  have hsb := (boxS HA1.out.box).2
  have HST := Lib.hid (show ∀ w', Below w1.heap.size w1 w' → (fun w' => w'.cell? ⟨s, 1, none⟩ = some (.map (some q)) ∧ w'.cell? ⟨w.heap.size, 1, none⟩ = some (.int .i64 c.client) ∧ (Instr.lookup 54 (.map (some q)) (.int .i64 c.client) false).run Tryz.prog w' = .ok (.agg #[.int .i64 ls, .int .i64 lr.code, .string lr.val, .int .i64 lr.rev]) w' ∧ Below w1.heap.size w1 w') w' from fun w' hb =>
    ⟨(hb.cell (p := ⟨s, 1, none⟩) hzs).trans hsb, (hb.cell (p := ⟨w.heap.size, 1, none⟩) hzc).trans c1, by have := (HA1.out.map.below hb).look HI.out; rw [HL1.out, HL2.out] at this; exact this, hb⟩)
  clear hsb
  go_upto_region 6 with fail
  clear c0 c1 c2 c3 c4 c5 e0
  go_region_held3 (fun w' => w'.cell? ⟨s, 1, none⟩ = some (.map (some q)) ∧ w'.cell? ⟨w.heap.size, 1, none⟩ = some (.int .i64 c.client) ∧ (Instr.lookup 54 (.map (some q)) (.int .i64 c.client) false).run Tryz.prog w' = .ok (.agg #[.int .i64 ls, .int .i64 lr.code, .string lr.val, .int .i64 lr.rev]) w' ∧ Below w1.heap.size w1 w')
    (first | exact HST.out _ (Below.refl _ _).drew | exact HST.out _ ((Below.refl _ _).drew.alloc (Nat.le_refl _) _))
    (fail)
  all_goals
    obtain ⟨w5, hw5⟩ : ∃ w5, w5 = (w1.alloc (.cells #[.int .i64 ls, .int .i64 lr.code, .string lr.val, .int .i64 lr.rev] 59)).drew := ⟨_, rfl⟩
    rw [← hw5]
    have hb5 : Below w1.heap.size w1 w5 := by rw [hw5]; exact ((Below.refl _ _).alloc (Nat.le_refl _) _).drew
    have hx5 : w5.heap[w1.heap.size]? = some (.cells #[.int .i64 ls, .int .i64 lr.code, .string lr.val, .int .i64 lr.rev] 59 (0, 0)) := by rw [hw5]; exact heap_alloc_new w1 _
    have HD5 := Lib.hid (HD1.out.next hb5)
    have HA5 := Lib.hid (HA1.out.below hb5)
    obtain ⟨l0, l1, l2, l3⟩ := box4 hx5
    obtain ⟨⟨c0, c1, c2, c3, c4, c5⟩, _⟩ := box6 HD5.out.cb
    obtain ⟨⟨d0, d1, d2⟩, fd, sd⟩ := box3 HD5.out.rb
    clear hw5 hx5
    have e1 := HQ.out
    go_wp2_with fail
    refine ret_box (w.heap.size + 1) #[.int .i64 lr.code, .string lr.val, .int .i64 lr.rev] 33 (.tuple #[.agg #[.int .i64 lr.code, .string lr.val, .int .i64 lr.rev], .bool false]) ?_ (fun W' h => ?_) rfl ?_
    · exact set3 HD5.out.rb
    · obtain ⟨⟨r0, r1, r2⟩, _, _⟩ := box3 h
      simp [results, Tryz.results8, go_sem, r0, r1, r2]
    · exact ⟨rfl, set3_below (by omega) HD5.out.bel⟩
set_option maxRecDepth 100000 in
set_option maxHeartbeats 2000000 in
theorem sdo_old (s p b q n : Nat) (S : Ses) (c : Cmd) (w : World) (h : SesAt w s p b q n S) (hT : TabsI w) (hs : c.key.size ≤ 1000000) (hi : InI c.client) (hv : chk c = 0) (h0 : c.client ≠ 0) (ls : Int) (lr : Rep) (hl1 : seqL (lookC S.C c.client) = ls) (hl2 : repL (lookC S.C c.client) = lr) (hq : c.seq < ls) :
    Calls Tryz.prog 8 #[.pointer (some ⟨s, 0, none⟩), cmdV c] w fun e w' => e = .returned (.tuple #[repV (⟨14, nul, 0⟩ : Rep), .bool false]) ∧ Below w.heap.size w w' := by
  have HQ := Lib.hid (show (c.seq == ls) = false by rw [beq_eq_false_iff_ne]; omega)
  have HQ2 := Lib.hid hq
  clear hq
  have HH := Lib.hid h
  have HT := Lib.hid hT
  have HCK := Lib.hid (fun W (hT : Tabs W) => check_v c W hT hs 0 hv)
  have HK := Lib.hid (show (c.client == 0) = false by rw [beq_eq_false_iff_ne]; exact h0)
  have HL1 := Lib.hid hl1
  have HL2 := Lib.hid hl2
  have HI := Lib.hid hi
  have hlw := h.qlt
  have hsw := h.slt
  clear hT hv h0 h hl1 hl2 hi
  go_enter Tryz.func8, Tryz.ntmps8
  go_upto_region 1 with fail
  obtain ⟨W, hW⟩ : ∃ W, W = (w.alloc (.cells (cmdA c) 30)).alloc (.cells #[.int .i64 0, .string ⟨#[]⟩, .int .i64 0] 33) := ⟨_, rfl⟩
  rw [← hW]
  have HD : Hid (DoAt c w W) := Lib.hid (by rw [hW]; exact doAt_start c w)
  clear hW
  obtain ⟨⟨c0, c1, c2, c3, c4, c5⟩, _⟩ := box6 HD.out.cb
  have HTW := Lib.hid (HT.out.next HD.out.bel)
  go_wp2_with fail
  refine (HCK.out _ HTW.out.t).mono ?_
  rintro e w1 ⟨rfl, hb1⟩
  have HD1 := Lib.hid (HD.out.next hb1)
  clear c0 c1 c2 c3 c4 c5 hb1
  obtain ⟨⟨c0, c1, c2, c3, c4, c5⟩, _⟩ := box6 HD1.out.cb
  have e0 := HK.out
  have HA1 := Lib.hid (HH.out.below HD1.out.bel)
  have hzc : w.heap.size < w1.heap.size := M.heap_lt HD1.out.cb
  have hzs := HA1.out.slt
  have hsb := (boxS HA1.out.box).2
  have HST := Lib.hid (show ∀ w', Below w1.heap.size w1 w' → (fun w' => w'.cell? ⟨s, 1, none⟩ = some (.map (some q)) ∧ w'.cell? ⟨w.heap.size, 1, none⟩ = some (.int .i64 c.client) ∧ (Instr.lookup 54 (.map (some q)) (.int .i64 c.client) false).run Tryz.prog w' = .ok (.agg #[.int .i64 ls, .int .i64 lr.code, .string lr.val, .int .i64 lr.rev]) w' ∧ Below w1.heap.size w1 w') w' from fun w' hb =>
    ⟨(hb.cell (p := ⟨s, 1, none⟩) hzs).trans hsb, (hb.cell (p := ⟨w.heap.size, 1, none⟩) hzc).trans c1, by have := (HA1.out.map.below hb).look HI.out; rw [HL1.out, HL2.out] at this; exact this, hb⟩)
  clear hsb
  go_upto_region 6 with fail
  clear c0 c1 c2 c3 c4 c5 e0
  go_region_held3 (fun w' => w'.cell? ⟨s, 1, none⟩ = some (.map (some q)) ∧ w'.cell? ⟨w.heap.size, 1, none⟩ = some (.int .i64 c.client) ∧ (Instr.lookup 54 (.map (some q)) (.int .i64 c.client) false).run Tryz.prog w' = .ok (.agg #[.int .i64 ls, .int .i64 lr.code, .string lr.val, .int .i64 lr.rev]) w' ∧ Below w1.heap.size w1 w')
    (first | exact HST.out _ (Below.refl _ _).drew | exact HST.out _ ((Below.refl _ _).drew.alloc (Nat.le_refl _) _))
    (fail)
  all_goals
    obtain ⟨w5, hw5⟩ : ∃ w5, w5 = (w1.alloc (.cells #[.int .i64 ls, .int .i64 lr.code, .string lr.val, .int .i64 lr.rev] 59)).drew := ⟨_, rfl⟩
    rw [← hw5]
    have hb5 : Below w1.heap.size w1 w5 := by rw [hw5]; exact ((Below.refl _ _).alloc (Nat.le_refl _) _).drew
    have hx5 : w5.heap[w1.heap.size]? = some (.cells #[.int .i64 ls, .int .i64 lr.code, .string lr.val, .int .i64 lr.rev] 59 (0, 0)) := by rw [hw5]; exact heap_alloc_new w1 _
    have HD5 := Lib.hid (HD1.out.next hb5)
    have HA5 := Lib.hid (HA1.out.below hb5)
    obtain ⟨l0, l1, l2, l3⟩ := box4 hx5
    obtain ⟨⟨c0, c1, c2, c3, c4, c5⟩, _⟩ := box6 HD5.out.cb
    obtain ⟨⟨d0, d1, d2⟩, fd, sd⟩ := box3 HD5.out.rb
    clear hw5 hx5
    have e1 := HQ.out
    have e2 := HQ2.out
    go_wp2_with fail
    refine ret_box (w.heap.size + 1) #[.int .i64 14, .string nul, .int .i64 0] 33 (.tuple #[.agg #[.int .i64 14, .string nul, .int .i64 0], .bool false]) ?_ (fun W' h => ?_) rfl ?_
    · exact set3 HD5.out.rb
    · obtain ⟨⟨r0, r1, r2⟩, _, _⟩ := box3 h
      simp [results, Tryz.results8, go_sem, r0, r1, r2]
    · exact ⟨rfl, set3_below (by omega) HD5.out.bel⟩
set_option maxRecDepth 100000 in
set_option maxHeartbeats 2000000 in
theorem sdo_new (s p b q n : Nat) (S : Ses) (c : Cmd) (w : World) (h : SesAt w s p b q n S) (hT : TabsI w) (hs : c.key.size ≤ 1000000) (hi : InI c.client) (hv : chk c = 0) (h0 : c.client ≠ 0) (ls : Int) (lr : Rep) (hl1 : seqL (lookC S.C c.client) = ls) (hl2 : repL (lookC S.C c.client) = lr) (hq : ls < c.seq) (hG : Good n S.A) (hn : n ≤ 90000) (A : List Ent) (R : Rep) (hd : appDo S.A c = (A, R)) :
    Calls Tryz.prog 8 #[.pointer (some ⟨s, 0, none⟩), cmdV c] w fun e w' => e = .returned (.tuple #[repV R, .bool true]) ∧ (SesAt w' s p b q (n + 1) ⟨A, dropC S.C c.client ++ [⟨c.client, c.seq, R⟩]⟩ ∧ Mods (fun k => k = b ∨ k = q) w w') := by
  have HQ := Lib.hid (show (c.seq == ls) = false by rw [beq_eq_false_iff_ne]; omega)
  have HQ2 := Lib.hid (show ¬ c.seq < ls by omega)
  have HDO := Lib.hid (fun (W : World) (ha : AppAt W p b n S.A) (hT : TabsI W) => (do_any p b n S.A c W ha hG hn hT hs).mono fun e w' hh => (show e = .returned (repV R) ∧ (AppAt w' p b (n + 1) A ∧ Mods (fun k => k = b) W w') by rw [hd] at hh; exact hh))
  clear hq hd
  have HH := Lib.hid h
  have HT := Lib.hid hT
  have HCK := Lib.hid (fun W (hT : Tabs W) => check_v c W hT hs 0 hv)
  have HK := Lib.hid (show (c.client == 0) = false by rw [beq_eq_false_iff_ne]; exact h0)
  have HL1 := Lib.hid hl1
  have HL2 := Lib.hid hl2
  have HI := Lib.hid hi
  have hlw := h.qlt
  have hsw := h.slt
  clear hT hv h0 h hl1 hl2 hi
  go_enter Tryz.func8, Tryz.ntmps8
  go_upto_region 1 with fail
  obtain ⟨W, hW⟩ : ∃ W, W = (w.alloc (.cells (cmdA c) 30)).alloc (.cells #[.int .i64 0, .string ⟨#[]⟩, .int .i64 0] 33) := ⟨_, rfl⟩
  rw [← hW]
  have HD : Hid (DoAt c w W) := Lib.hid (by rw [hW]; exact doAt_start c w)
  clear hW
  obtain ⟨⟨c0, c1, c2, c3, c4, c5⟩, _⟩ := box6 HD.out.cb
  have HTW := Lib.hid (HT.out.next HD.out.bel)
  go_wp2_with fail
  refine (HCK.out _ HTW.out.t).mono ?_
  rintro e w1 ⟨rfl, hb1⟩
  have HD1 := Lib.hid (HD.out.next hb1)
  clear c0 c1 c2 c3 c4 c5 hb1
  obtain ⟨⟨c0, c1, c2, c3, c4, c5⟩, _⟩ := box6 HD1.out.cb
  have e0 := HK.out
  have HA1 := Lib.hid (HH.out.below HD1.out.bel)
  have hzc : w.heap.size < w1.heap.size := M.heap_lt HD1.out.cb
  have hzs := HA1.out.slt
  have hsb := (boxS HA1.out.box).2
  have HST := Lib.hid (show ∀ w', Below w1.heap.size w1 w' → (fun w' => w'.cell? ⟨s, 1, none⟩ = some (.map (some q)) ∧ w'.cell? ⟨w.heap.size, 1, none⟩ = some (.int .i64 c.client) ∧ (Instr.lookup 54 (.map (some q)) (.int .i64 c.client) false).run Tryz.prog w' = .ok (.agg #[.int .i64 ls, .int .i64 lr.code, .string lr.val, .int .i64 lr.rev]) w' ∧ Below w1.heap.size w1 w') w' from fun w' hb =>
    ⟨(hb.cell (p := ⟨s, 1, none⟩) hzs).trans hsb, (hb.cell (p := ⟨w.heap.size, 1, none⟩) hzc).trans c1, by have := (HA1.out.map.below hb).look HI.out; rw [HL1.out, HL2.out] at this; exact this, hb⟩)
  clear hsb
  go_upto_region 6 with fail
  clear c0 c1 c2 c3 c4 c5 e0
  go_region_held3 (fun w' => w'.cell? ⟨s, 1, none⟩ = some (.map (some q)) ∧ w'.cell? ⟨w.heap.size, 1, none⟩ = some (.int .i64 c.client) ∧ (Instr.lookup 54 (.map (some q)) (.int .i64 c.client) false).run Tryz.prog w' = .ok (.agg #[.int .i64 ls, .int .i64 lr.code, .string lr.val, .int .i64 lr.rev]) w' ∧ Below w1.heap.size w1 w')
    (first | exact HST.out _ (Below.refl _ _).drew | exact HST.out _ ((Below.refl _ _).drew.alloc (Nat.le_refl _) _))
    (fail)
  all_goals
    obtain ⟨w5, hw5⟩ : ∃ w5, w5 = (w1.alloc (.cells #[.int .i64 ls, .int .i64 lr.code, .string lr.val, .int .i64 lr.rev] 59)).drew := ⟨_, rfl⟩
    rw [← hw5]
    have hb5 : Below w1.heap.size w1 w5 := by rw [hw5]; exact ((Below.refl _ _).alloc (Nat.le_refl _) _).drew
    have hx5 : w5.heap[w1.heap.size]? = some (.cells #[.int .i64 ls, .int .i64 lr.code, .string lr.val, .int .i64 lr.rev] 59 (0, 0)) := by rw [hw5]; exact heap_alloc_new w1 _
    have HD5 := Lib.hid (HD1.out.next hb5)
    have HA5 := Lib.hid (HA1.out.below hb5)
    obtain ⟨l0, l1, l2, l3⟩ := box4 hx5
    obtain ⟨⟨c0, c1, c2, c3, c4, c5⟩, _⟩ := box6 HD5.out.cb
    obtain ⟨⟨d0, d1, d2⟩, fd, sd⟩ := box3 HD5.out.rb
    clear hw5 hx5
    have e1 := HQ.out
    have e2 := HQ2.out
    obtain ⟨s0, s1⟩ := boxS HA5.out.box
    have HT5 := Lib.hid (HT.out.next HD5.out.bel)
    have HCD := Lib.hid (HDO.out (w5.drew) (HA5.out.app.below (below_drawn w5)) (HT5.out.next (below_drawn w5)))
    go_upto_region 11 with fail
    go_still_tail 5, (by kernel_rfl)
    go_wp2_with fail
    refine HCD.out.mono ?_
    rintro e w6 ⟨rfl, hA6, hM6⟩
    have hbw := HH.out.app.blt
    have hpw := HH.out.app.plt
    have hne := HH.out.bq
    have hM : Mods (fun k => k = b) w w6 := (Mods.of_below (HD5.out.bel.trans ((below_drawn w5).mono HD5.out.bel.size))).trans hM6
    have hrb : w6.heap[w.heap.size + 1]? = _ := hM6.heap (HD5.out.next (below_drawn w5)).rb (by omega)
    have hcb : w6.heap[w.heap.size]? = _ := hM6.heap (HD5.out.next (below_drawn w5)).cb (by omega)
    have HM := Lib.hid hM
    have HRB := Lib.hid hrb
    have HCB := Lib.hid hcb
    have HA6 := Lib.hid hA6
    clear l0 l1 l2 l3 c0 c1 c2 c3 c4 c5 d0 d1 d2 fd sd e1 e2 s0 s1 hA6 hM6 hM hrb hcb hb5
    obtain ⟨⟨d0, d1, d2⟩, fd, sd⟩ := box3 HRB.out
    go_upto_region 12 with fail
    clear d0 d1 d2 fd sd
    obtain ⟨w7, hw7⟩ : ∃ w7, w7 = ((w6.setCell ⟨w.heap.size + 1, 0, none⟩ (.int .i64 R.code)).setCell ⟨w.heap.size + 1, 1, none⟩ (.string R.val)).setCell ⟨w.heap.size + 1, 2, none⟩ (.int .i64 R.rev) := ⟨_, rfl⟩
    rw [← hw7]
    have m67 : Mods (fun k => k = w.heap.size + 1) w6 w7 := by rw [hw7]; exact mods3 (w := w6) (w1 := w6)
    have HRB7 : Hid (w7.heap[w.heap.size + 1]? = some (repO R)) := Lib.hid (by rw [hw7]; exact set3 HRB.out)
    have HCB7 := Lib.hid (m67.heap HCB.out (by omega))
    have HM7 : Hid (Mods (fun k => k = b) w w7) := Lib.hid (by rw [hw7]; exact mods_set3 HM.out (by omega))
    have HA7 := Lib.hid (HA6.out.keep m67 (by omega) (by omega))
    have HQ7 : Hid (MapC w7 q n S.C) := Lib.hid (HH.out.map.keep HM7.out (fun e => hne e.symm))
    have HB7 := Lib.hid (HM7.out.heap HH.out.box HH.out.sb)
    clear hw7 m67
    obtain ⟨⟨c0, c1, c2, c3, c4, c5⟩, _⟩ := box6 HCB7.out
    obtain ⟨⟨d0, d1, d2⟩, _⟩ := box3 HRB7.out
    have k0 := Kin.cell (boxS HB7.out).2
    have k1 := Kin.cell c1
    have k2 := Kin.cell c2
    have k3 := Kin.cell d0
    have k4 := Kin.cell d1
    have k5 := Kin.cell d2
    clear c0 c1 c2 c3 c4 c5 d0 d1 d2
    refine wp_region_kin_tail 10 (by kernel_rfl) (by kernel_rfl) ?_
    simp only [List.take_succ_cons, List.take_zero, List.drop_succ_cons, List.drop_zero]
    repeat (go_big_quiet_step (fail))
    refine wpQuiet_nil ?_
    intro _ hx
    obtain ⟨xk, rfl⟩ := hx
    refine wpList_put_last (HQ7.out.below xk.h) (by unfold maxLen; omega) c.client c.seq R HI.out (by rfl) _ _ _ (by rfl) (by rfl) (by rfl) (by rfl) ?_
    intro w8 hm8 hM8
    obtain ⟨W2, hW2⟩ : ∃ W2, W2 = xk.w := ⟨_, rfl⟩
    have hb2 : Below w7.heap.size w7 W2 := by rw [hW2]; exact xk.h
    rw [← hW2] at hM8
    clear hW2 k0 k1 k2 k3 k4 k5
    have hrb8 := hM8.heap ((hb2.block _ (M.heap_lt HRB7.out)).trans HRB7.out) (show ¬ w.heap.size + 1 = q by omega)
    have hA8 := (HA7.out.below hb2).keep hM8 HH.out.pq hne
    have hM : Mods (fun k => k = b ∨ k = q) w w8 := ((HM7.out.trans (Mods.of_below hb2)).mono (fun _ _ e => .inl e)).trans (hM8.mono (fun _ _ e => .inr e) : Mods (fun k => k = b ∨ k = q) W2 w8)
    have HM8 := Lib.hid hM
    have HRB8 := Lib.hid hrb8
    have HS8 : Hid (SesAt w8 s p b q (n + 1) ⟨A, dropC S.C c.client ++ [⟨c.client, c.seq, R⟩]⟩) := Lib.hid ⟨hM.heap HH.out.box (fun e => by rcases e with e | e; exact HH.out.sb e; exact HH.out.sq e), hA8, hm8, hne⟩
    clear hm8 hM8 hM hrb8 hA8 hb2
    obtain ⟨⟨d0, d1, d2⟩, fd, sd⟩ := box3 HRB8.out
    go_wp2_with fail
    have m8 : Mods (fun k => k = w.heap.size + 1) w8 (((w8.setCell ⟨w.heap.size + 1, 0, none⟩ (.int .i64 R.code)).setCell ⟨w.heap.size + 1, 1, none⟩ (.string R.val)).setCell ⟨w.heap.size + 1, 2, none⟩ (.int .i64 R.rev)) := mods3 (w := w8) (w1 := w8)
    refine ret_box (w.heap.size + 1) #[.int .i64 R.code, .string R.val, .int .i64 R.rev] 33 (.tuple #[.agg #[.int .i64 R.code, .string R.val, .int .i64 R.rev], .bool true]) ?_ (fun W' h => ?_) rfl ?_
    · exact set3 HRB8.out
    · obtain ⟨⟨r0, r1, r2⟩, _, _⟩ := box3 h
      simp [results, Tryz.results8, go_sem, r0, r1, r2]
    · exact ⟨rfl, HS8.out.keep m8 (by omega) (by omega) (by omega) (by omega), mods_set3 HM8.out (by omega)⟩
/-- THE CONTRACT OF the sessions' Do. -/
theorem sdo_any (s p b q n : Nat) (S : Ses) (c : Cmd) (w : World) (h : SesAt w s p b q n S) (hG : Good n S.A) (hn : n ≤ 90000) (hT : TabsI w) (hs : c.key.size ≤ 1000000) (hi : InI c.client) (S2 : Ses) (R : Rep) (F : Bool) (hd : sesDo S c = (S2, R, F)) :
    Calls Tryz.prog 8 #[.pointer (some ⟨s, 0, none⟩), cmdV c] w fun e w' => e = .returned (.tuple #[repV R, .bool F]) ∧ (SesAt w' s p b q (n + 1) S2 ∧ Mods (fun k => k = b ∨ k = q) w w') := by
  have keep : ∀ {w' : World}, Below w.heap.size w w' → (SesAt w' s p b q (n + 1) S ∧ Mods (fun k => k = b ∨ k = q) w w') := fun hb => ⟨(h.below hb).mono (by omega), Mods.of_below hb⟩
  unfold sesDo at hd
  split at hd
  · rename_i h1
    cases hd
    exact (sdo_bad s c w hT hs _ rfl h1).mono fun e w' hh => ⟨hh.1, keep hh.2⟩
  · rename_i h1
    have h1 : chk c = 0 := by simpa using h1
    split at hd
    · rename_i h2
      cases hd
      exact (sdo_none s c w hT hs h1 h2).mono fun e w' hh => ⟨hh.1, keep hh.2⟩
    · rename_i h2
      split at hd
      · rename_i h3
        cases hd
        exact (sdo_same s p b q n S c w h hT hs hi h1 h2 _ _ rfl rfl h3).mono fun e w' hh => ⟨hh.1, keep hh.2⟩
      · rename_i h3
        split at hd
        · rename_i h4
          cases hd
          exact (sdo_old s p b q n S c w h hT hs hi h1 h2 _ _ rfl rfl h4).mono fun e w' hh => ⟨hh.1, keep hh.2⟩
        · rename_i h4
          cases hd
          exact sdo_new s p b q n S c w h hT hs hi h1 h2 _ _ rfl rfl (by omega) hG hn _ _ rfl
end Go.Proofs.YtkgjfagejnppbaaGreatDoor.P

/- From the listed variables of the rows to the tables that the walks take. -/
namespace Go.Proofs.YtkgjfagejnppbaaGreatDoor.P
open Go.RowKit Go.PlainAid Go.Lib Go.Proofs.YtkgjfagejnppbaaGreatDoor.R

theorem u8x : Go.Proofs.U8Extra Tryz.prog Tryz.lays260_ren := ⟨by kernel_rfl, by kernel_rfl, by kernel_rfl, by kernel_rfl, by kernel_rfl, by kernel_rfl, by kernel_rfl⟩
theorem accept_eq : Rows.laid_unicode_utf8_acceptRanges (H := Unit) = Go.Lib.acceptData := by kernel_rfl
theorem bruijn_of {W : World} {n : String} (hn : Tryz.prog.globalNamed n = some 5) (h : Go.Lib.VarReads Tryz.prog W n Rows.laid_math_bits_deBruijn64tab) :
    W.cell? ⟨5, 15, none⟩ = some (.int .u8 4) := by
  obtain ⟨g, t, cs, fuel, p, hg, hty, hvar, hd⟩ := h
  obtain rfl := Option.some.inj (hn.symm.trans hg)
  obtain rfl : 249 = t := Option.some.inj ((show (Tryz.prog.globals[5]?).map (·.type) = some 249 by kernel_rfl).symm.trans hty)
  have hcs := cells_of_tab (zs := [0, 1, 56, 2, 57, 49, 28, 3, 61, 58, 42, 50, 38, 29, 17, 4, 62, 47, 59, 36, 45, 43, 51, 22, 53, 39, 33, 30, 24, 18, 12, 5, 63, 55, 48, 27, 60, 41, 37, 16, 46, 35, 44, 21, 52, 32, 23, 11, 54, 26, 40, 15, 34, 20, 31, 10, 25, 14, 19, 9, 13, 8, 7, 6]) Tryz.underlying249 Tryz.underlying5 (by kernel_rfl) (by kernel_rfl) hd
  have := World.var?_cell hg hvar 15
  rw [this, ← Array.getElem?_toList, hcs]
  rfl
theorem pow_of {W : World} (hn : Tryz.prog.globalNamed "internal/strconv.uint64pow10" = some 2) (h : Go.Lib.VarReads Tryz.prog W "internal/strconv.uint64pow10" Rows.laid_internal_strconv_uint64pow10) :
    Lib.TabIs Tryz.prog W "internal/strconv.uint64pow10" .u64 Lib.pow10Tab := by
  obtain ⟨g, t, cs, fuel, p, hg, hty, hvar, hd⟩ := h
  obtain rfl := Option.some.inj (hn.symm.trans hg)
  obtain rfl : 226 = t := Option.some.inj ((show (Tryz.prog.globals[2]?).map (·.type) = some 226 by kernel_rfl).symm.trans hty)
  have e : Rows.laid_internal_strconv_uint64pow10 (H := Unit) = Go.Lib.tabData .u64 Go.Lib.pow10Tab := by kernel_rfl
  rw [e] at hd
  have hcs := cells_of_tab (zs := Go.Lib.pow10Tab) Tryz.underlying226 Tryz.underlying193 (by kernel_rfl) (by kernel_rfl) hd
  unfold Lib.TabIs
  rw [hvar]
  congr 1
  exact Array.toList_inj.1 (by rw [hcs])
theorem tabs_mk {W : World} (hu : Lib.Utf8Tabs 0 1 W) (hd : W.cell? ⟨5, 15, none⟩ = some (.int .u8 4)) : Tabs W :=
  ⟨hu, hd, World.block_lt_of_cell? W _ (hu.1 0 (by decide)), World.block_lt_of_cell? W _ (hu.2 0 (by decide)).1, World.block_lt_of_cell? W _ hd⟩
theorem tabsI_of {W : World} (hL : laidMet Tryz.prog Rows.checkRowRow.laid W) : TabsI W :=
  ⟨tabs_mk (Go.Proofs.utf8Tabs_of_reads Tryz.lays260 u8x (Pinned.utf8First_eq ▸ Go.Lib.laidMet.reads hL (.tail _ (.tail _ (.tail _ (.tail _ (.head _)))))) (accept_eq ▸ Go.Lib.laidMet.reads hL (.tail _ (.tail _ (.tail _ (.head _))))))
    (bruijn_of (by kernel_rfl) (Go.Lib.laidMet.reads hL (.tail _ (.head _)))),
   pow_of (by kernel_rfl) (Go.Lib.laidMet.reads hL (.tail _ (.tail _ (.head _))))⟩
end Go.Proofs.YtkgjfagejnppbaaGreatDoor.P

/- Sessions: Last; the laws' beginnings: sessions of the call's own; the document's example; all. -/
namespace Go.Proofs.YtkgjfagejnppbaaGreatDoor.P
open Go.RowKit Go.Proofs.YtkgjfagejnppbaaGreatDoor.R Go.Proofs.YtkgjfagejnppbaaGreatDoor.M Go.BigFrame Go.Maps
set_option linter.unusedVariables false
set_option linter.unusedSimpArgs false

/-- sessions that this call made -/
structure SRun (w wx : World) (s p b q n : Nat) (S : Ses) : Prop where
  bel : Below w.heap.size w wx
  ses : SesAt wx s p b q n S
  sge : w.heap.size ≤ s
  pge : w.heap.size ≤ p
  bge : w.heap.size ≤ b
  qge : w.heap.size ≤ q
section
variable {w w1 w2 : World} {s p b q n : Nat} {S : Ses}
theorem SRun.next (h : SRun w w1 s p b q n S) (hb : Below w1.heap.size w1 w2) : SRun w w2 s p b q n S :=
  ⟨h.bel.trans (hb.mono h.bel.size), h.ses.below hb, h.sge, h.pge, h.bge, h.qge⟩
theorem SRun.step {m : Nat} {S2 : Ses} (h : SRun w w1 s p b q n S) (hm : Mods (fun k => k = b ∨ k = q) w1 w2) (hs : SesAt w2 s p b q m S2) : SRun w w2 s p b q m S2 :=
  ⟨h.bel.trans (hm.below (B := w.heap.size) (fun k hk => by rcases hk with rfl | rfl; exact h.bge; exact h.qge) h.bel.size), hs, h.sge, h.pge, h.bge, h.qge⟩
/-- other blocks were worked on -/
theorem SRun.apart {b2 : Nat} (h : SRun w w1 s p b q n S) (hm : Mods (fun k => k = b2) w1 w2) (hb2 : w.heap.size ≤ b2) (h1 : s ≠ b2) (h2 : p ≠ b2) (h3 : b ≠ b2) (h4 : q ≠ b2) : SRun w w2 s p b q n S :=
  ⟨h.bel.trans (hm.below (B := w.heap.size) (fun k hk => by rw [hk]; exact hb2) h.bel.size), h.ses.keep hm h1 h2 h3 h4, h.sge, h.pge, h.bge, h.qge⟩
end
theorem snew_run (w : World) : Calls Tryz.prog 7 #[] w fun e w' => ∃ s p b q, e = .returned (.pointer (some ⟨s, 0, none⟩)) ∧ SRun w w' s p b q 0 ⟨[], []⟩ :=
  (snew_any w).mono fun e w' ⟨s, p, b, q, he, hs, h1, h2, h3, h4, hb⟩ => ⟨s, p, b, q, he, hb, hs, h1, h2, h3, h4⟩
theorem sdo_run {w wx : World} {s p b q n : Nat} {S : Ses} (h : SRun w wx s p b q n S) (hG : SGood n S) (hn : n ≤ 90000) (hT : TabsI w) (c : Cmd) (hs : c.key.size ≤ 1000000) (hi : InI c.client) (S2 : Ses) (R : Rep) (F : Bool) (hd : sesDo S c = (S2, R, F)) :
    Calls Tryz.prog 8 #[.pointer (some ⟨s, 0, none⟩), cmdV c] wx fun e w' => e = .returned (.tuple #[repV R, .bool F]) ∧ (SRun w w' s p b q (n + 1) S2 ∧ Mods (fun k => k = b ∨ k = q) wx w') :=
  (sdo_any s p b q n S c wx h.ses hG.app hn (hT.next h.bel) hs hi S2 R F hd).mono fun e w' hh => ⟨hh.1, h.step hh.2.2 hh.2.1, hh.2.2⟩
theorem sex_one : sesDo ⟨[], []⟩ ex1 = (⟨[⟨ka, vv, 1⟩], [⟨1, 1, ⟨0, nul, 1⟩⟩]⟩, ⟨0, nul, 1⟩, true) := by
  unfold sesDo
  rw [if_neg (by rw [chk_ex1]; decide), if_neg (by decide), if_neg (by decide), if_neg (by decide)]
  unfold sesNew
  rw [ex_one]
  rfl
end Go.Proofs.YtkgjfagejnppbaaGreatDoor.P
