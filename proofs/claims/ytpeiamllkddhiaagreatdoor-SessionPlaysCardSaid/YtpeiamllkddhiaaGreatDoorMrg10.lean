/- Several texts in one. -/
import Derived.Test.YtpeiamllkddhiaaGreatDoorMrg9
import Derived.Test.YtpeiamllkddhiaaGreatDoorCards
import Derived.Lib.LaidU8
import Derived.Lib.LaidTab
import Derived.LaidLaws
import Derived.PinnedBridge
import Derived.Test.YtpeiamllkddhiaaGreatDoorSesD

/- From the listed variables of the rows to the tables that the walks take. -/
namespace Go.Proofs.YtpeiamllkddhiaaGreatDoor.P
open Go.RowKit Go.PlainAid Go.Lib Go.Proofs.YtpeiamllkddhiaaGreatDoor.R

theorem u8x : Go.Proofs.U8Extra Tryz.prog Tryz.lays260_ren := ⟨by kernel_rfl, by kernel_rfl, by kernel_rfl, by kernel_rfl, by kernel_rfl, by kernel_rfl, by kernel_rfl⟩
theorem accept_eq : Rows.laid_unicode_utf8_acceptRanges (H := Unit) = Go.Lib.acceptData := by kernel_rfl
theorem bruijn_of {W : World} {n : String} (hn : Tryz.prog.globalNamed n = some 5) (h : Go.Lib.VarReads Tryz.prog W n Rows.laid_math_bits_deBruijn64tab) :
    W.cell? ⟨5, 15, none⟩ = some (.int .u8 4) := by
  obtain ⟨g, t, cs, fuel, p, hg, hty, hvar, hd⟩ := h
  obtain rfl := Option.some.inj (hn.symm.trans hg)
  obtain rfl : 160 = t := Option.some.inj ((show (Tryz.prog.globals[5]?).map (·.type) = some 160 by kernel_rfl).symm.trans hty)
  have hcs := cells_of_tab (zs := [0, 1, 56, 2, 57, 49, 28, 3, 61, 58, 42, 50, 38, 29, 17, 4, 62, 47, 59, 36, 45, 43, 51, 22, 53, 39, 33, 30, 24, 18, 12, 5, 63, 55, 48, 27, 60, 41, 37, 16, 46, 35, 44, 21, 52, 32, 23, 11, 54, 26, 40, 15, 34, 20, 31, 10, 25, 14, 19, 9, 13, 8, 7, 6]) Tryz.underlying160 Tryz.underlying5 (by kernel_rfl) (by kernel_rfl) hd
  have := World.var?_cell hg hvar 15
  rw [this, ← Array.getElem?_toList, hcs]
  rfl
theorem pow_of {W : World} (hn : Tryz.prog.globalNamed "internal/strconv.uint64pow10" = some 2) (h : Go.Lib.VarReads Tryz.prog W "internal/strconv.uint64pow10" Rows.laid_internal_strconv_uint64pow10) :
    Lib.TabIs Tryz.prog W "internal/strconv.uint64pow10" .u64 Lib.pow10Tab := by
  obtain ⟨g, t, cs, fuel, p, hg, hty, hvar, hd⟩ := h
  obtain rfl := Option.some.inj (hn.symm.trans hg)
  obtain rfl : 147 = t := Option.some.inj ((show (Tryz.prog.globals[2]?).map (·.type) = some 147 by kernel_rfl).symm.trans hty)
  have e : Rows.laid_internal_strconv_uint64pow10 (H := Unit) = Go.Lib.tabData .u64 Go.Lib.pow10Tab := by kernel_rfl
  rw [e] at hd
  have hcs := cells_of_tab (zs := Go.Lib.pow10Tab) Tryz.underlying147 Tryz.underlying126 (by kernel_rfl) (by kernel_rfl) hd
  unfold Lib.TabIs
  rw [hvar]
  congr 1
  exact Array.toList_inj.1 (by rw [hcs])
theorem tabs_mk {W : World} (hu : Lib.Utf8Tabs 0 1 W) (hd : W.cell? ⟨5, 15, none⟩ = some (.int .u8 4)) : Tabs W :=
  ⟨hu, hd, World.block_lt_of_cell? W _ (hu.1 0 (by decide)), World.block_lt_of_cell? W _ (hu.2 0 (by decide)).1, World.block_lt_of_cell? W _ hd⟩
theorem tabsI_of {W : World} (hL : laidMet Tryz.prog Rows.sessionPlaysRow.laid W) : TabsI W :=
  ⟨tabs_mk (Go.Proofs.utf8Tabs_of_reads Tryz.lays260 u8x (Pinned.utf8First_eq ▸ Go.Lib.laidMet.reads hL (.tail _ (.tail _ (.tail _ (.tail _ (.head _)))))) (accept_eq ▸ Go.Lib.laidMet.reads hL (.tail _ (.tail _ (.tail _ (.head _))))))
    (bruijn_of (by kernel_rfl) (Go.Lib.laidMet.reads hL (.tail _ (.head _)))),
   pow_of (by kernel_rfl) (Go.Lib.laidMet.reads hL (.tail _ (.tail _ (.head _))))⟩
end Go.Proofs.YtpeiamllkddhiaaGreatDoor.P

/- Sessions: Last; the laws' beginnings: sessions of the call's own; the document's example; all. -/
namespace Go.Proofs.YtpeiamllkddhiaaGreatDoor.P
open Go.RowKit Go.Proofs.YtpeiamllkddhiaaGreatDoor.R Go.Proofs.YtpeiamllkddhiaaGreatDoor.M Go.BigFrame Go.Maps
set_option linter.unusedVariables false
set_option linter.unusedSimpArgs false

set_option maxRecDepth 100000 in
set_option maxHeartbeats 2000000 in
theorem last_any (s p b q n : Nat) (S : Ses) (k : Int) (w : World) (h : SesAt w s p b q n S) (hk : InI k) (ls : Int) (lr : Rep) (is : Bool) (h1 : seqL (lookC S.C k) = ls) (h2 : repL (lookC S.C k) = lr) (h3 : (lookC S.C k).isSome = is) :
    Calls Tryz.prog 10 #[.pointer (some ⟨s, 0, none⟩), .int .i64 k] w fun e w' => e = .returned (.tuple #[.int .i64 ls, repV lr, .bool is]) ∧ Below w.heap.size w w' := by
  have HH := Lib.hid h
  have hsl := h.slt
  have HL := Lib.hid (fun (W : World) (hb : Below w.heap.size w W) => (show (Instr.lookup 53 (.map (some q)) (.int .i64 k) true).run Tryz.prog W = .ok (.tuple #[.agg #[.int .i64 ls, .int .i64 lr.code, .string lr.val, .int .i64 lr.rev], .bool is]) W by
    have := (h.map.below hb).look_ok hk
    rw [h1, h2, h3] at this
    exact this))
  clear h h1 h2 h3
  go_enter Tryz.func10, Tryz.ntmps10
  go_upto_region 1 with fail
  obtain ⟨W, hW⟩ : ∃ W, W = w.alloc (.cells #[.int .i64 0, .string ⟨#[]⟩, .int .i64 0] 33) := ⟨_, rfl⟩
  rw [← hW]
  have HB : Hid (Below w.heap.size w W) := Lib.hid (by rw [hW]; exact (Below.refl _ _).alloc (Nat.le_refl _) _)
  have HRB : Hid (W.heap[w.heap.size]? = some (.cells #[.int .i64 0, .string ⟨#[]⟩, .int .i64 0] 33 (0, 0))) := Lib.hid (by rw [hW]; exact heap_alloc_new w _)
  clear hW
  obtain ⟨s0, s1⟩ := boxS (HH.out.below HB.out).box
  have hlk := HL.out W HB.out
  go_upto_region 2 with fail
  obtain ⟨w5, hw5⟩ : ∃ w5, w5 = W.alloc (.cells #[.int .i64 ls, .int .i64 lr.code, .string lr.val, .int .i64 lr.rev] 58) := ⟨_, rfl⟩
  rw [← hw5]
  have HB5 : Hid (Below W.heap.size W w5) := Lib.hid (by rw [hw5]; exact (Below.refl _ _).alloc (Nat.le_refl _) _)
  have hx5 : w5.heap[W.heap.size]? = some (.cells #[.int .i64 ls, .int .i64 lr.code, .string lr.val, .int .i64 lr.rev] 58 (0, 0)) := by rw [hw5]; exact heap_alloc_new W _
  have hr5 := (HB5.out.block _ (M.heap_lt HRB.out)).trans HRB.out
  have HR5 := Lib.hid hr5
  have HW5 := Lib.hid (HB.out.trans (HB5.out.mono HB.out.size))
  clear hw5 s0 s1 hlk
  obtain ⟨l0, l1, l2, l3⟩ := box4 hx5
  obtain ⟨⟨d0, d1, d2⟩, fd, sd⟩ := box3 hr5
  clear hx5 hr5
  go_region
  all_goals
    go_wp2_with fail
    have hr6 : (w5.drew).heap[w.heap.size]? = some (.cells #[.int .i64 0, .string ⟨#[]⟩, .int .i64 0] 33 (0, 0)) := HR5.out
    refine ret_box w.heap.size #[.int .i64 lr.code, .string lr.val, .int .i64 lr.rev] 33 (.tuple #[.int .i64 ls, .agg #[.int .i64 lr.code, .string lr.val, .int .i64 lr.rev], .bool is]) ?_ (fun W' h => ?_) rfl ?_
    · exact set3 hr6
    · obtain ⟨⟨r0, r1, r2⟩, _, _⟩ := box3 h
      simp [results, Tryz.results10, go_sem, r0, r1, r2]
    · exact ⟨rfl, set3_below (by omega) HW5.out.drew⟩
/-- sessions that this call made -/
structure SRun (w wx : World) (s p b q n : Nat) (S : Ses) : Prop where
  bel : Below w.heap.size w wx
  ses : SesAt wx s p b q n S
  sge : w.heap.size ≤ s
  pge : w.heap.size ≤ p
  bge : w.heap.size ≤ b
  qge : w.heap.size ≤ q
section
variable {w w1 w2 : World} {s p b q n : Nat} {S : Ses}
theorem SRun.next (h : SRun w w1 s p b q n S) (hb : Below w1.heap.size w1 w2) : SRun w w2 s p b q n S :=
  ⟨h.bel.trans (hb.mono h.bel.size), h.ses.below hb, h.sge, h.pge, h.bge, h.qge⟩
theorem SRun.step {m : Nat} {S2 : Ses} (h : SRun w w1 s p b q n S) (hm : Mods (fun k => k = b ∨ k = q) w1 w2) (hs : SesAt w2 s p b q m S2) : SRun w w2 s p b q m S2 :=
  ⟨h.bel.trans (hm.below (B := w.heap.size) (fun k hk => by rcases hk with rfl | rfl; exact h.bge; exact h.qge) h.bel.size), hs, h.sge, h.pge, h.bge, h.qge⟩
/-- other blocks were worked on -/
theorem SRun.apart {b2 : Nat} (h : SRun w w1 s p b q n S) (hm : Mods (fun k => k = b2) w1 w2) (hb2 : w.heap.size ≤ b2) (h1 : s ≠ b2) (h2 : p ≠ b2) (h3 : b ≠ b2) (h4 : q ≠ b2) : SRun w w2 s p b q n S :=
  ⟨h.bel.trans (hm.below (B := w.heap.size) (fun k hk => by rw [hk]; exact hb2) h.bel.size), h.ses.keep hm h1 h2 h3 h4, h.sge, h.pge, h.bge, h.qge⟩
end
theorem snew_run (w : World) : Calls Tryz.prog 6 #[] w fun e w' => ∃ s p b q, e = .returned (.pointer (some ⟨s, 0, none⟩)) ∧ SRun w w' s p b q 0 ⟨[], []⟩ :=
  (snew_any w).mono fun e w' ⟨s, p, b, q, he, hs, h1, h2, h3, h4, hb⟩ => ⟨s, p, b, q, he, hb, hs, h1, h2, h3, h4⟩
theorem sdo_run {w wx : World} {s p b q n : Nat} {S : Ses} (h : SRun w wx s p b q n S) (hG : SGood n S) (hn : n ≤ 90000) (hT : TabsI w) (c : Cmd) (hs : c.key.size ≤ 1000000) (hi : InI c.client) (S2 : Ses) (R : Rep) (F : Bool) (hd : sesDo S c = (S2, R, F)) :
    Calls Tryz.prog 9 #[.pointer (some ⟨s, 0, none⟩), cmdV c] wx fun e w' => e = .returned (.tuple #[repV R, .bool F]) ∧ (SRun w w' s p b q (n + 1) S2 ∧ Mods (fun k => k = b ∨ k = q) wx w') :=
  (sdo_any s p b q n S c wx h.ses hG.app hn (hT.next h.bel) hs hi S2 R F hd).mono fun e w' hh => ⟨hh.1, h.step hh.2.2 hh.2.1, hh.2.2⟩
theorem last_run {w wx : World} {s p b q n : Nat} {S : Ses} (h : SRun w wx s p b q n S) (k : Int) (hk : InI k) (ls : Int) (lr : Rep) (is : Bool) (h1 : seqL (lookC S.C k) = ls) (h2 : repL (lookC S.C k) = lr) (h3 : (lookC S.C k).isSome = is) :
    Calls Tryz.prog 10 #[.pointer (some ⟨s, 0, none⟩), .int .i64 k] wx fun e w' => e = .returned (.tuple #[.int .i64 ls, repV lr, .bool is]) ∧ (SRun w w' s p b q n S ∧ Below wx.heap.size wx w') :=
  (last_any s p b q n S k wx h.ses hk ls lr is h1 h2 h3).mono fun e w' hh => ⟨hh.1, h.next hh.2, hh.2⟩
theorem sapp_run {w wx : World} {s p b q n : Nat} {S : Ses} (h : SRun w wx s p b q n S) :
    Calls Tryz.prog 14 #[.pointer (some ⟨s, 0, none⟩)] wx fun e w' => ∃ p2 b2, e = .returned (.pointer (some ⟨p2, 0, none⟩)) ∧ (RunAt w w' p2 b2 n S.A ∧ SRun w w' s p b q n S ∧ Below wx.heap.size wx w' ∧ wx.heap.size ≤ p2 ∧ wx.heap.size ≤ b2) :=
  (sapp_any s p b q n S wx h.ses).mono fun e w' ⟨p2, b2, he, ha, hp, hb, hbel⟩ => ⟨p2, b2, he, ⟨h.bel.trans (hbel.mono h.bel.size), ha, Nat.le_trans h.bel.size hp, Nat.le_trans h.bel.size hb⟩, h.next hbel, hbel, hp, hb⟩
set_option maxRecDepth 100000 in
set_option maxHeartbeats 2000000 in
theorem all_any (w : World) :
    Calls Tryz.prog 13 #[] w fun e w' => e = .returned (.agg #[.int .i64 5, .int .i64 1, .int .i64 1, .string ⟨#[]⟩, .string ⟨#[]⟩, .int .i64 0]) ∧ Below w.heap.size w w' := by
  go_enter Tryz.func13, Tryz.ntmps13
  go_wp2_with fail
  refine ret_box w.heap.size #[.int .i64 5, .int .i64 1, .int .i64 1, .string ⟨#[]⟩, .string ⟨#[]⟩, .int .i64 0] 38 (.agg #[.int .i64 5, .int .i64 1, .int .i64 1, .string ⟨#[]⟩, .string ⟨#[]⟩, .int .i64 0]) ?_ (fun W' h => ?_) rfl ?_
  · exact heap_alloc_new w _
  · obtain ⟨⟨r0, r1, r2, r3, r4, r5⟩, _⟩ := box6 h
    simp [results, Tryz.results13, go_sem, r0, r1, r2, r3, r4, r5]
  · exact ⟨rfl, (Below.refl _ _).alloc (Nat.le_refl _) _⟩
theorem sex_one : sesDo ⟨[], []⟩ ex1 = (⟨[⟨ka, vv, 1⟩], [⟨1, 1, ⟨0, nul, 1⟩⟩]⟩, ⟨0, nul, 1⟩, true) := by
  unfold sesDo
  rw [if_neg (by rw [chk_ex1]; decide), if_neg (by decide), if_neg (by decide), if_neg (by decide)]
  unfold sesNew
  rw [ex_one]
  rfl
theorem sex_two : sesDo ⟨[⟨ka, vv, 1⟩], [⟨1, 1, ⟨0, nul, 1⟩⟩]⟩ ex1 = (⟨[⟨ka, vv, 1⟩], [⟨1, 1, ⟨0, nul, 1⟩⟩]⟩, ⟨0, nul, 1⟩, false) := by
  unfold sesDo
  rw [if_neg (by rw [chk_ex1]; decide), if_neg (by decide), if_pos (by decide)]
  rfl
set_option maxRecDepth 100000 in
set_option maxHeartbeats 2000000 in
theorem sawake_any (w : World) (hT : TabsI w) :
    Calls Tryz.prog 5 #[] w fun e w' => e = .returned (.bool true) ∧ Below w.heap.size w w' := by
  have HT := Lib.hid hT
  have HD1 : Hid (∀ (wx : World) (s p b q : Nat), SRun w wx s p b q 0 ⟨[], []⟩ →
    Calls Tryz.prog 9 #[.pointer (some ⟨s, 0, none⟩), .agg #[.int .i64 2, .int .i64 1, .int .i64 1, .string ⟨#[97]⟩, .string ⟨#[118]⟩, .int .i64 0]] wx fun e w' => e = .returned (.tuple #[.agg #[.int .i64 0, .string ⟨#[]⟩, .int .i64 1], .bool true]) ∧ (SRun w w' s p b q 1 ⟨[⟨ka, vv, 1⟩], [⟨1, 1, ⟨0, nul, 1⟩⟩]⟩ ∧ Mods (fun k => k = b ∨ k = q) wx w')) :=
    Lib.hid fun wx s p b q h => sdo_run h SGood.nil (by decide) hT ex1 (by decide) (by unfold InI; decide) _ _ _ sex_one
  have G1 : SGood 1 ⟨[⟨ka, vv, 1⟩], [⟨1, 1, ⟨0, nul, 1⟩⟩]⟩ := by have := (SGood.nil).step ex1; rw [sex_one] at this; exact this
  have HD2 : Hid (∀ (wx : World) (s p b q : Nat), SRun w wx s p b q 1 ⟨[⟨ka, vv, 1⟩], [⟨1, 1, ⟨0, nul, 1⟩⟩]⟩ →
    Calls Tryz.prog 9 #[.pointer (some ⟨s, 0, none⟩), .agg #[.int .i64 2, .int .i64 1, .int .i64 1, .string ⟨#[97]⟩, .string ⟨#[118]⟩, .int .i64 0]] wx fun e w' => e = .returned (.tuple #[.agg #[.int .i64 0, .string ⟨#[]⟩, .int .i64 1], .bool false]) ∧ (SRun w w' s p b q 2 ⟨[⟨ka, vv, 1⟩], [⟨1, 1, ⟨0, nul, 1⟩⟩]⟩ ∧ Mods (fun k => k = b ∨ k = q) wx w')) :=
    Lib.hid fun wx s p b q h => sdo_run h G1 (by decide) hT ex1 (by decide) (by unfold InI; decide) _ _ _ sex_two
  clear hT G1
  go_enter Tryz.func5, Tryz.ntmps5
  go_wp2_with fail
  refine (snew_run w).mono ?_
  rintro e w1 ⟨s, p, b, q, rfl, hr1⟩
  have HR1 := Lib.hid hr1
  clear hr1
  go_upto_region 3 with fail
  obtain ⟨w2, hw2⟩ : ∃ w2, w2 = w1.alloc (.cells #[.int .i64 2, .int .i64 1, .int .i64 1, .string ⟨#[97]⟩, .string ⟨#[118]⟩, .int .i64 0] 38) := ⟨_, rfl⟩
  rw [← hw2]
  have HR2 := Lib.hid (HR1.out.next (w2 := w2) (by rw [hw2]; exact (Below.refl _ _).alloc (Nat.le_refl _) _))
  have HC2 : Hid (w2.heap[w1.heap.size]? = some (.cells #[.int .i64 2, .int .i64 1, .int .i64 1, .string ⟨#[97]⟩, .string ⟨#[118]⟩, .int .i64 0] 38 (0, 0))) := Lib.hid (by rw [hw2]; exact heap_alloc_new w1 _)
  have hb1 := HR1.out.ses.app.blt
  have hq1 := HR1.out.ses.qlt
  clear hw2
  obtain ⟨⟨c0, c1, c2, c3, c4, c5⟩, _⟩ := box6 HC2.out
  go_wp2_with fail
  refine (HD1.out _ _ _ _ _ HR2.out).mono ?_
  rintro e w3 ⟨rfl, hr3, hm3⟩
  have HR3 := Lib.hid hr3
  have HC3 := Lib.hid (hm3.heap HC2.out (by omega))
  clear hr3 hm3 c0 c1 c2 c3 c4 c5
  go_upto_region 4 with fail
  obtain ⟨w4, hw4⟩ : ∃ w4, w4 = w3.alloc (.cells #[.int .i64 0, .string ⟨#[]⟩, .int .i64 1] 33) := ⟨_, rfl⟩
  rw [← hw4]
  have HB4 : Hid (Below w3.heap.size w3 w4) := Lib.hid (by rw [hw4]; exact (Below.refl _ _).alloc (Nat.le_refl _) _)
  have HR4 := Lib.hid (HR3.out.next HB4.out)
  have HC4 := Lib.hid ((HB4.out.block _ (M.heap_lt HC3.out)).trans HC3.out)
  have HX4 : Hid (w4.heap[w3.heap.size]? = some (.cells #[.int .i64 0, .string ⟨#[]⟩, .int .i64 1] 33 (0, 0))) := Lib.hid (by rw [hw4]; exact heap_alloc_new w3 _)
  have hb3 := HR3.out.ses.app.blt
  have hq3 := HR3.out.ses.qlt
  clear hw4
  obtain ⟨⟨c0, c1, c2, c3, c4, c5⟩, _⟩ := box6 HC4.out
  go_wp2_with fail
  refine (HD2.out _ _ _ _ _ HR4.out).mono ?_
  rintro e w5 ⟨rfl, hr5, hm5⟩
  have HR5 := Lib.hid hr5
  have HX5 := Lib.hid (hm5.heap HX4.out (by omega))
  clear hr5 hm5 c0 c1 c2 c3 c4 c5
  go_upto_region 5 with fail
  obtain ⟨w6, hw6⟩ : ∃ w6, w6 = w5.alloc (.cells #[.int .i64 0, .string ⟨#[]⟩, .int .i64 1] 33) := ⟨_, rfl⟩
  rw [← hw6]
  have HB6 : Hid (Below w5.heap.size w5 w6) := Lib.hid (by rw [hw6]; exact (Below.refl _ _).alloc (Nat.le_refl _) _)
  have HR6 := Lib.hid (HR5.out.next HB6.out)
  have hx := (HB6.out.block _ (M.heap_lt HX5.out)).trans HX5.out
  have hy : w6.heap[w5.heap.size]? = some (.cells #[.int .i64 0, .string ⟨#[]⟩, .int .i64 1] 33 (0, 0)) := by rw [hw6]; exact heap_alloc_new w5 _
  clear hw6
  obtain ⟨⟨x0, x1, x2⟩, _, _⟩ := box3 hx
  obtain ⟨⟨y0, y1, y2⟩, _, _⟩ := box3 hy
  have q1 := rep_same 0 ⟨#[]⟩ 1
  clear hx hy
  go_wp2_with fail
  go_ret
  exact ⟨rfl, HR6.out.bel⟩
end Go.Proofs.YtpeiamllkddhiaaGreatDoor.P
