/- The program's settings: put, remove, cas. -/
import Derived.Test.YtkgjfagejnppbaaGreatDoorMrg26
namespace Go.Proofs.YtkgjfagejnppbaaGreatDoor.P
open Go.RowKit Go.Proofs.YtkgjfagejnppbaaGreatDoor.R Go.Proofs.YtkgjfagejnppbaaGreatDoor.M Go.BigFrame Go.Maps
set_option linter.unusedVariables false
set_option linter.unusedSimpArgs false

theorem mods_set3 {S : Nat → Prop} {w w1 : World} {r : Nat} {u0 u1 u2 : Value} (h : Mods S w w1) (hr : w.heap.size ≤ r) : Mods S w (((w1.setCell ⟨r, 0, none⟩ u0).setCell ⟨r, 1, none⟩ u1).setCell ⟨r, 2, none⟩ u2) :=
  ((h.setCell (p := ⟨r, 0, none⟩) (fun h => by simp only at h; omega) _).setCell (p := ⟨r, 1, none⟩) (fun h => by simp only at h; omega) _).setCell (p := ⟨r, 2, none⟩) (fun h => by simp only at h; omega) _
theorem mods3 {w w1 : World} {r : Nat} {u0 u1 u2 : Value} : Mods (fun k => k = r) w1 (((w1.setCell ⟨r, 0, none⟩ u0).setCell ⟨r, 1, none⟩ u1).setCell ⟨r, 2, none⟩ u2) :=
  (((Mods.refl (fun k => k = r) w1).setCell (p := ⟨r, 0, none⟩) (fun _ => rfl) _).setCell (p := ⟨r, 1, none⟩) (fun _ => rfl) _).setCell (p := ⟨r, 2, none⟩) (fun _ => rfl) _
theorem AppAt.set3 {w1 : World} {p b n r : Nat} {A : List Ent} {u0 u1 u2 : Value} (h : AppAt w1 p b n A) (hp : p ≠ r) (hb : b ≠ r) : AppAt (((w1.setCell ⟨r, 0, none⟩ u0).setCell ⟨r, 1, none⟩ u1).setCell ⟨r, 2, none⟩ u2) p b n A :=
  h.keep (mods3 (w := w1)) hp hb
/-- the map's store, at the operation -/
theorem wpList_put_map {ops : Array Oper} {rest : List Oper} {o : Oper} {a : Act} {Q : Exit → Act → World → Prop} {w : World} {b n : Nat} {A : List Ent} (h : MapA w b n A) (hs : Srt A) (hn : n < maxLen) (e : Ent) (hk : e.key.size ≤ maxLen)
    (hg : o.guard = none) (m x v : Operand) (hop : o.op = Op.mapUpdate 66 m x v) (hm : a.eval m = .map (some b)) (hx : a.eval x = .string e.key) (hv : a.eval v = .agg #[.string e.val, .int .i64 e.rev])
    (hK : ∀ w', MapA w' b (n + 1) (P.put A e) → Mods (fun k => k = b) w w' → wpList Tryz.prog ops Q rest (a.put o.dst undef) w') : wpList Tryz.prog ops Q (o :: rest) a w := by
  refine wpList_plain hg fun K' hK' => ?_
  obtain ⟨w', hrun, r1, r2⟩ := h.put hs hn e hk
  unfold Oper.wp
  have hrun : (Instr.mapUpdate 66 (.map (some b)) (.string e.key) (.agg #[.string e.val, .int .i64 e.rev])).run Tryz.prog w = .ok () w' := hrun
  simp [execOp, hop, hm, hx, hv, hrun, Result.andThen]
  exact hK' _ _ (hK w' r1 r2)
theorem wpList_del_map {ops : Array Oper} {rest : List Oper} {o : Oper} {a : Act} {Q : Exit → Act → World → Prop} {w : World} {b n : Nat} {A : List Ent} (h : MapA w b n A) (hs : Srt A) (k : ByteArray) (hk : k.size ≤ maxLen)
    (hg : o.guard = none) (m x : Operand) (hop : o.op = Op.call { callee := Callee.builtin Builtin.delete, args := #[m, x], argTypes := #[66, 9] }) (hm : a.eval m = .map (some b)) (hx : a.eval x = .string k)
    (hK : ∀ w', MapA w' b n (P.del A k) → Mods (fun k => k = b) w w' → wpList Tryz.prog ops Q rest (a.put o.dst (.tuple #[])) w') : wpList Tryz.prog ops Q (o :: rest) a w := by
  refine wpList_plain hg fun K' hK' => ?_
  obtain ⟨w', hrun, r1, r2⟩ := h.del hs k hk o.type
  unfold Oper.wp
  have hrun : (Builtin.delete_ #[66, 9] o.type #[.map (some b), .string k]).run Tryz.prog w = .ok (.tuple #[]) w' := hrun
  simp [execOp, hop, resolve, invoke, builtin, hm, hx, hrun, Result.andThen]
  exact hK' _ _ (hK w' r1 r2)
set_option maxRecDepth 100000 in
set_option maxHeartbeats 2000000 in
theorem put_any (p b n : Nat) (A : List Ent) (c : Cmd) (w : World) (h : AppAt w p b n A) (hn : n ≤ 1000000) (hs : Srt A) (hk : c.key.size ≤ 1000000) (r : Int) (hr : revOf A c.key = r) (h0 : 0 ≤ r) (h1 : r ≤ 1000000) :
    Calls Tryz.prog 26 #[.pointer (some ⟨p, 0, none⟩), cmdV c] w fun e w' => e = .returned (repV ⟨0, nul, r + 1⟩) ∧ (AppAt w' p b (n + 1) (put A ⟨c.key, c.val, r + 1⟩) ∧ Mods (fun k => k = b) w w') := by
  have HR := Lib.hid hr
  have HH := Lib.hid h
  have HS := Lib.hid hs
  clear h hr hs
  go_enter Tryz.func26, Tryz.ntmps26
  go_upto_region 1 with fail
  obtain ⟨W, hW⟩ : ∃ W, W = (w.alloc (.cells (cmdA c) 30)).alloc (.cells #[.int .i64 0, .string ⟨#[]⟩, .int .i64 0] 33) := ⟨_, rfl⟩
  rw [← hW]
  have HD : Hid (DoAt c w W) := Lib.hid (by rw [hW]; exact doAt_start c w)
  clear hW
  have HA := Lib.hid (HH.out.below HD.out.bel)
  have hzp := HA.out.plt
  have hzc : w.heap.size < W.heap.size := M.heap_lt HD.out.cb
  obtain ⟨⟨c0, c1, c2, c3, c4, c5⟩, _⟩ := box6 HD.out.cb
  have k0 := Kin.cell HA.out.pc
  have k1 := Kin.cell c3
  have k2 := kin_look HA.out hk
  rw [show revO (look A c.key) = r from HR.out] at k2
  obtain ⟨V, hV⟩ : ∃ V, V = valO (look A c.key) := ⟨_, rfl⟩
  rw [← hV] at k2
  clear hV
  have hfl : ∀ w : World, (Instr.field 96 (.agg #[.string V, .int .i64 r]) 1).run Tryz.prog w = .ok (.int .i64 r) w := fun _ => by kernel_rfl
  refine wp_region_kin (by kernel_rfl) (by kernel_rfl) ?_
  repeat (go_big_quiet_step (fail))
  refine wpQuiet_nil ?_
  intro _ hx
  obtain ⟨x1, rfl⟩ := hx
  obtain ⟨W1, hW1⟩ : ∃ W1, W1 = x1.w := ⟨_, rfl⟩
  have HB1 : Hid (Below W.heap.size W W1) := Lib.hid (by rw [hW1]; exact x1.h)
  rw [← hW1]
  clear hW1 k0 k1 k2 hfl
  have HD1 := Lib.hid (HD.out.next HB1.out)
  have HA1 := Lib.hid (HA.out.below HB1.out)
  clear c0 c1 c2 c3 c4 c5
  obtain ⟨⟨c0, c1, c2, c3, c4, c5⟩, _⟩ := box6 HD1.out.cb
  obtain ⟨⟨d0, d1, d2⟩, fd, sd⟩ := box3 HD1.out.rb
  clear d0 d1 d2 fd sd
  go_upto_region 2 with fail
  have k0 := Kin.cell HA1.out.pc
  have k1 := Kin.cell c3
  have k2 := Kin.cell c4
  clear c0 c1 c2 c3 c4 c5
  refine wp_region_kin_tail 10 (by kernel_rfl) (by kernel_rfl) ?_
  simp only [List.take_succ_cons, List.take_zero, List.drop_succ_cons, List.drop_zero]
  repeat (go_big_quiet_step (fail))
  refine wpQuiet_nil ?_
  intro _ hx
  obtain ⟨xk, rfl⟩ := hx
  refine wpList_put_map (HA1.out.below xk.h).map HS.out (by unfold maxLen; omega) ⟨c.key, c.val, r + 1⟩ (by unfold maxLen; simp only; omega) (by rfl) _ _ _ (by rfl) (by rfl) (by rfl) (by rfl) ?_
  intro w5 hm5 hM5
  obtain ⟨W2, hW2⟩ : ∃ W2, W2 = xk.w := ⟨_, rfl⟩
  have HB2 : Hid (Below W1.heap.size W1 W2) := Lib.hid (by rw [hW2]; exact xk.h)
  rw [← hW2] at hM5
  clear hW2 k0 k1 k2
  have hbw := HH.out.blt
  have hpw := HH.out.plt
  have hM : Mods (fun k => k = b) w w5 := (Mods.of_below (HD1.out.bel.trans (HB2.out.mono HD1.out.bel.size))).trans hM5
  have hrb : w5.heap[w.heap.size + 1]? = _ := hM5.heap (HD1.out.next HB2.out).rb (by omega)
  have hA5 : AppAt w5 p b (n + 1) (put A ⟨c.key, c.val, r + 1⟩) := ⟨hM.heap HH.out.box HH.out.ne, hm5⟩
  obtain ⟨⟨d0, d1, d2⟩, fd, sd⟩ := box3 hrb
  have HM := Lib.hid hM
  have HRB := Lib.hid hrb
  have HA5 := Lib.hid hA5
  clear hm5 hM5 hM hrb hA5
  go_wp2_with fail
  refine ret_box (w.heap.size + 1) #[.int .i64 0, .string nul, .int .i64 (r + 1)] 33 (.agg #[.int .i64 0, .string nul, .int .i64 (r + 1)]) ?_ (fun W' h => ?_) rfl ?_
  · exact set3 HRB.out
  · obtain ⟨⟨r0, r1, r2⟩, _, _⟩ := box3 h
    simp [results, Tryz.results26, go_sem, r0, r1, r2]
  · exact ⟨rfl, HA5.out.set3 (by omega) (by omega), mods_set3 HM.out (by omega)⟩
set_option maxRecDepth 100000 in
set_option maxHeartbeats 2000000 in
theorem rm_none (p b n : Nat) (A : List Ent) (c : Cmd) (w : World) (h : AppAt w p b n A) (hk : c.key.size ≤ 1000000) (hL : look A c.key = none) :
    Calls Tryz.prog 27 #[.pointer (some ⟨p, 0, none⟩), cmdV c] w fun e w' => e = .returned (repV ⟨8, nul, 0⟩) ∧ Below w.heap.size w w' := by
  have HL := Lib.hid hL
  have HH := Lib.hid h
  clear h hL
  go_enter Tryz.func27, Tryz.ntmps27
  go_upto_region 1 with fail
  obtain ⟨W, hW⟩ : ∃ W, W = (w.alloc (.cells (cmdA c) 30)).alloc (.cells #[.int .i64 0, .string ⟨#[]⟩, .int .i64 0] 33) := ⟨_, rfl⟩
  rw [← hW]
  have HD : Hid (DoAt c w W) := Lib.hid (by rw [hW]; exact doAt_start c w)
  clear hW
  have HA := Lib.hid (HH.out.below HD.out.bel)
  have hzp := HA.out.plt
  have hzc : w.heap.size < W.heap.size := M.heap_lt HD.out.cb
  obtain ⟨⟨c0, c1, c2, c3, c4, c5⟩, _⟩ := box6 HD.out.cb
  have HST := Lib.hid (show ∀ w', Below W.heap.size W w' → (fun w' => w'.cell? ⟨p, 0, none⟩ = some (.map (some b)) ∧ w'.cell? ⟨w.heap.size, 3, none⟩ = some (.string c.key) ∧ (Instr.lookup 66 (.map (some b)) (.string c.key) true).run Tryz.prog w' = .ok (.tuple #[.agg #[.string ⟨#[]⟩, .int .i64 0], .bool false]) w' ∧ Below W.heap.size W w') w' from fun w' hb =>
    ⟨(hb.cell (p := ⟨p, 0, none⟩) hzp).trans HA.out.pc, (hb.cell (p := ⟨w.heap.size, 3, none⟩) hzc).trans c3, by have := kin_look_ok HA.out hk ⟨w', hb⟩; rw [HL.out] at this; exact this, hb⟩)
  clear c0 c1 c2 c3 c4 c5
  go_region_held3 (fun w' => w'.cell? ⟨p, 0, none⟩ = some (.map (some b)) ∧ w'.cell? ⟨w.heap.size, 3, none⟩ = some (.string c.key) ∧ (Instr.lookup 66 (.map (some b)) (.string c.key) true).run Tryz.prog w' = .ok (.tuple #[.agg #[.string ⟨#[]⟩, .int .i64 0], .bool false]) w' ∧ Below W.heap.size W w')
    (first | exact HST.out _ (Below.refl _ _).drew | exact HST.out _ ((Below.refl _ _).drew.alloc (Nat.le_refl _) _))
    (fail)
  all_goals
    obtain ⟨w5, hw5⟩ : ∃ w5, w5 = (W.alloc (.cells #[.string ⟨#[]⟩, .int .i64 0] 96)).drew := ⟨_, rfl⟩
    rw [← hw5]
    have hb5 : Below W.heap.size W w5 := by rw [hw5]; exact ((Below.refl _ _).alloc (Nat.le_refl _) _).drew
    have hx5 : w5.heap[W.heap.size]? = some (.cells #[.string ⟨#[]⟩, .int .i64 0] 96 (0, 0)) := by rw [hw5]; exact heap_alloc_new W _
    have HD5 := Lib.hid (HD.out.next hb5)
    have HX5 := Lib.hid hx5
    have HA5 := Lib.hid (HA.out.below hb5)
    obtain ⟨⟨s0, s1⟩, fs, _⟩ := box2 hx5
    obtain ⟨⟨d0, d1, d2⟩, fd, sd⟩ := box3 HD5.out.rb
    have hW5 : W.heap.size < w5.heap.size := M.heap_lt hx5
    clear hw5 hx5
    go_wp2_with fail
    refine ret_box (w.heap.size + 1) #[.int .i64 8, .string nul, .int .i64 0] 33 (.agg #[.int .i64 8, .string nul, .int .i64 0]) ?_ (fun W' h => ?_) rfl ?_
    · exact set3 HD5.out.rb
    · obtain ⟨⟨r0, r1, r2⟩, _, _⟩ := box3 h
      simp [results, Tryz.results27, go_sem, r0, r1, r2]
    · exact ⟨rfl, set3_below (by omega) HD5.out.bel⟩
set_option maxRecDepth 100000 in
set_option maxHeartbeats 2000000 in
theorem rm_some (p b n : Nat) (A : List Ent) (c : Cmd) (w : World) (h : AppAt w p b n A) (hs : Srt A) (hk : c.key.size ≤ 1000000) (x : Ent) (hL : look A c.key = some x) :
    Calls Tryz.prog 27 #[.pointer (some ⟨p, 0, none⟩), cmdV c] w fun e w' => e = .returned (repV ⟨0, nul, x.rev⟩) ∧ (AppAt w' p b n (del A c.key) ∧ Mods (fun k => k = b) w w') := by
  have HL := Lib.hid hL
  have HH := Lib.hid h
  have HS := Lib.hid hs
  clear h hL hs
  go_enter Tryz.func27, Tryz.ntmps27
  go_upto_region 1 with fail
  obtain ⟨W, hW⟩ : ∃ W, W = (w.alloc (.cells (cmdA c) 30)).alloc (.cells #[.int .i64 0, .string ⟨#[]⟩, .int .i64 0] 33) := ⟨_, rfl⟩
  rw [← hW]
  have HD : Hid (DoAt c w W) := Lib.hid (by rw [hW]; exact doAt_start c w)
  clear hW
  have HA := Lib.hid (HH.out.below HD.out.bel)
  have hzp := HA.out.plt
  have hzc : w.heap.size < W.heap.size := M.heap_lt HD.out.cb
  obtain ⟨⟨c0, c1, c2, c3, c4, c5⟩, _⟩ := box6 HD.out.cb
  have HST := Lib.hid (show ∀ w', Below W.heap.size W w' → (fun w' => w'.cell? ⟨p, 0, none⟩ = some (.map (some b)) ∧ w'.cell? ⟨w.heap.size, 3, none⟩ = some (.string c.key) ∧ (Instr.lookup 66 (.map (some b)) (.string c.key) true).run Tryz.prog w' = .ok (.tuple #[.agg #[.string x.val, .int .i64 x.rev], .bool true]) w' ∧ Below W.heap.size W w') w' from fun w' hb =>
    ⟨(hb.cell (p := ⟨p, 0, none⟩) hzp).trans HA.out.pc, (hb.cell (p := ⟨w.heap.size, 3, none⟩) hzc).trans c3, by have := kin_look_ok HA.out hk ⟨w', hb⟩; rw [HL.out] at this; exact this, hb⟩)
  clear c0 c1 c2 c3 c4 c5
  go_region_held3 (fun w' => w'.cell? ⟨p, 0, none⟩ = some (.map (some b)) ∧ w'.cell? ⟨w.heap.size, 3, none⟩ = some (.string c.key) ∧ (Instr.lookup 66 (.map (some b)) (.string c.key) true).run Tryz.prog w' = .ok (.tuple #[.agg #[.string x.val, .int .i64 x.rev], .bool true]) w' ∧ Below W.heap.size W w')
    (first | exact HST.out _ (Below.refl _ _).drew | exact HST.out _ ((Below.refl _ _).drew.alloc (Nat.le_refl _) _))
    (fail)
  all_goals
    obtain ⟨w5, hw5⟩ : ∃ w5, w5 = (W.alloc (.cells #[.string x.val, .int .i64 x.rev] 96)).drew := ⟨_, rfl⟩
    rw [← hw5]
    have hb5 : Below W.heap.size W w5 := by rw [hw5]; exact ((Below.refl _ _).alloc (Nat.le_refl _) _).drew
    have hx5 : w5.heap[W.heap.size]? = some (.cells #[.string x.val, .int .i64 x.rev] 96 (0, 0)) := by rw [hw5]; exact heap_alloc_new W _
    have HD5 := Lib.hid (HD.out.next hb5)
    have HX5 := Lib.hid hx5
    have HA5 := Lib.hid (HA.out.below hb5)
    obtain ⟨⟨s0, s1⟩, fs, _⟩ := box2 hx5
    obtain ⟨⟨d0, d1, d2⟩, fd, sd⟩ := box3 HD5.out.rb
    have hW5 : W.heap.size < w5.heap.size := M.heap_lt hx5
    clear hw5 hx5
    clear s0 s1 fs d0 d1 d2 fd sd
    go_wp2_with fail
    obtain ⟨⟨_, _, _, c3, _, _⟩, _⟩ := box6 HD5.out.cb
    have k0 := Kin.cell HA5.out.pc
    have k1 := Kin.cell c3
    clear c3
    refine wp_region_kin_tail 6 (by kernel_rfl) (by kernel_rfl) ?_
    simp only [List.take_succ_cons, List.take_zero, List.drop_succ_cons, List.drop_zero]
    repeat (go_big_quiet_step (fail))
    refine wpQuiet_nil ?_
    intro _ hx
    obtain ⟨xk, rfl⟩ := hx
    refine wpList_del_map (HA5.out.below xk.h).map HS.out c.key (by unfold maxLen; omega) (by rfl) _ _ (by rfl) (by rfl) (by rfl) ?_
    intro w6 hm6 hM6
    obtain ⟨W2, hW2⟩ : ∃ W2, W2 = xk.w := ⟨_, rfl⟩
    have HB2 : Hid (Below w5.heap.size w5 W2) := Lib.hid (by rw [hW2]; exact xk.h)
    rw [← hW2] at hM6
    clear hW2 k0 k1
    have hbw := HH.out.blt
    have hpw := HH.out.plt
    have hWw : w.heap.size ≤ W.heap.size := HD.out.bel.size
    have hM : Mods (fun k => k = b) w w6 := (Mods.of_below (HD5.out.bel.trans (HB2.out.mono HD5.out.bel.size))).trans hM6
    have hrb : w6.heap[w.heap.size + 1]? = _ := hM6.heap (HD5.out.next HB2.out).rb (by omega)
    have hsb : w6.heap[W.heap.size]? = _ := hM6.heap ((HB2.out.block _ (M.heap_lt HX5.out)).trans HX5.out) (by omega)
    have hA6 : AppAt w6 p b n (del A c.key) := ⟨hM.heap HH.out.box HH.out.ne, hm6⟩
    obtain ⟨⟨d0, d1, d2⟩, fd, sd⟩ := box3 hrb
    obtain ⟨⟨s0, s1⟩, fs, _⟩ := box2 hsb
    have HM := Lib.hid hM
    have HRB := Lib.hid hrb
    have HA6 := Lib.hid hA6
    clear hm6 hM6 hM hrb hA6 hsb
    go_wp2_with fail
    refine ret_box (w.heap.size + 1) #[.int .i64 0, .string nul, .int .i64 x.rev] 33 (.agg #[.int .i64 0, .string nul, .int .i64 x.rev]) ?_ (fun W' h => ?_) rfl ?_
    · exact set3 HRB.out
    · obtain ⟨⟨r0, r1, r2⟩, _, _⟩ := box3 h
      simp [results, Tryz.results27, go_sem, r0, r1, r2]
    · exact ⟨rfl, HA6.out.set3 (by omega) (by omega), mods_set3 HM.out (by omega)⟩
set_option maxRecDepth 100000 in
set_option maxHeartbeats 2000000 in
theorem cas_no (p b n : Nat) (A : List Ent) (c : Cmd) (w : World) (h : AppAt w p b n A) (hk : c.key.size ≤ 1000000) (r : Int) (hr : revOf A c.key = r) (hne : r ≠ c.rev) :
    Calls Tryz.prog 28 #[.pointer (some ⟨p, 0, none⟩), cmdV c] w fun e w' => e = .returned (repV ⟨10, nul, r⟩) ∧ Below w.heap.size w w' := by
  have HR := Lib.hid hr
  have HH := Lib.hid h
  have e1 : (r != c.rev) = true := by rw [bne_iff_ne]; exact hne
  clear h hr hne
  go_enter Tryz.func28, Tryz.ntmps28
  go_upto_region 1 with fail
  obtain ⟨W, hW⟩ : ∃ W, W = (w.alloc (.cells (cmdA c) 30)).alloc (.cells #[.int .i64 0, .string ⟨#[]⟩, .int .i64 0] 33) := ⟨_, rfl⟩
  rw [← hW]
  have HD : Hid (DoAt c w W) := Lib.hid (by rw [hW]; exact doAt_start c w)
  clear hW
  have HA := Lib.hid (HH.out.below HD.out.bel)
  have hzp := HA.out.plt
  have hzc : w.heap.size < W.heap.size := M.heap_lt HD.out.cb
  obtain ⟨⟨c0, c1, c2, c3, c4, c5⟩, _⟩ := box6 HD.out.cb
  have k0 := Kin.cell HA.out.pc
  have k1 := Kin.cell c3
  have k2 := kin_look HA.out hk
  rw [show revO (look A c.key) = r from HR.out] at k2
  obtain ⟨V, hV⟩ : ∃ V, V = valO (look A c.key) := ⟨_, rfl⟩
  rw [← hV] at k2
  clear hV
  have hfl : ∀ w : World, (Instr.field 96 (.agg #[.string V, .int .i64 r]) 1).run Tryz.prog w = .ok (.int .i64 r) w := fun _ => by kernel_rfl
  refine wp_region_kin (by kernel_rfl) (by kernel_rfl) ?_
  repeat (go_big_quiet_step (fail))
  refine wpQuiet_nil ?_
  intro _ hx
  obtain ⟨x1, rfl⟩ := hx
  obtain ⟨W1, hW1⟩ : ∃ W1, W1 = x1.w := ⟨_, rfl⟩
  have HB1 : Hid (Below W.heap.size W W1) := Lib.hid (by rw [hW1]; exact x1.h)
  rw [← hW1]
  clear hW1 k0 k1 k2 hfl
  have HD1 := Lib.hid (HD.out.next HB1.out)
  have HA1 := Lib.hid (HA.out.below HB1.out)
  clear c0 c1 c2 c3 c4 c5
  obtain ⟨⟨c0, c1, c2, c3, c4, c5⟩, _⟩ := box6 HD1.out.cb
  obtain ⟨⟨d0, d1, d2⟩, fd, sd⟩ := box3 HD1.out.rb
  go_wp2_with fail
  refine ret_box (w.heap.size + 1) #[.int .i64 10, .string nul, .int .i64 r] 33 (.agg #[.int .i64 10, .string nul, .int .i64 r]) ?_ (fun W' h => ?_) rfl ?_
  · exact set3 HD1.out.rb
  · obtain ⟨⟨r0, r1, r2⟩, _, _⟩ := box3 h
    simp [results, Tryz.results28, go_sem, r0, r1, r2]
  · exact ⟨rfl, set3_below (by omega) HD1.out.bel⟩
set_option maxRecDepth 100000 in
set_option maxHeartbeats 2000000 in
theorem cas_yes (p b n : Nat) (A : List Ent) (c : Cmd) (w : World) (h : AppAt w p b n A) (hn : n ≤ 1000000) (hs : Srt A) (hk : c.key.size ≤ 1000000) (r : Int) (hr : revOf A c.key = r) (h0 : 0 ≤ r) (h1 : r ≤ 1000000) (hne : r = c.rev) :
    Calls Tryz.prog 28 #[.pointer (some ⟨p, 0, none⟩), cmdV c] w fun e w' => e = .returned (repV ⟨0, nul, r + 1⟩) ∧ (AppAt w' p b (n + 1) (put A ⟨c.key, c.val, r + 1⟩) ∧ Mods (fun k => k = b) w w') := by
  have HR := Lib.hid hr
  have HH := Lib.hid h
  have HS := Lib.hid hs
  have e1 : (r != c.rev) = false := by rw [bne_eq_false_iff_eq]; exact hne
  clear h hr hne hs
  go_enter Tryz.func28, Tryz.ntmps28
  go_upto_region 1 with fail
  obtain ⟨W, hW⟩ : ∃ W, W = (w.alloc (.cells (cmdA c) 30)).alloc (.cells #[.int .i64 0, .string ⟨#[]⟩, .int .i64 0] 33) := ⟨_, rfl⟩
  rw [← hW]
  have HD : Hid (DoAt c w W) := Lib.hid (by rw [hW]; exact doAt_start c w)
  clear hW
  have HA := Lib.hid (HH.out.below HD.out.bel)
  have hzp := HA.out.plt
  have hzc : w.heap.size < W.heap.size := M.heap_lt HD.out.cb
  obtain ⟨⟨c0, c1, c2, c3, c4, c5⟩, _⟩ := box6 HD.out.cb
  have k0 := Kin.cell HA.out.pc
  have k1 := Kin.cell c3
  have k2 := kin_look HA.out hk
  rw [show revO (look A c.key) = r from HR.out] at k2
  obtain ⟨V, hV⟩ : ∃ V, V = valO (look A c.key) := ⟨_, rfl⟩
  rw [← hV] at k2
  clear hV
  have hfl : ∀ w : World, (Instr.field 96 (.agg #[.string V, .int .i64 r]) 1).run Tryz.prog w = .ok (.int .i64 r) w := fun _ => by kernel_rfl
  refine wp_region_kin (by kernel_rfl) (by kernel_rfl) ?_
  repeat (go_big_quiet_step (fail))
  refine wpQuiet_nil ?_
  intro _ hx
  obtain ⟨x1, rfl⟩ := hx
  obtain ⟨W1, hW1⟩ : ∃ W1, W1 = x1.w := ⟨_, rfl⟩
  have HB1 : Hid (Below W.heap.size W W1) := Lib.hid (by rw [hW1]; exact x1.h)
  rw [← hW1]
  clear hW1 k0 k1 k2 hfl
  have HD1 := Lib.hid (HD.out.next HB1.out)
  have HA1 := Lib.hid (HA.out.below HB1.out)
  clear c0 c1 c2 c3 c4 c5
  obtain ⟨⟨c0, c1, c2, c3, c4, c5⟩, _⟩ := box6 HD1.out.cb
  obtain ⟨⟨d0, d1, d2⟩, fd, sd⟩ := box3 HD1.out.rb
  clear d0 d1 d2 fd sd
  go_wp2_with fail
  refine (put_any p b n A c W1 HA1.out hn HS.out hk r HR.out h0 h1).mono ?_
  rintro e w5 ⟨rfl, hA5, hM5⟩
  have hbw := HH.out.blt
  have hpw := HH.out.plt
  have hM : Mods (fun k => k = b) w w5 := (Mods.of_below HD1.out.bel).trans hM5
  have hrb : w5.heap[w.heap.size + 1]? = _ := hM5.heap HD1.out.rb (by omega)
  obtain ⟨⟨d0, d1, d2⟩, fd, sd⟩ := box3 hrb
  have HM := Lib.hid hM
  have HRB := Lib.hid hrb
  have HA5 := Lib.hid hA5
  clear hM5 hM hrb hA5
  go_wp2_with fail
  refine ret_box (w.heap.size + 1) #[.int .i64 0, .string nul, .int .i64 (r + 1)] 33 (.agg #[.int .i64 0, .string nul, .int .i64 (r + 1)]) ?_ (fun W' h => ?_) rfl ?_
  · exact set3 HRB.out
  · obtain ⟨⟨r0, r1, r2⟩, _, _⟩ := box3 h
    simp [results, Tryz.results28, go_sem, r0, r1, r2]
  · exact ⟨rfl, HA5.out.set3 (by omega) (by omega), mods_set3 HM.out (by omega)⟩
end Go.Proofs.YtkgjfagejnppbaaGreatDoor.P
