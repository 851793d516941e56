/- The program's settings: New, none, get, put. -/
import Derived.Test.YtpeiamllkddhiaaGreatDoorAppJ
import Derived.Test.YtpeiamllkddhiaaGreatDoorAppK
namespace Go.Proofs.YtpeiamllkddhiaaGreatDoor.P
open Go.RowKit Go.Proofs.YtpeiamllkddhiaaGreatDoor.R Go.Proofs.YtpeiamllkddhiaaGreatDoor.M Go.BigFrame
set_option linter.unusedVariables false
set_option linter.unusedSimpArgs false

/-- settings at p, their map at b -/
structure AppAt (w : World) (p b n : Nat) (A : List Ent) : Prop where
  box : w.heap[p]? = some (.cells #[.map (some b)] 74 (0, 0))
  map : MapA w b n A
theorem AppAt.ne {w : World} {p b n : Nat} {A : List Ent} (h : AppAt w p b n A) : p ≠ b := by
  rintro rfl
  obtain ⟨D, ⟨es, clock, hb, _⟩, _⟩ := h.map
  rw [h.box] at hb
  cases hb
theorem AppAt.keep {w w1 : World} {p b n : Nat} {A : List Ent} {S : Nat → Prop} (h : AppAt w p b n A) (hm : Mods S w w1) (h1 : ¬ S p) (h2 : ¬ S b) : AppAt w1 p b n A :=
  ⟨hm.heap h.box h1, h.map.keep hm h2⟩
theorem AppAt.below {w w1 : World} {p b n : Nat} {A : List Ent} (h : AppAt w p b n A) (hm : Below w.heap.size w w1) : AppAt w1 p b n A :=
  h.keep (S := fun _ => False) (Mods.of_below hm) (fun h => h) (fun h => h)
theorem AppAt.mono {w : World} {p b n m : Nat} {A : List Ent} (h : AppAt w p b n A) (hm : n ≤ m) : AppAt w p b m A := ⟨h.box, h.map.mono hm⟩
theorem AppAt.plt {w : World} {p b n : Nat} {A : List Ent} (h : AppAt w p b n A) : p < w.heap.size := M.heap_lt h.box
theorem AppAt.blt {w : World} {p b n : Nat} {A : List Ent} (h : AppAt w p b n A) : b < w.heap.size := h.map.lt
theorem AppAt.pc {w : World} {p b n : Nat} {A : List Ent} (h : AppAt w p b n A) : w.cell? ⟨p, 0, none⟩ = some (.map (some b)) := cell_of_row w p 0 _ _ (0, 0) h.box
theorem doAt_start (c : Cmd) (w : World) : DoAt c w ((w.alloc (.cells (cmdA c) 38)).alloc (.cells #[.int .i64 0, .string ⟨#[]⟩, .int .i64 0] 33)) := by
  refine ⟨((Below.refl _ _).alloc (Nat.le_refl _) _).alloc (by simp) _, ?_, ?_⟩
  · rw [heap_al, if_neg (by simp), heap_alloc_new]
  · rw [heap_al, if_pos (by simp)]
/-- what a look-up tells, in every world that keeps the map -/
theorem kin_look {W : World} {p b n : Nat} {A : List Ent} (h : AppAt W p b n A) {k : ByteArray} (hk : k.size ≤ 1000000) (x : Kin W) :
    (Instr.lookup 72 (.map (some b)) (.string k) false).run Tryz.prog x.w = .ok (.agg #[.string (valO (look A k)), .int .i64 (revO (look A k))]) x.w :=
  (h.below x.h).map.look (Tryz.zeroValue77 _) rfl (by unfold maxLen; omega)
theorem kin_look_ok {W : World} {p b n : Nat} {A : List Ent} (h : AppAt W p b n A) {k : ByteArray} (hk : k.size ≤ 1000000) (x : Kin W) :
    (Instr.lookup 72 (.map (some b)) (.string k) true).run Tryz.prog x.w = .ok (.tuple #[.agg #[.string (valO (look A k)), .int .i64 (revO (look A k))], .bool (look A k).isSome]) x.w :=
  (h.below x.h).map.look_ok (Tryz.zeroValue77 _) rfl (by unfold maxLen; omega)
set_option maxRecDepth 100000 in
set_option maxHeartbeats 2000000 in
theorem new_any (w : World) :
    Calls Tryz.prog 16 #[] w fun e w' => ∃ p b, e = .returned (.pointer (some ⟨p, 0, none⟩)) ∧ (AppAt w' p b 0 [] ∧ w.heap.size ≤ p ∧ w.heap.size ≤ b ∧ Below w.heap.size w w') := by
  have hmm := @run_makeMap Tryz.prog
  go_enter Tryz.func16, Tryz.ntmps16
  go_wp2_with fail
  go_ret
  refine ⟨w.heap.size + 1, w.heap.size, rfl, ⟨?_, ?_⟩, by omega, by omega, ((Below.refl _ _).alloc (Nat.le_refl _) _).alloc (by simp) _⟩
  · rw [heap_al, if_pos (by simp)]
  · exact (MapA.made w).below ((Below.refl _ _).alloc (Nat.le_refl _) _)
set_option maxRecDepth 100000 in
set_option maxHeartbeats 2000000 in
theorem none_any (c : Cmd) (p : Value) (w : World) :
    Calls Tryz.prog 27 #[p, cmdV c] w fun e w' => e = .returned (repV ⟨0, nul, 0⟩) ∧ Below w.heap.size w w' := by
  go_enter Tryz.func27, Tryz.ntmps27
  go_wp2_with fail
  have hd := doAt_start c w
  refine ret_box (w.heap.size + 1) #[.int .i64 0, .string ⟨#[]⟩, .int .i64 0] 33 (.agg #[.int .i64 0, .string ⟨#[]⟩, .int .i64 0]) ?_ (fun W' h => ?_) rfl ?_
  · exact hd.rb
  · obtain ⟨⟨r0, r1, r2⟩, _, _⟩ := box3 h
    simp [results, Tryz.results27, go_sem, r0, r1, r2]
  · exact ⟨rfl, hd.bel⟩
def getO : Option Ent → Rep
  | none => ⟨8, nul, 0⟩
  | some e => ⟨0, e.val, e.rev⟩
def getR (A : List Ent) (k : ByteArray) : Rep := getO (look A k)
set_option maxRecDepth 100000 in
set_option maxHeartbeats 2000000 in
theorem get_any (p b n : Nat) (A : List Ent) (c : Cmd) (w : World) (h : AppAt w p b n A) (hk : c.key.size ≤ 1000000) (R : Rep) (hR : getR A c.key = R) :
    Calls Tryz.prog 28 #[.pointer (some ⟨p, 0, none⟩), cmdV c] w fun e w' => e = .returned (repV R) ∧ Below w.heap.size w w' := by
  subst hR
  obtain ⟨L, hL⟩ : ∃ L, look A c.key = L := ⟨_, rfl⟩
  have HL := Lib.hid hL
  have HH := Lib.hid h
  have HV : Hid (getR A c.key = getO L) := Lib.hid (by unfold getR; rw [hL])
  clear h hL
  go_enter Tryz.func28, Tryz.ntmps28
  go_upto_region 1 with fail
  obtain ⟨W, hW⟩ : ∃ W, W = (w.alloc (.cells (cmdA c) 38)).alloc (.cells #[.int .i64 0, .string ⟨#[]⟩, .int .i64 0] 33) := ⟨_, rfl⟩
  rw [← hW]
  have HD : Hid (DoAt c w W) := Lib.hid (by rw [hW]; exact doAt_start c w)
  clear hW
  have HA := Lib.hid (HH.out.below HD.out.bel)
  have hzp := HA.out.plt
  have hzc : w.heap.size < W.heap.size := M.heap_lt HD.out.cb
  obtain ⟨⟨c0, c1, c2, c3, c4, c5⟩, _⟩ := box6 HD.out.cb
  cases L with
  | none =>
    have HST := Lib.hid (show ∀ w', Below W.heap.size W w' → (fun w' => w'.cell? ⟨p, 0, none⟩ = some (.map (some b)) ∧ w'.cell? ⟨w.heap.size, 3, none⟩ = some (.string c.key) ∧ (Instr.lookup 72 (.map (some b)) (.string c.key) true).run Tryz.prog w' = .ok (.tuple #[.agg #[.string ⟨#[]⟩, .int .i64 0], .bool false]) w' ∧ Below W.heap.size W w') w' from fun w' hb =>
      ⟨(hb.cell (p := ⟨p, 0, none⟩) hzp).trans HA.out.pc, (hb.cell (p := ⟨w.heap.size, 3, none⟩) hzc).trans c3, by have := kin_look_ok HA.out hk ⟨w', hb⟩; rw [HL.out] at this; exact this, hb⟩)
    clear c0 c1 c2 c3 c4 c5
    go_region_held3 (fun w' => w'.cell? ⟨p, 0, none⟩ = some (.map (some b)) ∧ w'.cell? ⟨w.heap.size, 3, none⟩ = some (.string c.key) ∧ (Instr.lookup 72 (.map (some b)) (.string c.key) true).run Tryz.prog w' = .ok (.tuple #[.agg #[.string ⟨#[]⟩, .int .i64 0], .bool false]) w' ∧ Below W.heap.size W w')
      (first | exact HST.out _ (Below.refl _ _).drew | exact HST.out _ ((Below.refl _ _).drew.alloc (Nat.le_refl _) _))
      (fail)
    all_goals
      obtain ⟨w5, hw5⟩ : ∃ w5, w5 = (W.alloc (.cells #[.string ⟨#[]⟩, .int .i64 0] 77)).drew := ⟨_, rfl⟩
      rw [← hw5]
      have hb5 : Below W.heap.size W w5 := by rw [hw5]; exact ((Below.refl _ _).alloc (Nat.le_refl _) _).drew
      have hx5 : w5.heap[W.heap.size]? = some (.cells #[.string ⟨#[]⟩, .int .i64 0] 77 (0, 0)) := by rw [hw5]; exact heap_alloc_new W _
      have HD5 := Lib.hid (HD.out.next hb5)
      have HX5 := Lib.hid hx5
      have HA5 := Lib.hid (HA.out.below hb5)
      obtain ⟨⟨s0, s1⟩, fs, _⟩ := box2 hx5
      obtain ⟨⟨d0, d1, d2⟩, fd, sd⟩ := box3 HD5.out.rb
      have hW5 : W.heap.size < w5.heap.size := M.heap_lt hx5
      clear hw5 hx5
      go_wp2_with fail
      refine ret_box (w.heap.size + 1) #[.int .i64 8, .string nul, .int .i64 0] 33 (.agg #[.int .i64 8, .string nul, .int .i64 0]) ?_ (fun W' h => ?_) rfl ?_
      · exact set3 HD5.out.rb
      · obtain ⟨⟨r0, r1, r2⟩, _, _⟩ := box3 h
        simp [results, Tryz.results28, go_sem, r0, r1, r2]
      · exact ⟨by rw [HV.out]; rfl, set3_below (by omega) HD5.out.bel⟩
  | some x =>
    have HST := Lib.hid (show ∀ w', Below W.heap.size W w' → (fun w' => w'.cell? ⟨p, 0, none⟩ = some (.map (some b)) ∧ w'.cell? ⟨w.heap.size, 3, none⟩ = some (.string c.key) ∧ (Instr.lookup 72 (.map (some b)) (.string c.key) true).run Tryz.prog w' = .ok (.tuple #[.agg #[.string x.val, .int .i64 x.rev], .bool true]) w' ∧ Below W.heap.size W w') w' from fun w' hb =>
      ⟨(hb.cell (p := ⟨p, 0, none⟩) hzp).trans HA.out.pc, (hb.cell (p := ⟨w.heap.size, 3, none⟩) hzc).trans c3, by have := kin_look_ok HA.out hk ⟨w', hb⟩; rw [HL.out] at this; exact this, hb⟩)
    clear c0 c1 c2 c3 c4 c5
    go_region_held3 (fun w' => w'.cell? ⟨p, 0, none⟩ = some (.map (some b)) ∧ w'.cell? ⟨w.heap.size, 3, none⟩ = some (.string c.key) ∧ (Instr.lookup 72 (.map (some b)) (.string c.key) true).run Tryz.prog w' = .ok (.tuple #[.agg #[.string x.val, .int .i64 x.rev], .bool true]) w' ∧ Below W.heap.size W w')
      (first | exact HST.out _ (Below.refl _ _).drew | exact HST.out _ ((Below.refl _ _).drew.alloc (Nat.le_refl _) _))
      (fail)
    all_goals
      obtain ⟨w5, hw5⟩ : ∃ w5, w5 = (W.alloc (.cells #[.string x.val, .int .i64 x.rev] 77)).drew := ⟨_, rfl⟩
      rw [← hw5]
      have hb5 : Below W.heap.size W w5 := by rw [hw5]; exact ((Below.refl _ _).alloc (Nat.le_refl _) _).drew
      have hx5 : w5.heap[W.heap.size]? = some (.cells #[.string x.val, .int .i64 x.rev] 77 (0, 0)) := by rw [hw5]; exact heap_alloc_new W _
      have HD5 := Lib.hid (HD.out.next hb5)
      have HX5 := Lib.hid hx5
      have HA5 := Lib.hid (HA.out.below hb5)
      obtain ⟨⟨s0, s1⟩, fs, _⟩ := box2 hx5
      obtain ⟨⟨d0, d1, d2⟩, fd, sd⟩ := box3 HD5.out.rb
      have hW5 : W.heap.size < w5.heap.size := M.heap_lt hx5
      clear hw5 hx5
      go_wp2_with fail
      refine ret_box (w.heap.size + 1) #[.int .i64 0, .string x.val, .int .i64 x.rev] 33 (.agg #[.int .i64 0, .string x.val, .int .i64 x.rev]) ?_ (fun W' h => ?_) rfl ?_
      · exact set3 HD5.out.rb
      · obtain ⟨⟨r0, r1, r2⟩, _, _⟩ := box3 h
        simp [results, Tryz.results28, go_sem, r0, r1, r2]
      · exact ⟨by rw [HV.out]; rfl, set3_below (by omega) HD5.out.bel⟩
end Go.Proofs.YtpeiamllkddhiaaGreatDoor.P
