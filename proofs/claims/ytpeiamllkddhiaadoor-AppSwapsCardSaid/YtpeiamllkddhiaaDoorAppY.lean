/- The App laws' beginnings: settings of the call's own while commands are done; sameKeys; the document's example. -/
import Derived.Test.YtpeiamllkddhiaaDoorAppW
namespace Go.Proofs.YtpeiamllkddhiaaDoor.P
open Go.RowKit Go.Proofs.YtpeiamllkddhiaaDoor.R Go.Proofs.YtpeiamllkddhiaaDoor.M Go.BigFrame
set_option linter.unusedVariables false
set_option linter.unusedSimpArgs false

/-- settings that this call made, behind some commands -/
structure RunAt (w wx : World) (p b n : Nat) (A : List Ent) : Prop where
  bel : Below w.heap.size w wx
  app : AppAt wx p b n A
  pge : w.heap.size ≤ p
  bge : w.heap.size ≤ b
theorem RunAt.next {w w1 w2 : World} {p b n : Nat} {A : List Ent} (h : RunAt w w1 p b n A) (hb : Below w1.heap.size w1 w2) : RunAt w w2 p b n A :=
  ⟨h.bel.trans (hb.mono h.bel.size), h.app.below hb, h.pge, h.bge⟩
theorem RunAt.step {w w1 w2 : World} {p b n m : Nat} {A B : List Ent} (h : RunAt w w1 p b n A) (hm : Mods (fun k => k = b) w1 w2) (ha : AppAt w2 p b m B) : RunAt w w2 p b m B :=
  ⟨h.bel.trans (hm.below (B := w.heap.size) (fun k hk => by rw [hk]; exact h.bge) h.bel.size), ha, h.pge, h.bge⟩
/-- other settings were worked on -/
theorem RunAt.apart {w w1 w2 : World} {p b n b2 : Nat} {A : List Ent} (h : RunAt w w1 p b n A) (hm : Mods (fun k => k = b2) w1 w2) (hb2 : w.heap.size ≤ b2) (h1 : p ≠ b2) (h2 : b ≠ b2) : RunAt w w2 p b n A :=
  ⟨h.bel.trans (hm.below (B := w.heap.size) (fun k hk => by rw [hk]; exact hb2) h.bel.size), h.app.keep hm h1 h2, h.pge, h.bge⟩
theorem RunAt.drop {w0 w wx : World} {p b n : Nat} {A : List Ent} (h : RunAt w wx p b n A) (h0 : Below w0.heap.size w0 w) : RunAt w0 wx p b n A :=
  ⟨h0.trans (h.bel.mono h0.size), h.app, Nat.le_trans h0.size h.pge, Nat.le_trans h0.size h.bge⟩
theorem new_run (w : World) : Calls Tryd.prog 13 #[] w fun e w' => ∃ p b, e = .returned (.pointer (some ⟨p, 0, none⟩)) ∧ RunAt w w' p b 0 [] :=
  (new_any w).mono fun e w' ⟨p, b, he, ha, hp, hb, hbel⟩ => ⟨p, b, he, hbel, ha, hp, hb⟩
theorem do_run {w wx : World} {p b n : Nat} {A : List Ent} (h : RunAt w wx p b n A) (hG : Good n A) (hn : n ≤ 90000) (hT : TabsI w) (c : Cmd) (hs : c.key.size ≤ 1000000) (B : List Ent) (R : Rep) (hd : appDo A c = (B, R)) :
    Calls Tryd.prog 14 #[.pointer (some ⟨p, 0, none⟩), cmdV c] wx fun e w' => e = .returned (repV R) ∧ (RunAt w w' p b (n + 1) B ∧ Mods (fun k => k = b) wx w') := by
  have := do_any p b n A c wx h.app hG hn (hT.next h.bel) hs
  rw [hd] at this
  exact this.mono fun e w' hh => ⟨hh.1, h.step hh.2.2 hh.2.1, hh.2.2⟩
theorem copy_run {w wx : World} {p b n : Nat} {A : List Ent} (h : RunAt w wx p b n A) :
    Calls Tryd.prog 18 #[.pointer (some ⟨p, 0, none⟩)] wx fun e w' => ∃ p2 b2, e = .returned (.pointer (some ⟨p2, 0, none⟩)) ∧ (RunAt w w' p2 b2 n A ∧ RunAt w w' p b n A ∧ Below wx.heap.size wx w' ∧ wx.heap.size ≤ p2 ∧ wx.heap.size ≤ b2) :=
  (copy_any p b n A wx h.app).mono fun e w' ⟨p2, b2, he, ha, hp, hb, hbel⟩ => ⟨p2, b2, he, ⟨h.bel.trans (hbel.mono h.bel.size), ha, Nat.le_trans h.bel.size hp, Nat.le_trans h.bel.size hb⟩, h.next hbel, hbel, hp, hb⟩
/-- all settings are asked for -/
theorem all_run {w wx : World} {p b n : Nat} {A : List Ent} (h : RunAt w wx p b n A) (hG : Good n A) (hn : n ≤ 90000) (hT : TabsI w) (R : Rep) (hR : findR A nul = R) :
    Calls Tryd.prog 14 #[.pointer (some ⟨p, 0, none⟩), .agg #[.int .i64 5, .int .i64 1, .int .i64 1, .string ⟨#[]⟩, .string ⟨#[]⟩, .int .i64 0]] wx fun e w' => e = .returned (repV R) ∧ (RunAt w w' p b (n + 1) A ∧ Mods (fun k => k = b) wx w') :=
  do_run h hG hn hT allC (by decide) A R (by rw [do_all, hR])
theorem get_run {w wx : World} {p b n : Nat} {A : List Ent} (h : RunAt w wx p b n A) (hG : Good n A) (hn : n ≤ 90000) (hT : TabsI w) (k : ByteArray) (hs : k.size ≤ 1000000) (R : Rep) (hR : appDo A (getC k) = (A, R)) :
    Calls Tryd.prog 14 #[.pointer (some ⟨p, 0, none⟩), .agg #[.int .i64 1, .int .i64 1, .int .i64 1, .string k, .string ⟨#[]⟩, .int .i64 0]] wx fun e w' => e = .returned (repV R) ∧ (RunAt w w' p b (n + 1) A ∧ Mods (fun k => k = b) wx w') :=
  do_run h hG hn hT (getC k) hs A R hR
theorem find_run {w wx : World} {p b n : Nat} {A : List Ent} (h : RunAt w wx p b n A) (hG : Good n A) (hn : n ≤ 90000) (hT : TabsI w) (k : ByteArray) (hs : k.size ≤ 1000000) (R : Rep) (hR : (appDo A (findC k)).2 = R) :
    Calls Tryd.prog 14 #[.pointer (some ⟨p, 0, none⟩), .agg #[.int .i64 5, .int .i64 1, .int .i64 1, .string k, .string ⟨#[]⟩, .int .i64 0]] wx fun e w' => e = .returned (repV R) ∧ (RunAt w w' p b (n + 1) A ∧ Mods (fun k => k = b) wx w') :=
  do_run h hG hn hT (findC k) hs A R (Prod.ext (find_state A k) hR)
theorem rep_same (k : Int) (s : ByteArray) (r : Int) (w : World) : (binOp .eql 29 (.agg #[.int .i64 k, .string s, .int .i64 r]) (.agg #[.int .i64 k, .string s, .int .i64 r])).run Tryd.prog w = .ok (.bool true) w :=
  (run_rep_eql ⟨k, s, r⟩ ⟨k, s, r⟩ w).trans (by rw [repEq_same])
theorem rep_same_not (k : Int) (s : ByteArray) (r : Int) (w : World) : (binOp .neq 29 (.agg #[.int .i64 k, .string s, .int .i64 r]) (.agg #[.int .i64 k, .string s, .int .i64 r])).run Tryd.prog w = .ok (.bool false) w :=
  (run_rep_neq ⟨k, s, r⟩ ⟨k, s, r⟩ w).trans (by rw [repEq_same]; rfl)
theorem box_rep {w : World} {g : Nat} {R : Rep} (h : w.heap[g]? = some (.cells #[.int .i64 R.code, .string R.val, .int .i64 R.rev] 29 (0, 0))) :
    w.cell? ⟨g, 0, none⟩ = some (.int .i64 R.code) ∧ w.cell? ⟨g, 1, none⟩ = some (.string R.val) ∧ w.cell? ⟨g, 2, none⟩ = some (.int .i64 R.rev) := (box3 h).1
set_option maxRecDepth 100000 in
set_option maxHeartbeats 2000000 in
theorem same_any (B : Nat) (A : List Ent) (oo ao : Option Addr) (oc cap : Nat) (w : World) (hK : StrsV B w oo oc (keysL A)) (hS : SetsV w ao cap A) :
    Calls Tryd.prog 20 #[.slice oo A.length oc, .slice ao A.length cap] w fun e w' => e = .returned (.bool true) ∧ Below w.heap.size w w' := by
  have hle := hK.le
  have hkl : (keysL A).length = A.length := by unfold keysL; rw [List.length_map]
  rw [hkl] at hle
  obtain ⟨hl1, hl2⟩ := hle
  obtain ⟨hm1, hm2⟩ := hS.le
  unfold maxLen at hl2 hm2
  have HK := Lib.hid hK
  have HS := Lib.hid hS
  have e0 : ((A.length : Int) != (A.length : Int)) = false := by simp
  clear hK hS hkl
  go_enter Tryd.func20, Tryd.ntmps20
  go_wp2_with fail
  go_loopw [5] (fun iv wr => ∃ i : Nat, iv = .int .i64 i ∧ i ≤ A.length ∧ Below w.heap.size w wr) (fun iv _ => A.length - (intOf iv).toNat)
  case atStart => exact ⟨0, rfl, Nat.zero_le _, Below.refl _ _⟩
  case round =>
    obtain ⟨i, rfl, hi, hb⟩ := hrel
    have HB := Lib.hid hb
    by_cases hil : i < A.length
    · have hii : (i : Int) < (A.length : Int) := by omega
      obtain ⟨e, he⟩ : ∃ e, A[i]? = some e := ⟨_, List.getElem?_eq_getElem hil⟩
      obtain ⟨g, rfl, hgB, hgl, hgc⟩ := (HK.out.below hb).row i e.key.data.toList (by unfold keysL; rw [List.getElem?_map, he]; rfl)
      rw [strV_key] at hgc
      obtain ⟨b2, off, rfl, _, c0, _, _⟩ := (HS.out.below hb).row i e he
      clear hb he hgB hgl
      go_wp2_with fail
      go_quiet (fail)
      go_wp2_with fail
      go_roundw
      case rel => exact ⟨i + 1, by go_num, by omega, HB.out.trans ⟨rfl, rfl, rfl, Nat.le_refl _, fun _ _ => rfl⟩⟩
      case measure => simp [intOf]; omega
    · obtain rfl : i = A.length := by omega
      have hii : ¬ (A.length : Int) < (A.length : Int) := by omega
      go_wp2_with fail
      go_ret
      exact ⟨rfl, HB.out⟩
set_option maxRecDepth 100000 in
set_option maxHeartbeats 2000000 in
theorem awake_any (w : World) (hT : TabsI w) :
    Calls Tryd.prog 12 #[] w fun e w' => e = .returned (.bool true) ∧ Below w.heap.size w w' := by
  have HT := Lib.hid hT
  have HD1 : Hid (∀ (wx : World) (p b : Nat), RunAt w wx p b 0 [] →
    Calls Tryd.prog 14 #[.pointer (some ⟨p, 0, none⟩), .agg #[.int .i64 2, .int .i64 1, .int .i64 1, .string ⟨#[97]⟩, .string ⟨#[118]⟩, .int .i64 0]] wx fun e w' => e = .returned (.agg #[.int .i64 0, .string ⟨#[]⟩, .int .i64 1]) ∧ (RunAt w w' p b 1 [⟨ka, vv, 1⟩] ∧ Mods (fun k => k = b) wx w')) := Lib.hid fun wx p b h => do_run h Good.nil (by decide) hT ex1 (by decide) _ _ ex_one
  have G1 : Good 1 [⟨ka, vv, 1⟩] := by have := (Good.nil).step ex1; rw [ex_one] at this; exact this
  have HD2 : Hid (∀ (wx : World) (p b : Nat), RunAt w wx p b 1 [⟨ka, vv, 1⟩] →
    Calls Tryd.prog 14 #[.pointer (some ⟨p, 0, none⟩), .agg #[.int .i64 4, .int .i64 1, .int .i64 2, .string ⟨#[97]⟩, .string ⟨#[119]⟩, .int .i64 1]] wx fun e w' => e = .returned (.agg #[.int .i64 0, .string ⟨#[]⟩, .int .i64 2]) ∧ (RunAt w w' p b 2 [⟨ka, vw, 2⟩] ∧ Mods (fun k => k = b) wx w')) := Lib.hid fun wx p b h => do_run h G1 (by decide) hT ex2 (by decide) _ _ ex_two
  have G2 : Good 2 [⟨ka, vw, 2⟩] := by have := G1.step ex2; rw [ex_two] at this; exact this
  have HD3 : Hid (∀ (wx : World) (p b : Nat), RunAt w wx p b 2 [⟨ka, vw, 2⟩] →
    Calls Tryd.prog 14 #[.pointer (some ⟨p, 0, none⟩), .agg #[.int .i64 4, .int .i64 1, .int .i64 2, .string ⟨#[97]⟩, .string ⟨#[119]⟩, .int .i64 1]] wx fun e w' => e = .returned (.agg #[.int .i64 10, .string ⟨#[]⟩, .int .i64 2]) ∧ (RunAt w w' p b 3 [⟨ka, vw, 2⟩] ∧ Mods (fun k => k = b) wx w')) := Lib.hid fun wx p b h => do_run h G2 (by decide) hT ex2 (by decide) _ _ ex_three
  clear hT G1 G2
  go_enter Tryd.func12, Tryd.ntmps12
  go_wp2_with fail
  refine (new_run w).mono ?_
  rintro e w1 ⟨p, b, rfl, hr1⟩
  have HR1 := Lib.hid hr1
  clear hr1
  go_wp2_with fail
  refine (HD1.out _ _ _ HR1.out).mono ?_
  rintro e w2 ⟨rfl, hr2, hm2⟩
  have HR2 := Lib.hid hr2
  clear hr2 hm2
  go_upto_region 4 with fail
  obtain ⟨w3, hw3⟩ : ∃ w3, w3 = (w2.alloc (.cells #[.int .i64 0, .string ⟨#[]⟩, .int .i64 1] 29)).alloc (.cells #[.int .i64 4, .int .i64 1, .int .i64 2, .string ⟨#[97]⟩, .string ⟨#[119]⟩, .int .i64 1] 32) := ⟨_, rfl⟩
  rw [← hw3]
  have HB3 : Hid (Below w2.heap.size w2 w3) := Lib.hid (by rw [hw3]; exact ((Below.refl _ _).alloc (Nat.le_refl _) _).alloc (by simp) _)
  have HX : Hid (w3.heap[w2.heap.size]? = some (.cells #[.int .i64 0, .string ⟨#[]⟩, .int .i64 1] 29 (0, 0))) := Lib.hid (by rw [hw3, heap_al, if_neg (by simp), heap_alloc_new])
  have HC : Hid (w3.heap[w2.heap.size + 1]? = some (.cells #[.int .i64 4, .int .i64 1, .int .i64 2, .string ⟨#[97]⟩, .string ⟨#[119]⟩, .int .i64 1] 32 (0, 0))) := Lib.hid (by rw [hw3, heap_al, if_pos (by simp)])
  have HR3 := Lib.hid (HR2.out.next HB3.out)
  have hb2 := HR2.out.app.blt
  clear hw3
  obtain ⟨⟨c0, c1, c2, c3, c4, c5⟩, _⟩ := box6 HC.out
  go_wp2_with fail
  refine (HD2.out _ _ _ HR3.out).mono ?_
  rintro e w4 ⟨rfl, hr4, hm4⟩
  have HX4 := Lib.hid (hm4.heap HX.out (by omega))
  have HC4 := Lib.hid (hm4.heap HC.out (by omega))
  have HR4 := Lib.hid hr4
  clear hr4 hm4 c0 c1 c2 c3 c4 c5
  go_upto_region 5 with fail
  obtain ⟨w5, hw5⟩ : ∃ w5, w5 = w4.alloc (.cells #[.int .i64 0, .string ⟨#[]⟩, .int .i64 2] 29) := ⟨_, rfl⟩
  rw [← hw5]
  have HB5 : Hid (Below w4.heap.size w4 w5) := Lib.hid (by rw [hw5]; exact (Below.refl _ _).alloc (Nat.le_refl _) _)
  have HX5 := Lib.hid ((HB5.out.block _ (M.heap_lt HX4.out)).trans HX4.out)
  have HC5 := Lib.hid ((HB5.out.block _ (M.heap_lt HC4.out)).trans HC4.out)
  have HY5 : Hid (w5.heap[w4.heap.size]? = some (.cells #[.int .i64 0, .string ⟨#[]⟩, .int .i64 2] 29 (0, 0))) := Lib.hid (by rw [hw5, heap_alloc_new])
  have HR5 := Lib.hid (HR4.out.next HB5.out)
  have hb4 := HR4.out.app.blt
  clear hw5
  obtain ⟨⟨c0, c1, c2, c3, c4, c5⟩, _⟩ := box6 HC5.out
  go_wp2_with fail
  refine (HD3.out _ _ _ HR5.out).mono ?_
  rintro e w6 ⟨rfl, hr6, hm6⟩
  have HX6 := Lib.hid (hm6.heap HX5.out (by omega))
  have HY6 := Lib.hid (hm6.heap HY5.out (by omega))
  have HR6 := Lib.hid hr6
  clear hr6 hm6 c0 c1 c2 c3 c4 c5
  go_upto_region 6 with fail
  obtain ⟨w7, hw7⟩ : ∃ w7, w7 = w6.alloc (.cells #[.int .i64 10, .string ⟨#[]⟩, .int .i64 2] 29) := ⟨_, rfl⟩
  rw [← hw7]
  have HB7 : Hid (Below w6.heap.size w6 w7) := Lib.hid (by rw [hw7]; exact (Below.refl _ _).alloc (Nat.le_refl _) _)
  have hx := (HB7.out.block _ (M.heap_lt HX6.out)).trans HX6.out
  have hy := (HB7.out.block _ (M.heap_lt HY6.out)).trans HY6.out
  have hz : w7.heap[w6.heap.size]? = some (.cells #[.int .i64 10, .string ⟨#[]⟩, .int .i64 2] 29 (0, 0)) := by rw [hw7, heap_alloc_new]
  have HR7 := Lib.hid (HR6.out.next HB7.out)
  clear hw7
  obtain ⟨⟨x0, x1, x2⟩, _, _⟩ := box3 hx
  obtain ⟨⟨y0, y1, y2⟩, _, _⟩ := box3 hy
  obtain ⟨⟨z0, z1, z2⟩, _, _⟩ := box3 hz
  have q1 := rep_same 0 ⟨#[]⟩ 1
  have q2 := rep_same 0 ⟨#[]⟩ 2
  have q3 := rep_same 10 ⟨#[]⟩ 2
  clear hx hy hz
  go_wp2_with fail
  go_ret
  exact ⟨rfl, HR7.out.bel⟩
end Go.Proofs.YtpeiamllkddhiaaDoor.P
