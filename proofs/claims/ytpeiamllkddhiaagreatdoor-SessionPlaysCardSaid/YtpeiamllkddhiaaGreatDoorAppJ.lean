/- The reference's Do. -/
import Derived.Test.YtpeiamllkddhiaaGreatDoorMrg5
import Derived.Test.YtpeiamllkddhiaaGreatDoorMrg6
import Derived.Test.YtpeiamllkddhiaaGreatDoorRnU
import Derived.Deep.DeepCutAuto
import Derived.Deep.RegionHeld3
namespace Go.Proofs.YtpeiamllkddhiaaGreatDoor.P
open Go.RowKit Go.Proofs.YtpeiamllkddhiaaGreatDoor.R Go.Proofs.YtpeiamllkddhiaaGreatDoor.M Go.BigFrame
set_option linter.unusedVariables false
set_option linter.unusedSimpArgs false

abbrev repV (r : Rep) : Value := .agg #[.int .i64 r.code, .string r.val, .int .i64 r.rev]
theorem look_at {A : List Ent} {k : ByteArray} : (look A k = none → atI A k = -1) ∧ ∀ e, look A k = some e → ∃ i : Nat, atI A k = i ∧ A[i]? = some e := by
  refine ⟨fun h => atI_no (look_none h), fun e h => ?_⟩
  unfold look at h
  rw [List.find?_eq_some_iff_getElem] at h
  obtain ⟨hk, i, hi, he, hn⟩ := h
  refine ⟨i, atI_yes (List.getElem?_eq_some_iff.2 ⟨hi, he⟩) (by simpa using hk) (fun j x hj hx => ?_), List.getElem?_eq_some_iff.2 ⟨hi, he⟩⟩
  have h1 := List.getElem?_eq_some_iff.1 hx
  have := hn j hj
  rw [h1.2] at this
  simpa using this
theorem refcheck_v (c : Cmd) (w : World) (hs : c.key.size ≤ 1000000) (v : Int) (hv : chk c = v) :
    Calls Tryz.prog 19 #[cmdV c] w fun e w' => e = .returned (.int .i64 v) ∧ Below w.heap.size w w' := by subst hv; exact refcheck_any c w hs
theorem set3 {w : World} {b : Nat} {v0 v1 v2 u0 u1 u2 : Value} {T : TypeId} (h : w.heap[b]? = some (.cells #[v0, v1, v2] T (0, 0))) :
    (((w.setCell ⟨b, 0, none⟩ u0).setCell ⟨b, 1, none⟩ u1).setCell ⟨b, 2, none⟩ u2).heap[b]? = some (.cells #[u0, u1, u2] T (0, 0)) := by
  have s0 := heap_set w b 0 u0 b _ _ _ h
  rw [if_pos rfl] at s0
  have s1 := heap_set _ b 1 u1 b _ _ _ s0
  rw [if_pos rfl] at s1
  have s2 := heap_set _ b 2 u2 b _ _ _ s1
  rw [if_pos rfl] at s2
  exact s2
theorem set3_below {w0 w : World} {B b : Nat} {u0 u1 u2 : Value} (hb : B ≤ b) (h : Below B w0 w) : Below B w0 (((w.setCell ⟨b, 0, none⟩ u0).setCell ⟨b, 1, none⟩ u1).setCell ⟨b, 2, none⟩ u2) :=
  ((h.setCell (p := ⟨b, 0, none⟩) hb _).setCell (p := ⟨b, 1, none⟩) hb _).setCell (p := ⟨b, 2, none⟩) hb _
theorem far3 {W : World} {r B o : Nat} {u0 u1 u2 : Value} (h : B ≠ r) : (((W.setCell ⟨r, 0, none⟩ u0).setCell ⟨r, 1, none⟩ u1).setCell ⟨r, 2, none⟩ u2).cell? ⟨B, o, none⟩ = W.cell? ⟨B, o, none⟩ := by
  have e := fun (X : World) (j : Nat) (v : Value) => World.cell?_of_block (w := X) (w' := X.setCell ⟨r, j, none⟩ v) (a := ⟨B, o, none⟩) (Below.heap_setCell X ⟨r, j, none⟩ v B h)
  exact (e _ _ _).trans ((e _ _ _).trans (e _ _ _))
/-- the boxes of the call: the command, the reply -/
structure DoAt (c : Cmd) (w wx : World) : Prop where
  bel : Below w.heap.size w wx
  cb : wx.heap[w.heap.size]? = some (.cells (cmdA c) 38 (0, 0))
  rb : wx.heap[w.heap.size + 1]? = some (.cells #[.int .i64 0, .string ⟨#[]⟩, .int .i64 0] 33 (0, 0))
theorem DoAt.next {c : Cmd} {w w1 w2 : World} (h : DoAt c w w1) (hb : Below w1.heap.size w1 w2) : DoAt c w w2 :=
  ⟨h.bel.trans (hb.mono h.bel.size), (hb.block _ (M.heap_lt h.cb)).trans h.cb, (hb.block _ (M.heap_lt h.rb)).trans h.rb⟩
theorem DoAt.set3 {c : Cmd} {w w1 : World} {b : Nat} {v0 v1 v2 u0 u1 u2 : Value} {T : TypeId} (h : DoAt c w w1) (hb : w.heap.size + 1 < b) (hB : w1.heap[b]? = some (.cells #[v0, v1, v2] T (0, 0))) :
    DoAt c w (((w1.setCell ⟨b, 0, none⟩ u0).setCell ⟨b, 1, none⟩ u1).setCell ⟨b, 2, none⟩ u2) := by
  have h0 := set3_below (u0 := u0) (u1 := u1) (u2 := u2) hb (Below.refl (w.heap.size + 2) w1)
  exact ⟨set3_below (by omega) h.bel, (h0.block _ (by omega)).trans h.cb, (h0.block _ (by omega)).trans h.rb⟩
set_option maxRecDepth 100000 in
set_option maxHeartbeats 2000000 in
theorem refdo_bad (A : List Ent) (ao : Option Addr) (cap : Nat) (c : Cmd) (w : World) (h : SetsV w ao cap A) (hs : c.key.size ≤ 1000000) (v : Int) (hv : chk c = v) (h0 : v ≠ 0) :
    Calls Tryz.prog 12 #[.slice ao A.length cap, cmdV c] w fun e w' => e = .returned (.tuple #[.slice ao A.length cap, repV ⟨v, nul, 0⟩]) ∧ Below w.heap.size w w' := by
  have HC := Lib.hid (fun W => refcheck_v c W hs v hv)
  have e0 : (v != 0) = true := by rw [bne_iff_ne]; exact h0
  clear h hs hv h0
  go_enter Tryz.func12, Tryz.ntmps12
  go_wp2_with fail
  refine (HC.out _).mono ?_
  rintro e w1 ⟨rfl, hb⟩
  have hd : DoAt c w w1 := by
    refine DoAt.next (w1 := (w.alloc (.cells (cmdA c) 38)).alloc (.cells #[.int .i64 0, .string ⟨#[]⟩, .int .i64 0] 33)) ⟨((Below.refl _ _).alloc (Nat.le_refl _) _).alloc (by simp) _, ?_, ?_⟩ hb
    · rw [heap_al, if_neg (by simp), heap_alloc_new]
    · rw [heap_al, if_pos (by simp)]
  obtain ⟨⟨d0, d1, d2⟩, f0, _⟩ := box3 hd.rb
  have HD := Lib.hid hd
  clear hb hd
  go_wp2_with fail
  refine ret_box (w.heap.size + 1) #[.int .i64 v, .string ⟨#[]⟩, .int .i64 0] 33 (.tuple #[.slice ao A.length cap, .agg #[.int .i64 v, .string ⟨#[]⟩, .int .i64 0]]) ?_ (fun W' h => ?_) rfl ?_
  · exact set3 HD.out.rb
  · obtain ⟨⟨r0, r1, r2⟩, _, _⟩ := box3 h
    simp [results, Tryz.results12, go_sem, r0, r1, r2]
  · exact ⟨rfl, set3_below (by omega) HD.out.bel⟩
/-- behind the look: where the key stands, and the setting there -/
structure LookAt (A : List Ent) (c : Cmd) (w : World) (iv bv : Value) (wx : World) : Prop where
  iv : iv = .int .i64 (atI A c.key)
  at_ : DoAt c w wx
  bx : ∃ b, bv = .pointer (some ⟨b, 0, none⟩) ∧ w.heap.size + 1 < b ∧ wx.heap[b]? = some (.cells #[.string c.key, .string (match look A c.key with | none => nul | some e => e.val), .int .i64 (revOf A c.key)] 64 (0, 0))
theorem SetsV.far {W : World} {r : Nat} {oo : Option Addr} {oc : Nat} {A : List Ent} {u0 u1 u2 : Value} (h : SetsV W oo oc A) (hn : ∀ a, oo = some a → r < a.block) :
    SetsV (((W.setCell ⟨r, 0, none⟩ u0).setCell ⟨r, 1, none⟩ u1).setCell ⟨r, 2, none⟩ u2) oo oc A :=
  ⟨h.le, fun i e hi => by
    obtain ⟨b, off, e1, hl, c0, c1, c2⟩ := h.row i e hi
    have hb : b ≠ r := by have := hn _ e1; simp only at this; omega
    exact ⟨b, off, e1, by simpa [World.setCell] using hl, (far3 hb).trans c0, (far3 hb).trans c1, (far3 hb).trans c2⟩⟩
/-- what Do leaves -/
def DoPost (A : List Ent) (c : Cmd) (w : World) (e : Ending) (w' : World) : Prop :=
  ∃ oo oc, e = .returned (.tuple #[.slice oo (act A c).1.length oc, repV (act A c).2]) ∧ SetsV w' oo oc (act A c).1 ∧ Below w.heap.size w w'
theorem DoPost.mk {A B : List Ent} {c : Cmd} {w W : World} {R : Rep} {oo : Option Addr} {oc : Nat} (hv : act A c = (B, R)) (hs : SetsV W oo oc B) (hb : Below w.heap.size w W) :
    DoPost A c w (.returned (.tuple #[.slice oo B.length oc, repV R])) W := ⟨oo, oc, by rw [hv], by rw [hv]; exact hs, hb⟩
/-- while settings are found: the boxes of the call, what is out -/
structure FindB (c : Cmd) (w : World) (b : Nat) (R : ByteArray) (m : Int) (wx : World) : Prop where
  at_ : DoAt c w wx
  lt : w.heap.size + 1 < b
  bx : wx.heap[b]? = some (.cells #[.int .i64 0, .string R, .int .i64 m] 33 (0, 0))
theorem FindB.next {c : Cmd} {w w1 w2 : World} {b : Nat} {R : ByteArray} {m : Int} (h : FindB c w b R m w1) (hb : Below w1.heap.size w1 w2) : FindB c w b R m w2 :=
  ⟨h.at_.next hb, h.lt, (hb.block _ (M.heap_lt h.bx)).trans h.bx⟩
theorem FindB.drewN {c : Cmd} {w w1 : World} {b : Nat} {R : ByteArray} {m : Int} (h : FindB c w b R m w1) (n : Nat) : FindB c w b R m (w1.drewN n) := h.next ⟨rfl, rfl, rfl, Nat.le_refl _, fun _ _ => rfl⟩
theorem DoAt.set {c : Cmd} {w w1 : World} {b o : Nat} {u : Value} (h : DoAt c w w1) (hb : w.heap.size + 1 < b) : DoAt c w (w1.setCell ⟨b, o, none⟩ u) := by
  have h0 : Below (w.heap.size + 2) w1 (w1.setCell ⟨b, o, none⟩ u) := (Below.refl _ _).setCell (p := ⟨b, o, none⟩) hb _
  exact ⟨h.bel.setCell (p := ⟨b, o, none⟩) (by show _ ≤ b; omega) _, (h0.block _ (by omega)).trans h.cb, (h0.block _ (by omega)).trans h.rb⟩
theorem FindB.setR {c : Cmd} {w w1 : World} {b : Nat} {R R2 : ByteArray} {m : Int} (h : FindB c w b R m w1) : FindB c w b R2 m (w1.setCell ⟨b, 1, none⟩ (.string R2)) := by
  refine ⟨h.at_.set h.lt, h.lt, ?_⟩
  have s := heap_set w1 b 1 (.string R2) b _ _ _ h.bx
  rw [if_pos rfl] at s
  exact s
theorem FindB.setM {c : Cmd} {w w1 : World} {b : Nat} {R : ByteArray} {m m2 : Int} (h : FindB c w b R m w1) : FindB c w b R m2 (w1.setCell ⟨b, 2, none⟩ (.int .i64 m2)) := by
  refine ⟨h.at_.set h.lt, h.lt, ?_⟩
  have s := heap_set w1 b 2 (.int .i64 m2) b _ _ _ h.bx
  rw [if_pos rfl] at s
  exact s
/-- behind k settings -/
def FindAt (A : List Ent) (c : Cmd) (w : World) (b k : Nat) (wx : World) : Prop := FindB c w b (joinB (linesB (A.take k) c.key)) ((linesB (A.take k) c.key).length : Nat) wx
theorem findAt_skip {A : List Ent} {c : Cmd} {k : Nat} {x : Ent} (hx : A[k]? = some x) (hb : begs x.key c.key = false) : linesB (A.take (k + 1)) c.key = linesB (A.take k) c.key := by
  rw [List.take_add_one, hx, Option.toList_some, lines_snoc, hb]; rfl
theorem findAt_more {A : List Ent} {c : Cmd} {k : Nat} {x : Ent} (hx : A[k]? = some x) (hb : begs x.key c.key = true) : linesB (A.take (k + 1)) c.key = linesB (A.take k) c.key ++ [lineB x] := by
  rw [List.take_add_one, hx, Option.toList_some, lines_snoc, hb]; rfl
set_option maxRecDepth 100000 in
set_option maxHeartbeats 2000000 in
theorem refdo_get0 (A : List Ent) (ao : Option Addr) (cap : Nat) (c : Cmd) (w : World) (h : SetsV w ao cap A) (N : Nat) (hg : Good N A) (hN : N ≤ 100000) (hs : c.key.size ≤ 1000000) (hz : chk c = 0) (hk : c.kind = 1) (hl : look A c.key = none) :
    Calls Tryz.prog 12 #[.slice ao A.length cap, cmdV c] w (DoPost A c w) := by
  have HC := Lib.hid (fun W => refcheck_v c W hs 0 hz)
  have h0 := Lib.hid hz
  have HSV := Lib.hid h
  have HK := Lib.hid hk
  have HL := Lib.hid hl
  have HG := Lib.hid hg
  clear h hs hz hk hl hg
  go_enter Tryz.func12, Tryz.ntmps12
  go_wp2_with fail
  refine (HC.out _).mono ?_
  rintro e w1 ⟨rfl, hb⟩
  have hd : DoAt c w w1 := by
    refine DoAt.next (w1 := (w.alloc (.cells (cmdA c) 38)).alloc (.cells #[.int .i64 0, .string ⟨#[]⟩, .int .i64 0] 33)) ⟨((Below.refl _ _).alloc (Nat.le_refl _) _).alloc (by simp) _, ?_, ?_⟩ hb
    · rw [heap_al, if_neg (by simp), heap_alloc_new]
    · rw [heap_al, if_pos (by simp)]
  have HD := Lib.hid hd
  clear hb hd
  obtain ⟨⟨c0, c1, c2, c3, c4, c5⟩, fc⟩ := box6 HD.out.cb
  go_wp2_with fail
  refine (at_any A ao cap c.key w1 (HSV.out.below HD.out.bel)).mono ?_
  rintro e w2 ⟨rfl, rfl⟩
  obtain ⟨iv, hiv⟩ : ∃ iv, iv = atI A c.key := ⟨_, rfl⟩
  rw [← hiv]
  have HI := Lib.hid hiv
  clear hiv
  go_upto_if 26 with fail
  go_cut [7, 8] (fun iv bv wx => LookAt A c w iv bv wx)
  case first =>
    obtain ⟨wA, hwA⟩ : ∃ wA, wA = w1.alloc (.cells #[.string c.key, .string ⟨#[]⟩, .int .i64 0] 64) := ⟨_, rfl⟩
    rw [← hwA]
    have hb8 : wA.heap[w1.heap.size]? = some (.cells #[.string c.key, .string ⟨#[]⟩, .int .i64 0] 64 (0, 0)) := by rw [hwA, heap_al, if_pos rfl]
    have HDA : Hid (DoAt c w wA) := Lib.hid (by rw [hwA]; exact HD.out.next ((Below.refl _ _).alloc (Nat.le_refl _) _))
    have HSA : Hid (SetsV wA ao cap A) := Lib.hid (HSV.out.below HDA.out.bel)
    have HLT := Lib.hid (M.heap_lt HD.out.rb)
    clear hwA
    obtain ⟨⟨s0, s1, s2⟩, fs, ss⟩ := box3 hb8
    have HB8 := Lib.hid hb8
    clear hb8
    obtain ⟨L, hL⟩ : ∃ L, look A c.key = L := ⟨_, rfl⟩
    cases L with
    | none =>
      obtain rfl : iv = -1 := HI.out.trans (look_at.1 hL)
      have HL := Lib.hid hL
      clear hL
      go_wp2_with fail
      go_meet
      refine ⟨by rw [HI.out], HDA.out, w1.heap.size, rfl, HLT.out, ?_⟩
      unfold revOf
      rw [HL.out]
      exact HB8.out
    | some x =>
      obtain ⟨i, hi, hx⟩ := look_at.2 x hL
      obtain rfl : iv = (i : Int) := HI.out.trans hi
      have hil := (List.getElem?_eq_some_iff.1 hx).1
      obtain ⟨b, off, rfl, _, x0, x1, x2⟩ := HSA.out.row i x hx
      obtain ⟨hl1, hl2⟩ := HSA.out.le
      unfold maxLen at hl2
      have hii : (i : Int) < (A.length : Int) := by omega
      have h0i : (0 : Int) ≤ (i : Int) := by omega
      have HL := Lib.hid hL
      clear hL hx hi
      go_wp2_with fail
      go_meet
      refine ⟨by rw [HI.out], HDA.out.set3 HLT.out HB8.out, w1.heap.size, rfl, HLT.out, ?_⟩
      unfold revOf
      rw [HL.out, ← (look_key HL.out).1]
      exact set3 HB8.out
  case rest =>
    clear c0 c1 c2 c3 c4 c5 fc HI HD
    obtain ⟨rfl, hd2, b, rfl, hbb, hbx⟩ := hcut
    obtain ⟨⟨c0, c1, c2, c3, c4, c5⟩, _⟩ := box6 hd2.cb
    obtain ⟨⟨d0, d1, d2⟩, fd, sd⟩ := box3 hd2.rb
    obtain ⟨⟨s0, s1, s2⟩, _, _⟩ := box3 hbx
    have HD := Lib.hid hd2
    have HBX := Lib.hid hbx
    have HBB := Lib.hid hbb
    have HKD := Lib.hid (formBad_kind (chk_good h0.out).1)
    have hk := HK.out
    have hrev : revOf A c.key = revO (look A c.key) := rfl
    clear hd2 hbx hbb
    rw [hk] at c0
    rw [HL.out] at s1
    rw [hrev, HL.out] at s2
    rw [look_at.1 HL.out]
    have s1 : World.cell? _ _ = some (.string nul) := s1
    have s2 : World.cell? _ _ = some (.int .i64 0) := s2
    clear hrev
    have HV : Hid (act A c = (A, ⟨8, nul, 0⟩)) := Lib.hid (by unfold act; rw [if_pos HK.out]; rw [HL.out])
    go_wp2_with fail
    refine ret_box (w.heap.size + 1) #[.int .i64 8, .string nul, .int .i64 0] 33 (.tuple #[.slice ao A.length cap, .agg #[.int .i64 8, .string nul, .int .i64 0]]) ?_ (fun W' h => ?_) rfl ?_
    · exact set3 HD.out.rb
    · obtain ⟨⟨r0, r1, r2⟩, _, _⟩ := box3 h
      simp [results, Tryz.results12, go_sem, r0, r1, r2]
    · exact DoPost.mk HV.out (HSV.out.below (set3_below (by omega) HD.out.bel)) (set3_below (by omega) HD.out.bel)
set_option maxRecDepth 100000 in
set_option maxHeartbeats 2000000 in
theorem refdo_get1 (A : List Ent) (ao : Option Addr) (cap : Nat) (c : Cmd) (w : World) (h : SetsV w ao cap A) (N : Nat) (hg : Good N A) (hN : N ≤ 100000) (hs : c.key.size ≤ 1000000) (hz : chk c = 0) (hk : c.kind = 1) (x : Ent) (hl : look A c.key = some x) :
    Calls Tryz.prog 12 #[.slice ao A.length cap, cmdV c] w (DoPost A c w) := by
  have HC := Lib.hid (fun W => refcheck_v c W hs 0 hz)
  have h0 := Lib.hid hz
  have HSV := Lib.hid h
  have HK := Lib.hid hk
  have HL := Lib.hid hl
  have HG := Lib.hid hg
  clear h hs hz hk hl hg
  go_enter Tryz.func12, Tryz.ntmps12
  go_wp2_with fail
  refine (HC.out _).mono ?_
  rintro e w1 ⟨rfl, hb⟩
  have hd : DoAt c w w1 := by
    refine DoAt.next (w1 := (w.alloc (.cells (cmdA c) 38)).alloc (.cells #[.int .i64 0, .string ⟨#[]⟩, .int .i64 0] 33)) ⟨((Below.refl _ _).alloc (Nat.le_refl _) _).alloc (by simp) _, ?_, ?_⟩ hb
    · rw [heap_al, if_neg (by simp), heap_alloc_new]
    · rw [heap_al, if_pos (by simp)]
  have HD := Lib.hid hd
  clear hb hd
  obtain ⟨⟨c0, c1, c2, c3, c4, c5⟩, fc⟩ := box6 HD.out.cb
  go_wp2_with fail
  refine (at_any A ao cap c.key w1 (HSV.out.below HD.out.bel)).mono ?_
  rintro e w2 ⟨rfl, rfl⟩
  obtain ⟨iv, hiv⟩ : ∃ iv, iv = atI A c.key := ⟨_, rfl⟩
  rw [← hiv]
  have HI := Lib.hid hiv
  clear hiv
  go_upto_if 26 with fail
  go_cut [7, 8] (fun iv bv wx => LookAt A c w iv bv wx)
  case first =>
    obtain ⟨wA, hwA⟩ : ∃ wA, wA = w1.alloc (.cells #[.string c.key, .string ⟨#[]⟩, .int .i64 0] 64) := ⟨_, rfl⟩
    rw [← hwA]
    have hb8 : wA.heap[w1.heap.size]? = some (.cells #[.string c.key, .string ⟨#[]⟩, .int .i64 0] 64 (0, 0)) := by rw [hwA, heap_al, if_pos rfl]
    have HDA : Hid (DoAt c w wA) := Lib.hid (by rw [hwA]; exact HD.out.next ((Below.refl _ _).alloc (Nat.le_refl _) _))
    have HSA : Hid (SetsV wA ao cap A) := Lib.hid (HSV.out.below HDA.out.bel)
    have HLT := Lib.hid (M.heap_lt HD.out.rb)
    clear hwA
    obtain ⟨⟨s0, s1, s2⟩, fs, ss⟩ := box3 hb8
    have HB8 := Lib.hid hb8
    clear hb8
    obtain ⟨L, hL⟩ : ∃ L, look A c.key = L := ⟨_, rfl⟩
    cases L with
    | none =>
      obtain rfl : iv = -1 := HI.out.trans (look_at.1 hL)
      have HL := Lib.hid hL
      clear hL
      go_wp2_with fail
      go_meet
      refine ⟨by rw [HI.out], HDA.out, w1.heap.size, rfl, HLT.out, ?_⟩
      unfold revOf
      rw [HL.out]
      exact HB8.out
    | some x =>
      obtain ⟨i, hi, hx⟩ := look_at.2 x hL
      obtain rfl : iv = (i : Int) := HI.out.trans hi
      have hil := (List.getElem?_eq_some_iff.1 hx).1
      obtain ⟨b, off, rfl, _, x0, x1, x2⟩ := HSA.out.row i x hx
      obtain ⟨hl1, hl2⟩ := HSA.out.le
      unfold maxLen at hl2
      have hii : (i : Int) < (A.length : Int) := by omega
      have h0i : (0 : Int) ≤ (i : Int) := by omega
      have HL := Lib.hid hL
      clear hL hx hi
      go_wp2_with fail
      go_meet
      refine ⟨by rw [HI.out], HDA.out.set3 HLT.out HB8.out, w1.heap.size, rfl, HLT.out, ?_⟩
      unfold revOf
      rw [HL.out, ← (look_key HL.out).1]
      exact set3 HB8.out
  case rest =>
    clear c0 c1 c2 c3 c4 c5 fc HI HD
    obtain ⟨rfl, hd2, b, rfl, hbb, hbx⟩ := hcut
    obtain ⟨⟨c0, c1, c2, c3, c4, c5⟩, _⟩ := box6 hd2.cb
    obtain ⟨⟨d0, d1, d2⟩, fd, sd⟩ := box3 hd2.rb
    obtain ⟨⟨s0, s1, s2⟩, _, _⟩ := box3 hbx
    have HD := Lib.hid hd2
    have HBX := Lib.hid hbx
    have HBB := Lib.hid hbb
    have HKD := Lib.hid (formBad_kind (chk_good h0.out).1)
    have hk := HK.out
    have hrev : revOf A c.key = revO (look A c.key) := rfl
    clear hd2 hbx hbb
    rw [hk] at c0
    rw [HL.out] at s1
    rw [hrev, HL.out] at s2
    obtain ⟨i, hi, hx⟩ := look_at.2 x HL.out
    rw [hi]
    have h0i : ¬ (i : Int) < 0 := by omega
    clear hi hx hrev
    have s1 : World.cell? _ _ = some (.string x.val) := s1
    have s2 : World.cell? _ _ = some (.int .i64 x.rev) := s2
    have HV : Hid (act A c = (A, ⟨0, x.val, x.rev⟩)) := Lib.hid (by unfold act; rw [if_pos HK.out, HL.out])
    go_wp2_with fail
    go_still_tail 7, (by kernel_rfl)
    go_wp2_with fail
    refine ret_box (w.heap.size + 1) #[.int .i64 0, .string x.val, .int .i64 x.rev] 33 (.tuple #[.slice ao A.length cap, .agg #[.int .i64 0, .string x.val, .int .i64 x.rev]]) ?_ (fun W' h => ?_) rfl ?_
    · exact set3 HD.out.rb
    · obtain ⟨⟨r0, r1, r2⟩, _, _⟩ := box3 h
      simp [results, Tryz.results12, go_sem, r0, r1, r2]
    · exact DoPost.mk HV.out (HSV.out.below (set3_below (by omega) HD.out.bel).drew) (set3_below (by omega) HD.out.bel).drew
set_option maxRecDepth 100000 in
set_option maxHeartbeats 2000000 in
theorem refdo_del0 (A : List Ent) (ao : Option Addr) (cap : Nat) (c : Cmd) (w : World) (h : SetsV w ao cap A) (N : Nat) (hg : Good N A) (hN : N ≤ 100000) (hs : c.key.size ≤ 1000000) (hz : chk c = 0) (hk : c.kind = 3) (hl : look A c.key = none) :
    Calls Tryz.prog 12 #[.slice ao A.length cap, cmdV c] w (DoPost A c w) := by
  have HC := Lib.hid (fun W => refcheck_v c W hs 0 hz)
  have h0 := Lib.hid hz
  have HSV := Lib.hid h
  have HK := Lib.hid hk
  have HL := Lib.hid hl
  have HG := Lib.hid hg
  clear h hs hz hk hl hg
  go_enter Tryz.func12, Tryz.ntmps12
  go_wp2_with fail
  refine (HC.out _).mono ?_
  rintro e w1 ⟨rfl, hb⟩
  have hd : DoAt c w w1 := by
    refine DoAt.next (w1 := (w.alloc (.cells (cmdA c) 38)).alloc (.cells #[.int .i64 0, .string ⟨#[]⟩, .int .i64 0] 33)) ⟨((Below.refl _ _).alloc (Nat.le_refl _) _).alloc (by simp) _, ?_, ?_⟩ hb
    · rw [heap_al, if_neg (by simp), heap_alloc_new]
    · rw [heap_al, if_pos (by simp)]
  have HD := Lib.hid hd
  clear hb hd
  obtain ⟨⟨c0, c1, c2, c3, c4, c5⟩, fc⟩ := box6 HD.out.cb
  go_wp2_with fail
  refine (at_any A ao cap c.key w1 (HSV.out.below HD.out.bel)).mono ?_
  rintro e w2 ⟨rfl, rfl⟩
  obtain ⟨iv, hiv⟩ : ∃ iv, iv = atI A c.key := ⟨_, rfl⟩
  rw [← hiv]
  have HI := Lib.hid hiv
  clear hiv
  go_upto_if 26 with fail
  go_cut [7, 8] (fun iv bv wx => LookAt A c w iv bv wx)
  case first =>
    obtain ⟨wA, hwA⟩ : ∃ wA, wA = w1.alloc (.cells #[.string c.key, .string ⟨#[]⟩, .int .i64 0] 64) := ⟨_, rfl⟩
    rw [← hwA]
    have hb8 : wA.heap[w1.heap.size]? = some (.cells #[.string c.key, .string ⟨#[]⟩, .int .i64 0] 64 (0, 0)) := by rw [hwA, heap_al, if_pos rfl]
    have HDA : Hid (DoAt c w wA) := Lib.hid (by rw [hwA]; exact HD.out.next ((Below.refl _ _).alloc (Nat.le_refl _) _))
    have HSA : Hid (SetsV wA ao cap A) := Lib.hid (HSV.out.below HDA.out.bel)
    have HLT := Lib.hid (M.heap_lt HD.out.rb)
    clear hwA
    obtain ⟨⟨s0, s1, s2⟩, fs, ss⟩ := box3 hb8
    have HB8 := Lib.hid hb8
    clear hb8
    obtain ⟨L, hL⟩ : ∃ L, look A c.key = L := ⟨_, rfl⟩
    cases L with
    | none =>
      obtain rfl : iv = -1 := HI.out.trans (look_at.1 hL)
      have HL := Lib.hid hL
      clear hL
      go_wp2_with fail
      go_meet
      refine ⟨by rw [HI.out], HDA.out, w1.heap.size, rfl, HLT.out, ?_⟩
      unfold revOf
      rw [HL.out]
      exact HB8.out
    | some x =>
      obtain ⟨i, hi, hx⟩ := look_at.2 x hL
      obtain rfl : iv = (i : Int) := HI.out.trans hi
      have hil := (List.getElem?_eq_some_iff.1 hx).1
      obtain ⟨b, off, rfl, _, x0, x1, x2⟩ := HSA.out.row i x hx
      obtain ⟨hl1, hl2⟩ := HSA.out.le
      unfold maxLen at hl2
      have hii : (i : Int) < (A.length : Int) := by omega
      have h0i : (0 : Int) ≤ (i : Int) := by omega
      have HL := Lib.hid hL
      clear hL hx hi
      go_wp2_with fail
      go_meet
      refine ⟨by rw [HI.out], HDA.out.set3 HLT.out HB8.out, w1.heap.size, rfl, HLT.out, ?_⟩
      unfold revOf
      rw [HL.out, ← (look_key HL.out).1]
      exact set3 HB8.out
  case rest =>
    clear c0 c1 c2 c3 c4 c5 fc HI HD
    obtain ⟨rfl, hd2, b, rfl, hbb, hbx⟩ := hcut
    obtain ⟨⟨c0, c1, c2, c3, c4, c5⟩, _⟩ := box6 hd2.cb
    obtain ⟨⟨d0, d1, d2⟩, fd, sd⟩ := box3 hd2.rb
    obtain ⟨⟨s0, s1, s2⟩, _, _⟩ := box3 hbx
    have HD := Lib.hid hd2
    have HBX := Lib.hid hbx
    have HBB := Lib.hid hbb
    have HKD := Lib.hid (formBad_kind (chk_good h0.out).1)
    have hk := HK.out
    have hrev : revOf A c.key = revO (look A c.key) := rfl
    clear hd2 hbx hbb
    rw [hk] at c0
    rw [HL.out] at s1
    rw [hrev, HL.out] at s2
    rw [look_at.1 HL.out]
    have s1 : World.cell? _ _ = some (.string nul) := s1
    have s2 : World.cell? _ _ = some (.int .i64 0) := s2
    clear hrev
    have HV : Hid (act A c = (A, ⟨8, nul, 0⟩)) := Lib.hid (by unfold act; rw [if_neg (by rw [HK.out]; decide), if_pos HK.out]; rw [HL.out])
    go_wp2_with fail
    refine ret_box (w.heap.size + 1) #[.int .i64 8, .string nul, .int .i64 0] 33 (.tuple #[.slice ao A.length cap, .agg #[.int .i64 8, .string nul, .int .i64 0]]) ?_ (fun W' h => ?_) rfl ?_
    · exact set3 HD.out.rb
    · obtain ⟨⟨r0, r1, r2⟩, _, _⟩ := box3 h
      simp [results, Tryz.results12, go_sem, r0, r1, r2]
    · exact DoPost.mk HV.out (HSV.out.below (set3_below (by omega) HD.out.bel)) (set3_below (by omega) HD.out.bel)
set_option maxRecDepth 100000 in
set_option maxHeartbeats 2000000 in
theorem refdo_del1 (A : List Ent) (ao : Option Addr) (cap : Nat) (c : Cmd) (w : World) (h : SetsV w ao cap A) (N : Nat) (hg : Good N A) (hN : N ≤ 100000) (hs : c.key.size ≤ 1000000) (hz : chk c = 0) (hk : c.kind = 3) (x : Ent) (hl : look A c.key = some x) :
    Calls Tryz.prog 12 #[.slice ao A.length cap, cmdV c] w (DoPost A c w) := by
  have HC := Lib.hid (fun W => refcheck_v c W hs 0 hz)
  have h0 := Lib.hid hz
  have HSV := Lib.hid h
  have HK := Lib.hid hk
  have HL := Lib.hid hl
  have HG := Lib.hid hg
  clear h hs hz hk hl hg
  go_enter Tryz.func12, Tryz.ntmps12
  go_wp2_with fail
  refine (HC.out _).mono ?_
  rintro e w1 ⟨rfl, hb⟩
  have hd : DoAt c w w1 := by
    refine DoAt.next (w1 := (w.alloc (.cells (cmdA c) 38)).alloc (.cells #[.int .i64 0, .string ⟨#[]⟩, .int .i64 0] 33)) ⟨((Below.refl _ _).alloc (Nat.le_refl _) _).alloc (by simp) _, ?_, ?_⟩ hb
    · rw [heap_al, if_neg (by simp), heap_alloc_new]
    · rw [heap_al, if_pos (by simp)]
  have HD := Lib.hid hd
  clear hb hd
  obtain ⟨⟨c0, c1, c2, c3, c4, c5⟩, fc⟩ := box6 HD.out.cb
  go_wp2_with fail
  refine (at_any A ao cap c.key w1 (HSV.out.below HD.out.bel)).mono ?_
  rintro e w2 ⟨rfl, rfl⟩
  obtain ⟨iv, hiv⟩ : ∃ iv, iv = atI A c.key := ⟨_, rfl⟩
  rw [← hiv]
  have HI := Lib.hid hiv
  clear hiv
  go_upto_if 26 with fail
  go_cut [7, 8] (fun iv bv wx => LookAt A c w iv bv wx)
  case first =>
    obtain ⟨wA, hwA⟩ : ∃ wA, wA = w1.alloc (.cells #[.string c.key, .string ⟨#[]⟩, .int .i64 0] 64) := ⟨_, rfl⟩
    rw [← hwA]
    have hb8 : wA.heap[w1.heap.size]? = some (.cells #[.string c.key, .string ⟨#[]⟩, .int .i64 0] 64 (0, 0)) := by rw [hwA, heap_al, if_pos rfl]
    have HDA : Hid (DoAt c w wA) := Lib.hid (by rw [hwA]; exact HD.out.next ((Below.refl _ _).alloc (Nat.le_refl _) _))
    have HSA : Hid (SetsV wA ao cap A) := Lib.hid (HSV.out.below HDA.out.bel)
    have HLT := Lib.hid (M.heap_lt HD.out.rb)
    clear hwA
    obtain ⟨⟨s0, s1, s2⟩, fs, ss⟩ := box3 hb8
    have HB8 := Lib.hid hb8
    clear hb8
    obtain ⟨L, hL⟩ : ∃ L, look A c.key = L := ⟨_, rfl⟩
    cases L with
    | none =>
      obtain rfl : iv = -1 := HI.out.trans (look_at.1 hL)
      have HL := Lib.hid hL
      clear hL
      go_wp2_with fail
      go_meet
      refine ⟨by rw [HI.out], HDA.out, w1.heap.size, rfl, HLT.out, ?_⟩
      unfold revOf
      rw [HL.out]
      exact HB8.out
    | some x =>
      obtain ⟨i, hi, hx⟩ := look_at.2 x hL
      obtain rfl : iv = (i : Int) := HI.out.trans hi
      have hil := (List.getElem?_eq_some_iff.1 hx).1
      obtain ⟨b, off, rfl, _, x0, x1, x2⟩ := HSA.out.row i x hx
      obtain ⟨hl1, hl2⟩ := HSA.out.le
      unfold maxLen at hl2
      have hii : (i : Int) < (A.length : Int) := by omega
      have h0i : (0 : Int) ≤ (i : Int) := by omega
      have HL := Lib.hid hL
      clear hL hx hi
      go_wp2_with fail
      go_meet
      refine ⟨by rw [HI.out], HDA.out.set3 HLT.out HB8.out, w1.heap.size, rfl, HLT.out, ?_⟩
      unfold revOf
      rw [HL.out, ← (look_key HL.out).1]
      exact set3 HB8.out
  case rest =>
    clear c0 c1 c2 c3 c4 c5 fc HI HD
    obtain ⟨rfl, hd2, b, rfl, hbb, hbx⟩ := hcut
    obtain ⟨⟨c0, c1, c2, c3, c4, c5⟩, _⟩ := box6 hd2.cb
    obtain ⟨⟨d0, d1, d2⟩, fd, sd⟩ := box3 hd2.rb
    obtain ⟨⟨s0, s1, s2⟩, _, _⟩ := box3 hbx
    have HD := Lib.hid hd2
    have HBX := Lib.hid hbx
    have HBB := Lib.hid hbb
    have HKD := Lib.hid (formBad_kind (chk_good h0.out).1)
    have hk := HK.out
    have hrev : revOf A c.key = revO (look A c.key) := rfl
    clear hd2 hbx hbb
    rw [hk] at c0
    rw [HL.out] at s1
    rw [hrev, HL.out] at s2
    obtain ⟨i, hi, hx⟩ := look_at.2 x HL.out
    rw [hi]
    have h0i : ¬ (i : Int) < 0 := by omega
    clear hi hx hrev
    have s1 : World.cell? _ _ = some (.string x.val) := s1
    have s2 : World.cell? _ _ = some (.int .i64 x.rev) := s2
    have HV : Hid (act A c = (del A c.key, ⟨0, nul, x.rev⟩)) := Lib.hid (by unfold act; rw [if_neg (by rw [HK.out]; decide), if_pos HK.out, HL.out])
    go_wp2_with fail
    have hzc : w.heap.size < wc.heap.size := M.heap_lt HD.out.cb
    have hzb : b < wc.heap.size := M.heap_lt HBX.out
    have hzr : w.heap.size + 1 < wc.heap.size := M.heap_lt HD.out.rb
    have hA : A.length ≤ 100000 := by have := HG.out.len; omega
    have HS0 : Hid ((fun w' => w'.cell? ⟨w.heap.size, 3, none⟩ = some (.string c.key) ∧ w'.cell? ⟨b, 2, none⟩ = some (.int .i64 x.rev) ∧ Below w.heap.size w w') wc.drew) := Lib.hid ⟨c3, s2, HD.out.bel.drew⟩
    have HK3 := Lib.hid (show ∀ (W : World) (u0 u1 u2 : Value), (fun w' => w'.cell? ⟨w.heap.size, 3, none⟩ = some (.string c.key) ∧ w'.cell? ⟨b, 2, none⟩ = some (.int .i64 x.rev) ∧ Below w.heap.size w w') W → (fun w' => w'.cell? ⟨w.heap.size, 3, none⟩ = some (.string c.key) ∧ w'.cell? ⟨b, 2, none⟩ = some (.int .i64 x.rev) ∧ Below w.heap.size w w') (((W.setCell ⟨w.heap.size + 1, 0, none⟩ u0).setCell ⟨w.heap.size + 1, 1, none⟩ u1).setCell ⟨w.heap.size + 1, 2, none⟩ u2) from fun W u0 u1 u2 hW =>
      ⟨(far3 (by simp)).trans hW.1, (far3 (by have := HBB.out; simp; omega)).trans hW.2.1, set3_below (by omega) hW.2.2⟩)
    have HWO := Lib.hid (show Calls Tryz.prog 22 #[.slice ao A.length cap, .string c.key] wc.drew fun e w2 => ∃ oo oc, e = .returned (.slice oo (del A c.key).length oc) ∧ (fun w' => w'.cell? ⟨w.heap.size, 3, none⟩ = some (.string c.key) ∧ w'.cell? ⟨b, 2, none⟩ = some (.int .i64 x.rev) ∧ Below w.heap.size w w') w2 ∧ (SetsV w2 oo oc (del A c.key) ∧ (∀ a, oo = some a → wc.heap.size ≤ a.block) ∧ DoAt c w w2) from
      (without_any A ao cap c.key wc.drew (HSV.out.below HD.out.bel.drew) hA).mono fun e w2 hh => by
        obtain ⟨oo, oc, he, ho, hb2⟩ := hh
        have hb2 : Below wc.heap.size wc w2 := ((Below.refl _ _).drew).trans hb2
        exact ⟨oo, oc, he, ⟨(hb2.cell (p := ⟨w.heap.size, 3, none⟩) hzc).trans c3, (hb2.cell (p := ⟨b, 2, none⟩) hzb).trans s2, HD.out.bel.trans (hb2.mono HD.out.bel.size)⟩, SetsV.of_own ho, fun a ha => (own_heap ho a ha).choose_spec.2, HD.out.next hb2⟩)
    clear c0 c1 c2 c3 c4 c5 s0 s1 s2 d0 d1 d2 fd sd hk
    go_region_held3 (fun w' => w'.cell? ⟨w.heap.size, 3, none⟩ = some (.string c.key) ∧ w'.cell? ⟨b, 2, none⟩ = some (.int .i64 x.rev) ∧ Below w.heap.size w w')
      (first | exact HS0.out | exact h9 | exact HK3.out _ _ _ _ h9)
      ((go_at_call 22; refine HWO.out.mono ?_; rintro e w9 ⟨oo, oc, rfl, h9, hs9, ho9, hd9⟩; obtain ⟨⟨d0, d1, d2⟩, fd, sd⟩ := box3 hd9.rb))
    have HS9 := Lib.hid hs9
    have HO9 := Lib.hid (show ∀ a, oo = some a → w.heap.size + 1 < a.block from fun a ha => by have := ho9 a ha; omega)
    have H9 := Lib.hid h9
    have HD9 := Lib.hid hd9
    clear hs9 ho9 h9 hd9
    go_wp2_with fail
    refine ret_box (w.heap.size + 1) #[.int .i64 0, .string nul, .int .i64 x.rev] 33 (.tuple #[.slice oo (del A c.key).length oc, .agg #[.int .i64 0, .string nul, .int .i64 x.rev]]) ?_ (fun W' h => ?_) rfl ?_
    · exact set3 HD9.out.rb
    · obtain ⟨⟨r0, r1, r2⟩, _, _⟩ := box3 h
      simp [results, Tryz.results12, go_sem, r0, r1, r2]
    · exact DoPost.mk HV.out (HS9.out.far HO9.out) (set3_below (by omega) H9.out.2.2)
set_option maxRecDepth 100000 in
set_option maxHeartbeats 2000000 in
theorem refdo_put (A : List Ent) (ao : Option Addr) (cap : Nat) (c : Cmd) (w : World) (h : SetsV w ao cap A) (N : Nat) (hg : Good N A) (hN : N ≤ 100000) (hs : c.key.size ≤ 1000000) (hz : chk c = 0) (hk : c.kind = 2) (hl : True) :
    Calls Tryz.prog 12 #[.slice ao A.length cap, cmdV c] w (DoPost A c w) := by
  have HC := Lib.hid (fun W => refcheck_v c W hs 0 hz)
  have h0 := Lib.hid hz
  have HSV := Lib.hid h
  have HK := Lib.hid hk
  have HL := Lib.hid hl
  have HG := Lib.hid hg
  clear h hs hz hk hl hg
  go_enter Tryz.func12, Tryz.ntmps12
  go_wp2_with fail
  refine (HC.out _).mono ?_
  rintro e w1 ⟨rfl, hb⟩
  have hd : DoAt c w w1 := by
    refine DoAt.next (w1 := (w.alloc (.cells (cmdA c) 38)).alloc (.cells #[.int .i64 0, .string ⟨#[]⟩, .int .i64 0] 33)) ⟨((Below.refl _ _).alloc (Nat.le_refl _) _).alloc (by simp) _, ?_, ?_⟩ hb
    · rw [heap_al, if_neg (by simp), heap_alloc_new]
    · rw [heap_al, if_pos (by simp)]
  have HD := Lib.hid hd
  clear hb hd
  obtain ⟨⟨c0, c1, c2, c3, c4, c5⟩, fc⟩ := box6 HD.out.cb
  go_wp2_with fail
  refine (at_any A ao cap c.key w1 (HSV.out.below HD.out.bel)).mono ?_
  rintro e w2 ⟨rfl, rfl⟩
  obtain ⟨iv, hiv⟩ : ∃ iv, iv = atI A c.key := ⟨_, rfl⟩
  rw [← hiv]
  have HI := Lib.hid hiv
  clear hiv
  go_upto_if 26 with fail
  go_cut [7, 8] (fun iv bv wx => LookAt A c w iv bv wx)
  case first =>
    obtain ⟨wA, hwA⟩ : ∃ wA, wA = w1.alloc (.cells #[.string c.key, .string ⟨#[]⟩, .int .i64 0] 64) := ⟨_, rfl⟩
    rw [← hwA]
    have hb8 : wA.heap[w1.heap.size]? = some (.cells #[.string c.key, .string ⟨#[]⟩, .int .i64 0] 64 (0, 0)) := by rw [hwA, heap_al, if_pos rfl]
    have HDA : Hid (DoAt c w wA) := Lib.hid (by rw [hwA]; exact HD.out.next ((Below.refl _ _).alloc (Nat.le_refl _) _))
    have HSA : Hid (SetsV wA ao cap A) := Lib.hid (HSV.out.below HDA.out.bel)
    have HLT := Lib.hid (M.heap_lt HD.out.rb)
    clear hwA
    obtain ⟨⟨s0, s1, s2⟩, fs, ss⟩ := box3 hb8
    have HB8 := Lib.hid hb8
    clear hb8
    obtain ⟨L, hL⟩ : ∃ L, look A c.key = L := ⟨_, rfl⟩
    cases L with
    | none =>
      obtain rfl : iv = -1 := HI.out.trans (look_at.1 hL)
      have HL := Lib.hid hL
      clear hL
      go_wp2_with fail
      go_meet
      refine ⟨by rw [HI.out], HDA.out, w1.heap.size, rfl, HLT.out, ?_⟩
      unfold revOf
      rw [HL.out]
      exact HB8.out
    | some x =>
      obtain ⟨i, hi, hx⟩ := look_at.2 x hL
      obtain rfl : iv = (i : Int) := HI.out.trans hi
      have hil := (List.getElem?_eq_some_iff.1 hx).1
      obtain ⟨b, off, rfl, _, x0, x1, x2⟩ := HSA.out.row i x hx
      obtain ⟨hl1, hl2⟩ := HSA.out.le
      unfold maxLen at hl2
      have hii : (i : Int) < (A.length : Int) := by omega
      have h0i : (0 : Int) ≤ (i : Int) := by omega
      have HL := Lib.hid hL
      clear hL hx hi
      go_wp2_with fail
      go_meet
      refine ⟨by rw [HI.out], HDA.out.set3 HLT.out HB8.out, w1.heap.size, rfl, HLT.out, ?_⟩
      unfold revOf
      rw [HL.out, ← (look_key HL.out).1]
      exact set3 HB8.out
  case rest =>
    clear c0 c1 c2 c3 c4 c5 fc HI HD
    obtain ⟨rfl, hd2, b, rfl, hbb, hbx⟩ := hcut
    obtain ⟨⟨c0, c1, c2, c3, c4, c5⟩, _⟩ := box6 hd2.cb
    obtain ⟨⟨d0, d1, d2⟩, fd, sd⟩ := box3 hd2.rb
    obtain ⟨⟨s0, s1, s2⟩, _, _⟩ := box3 hbx
    have HD := Lib.hid hd2
    have HBX := Lib.hid hbx
    have HBB := Lib.hid hbb
    have HKD := Lib.hid (formBad_kind (chk_good h0.out).1)
    have hk := HK.out
    have hrev : revOf A c.key = revO (look A c.key) := rfl
    clear hd2 hbx hbb
    rw [hk] at c0
    obtain ⟨r, hr⟩ : ∃ r, revOf A c.key = r := ⟨_, rfl⟩
    have hr2 := HG.out.rev c.key
    rw [hr] at hr2 s2
    have hr0 : 0 ≤ r := hr2.1
    have hr1 : r ≤ 100000 := by omega
    have HR := Lib.hid hr
    clear hr hr2 hrev s1
    have HV : Hid (act A c = (put A ⟨c.key, c.val, r + 1⟩, ⟨0, nul, r + 1⟩)) := Lib.hid (by unfold act; rw [if_neg (by rw [HK.out]; decide), if_neg (by rw [HK.out]; decide), if_pos HK.out, HR.out])
    go_wp2_with fail
    have hzc : w.heap.size < wc.heap.size := M.heap_lt HD.out.cb
    have hzb : b < wc.heap.size := M.heap_lt HBX.out
    have hzr : w.heap.size + 1 < wc.heap.size := M.heap_lt HD.out.rb
    have hA : A.length ≤ 100000 := by have := HG.out.len; omega
    have HS0 : Hid ((fun w' => w'.cell? ⟨w.heap.size, 3, none⟩ = some (.string c.key) ∧ w'.cell? ⟨w.heap.size, 4, none⟩ = some (.string c.val) ∧ w'.cell? ⟨b, 2, none⟩ = some (.int .i64 r) ∧ Below w.heap.size w w') wc.drew) := Lib.hid ⟨c3, c4, s2, HD.out.bel.drew⟩
    have HK3 := Lib.hid (show ∀ (W : World) (u0 u1 u2 : Value), (fun w' => w'.cell? ⟨w.heap.size, 3, none⟩ = some (.string c.key) ∧ w'.cell? ⟨w.heap.size, 4, none⟩ = some (.string c.val) ∧ w'.cell? ⟨b, 2, none⟩ = some (.int .i64 r) ∧ Below w.heap.size w w') W → (fun w' => w'.cell? ⟨w.heap.size, 3, none⟩ = some (.string c.key) ∧ w'.cell? ⟨w.heap.size, 4, none⟩ = some (.string c.val) ∧ w'.cell? ⟨b, 2, none⟩ = some (.int .i64 r) ∧ Below w.heap.size w w') (((W.setCell ⟨w.heap.size + 1, 0, none⟩ u0).setCell ⟨w.heap.size + 1, 1, none⟩ u1).setCell ⟨w.heap.size + 1, 2, none⟩ u2) from fun W u0 u1 u2 hW =>
      ⟨(far3 (by simp)).trans hW.1, (far3 (by simp)).trans hW.2.1, (far3 (by have := HBB.out; simp; omega)).trans hW.2.2.1, set3_below (by omega) hW.2.2.2⟩)
    have HWO := Lib.hid (show Calls Tryz.prog 23 #[.slice ao A.length cap, .agg #[.string c.key, .string c.val, .int .i64 (r + 1)]] wc.drew fun e w2 => ∃ oo oc, e = .returned (.slice oo (put A ⟨c.key, c.val, r + 1⟩).length oc) ∧ (fun w' => w'.cell? ⟨w.heap.size, 3, none⟩ = some (.string c.key) ∧ w'.cell? ⟨w.heap.size, 4, none⟩ = some (.string c.val) ∧ w'.cell? ⟨b, 2, none⟩ = some (.int .i64 r) ∧ Below w.heap.size w w') w2 ∧ (SetsV w2 oo oc (put A ⟨c.key, c.val, r + 1⟩) ∧ (∀ a, oo = some a → wc.heap.size ≤ a.block) ∧ DoAt c w w2) from
      (with_any A ao cap ⟨c.key, c.val, r + 1⟩ wc.drew (HSV.out.below HD.out.bel.drew) hA HG.out.srt).mono fun e w2 hh => by
        obtain ⟨oo, oc, he, ho, hb2⟩ := hh
        have hb2 : Below wc.heap.size wc w2 := ((Below.refl _ _).drew).trans hb2
        exact ⟨oo, oc, he, ⟨(hb2.cell (p := ⟨w.heap.size, 3, none⟩) hzc).trans c3, (hb2.cell (p := ⟨w.heap.size, 4, none⟩) hzc).trans c4, (hb2.cell (p := ⟨b, 2, none⟩) hzb).trans s2, HD.out.bel.trans (hb2.mono HD.out.bel.size)⟩, SetsV.of_own ho, fun a ha => (own_heap ho a ha).choose_spec.2, HD.out.next hb2⟩)
    obtain ⟨PA, hPA⟩ : ∃ PA, PA = put A ⟨c.key, c.val, r + 1⟩ := ⟨_, rfl⟩
    rw [← hPA] at HWO HV
    have hwr : IntKind.i64.wrap (r + 1) = r + 1 := IntWalk.i64_in _ (by omega)
    clear c0 c1 c2 c3 c4 c5 s0 s2 d0 d1 d2 fd sd hk hPA
    go_region_held3 (fun w' => w'.cell? ⟨w.heap.size, 3, none⟩ = some (.string c.key) ∧ w'.cell? ⟨w.heap.size, 4, none⟩ = some (.string c.val) ∧ w'.cell? ⟨b, 2, none⟩ = some (.int .i64 r) ∧ Below w.heap.size w w')
      (first | exact HS0.out | exact h9 | exact HK3.out _ _ _ _ h9)
      ((go_at_call 23; refine HWO.out.mono ?_; rintro e w9 ⟨oo, oc, rfl, h9, hs9, ho9, hd9⟩; obtain ⟨⟨d0, d1, d2⟩, fd, sd⟩ := box3 hd9.rb))
    have HS9 := Lib.hid hs9
    have HO9 := Lib.hid (show ∀ a, oo = some a → w.heap.size + 1 < a.block from fun a ha => by have := ho9 a ha; omega)
    have H9 := Lib.hid h9
    have HD9 := Lib.hid hd9
    clear hs9 ho9 h9 hd9
    go_wp2_with fail
    refine ret_box (w.heap.size + 1) #[.int .i64 0, .string nul, .int .i64 (r + 1)] 33 (.tuple #[.slice oo PA.length oc, .agg #[.int .i64 0, .string nul, .int .i64 (r + 1)]]) ?_ (fun W' h => ?_) rfl ?_
    · exact set3 HD9.out.rb
    · obtain ⟨⟨r0, r1, r2⟩, _, _⟩ := box3 h
      simp [results, Tryz.results12, go_sem, r0, r1, r2]
    · exact DoPost.mk HV.out (HS9.out.far HO9.out) (set3_below (by omega) H9.out.2.2.2)
end Go.Proofs.YtpeiamllkddhiaaGreatDoor.P
