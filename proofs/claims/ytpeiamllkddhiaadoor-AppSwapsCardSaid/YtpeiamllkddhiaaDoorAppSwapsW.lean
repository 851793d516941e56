/- The walk of AppSwaps. -/
import Derived.Test.YtpeiamllkddhiaaDoorAppZ
import Derived.Test.YtpeiamllkddhiaaDoorInv
import Derived.Deep.RegionHeld3
import Derived.Deep.DeepCutAuto
namespace Go.Proofs.YtpeiamllkddhiaaDoor.P
open Go.RowKit Go.Proofs.YtpeiamllkddhiaaDoor.R Go.Proofs.YtpeiamllkddhiaaDoor.M Go.BigFrame
set_option linter.unusedVariables false
set_option linter.unusedSimpArgs false

abbrev zeroO : Obj := .cells #[.int .i64 0, .string ⟨#[]⟩, .int .i64 0] 29
/-- settings and their copy, each worked on; boxes of the call's own -/
structure SwAt (v wx : World) (p b n : Nat) (A : List Ent) (pc bc m : Nat) (C : List Ent) (l : List (Nat × Obj)) : Prop where
  a : RunAt v wx p b n A
  c : RunAt v wx pc bc m C
  bx : Boxed wx b l
  cx : Boxed wx bc l
  n1 : pc ≠ b
  n2 : bc ≠ b
  n3 : p ≠ bc
section
variable {v wx wy : World} {p b n pc bc m : Nat} {A C : List Ent} {l : List (Nat × Obj)}
theorem SwAt.next (h : SwAt v wx p b n A pc bc m C l) (hb : Below wx.heap.size wx wy) : SwAt v wy p b n A pc bc m C l :=
  ⟨h.a.next hb, h.c.next hb, h.bx.below hb, h.cx.below hb, h.n1, h.n2, h.n3⟩
theorem SwAt.drew (h : SwAt v wx p b n A pc bc m C l) : SwAt v wx.drew p b n A pc bc m C l := h.next (Below.refl _ _).drew
theorem SwAt.al (h : SwAt v wx p b n A pc bc m C l) (o : Obj) : SwAt v (wx.alloc o) p b n A pc bc m C ((wx.heap.size, o) :: l) :=
  have hb : Below wx.heap.size wx (wx.alloc o) := (Below.refl _ _).alloc (Nat.le_refl _) _
  ⟨h.a.next hb, h.c.next hb, h.bx.alloc h.a.app.blt o, h.cx.alloc h.c.app.blt o, h.n1, h.n2, h.n3⟩
theorem SwAt.didA (h : SwAt v wx p b n A pc bc m C l) {k : Nat} {B : List Ent} (hr : RunAt v wy p b k B) (hm : Mods (fun k => k = b) wx wy) : SwAt v wy p b k B pc bc m C l :=
  ⟨hr, h.c.apart hm h.a.bge h.n1 h.n2, h.bx.mods hm, fun x hx => ⟨(h.bx.mods hm x hx).1, (h.cx x hx).2⟩, h.n1, h.n2, h.n3⟩
theorem SwAt.didC (h : SwAt v wx p b n A pc bc m C l) {k : Nat} {D : List Ent} (hr : RunAt v wy pc bc k D) (hm : Mods (fun k => k = bc) wx wy) : SwAt v wy p b n A pc bc k D l :=
  ⟨h.a.apart hm h.c.bge h.n3 (fun e => h.n2 e.symm), hr, fun x hx => ⟨(h.cx.mods hm x hx).1, (h.bx x hx).2⟩, h.cx.mods hm, h.n1, h.n2, h.n3⟩
theorem SwAt.boxes (h : SwAt v wx p b n A pc bc m C l) {l2 : List (Nat × Obj)} (hs : ∀ x ∈ l2, x ∈ l) : SwAt v wx p b n A pc bc m C l2 :=
  ⟨h.a, h.c, fun x hx => h.bx x (hs x hx), fun x hx => h.cx x (hs x hx), h.n1, h.n2, h.n3⟩
end
theorem SwAt.turned {v wx wy : World} {p b n pc bc m g : Nat} {A C : List Ent} {l : List (Nat × Obj)} (h : SwAt v wx p b n A pc bc m C l) (hm : Mods (fun k => k = g) wx wy) (hv : v.heap.size ≤ g) (h1 : p ≠ g ∧ b ≠ g ∧ pc ≠ g ∧ bc ≠ g) (hl : ∀ x ∈ l, x.1 ≠ g) : SwAt v wy p b n A pc bc m C l :=
  ⟨h.a.apart hm hv h1.1 h1.2.1, h.c.apart hm hv h1.2.2.1 h1.2.2.2, fun x hx => ⟨hm.heap (h.bx x hx).1 (hl x hx), (h.bx x hx).2⟩, fun x hx => ⟨hm.heap (h.cx x hx).1 (hl x hx), (h.cx x hx).2⟩, h.n1, h.n2, h.n3⟩
theorem SwAt.more {v wx : World} {p b n pc bc m g : Nat} {A C : List Ent} {l : List (Nat × Obj)} {o : Obj} (h : SwAt v wx p b n A pc bc m C l) (hg : wx.heap[g]? = some o) (h1 : g ≠ b) (h2 : g ≠ bc) : SwAt v wx p b n A pc bc m C ((g, o) :: l) :=
  ⟨h.a, h.c, fun x hx => by rcases List.mem_cons.1 hx with rfl | hx; exact ⟨hg, h1⟩; exact h.bx x hx, fun x hx => by rcases List.mem_cons.1 hx with rfl | hx; exact ⟨hg, h2⟩; exact h.cx x hx, h.n1, h.n2, h.n3⟩
/-- a box at or above N -/
def BoxG (N : Nat) (w : World) (x : Value) (o : Obj) : Prop := ∃ g, x = .pointer (some ⟨g, 0, none⟩) ∧ N ≤ g ∧ w.heap[g]? = some o
theorem BoxG.mods {N b : Nat} {w w1 : World} {x : Value} {o : Obj} (h : BoxG N w x o) (hm : Mods (fun k => k = b) w w1) (hb : b < N) : BoxG N w1 x o := by
  obtain ⟨g, e, hN, hg⟩ := h
  exact ⟨g, e, hN, hm.heap hg (by omega)⟩
theorem BoxG.below {N : Nat} {w w1 : World} {x : Value} {o : Obj} (h : BoxG N w x o) (hb : Below w.heap.size w w1) : BoxG N w1 x o := by
  obtain ⟨g, e, hN, hg⟩ := h
  exact ⟨g, e, hN, (hb.block _ (M.heap_lt hg)).trans hg⟩
theorem BoxG.other {N g : Nat} {w w1 : World} {x : Value} {o : Obj} (h : BoxG N w x o) (hm : Mods (fun k => k = g) w w1) (hx : Value.pointer (some ⟨g, 0, none⟩) ≠ x) : BoxG N w1 x o := by
  obtain ⟨g2, e, hN, hg⟩ := h
  refine ⟨g2, e, hN, hm.heap hg fun e2 => hx ?_⟩
  rw [e, e2]
theorem BoxG.fresh {N : Nat} {w : World} {x : Value} {o : Obj} (h : BoxG N w x o) : x ≠ .pointer (some ⟨w.heap.size, 0, none⟩) := by
  obtain ⟨g, e, hN, hg⟩ := h
  have := M.heap_lt hg
  rw [e]
  intro e2
  cases e2
  omega
/-- region 9: what holds, by what is done -/
structure SwS (v : World) (p b n pc bc : Nat) (A A1 A2 : List Ent) (R1 R2 : Rep) (c d : Cmd) (gc N : Nat) (b0 b1 b2 b3 b4 b5 b6 b7 b8 b9 : Bool) (x44 x45 x46 x47 x48 x49 x10 x11 : Value) (w : World) : Prop where
  k44 : b0 = true → x44 = .pointer (some ⟨p, 0, none⟩)
  k45 : b1 = true → x45 = cmdV c
  k46 : b2 = true → x46 = repV R1
  k47 : b3 = true → x47 = .pointer (some ⟨p, 0, none⟩)
  k48 : b4 = true → x48 = cmdV d
  k49 : b5 = true → b2 = true ∧ x49 = repV R2
  k8 : b8 = true → b6 = true
  k9 : b9 = true → b7 = true
  k10 : b6 = true → BoxG N w x10 (if b8 then repO R1 else zeroO)
  k11 : b7 = true → BoxG N w x11 (if b9 then repO R2 else zeroO)
  ne : b6 = true → b7 = true → x10 ≠ x11
  sz : N ≤ w.heap.size
  cb : w.heap[gc]? = some (cmdO c)
  db : w.heap[gc + 1]? = some (cmdO d)
  s0 : b2 = false → SwAt v w p b n A pc bc n A [(gc, cmdO c), (gc + 1, cmdO d)]
  s1 : b2 = true → b5 = false → SwAt v w p b (n + 1) A1 pc bc n A [(gc, cmdO c), (gc + 1, cmdO d)]
  s2 : b5 = true → SwAt v w p b (n + 2) A2 pc bc n A [(gc, cmdO c), (gc + 1, cmdO d)]
def SwI (v : World) (p b n pc bc : Nat) (A A1 A2 : List Ent) (R1 R2 : Rep) (c d : Cmd) (gc N : Nat) (arr : Array Value) (listed : Array Bool) (a : Act) (w : World) : Prop :=
  ∃ (b0 b1 b2 b3 b4 b5 b6 b7 b8 b9 : Bool) (x44 x45 x46 x47 x48 x49 x10 x11 : Value), listed = #[b0, b1, b2, b3, b4, b5, b6, b7, b8, b9] ∧
    a = ⟨(((((((arr.setIfInBounds 44 x44).setIfInBounds 45 x45).setIfInBounds 46 x46).setIfInBounds 47 x47).setIfInBounds 48 x48).setIfInBounds 49 x49).setIfInBounds 10 x10).setIfInBounds 11 x11, []⟩ ∧
    SwS v p b n pc bc A A1 A2 R1 R2 c d gc N b0 b1 b2 b3 b4 b5 b6 b7 b8 b9 x44 x45 x46 x47 x48 x49 x10 x11 w
theorem set_self (arr : Array Value) (j : Nat) : arr.setIfInBounds j (arr.getD j undef) = arr := by
  apply Array.ext_getElem?
  intro i
  rw [Array.getElem?_setIfInBounds]
  by_cases h : j = i
  · subst h
    by_cases hj : j < arr.size
    · simp [Array.getD, hj]
    · simp [hj]
  · simp [h]
theorem swI_start {v w : World} {p b n pc bc gc N : Nat} {A A1 A2 : List Ent} {R1 R2 : Rep} {c d : Cmd} {arr : Array Value}
    (h : ∀ x44 x45 x46 x47 x48 x49 x10 x11, SwS v p b n pc bc A A1 A2 R1 R2 c d gc N false false false false false false false false false false x44 x45 x46 x47 x48 x49 x10 x11 w) :
    SwI v p b n pc bc A A1 A2 R1 R2 c d gc N arr (Array.replicate 10 false) ⟨arr, []⟩ w :=
  ⟨false, false, false, false, false, false, false, false, false, false, arr.getD 44 undef, arr.getD 45 undef, arr.getD 46 undef, arr.getD 47 undef, arr.getD 48 undef, arr.getD 49 undef, arr.getD 10 undef, arr.getD 11 undef, rfl, by simp only [set_self], h _ _ _ _ _ _ _ _⟩
section
variable {v w w1 : World} {p b n pc bc gc N : Nat} {A A1 A2 : List Ent} {R1 R2 : Rep} {c d : Cmd} {b0 b1 b2 b3 b4 b5 b6 b7 b8 b9 : Bool} {x44 x45 x46 x47 x48 x49 x10 x11 : Value}
theorem SwS.below (h : SwS v p b n pc bc A A1 A2 R1 R2 c d gc N b0 b1 b2 b3 b4 b5 b6 b7 b8 b9 x44 x45 x46 x47 x48 x49 x10 x11 w) (hb : Below w.heap.size w w1) : SwS v p b n pc bc A A1 A2 R1 R2 c d gc N b0 b1 b2 b3 b4 b5 b6 b7 b8 b9 x44 x45 x46 x47 x48 x49 x10 x11 w1 :=
  { h with
    k10 := fun e => (h.k10 e).below hb
    k11 := fun e => (h.k11 e).below hb
    sz := Nat.le_trans h.sz hb.size
    cb := (hb.block _ (M.heap_lt h.cb)).trans h.cb
    db := (hb.block _ (M.heap_lt h.db)).trans h.db
    s0 := fun e => (h.s0 e).next hb
    s1 := fun e e2 => (h.s1 e e2).next hb
    s2 := fun e => (h.s2 e).next hb }
/-- a box is filled -/
theorem SwS.turned (h : SwS v p b n pc bc A A1 A2 R1 R2 c d gc N b0 b1 b2 b3 b4 b5 b6 b7 b8 b9 x44 x45 x46 x47 x48 x49 x10 x11 w) {g : Nat} (hm : Mods (fun k => k = g) w w1) (hg : N ≤ g) (hlim : p < N ∧ b < N ∧ pc < N ∧ bc < N ∧ gc + 1 < N ∧ v.heap.size ≤ N) :
    (w1.heap[gc]? = some (cmdO c) ∧ w1.heap[gc + 1]? = some (cmdO d)) ∧ (b2 = false → SwAt v w1 p b n A pc bc n A [(gc, cmdO c), (gc + 1, cmdO d)]) ∧ (b2 = true → b5 = false → SwAt v w1 p b (n + 1) A1 pc bc n A [(gc, cmdO c), (gc + 1, cmdO d)]) ∧ (b5 = true → SwAt v w1 p b (n + 2) A2 pc bc n A [(gc, cmdO c), (gc + 1, cmdO d)]) := by
  have hl : ∀ x ∈ [(gc, cmdO c), (gc + 1, cmdO d)], x.1 ≠ g := fun x hx => by
    rcases List.mem_cons.1 hx with rfl | hx
    · simp only; omega
    · obtain rfl := List.mem_singleton.1 hx
      simp only; omega
  exact ⟨⟨hm.heap h.cb (by omega), hm.heap h.db (by omega)⟩, fun e => (h.s0 e).turned hm (by omega) ⟨by omega, by omega, by omega, by omega⟩ hl, fun e e2 => (h.s1 e e2).turned hm (by omega) ⟨by omega, by omega, by omega, by omega⟩ hl, fun e => (h.s2 e).turned hm (by omega) ⟨by omega, by omega, by omega, by omega⟩ hl⟩
end
set_option maxRecDepth 100000 in
set_option maxHeartbeats 4000000 in
theorem swaps_no (L : List Cmd) (ao : Option Addr) (cap : Nat) (c d : Cmd) (w : World) (hV : CmdsV w.heap.size w ao cap L) (hC : CmdOk c) (hD : CmdOk d) (hT : TabsI w) (h : greatB L 60 = true ∨ greatB [c, d] 2 = true ∨ meet c d = true) :
    Calls Tryd.prog 8 #[.slice ao L.length cap, cmdV c, cmdV d] w fun e w' => e = .returned (.bool true) ∧ Below w.heap.size w w' := by
  have HT := Lib.hid hT
  have HV := Lib.hid hV
  clear hV hT
  obtain ⟨gb, hg⟩ : ∃ gb, greatB L 60 = gb := ⟨_, rfl⟩
  rw [hg] at h
  cases gb with
  | true =>
    clear h
    go_enter Tryd.func8, Tryd.ntmps8
    go_upto_region 1 with fail
    obtain ⟨v0, hv0⟩ : ∃ v0, v0 = (w.alloc (cmdO c)).alloc (cmdO d) := ⟨_, rfl⟩
    rw [← hv0]
    have HP0 : Hid (PairAt c d w v0) := Lib.hid (by rw [hv0]; exact pair_start c d w)
    have HV0 := Lib.hid HP0.out.bel
    clear hv0
    have hgr := great60 w.heap.size L ao cap v0 (HV.out.below HV0.out)
    rw [hg] at hgr
    obtain ⟨⟨c0, c1, c2, c3, c4, c5⟩, _⟩ := box6 HP0.out.ba
    obtain ⟨⟨d0, d1, d2, d3, d4, d5⟩, _⟩ := box6 HP0.out.bb
    go_wp2_with fail
    refine hgr.mono ?_
    rintro e w1 ⟨rfl, rfl⟩
    clear hgr
    go_wp2_with fail
    refine (awake_any _ (HT.out.next HV0.out)).mono ?_
    rintro e wz ⟨rfl, hbz⟩
    have HBZ := Lib.hid ((HV0.out).trans (hbz.mono (HV0.out).size))
    clear hbz
    go_wp2_with fail
    go_ret
    exact ⟨rfl, HBZ.out⟩
  | false =>
    obtain ⟨g2, hg2⟩ : ∃ g2, greatB [c, d] 2 = g2 := ⟨_, rfl⟩
    have HG1 := Lib.hid (fun (wx : World) (g : Nat) (hx : wx.heap[g]? = some (.cells (cmdA2 c d) 32 (0, 0))) => great_two hx hC hD g2 hg2)
    rw [hg2] at h
    clear hg2
    cases g2 with
    | true =>
      clear h
      go_enter Tryd.func8, Tryd.ntmps8
      go_upto_region 1 with fail
      obtain ⟨v0, hv0⟩ : ∃ v0, v0 = (w.alloc (cmdO c)).alloc (cmdO d) := ⟨_, rfl⟩
      rw [← hv0]
      have HP0 : Hid (PairAt c d w v0) := Lib.hid (by rw [hv0]; exact pair_start c d w)
      have HV0 := Lib.hid HP0.out.bel
      clear hv0
      have hgr := great60 w.heap.size L ao cap v0 (HV.out.below HV0.out)
      rw [hg] at hgr
      obtain ⟨⟨c0, c1, c2, c3, c4, c5⟩, _⟩ := box6 HP0.out.ba
      obtain ⟨⟨d0, d1, d2, d3, d4, d5⟩, _⟩ := box6 HP0.out.bb
      go_wp2_with fail
      refine hgr.mono ?_
      rintro e w1 ⟨rfl, rfl⟩
      clear hgr
      go_wp2_with fail
      refine (HG1.out _ _ (heap_alloc_new v0 _)).mono ?_
      rintro e w1 ⟨rfl, rfl⟩
      obtain ⟨v1, hv1⟩ : ∃ v1, v1 = v0.alloc (.cells (cmdA2 c d) 32) := ⟨_, rfl⟩
      rw [← hv1]
      have HP1 : Hid (PairAt c d w v1) := Lib.hid (HP0.out.next (by rw [hv1]; exact (Below.refl _ _).alloc (Nat.le_refl _) _))
      clear hv1 c0 c1 c2 c3 c4 c5 d0 d1 d2 d3 d4 d5 HG1
      obtain ⟨⟨c0, c1, c2, c3, c4, c5⟩, _⟩ := box6 HP1.out.ba
      obtain ⟨⟨d0, d1, d2, d3, d4, d5⟩, _⟩ := box6 HP1.out.bb
      go_wp2_with fail
      refine (awake_any _ (HT.out.next HP1.out.bel)).mono ?_
      rintro e wz ⟨rfl, hbz⟩
      have HBZ := Lib.hid ((HP1.out.bel).trans (hbz.mono (HP1.out.bel).size))
      clear hbz
      go_wp2_with fail
      go_ret
      exact ⟨rfl, HBZ.out⟩
    | false =>
      have HM := Lib.hid (show meet c d = true by simpa using h)
      clear h
      go_enter Tryd.func8, Tryd.ntmps8
      go_upto_region 1 with fail
      obtain ⟨v0, hv0⟩ : ∃ v0, v0 = (w.alloc (cmdO c)).alloc (cmdO d) := ⟨_, rfl⟩
      rw [← hv0]
      have HP0 : Hid (PairAt c d w v0) := Lib.hid (by rw [hv0]; exact pair_start c d w)
      have HV0 := Lib.hid HP0.out.bel
      clear hv0
      have hgr := great60 w.heap.size L ao cap v0 (HV.out.below HV0.out)
      rw [hg] at hgr
      obtain ⟨⟨c0, c1, c2, c3, c4, c5⟩, _⟩ := box6 HP0.out.ba
      obtain ⟨⟨d0, d1, d2, d3, d4, d5⟩, _⟩ := box6 HP0.out.bb
      go_wp2_with fail
      refine hgr.mono ?_
      rintro e w1 ⟨rfl, rfl⟩
      clear hgr
      go_wp2_with fail
      refine (HG1.out _ _ (heap_alloc_new v0 _)).mono ?_
      rintro e w1 ⟨rfl, rfl⟩
      obtain ⟨v1, hv1⟩ : ∃ v1, v1 = v0.alloc (.cells (cmdA2 c d) 32) := ⟨_, rfl⟩
      rw [← hv1]
      have HP1 : Hid (PairAt c d w v1) := Lib.hid (HP0.out.next (by rw [hv1]; exact (Below.refl _ _).alloc (Nat.le_refl _) _))
      clear hv1 c0 c1 c2 c3 c4 c5 d0 d1 d2 d3 d4 d5 HG1
      obtain ⟨⟨c0, c1, c2, c3, c4, c5⟩, _⟩ := box6 HP1.out.ba
      obtain ⟨⟨d0, d1, d2, d3, d4, d5⟩, _⟩ := box6 HP1.out.bb
      go_wp2_with fail
      refine (meet_any c d v1 _ HM.out).mono ?_
      rintro e v2 ⟨rfl, hb2⟩
      have HP2 := Lib.hid (HP1.out.next hb2)
      have HV2 := Lib.hid HP2.out.bel
      clear hb2 c0 c1 c2 c3 c4 c5 d0 d1 d2 d3 d4 d5
      go_wp2_with fail
      refine (awake_any _ (HT.out.next HV2.out)).mono ?_
      rintro e wz ⟨rfl, hbz⟩
      have HBZ := Lib.hid ((HV2.out).trans (hbz.mono (HV2.out).size))
      clear hbz
      go_wp2_with fail
      go_ret
      exact ⟨rfl, HBZ.out⟩
set_option maxRecDepth 100000 in
set_option maxHeartbeats 40000000 in
theorem swaps_all (L : List Cmd) (ao : Option Addr) (cap : Nat) (c d : Cmd) (w : World) (hV : CmdsV w.heap.size w ao cap L) (hC : CmdOk c) (hD : CmdOk d) (hT : TabsI w) (hg : greatB L 60 = false) (hg2 : greatB [c, d] 2 = false) (hm : meet c d = false) :
    Calls Tryd.prog 8 #[.slice ao L.length cap, cmdV c, cmdV d] w fun e w' => e = .returned (.bool true) ∧ Below w.heap.size w w' := by
  have hcs := (great_no hg2).2 c (by simp)
  have hds := (great_no hg2).2 d (by simp)
  have hsc : c.key.size ≤ 1000000 := by omega
  have hsd : d.key.size ≤ 1000000 := by omega
  have HG1 := Lib.hid (fun (wx : World) (g : Nat) (hx : wx.heap[g]? = some (.cells (cmdA2 c d) 32 (0, 0))) => great_two hx hC hD false hg2)
  have HM := Lib.hid hm
  obtain ⟨hl60, hsz⟩ := great_no hg
  have HV := Lib.hid hV
  have HT := Lib.hid hT
  have HSZ := Lib.hid hsz
  clear hV hT hsz hg2 hm
  go_enter Tryd.func8, Tryd.ntmps8
  go_upto_region 1 with fail
  obtain ⟨v0, hv0⟩ : ∃ v0, v0 = (w.alloc (cmdO c)).alloc (cmdO d) := ⟨_, rfl⟩
  rw [← hv0]
  have HP0 : Hid (PairAt c d w v0) := Lib.hid (by rw [hv0]; exact pair_start c d w)
  have HV0 := Lib.hid HP0.out.bel
  clear hv0
  have hgr := great60 w.heap.size L ao cap v0 (HV.out.below HV0.out)
  rw [hg] at hgr
  obtain ⟨⟨c0, c1, c2, c3, c4, c5⟩, _⟩ := box6 HP0.out.ba
  obtain ⟨⟨d0, d1, d2, d3, d4, d5⟩, _⟩ := box6 HP0.out.bb
  go_wp2_with fail
  refine hgr.mono ?_
  rintro e w1 ⟨rfl, rfl⟩
  clear hgr
  go_wp2_with fail
  refine (HG1.out _ _ (heap_alloc_new v0 _)).mono ?_
  rintro e w1 ⟨rfl, rfl⟩
  obtain ⟨v1, hv1⟩ : ∃ v1, v1 = v0.alloc (.cells (cmdA2 c d) 32) := ⟨_, rfl⟩
  rw [← hv1]
  have HP1 : Hid (PairAt c d w v1) := Lib.hid (HP0.out.next (by rw [hv1]; exact (Below.refl _ _).alloc (Nat.le_refl _) _))
  clear hv1 c0 c1 c2 c3 c4 c5 d0 d1 d2 d3 d4 d5 HG1
  obtain ⟨⟨c0, c1, c2, c3, c4, c5⟩, _⟩ := box6 HP1.out.ba
  obtain ⟨⟨d0, d1, d2, d3, d4, d5⟩, _⟩ := box6 HP1.out.bb
  go_wp2_with fail
  refine (meet_any c d v1 _ HM.out).mono ?_
  rintro e v2 ⟨rfl, hb2⟩
  have HP2 := Lib.hid (HP1.out.next hb2)
  have HV2 := Lib.hid HP2.out.bel
  clear hb2 c0 c1 c2 c3 c4 c5 d0 d1 d2 d3 d4 d5
  have HTV := Lib.hid (HT.out.next HV2.out)
  have hv2w : w.heap.size + 1 < v2.heap.size := M.heap_lt HP2.out.bb
  go_wp2_with fail
  refine (new_run v2).mono ?_
  rintro e w1 ⟨p, b, rfl, hr⟩
  have HR1 := Lib.hid hr
  clear hr
  go_wp2_with fail
  go_loopw [8] (fun iv wr => ∃ i : Nat, iv = .int .i64 i ∧ i ≤ L.length ∧ RunAt v2 wr p b i (run [] (L.take i))) (fun iv _ => L.length - (intOf iv).toNat)
  case atStart => exact ⟨0, rfl, Nat.zero_le _, by rw [List.take_zero]; exact HR1.out⟩
  case round =>
    clear HR1
    obtain ⟨i, rfl, hi, hr⟩ := hrel
    by_cases hlt : i < L.length
    · have hii : (i : Int) < (L.length : Int) := by omega
      obtain ⟨cz, hx⟩ : ∃ c, L[i]? = some c := ⟨_, List.getElem?_eq_getElem hlt⟩
      have HN := Lib.hid (run_take [] L i cz hx)
      obtain ⟨A, hA⟩ : ∃ A, A = run [] (L.take i) := ⟨_, rfl⟩
      have hG : Good i A := by rw [hA]; exact good_take L i
      rw [← hA] at HN hr
      have HR := Lib.hid hr
      have HD := Lib.hid (fun wx (h : RunAt v2 wx p b i A) (hs : cz.key.size ≤ 1000000) => do_run h hG (by omega) (HT.out.next HV2.out) cz hs _ _ rfl)
      clear hA hG hr
      obtain ⟨g, off, rfl, hgl, hcm⟩ := HV.out.row i cz hx
      have hszc := HSZ.out cz (List.mem_of_getElem? hx)
      obtain ⟨hcp1, hcp2⟩ := HV.out.le
      unfold maxLen at hcp2
      obtain ⟨c0, c1, c2, c3, c4, c5⟩ := hcm.below (Below.trans HV2.out (HR.out.bel.mono (Below.size HV2.out))) hgl
      clear hx hcm
      go_wp2_with fail
      refine (HD.out _ HR.out (by omega)).mono ?_
      rintro e w2 ⟨rfl, hr2, hm2⟩
      have HR2 := Lib.hid hr2
      clear hr2 hm2 c0 c1 c2 c3 c4 c5 HD
      go_wp2_with fail
      go_roundw
      case rel => exact ⟨i + 1, by go_num, by omega, by rw [HN.out]; exact HR2.out⟩
      case measure => simp [intOf]; omega
    · obtain rfl : i = L.length := by omega
      have hii : ¬ (L.length : Int) < (L.length : Int) := by omega
      rw [List.take_of_length_le (Nat.le_refl _)] at hr
      have HG : Hid (Good L.length (run [] L)) := Lib.hid (by have := good_take L L.length; rw [List.take_of_length_le (Nat.le_refl _)] at this; exact this)
      obtain ⟨A, hA⟩ : ∃ A, A = run [] L := ⟨_, rfl⟩
      rw [← hA] at hr HG
      have HAA := Lib.hid hA
      have HR := Lib.hid hr
      obtain ⟨n, hn⟩ : ∃ n, n = L.length := ⟨_, rfl⟩
      rw [← hn] at HR HG
      have hn60 : n ≤ 60 := by omega
      clear hA hr hn
      go_wp2_with fail
      refine (copy_run HR.out).mono ?_
      rintro e u0 ⟨pc, bc, rfl, hrc, hra, hb0, hpc, hbc⟩
      have hbl := HR.out.app.blt
      have hpl := HR.out.app.plt
      have hbg := HR.out.bge
      have HSW0 : Hid (SwAt v2 u0 p b n A pc bc n A [(w.heap.size, cmdO c), (w.heap.size + 1, cmdO d)]) := Lib.hid (by
        have hx : ∀ x ∈ [(w.heap.size, cmdO c), (w.heap.size + 1, cmdO d)], u0.heap[x.1]? = some x.2 ∧ x.1 ≤ w.heap.size + 1 := fun x hx => by
          have h1 := (hra.bel.block _ (by omega)).trans HP2.out.ba
          have h2 := (hra.bel.block _ hv2w).trans HP2.out.bb
          rcases List.mem_cons.1 hx with rfl | hx
          · exact ⟨h1, by simp⟩
          · obtain rfl := List.mem_singleton.1 hx
            exact ⟨h2, Nat.le_refl _⟩
        exact ⟨hra, hrc, fun x h => ⟨(hx x h).1, by have := (hx x h).2; omega⟩, fun x h => ⟨(hx x h).1, by have := (hx x h).2; omega⟩, by omega, by omega, by omega⟩)
      obtain ⟨A1, R1, h1⟩ : ∃ A1 R1, appDo A c = (A1, R1) := ⟨_, _, rfl⟩
      obtain ⟨A2, R2, h2⟩ : ∃ A2 R2, appDo A1 d = (A2, R2) := ⟨_, _, rfl⟩
      have HD3 : Hid (∃ D1, appDo A d = (D1, R2) ∧ appDo D1 c = (A2, R1)) := Lib.hid (by
        have hm2 : meet d c = false := by rw [meet_comm]; exact HM.out
        have e1 := reply_behind (A := A) HG.out.srt hm2
        have e2 := reply_behind (A := A) HG.out.srt HM.out
        have e3 := swap_state (A := A) HG.out.srt HM.out
        rw [h1] at e1 e3
        simp only [h1, h2] at e1 e2 e3
        exact ⟨(appDo A d).1, Prod.ext rfl e1.symm, Prod.ext e3.symm e2⟩)
      have HG2 : Hid (Good (n + 1) A1) := Lib.hid (by have := HG.out.step c; rw [h1] at this; exact this)
      have HG3 : Hid (Good (n + 2) A2) := Lib.hid (by have := HG2.out.step d; rw [h2] at this; exact this)
      have H1 := Lib.hid h1
      have H2 := Lib.hid h2
      clear hrc hra hb0 hpc hbc h1 h2
      go_upto_region 9 with fail
      go_cut [10, 11] (fun z1 z2 wx => ∃ g1 g2, z1 = .pointer (some ⟨g1, 0, none⟩) ∧ z2 = .pointer (some ⟨g2, 0, none⟩) ∧ SwAt v2 wx p b (n + 2) A2 pc bc n A [(g1, repO R1), (g2, repO R2), (w.heap.size, cmdO c), (w.heap.size + 1, cmdO d)])
      case first =>
        have HDC := Lib.hid (show ∀ (l : List (Nat × Obj)) (wx : World), SwAt v2 wx p b n A pc bc n A l → Calls Tryd.prog 14 #[.pointer (some ⟨p, 0, none⟩), cmdV c] wx fun e w2 => e = .returned (repV R1) ∧ (SwAt v2 w2 p b (n + 1) A1 pc bc n A l ∧ Mods (fun k => k = b) wx w2) from fun l wx h =>
          (do_run h.a HG.out (by omega) HTV.out c hsc A1 R1 H1.out).mono fun e w2 hh => ⟨hh.1, h.didA hh.2.1 hh.2.2, hh.2.2⟩)
        have HDD := Lib.hid (show ∀ (l : List (Nat × Obj)) (wx : World), SwAt v2 wx p b (n + 1) A1 pc bc n A l → Calls Tryd.prog 14 #[.pointer (some ⟨p, 0, none⟩), cmdV d] wx fun e w2 => e = .returned (repV R2) ∧ (SwAt v2 w2 p b (n + 2) A2 pc bc n A l ∧ Mods (fun k => k = b) wx w2) from fun l wx h =>
          (do_run h.a HG2.out (by omega) HTV.out d hsd A2 R2 H2.out).mono fun e w2 hh => ⟨hh.1, h.didA hh.2.1 hh.2.2, hh.2.2⟩)
        have HS0 := Lib.hid (HSW0.out.next (below_drawn u0))
        have hlim : p < u0.heap.size ∧ b < u0.heap.size ∧ pc < u0.heap.size ∧ bc < u0.heap.size ∧ w.heap.size + 1 < u0.heap.size ∧ v2.heap.size ≤ u0.heap.size := ⟨HSW0.out.a.app.plt, HSW0.out.a.app.blt, HSW0.out.c.app.plt, HSW0.out.c.app.blt, by have := HSW0.out.a.bel.size; omega, HSW0.out.a.bel.size⟩
        have HL := Lib.hid hlim
        have hbgc : w.heap.size + 1 < b := by omega
        clear hlim
        refine wp_region_inv (SwI v2 p b n pc bc A A1 A2 R1 R2 c d w.heap.size u0.heap.size) (by kernel_rfl) (by kernel_rfl) ?_ ?_ ?_
        · refine swI_start fun _ _ _ _ _ _ _ _ => ?_
          exact ⟨nofun, nofun, nofun, nofun, nofun, nofun, nofun, nofun, nofun, nofun, nofun, Nat.le_refl _, HS0.out.bx.at (.head _), HS0.out.bx.at (.tail _ (.head _)), fun _ => HS0.out, nofun, nofun⟩
        · intro listed a wx i o hI hil ho hn he
          obtain ⟨b0, b1, b2, b3, b4, b5, b6, b7, b8, b9, x44, x45, x46, x47, x48, x49, x10, x11, rfl, rfl, h⟩ := hI
          have hi10 : i = 0 ∨ i = 1 ∨ i = 2 ∨ i = 3 ∨ i = 4 ∨ i = 5 ∨ i = 6 ∨ i = 7 ∨ i = 8 ∨ i = 9 := by
            have : i < 10 := hil
            omega
          have H := Lib.hid h
          clear h hil
          rcases hi10 with rfl | rfl | rfl | rfl | rfl | rfl | rfl | rfl | rfl | rfl <;> obtain rfl := Option.some.inj ho
          ·
            refine wpOp_hid rfl (fun K hK => ?_)
            simp only [List.setIfInBounds_toArray, List.set_cons_succ, List.set_cons_zero]
            go_simp
            refine hK.out _ _ ⟨true, b1, b2, b3, b4, b5, b6, b7, b8, b9, (.pointer (some ⟨p, 0, none⟩)), x45, x46, x47, x48, x49, x10, x11, rfl, ?_, ?_⟩
            · simp only [List.setIfInBounds_toArray, List.set_cons_succ, List.set_cons_zero]
            exact { H.out with k44 := fun _ => rfl }
          ·
            refine wpOp_hid rfl (fun K hK => ?_)
            simp only [List.setIfInBounds_toArray, List.set_cons_succ, List.set_cons_zero]
            obtain ⟨⟨c0, c1, c2, c3, c4, c5⟩, _⟩ := box6 H.out.cb
            go_simp
            refine hK.out _ _ ⟨b0, true, b2, b3, b4, b5, b6, b7, b8, b9, x44, cmdV c, x46, x47, x48, x49, x10, x11, rfl, ?_, ?_⟩
            · simp only [List.setIfInBounds_toArray, List.set_cons_succ, List.set_cons_zero]
            exact { H.out with k45 := fun _ => rfl }
          · have hn : b2 = false := hn
            have d0 : b0 = true := he { on := 0, ground := .data } (by simp) (by kernel_rfl)
            have d1 : b1 = true := he { on := 1, ground := .data } (by simp) (by kernel_rfl)
            obtain rfl := H.out.k44 d0
            obtain rfl := H.out.k45 d1
            subst hn
            refine wpOp_hid rfl (fun K hK => ?_)
            simp only [List.setIfInBounds_toArray, List.set_cons_succ, List.set_cons_zero]
            go_simp
            go_at_call 14
            refine (HDC.out _ _ (H.out.s0 rfl)).mono ?_
            rintro e w7 ⟨rfl, k7, m7⟩
            refine hK.out _ _ ⟨b0, b1, true, b3, b4, b5, b6, b7, b8, b9, (.pointer (some ⟨p, 0, none⟩)), cmdV c, repV R1, x47, x48, x49, x10, x11, rfl, ?_, ?_⟩
            · simp only [List.setIfInBounds_toArray, List.set_cons_succ, List.set_cons_zero]
            exact { H.out with
              k46 := fun _ => rfl
              k49 := fun e => ⟨rfl, (H.out.k49 e).2⟩
              k10 := fun e => (H.out.k10 e).mods m7 HL.out.2.1
              k11 := fun e => (H.out.k11 e).mods m7 HL.out.2.1
              sz := Nat.le_trans H.out.sz m7.size
              cb := m7.heap H.out.cb (by omega)
              db := m7.heap H.out.db (by omega)
              s0 := fun e => by cases e
              s1 := fun _ _ => k7
              s2 := fun e => by cases (H.out.k49 e).1 }
          ·
            refine wpOp_hid rfl (fun K hK => ?_)
            simp only [List.setIfInBounds_toArray, List.set_cons_succ, List.set_cons_zero]
            go_simp
            refine hK.out _ _ ⟨b0, b1, b2, true, b4, b5, b6, b7, b8, b9, x44, x45, x46, (.pointer (some ⟨p, 0, none⟩)), x48, x49, x10, x11, rfl, ?_, ?_⟩
            · simp only [List.setIfInBounds_toArray, List.set_cons_succ, List.set_cons_zero]
            exact { H.out with k47 := fun _ => rfl }
          ·
            refine wpOp_hid rfl (fun K hK => ?_)
            simp only [List.setIfInBounds_toArray, List.set_cons_succ, List.set_cons_zero]
            obtain ⟨⟨c0, c1, c2, c3, c4, c5⟩, _⟩ := box6 H.out.db
            go_simp
            refine hK.out _ _ ⟨b0, b1, b2, b3, true, b5, b6, b7, b8, b9, x44, x45, x46, x47, cmdV d, x49, x10, x11, rfl, ?_, ?_⟩
            · simp only [List.setIfInBounds_toArray, List.set_cons_succ, List.set_cons_zero]
            exact { H.out with k48 := fun _ => rfl }
          · have hn : b5 = false := hn
            have d2 : b2 = true := he { on := 2, ground := .chain } (by simp) (by kernel_rfl)
            have d3 : b3 = true := he { on := 3, ground := .data } (by simp) (by kernel_rfl)
            have d4 : b4 = true := he { on := 4, ground := .data } (by simp) (by kernel_rfl)
            obtain rfl := H.out.k47 d3
            obtain rfl := H.out.k48 d4
            subst hn d2
            refine wpOp_hid rfl (fun K hK => ?_)
            simp only [List.setIfInBounds_toArray, List.set_cons_succ, List.set_cons_zero]
            go_simp
            go_at_call 14
            refine (HDD.out _ _ (H.out.s1 rfl rfl)).mono ?_
            rintro e w7 ⟨rfl, k7, m7⟩
            refine hK.out _ _ ⟨b0, b1, true, b3, b4, true, b6, b7, b8, b9, x44, x45, x46, (.pointer (some ⟨p, 0, none⟩)), cmdV d, repV R2, x10, x11, rfl, ?_, ?_⟩
            · simp only [List.setIfInBounds_toArray, List.set_cons_succ, List.set_cons_zero]
            exact { H.out with
              k49 := fun _ => ⟨rfl, rfl⟩
              k10 := fun e => (H.out.k10 e).mods m7 HL.out.2.1
              k11 := fun e => (H.out.k11 e).mods m7 HL.out.2.1
              sz := Nat.le_trans H.out.sz m7.size
              cb := m7.heap H.out.cb (by omega)
              db := m7.heap H.out.db (by omega)
              s0 := fun e => by cases e
              s1 := fun _ e => by cases e
              s2 := fun _ => k7 }
          · have hn : b6 = false := hn
            subst hn
            have h8 : b8 = false := by
              cases h : b8 with
              | false => rfl
              | true => cases H.out.k8 h
            subst h8
            have HB := Lib.hid (show Below wx.heap.size wx (wx.alloc zeroO) from (Below.refl _ _).alloc (Nat.le_refl _) _)
            refine wpOp_hid rfl (fun K hK => ?_)
            simp only [List.setIfInBounds_toArray, List.set_cons_succ, List.set_cons_zero]
            go_simp
            refine hK.out _ _ ⟨b0, b1, b2, b3, b4, b5, true, b7, false, b9, x44, x45, x46, x47, x48, x49, (.pointer (some ⟨wx.heap.size, 0, none⟩)), x11, rfl, ?_, ?_⟩
            · simp only [List.setIfInBounds_toArray, List.set_cons_succ, List.set_cons_zero]
            exact { H.out.below HB.out with
              k8 := fun e => by cases e
              k10 := fun _ => ⟨wx.heap.size, rfl, H.out.sz, heap_alloc_new wx _⟩
              ne := fun _ e => fun e2 => (H.out.k11 e).fresh e2.symm }
          · have hn : b7 = false := hn
            subst hn
            have h9 : b9 = false := by
              cases h : b9 with
              | false => rfl
              | true => cases H.out.k9 h
            subst h9
            have HB := Lib.hid (show Below wx.heap.size wx (wx.alloc zeroO) from (Below.refl _ _).alloc (Nat.le_refl _) _)
            refine wpOp_hid rfl (fun K hK => ?_)
            simp only [List.setIfInBounds_toArray, List.set_cons_succ, List.set_cons_zero]
            go_simp
            refine hK.out _ _ ⟨b0, b1, b2, b3, b4, b5, b6, true, b8, false, x44, x45, x46, x47, x48, x49, x10, (.pointer (some ⟨wx.heap.size, 0, none⟩)), rfl, ?_, ?_⟩
            · simp only [List.setIfInBounds_toArray, List.set_cons_succ, List.set_cons_zero]
            exact { H.out.below HB.out with
              k9 := fun e => by cases e
              k11 := fun _ => ⟨wx.heap.size, rfl, H.out.sz, heap_alloc_new wx _⟩
              ne := fun e _ => (H.out.k10 e).fresh }
          · have hn : b8 = false := hn
            have d6 : b6 = true := he { on := 6, ground := .data } (by simp) (by kernel_rfl)
            have d2 : b2 = true := he { on := 2, ground := .data } (by simp) (by kernel_rfl)
            subst hn d6
            obtain ⟨g, rfl, hN, hg⟩ := H.out.k10 rfl
            obtain rfl := H.out.k46 d2
            have hg : wx.heap[g]? = some zeroO := hg
            have HG9 := Lib.hid hg
            obtain ⟨⟨y0, y1, y2⟩, fy, _⟩ := box3 hg
            clear hg
            refine wpOp_hid rfl (fun K hK => ?_)
            simp only [List.setIfInBounds_toArray, List.set_cons_succ, List.set_cons_zero]
            go_simp
            have m9 : Mods (fun k => k = g) wx (((wx.setCell ⟨g, 0, none⟩ (.int .i64 R1.code)).setCell ⟨g, 1, none⟩ (.string R1.val)).setCell ⟨g, 2, none⟩ (.int .i64 R1.rev)) := mods3 (w := wx) (w1 := wx)
            obtain ⟨t0, t1, t2, t3⟩ := H.out.turned m9 hN HL.out
            refine hK.out _ _ ⟨b0, b1, b2, b3, b4, b5, true, b7, true, b9, x44, x45, repV R1, x47, x48, x49, (.pointer (some ⟨g, 0, none⟩)), x11, rfl, ?_, ?_⟩
            · simp only [List.setIfInBounds_toArray, List.set_cons_succ, List.set_cons_zero]
            exact { H.out with
              k8 := fun _ => rfl
              k10 := fun _ => ⟨g, rfl, hN, set3 HG9.out⟩
              k11 := fun e => (H.out.k11 e).other m9 (H.out.ne rfl e)
              sz := Nat.le_trans H.out.sz m9.size
              cb := t0.1
              db := t0.2
              s0 := t1
              s1 := t2
              s2 := t3 }
          · have hn : b9 = false := hn
            have d7 : b7 = true := he { on := 7, ground := .data } (by simp) (by kernel_rfl)
            have d5 : b5 = true := he { on := 5, ground := .data } (by simp) (by kernel_rfl)
            subst hn d7
            obtain ⟨g, rfl, hN, hg⟩ := H.out.k11 rfl
            obtain rfl := (H.out.k49 d5).2
            have hg : wx.heap[g]? = some zeroO := hg
            have HG9 := Lib.hid hg
            obtain ⟨⟨y0, y1, y2⟩, fy, _⟩ := box3 hg
            clear hg
            refine wpOp_hid rfl (fun K hK => ?_)
            simp only [List.setIfInBounds_toArray, List.set_cons_succ, List.set_cons_zero]
            go_simp
            have m9 : Mods (fun k => k = g) wx (((wx.setCell ⟨g, 0, none⟩ (.int .i64 R2.code)).setCell ⟨g, 1, none⟩ (.string R2.val)).setCell ⟨g, 2, none⟩ (.int .i64 R2.rev)) := mods3 (w := wx) (w1 := wx)
            obtain ⟨t0, t1, t2, t3⟩ := H.out.turned m9 hN HL.out
            refine hK.out _ _ ⟨b0, b1, b2, b3, b4, b5, b6, true, b8, true, x44, x45, x46, x47, x48, repV R2, x10, (.pointer (some ⟨g, 0, none⟩)), rfl, ?_, ?_⟩
            · simp only [List.setIfInBounds_toArray, List.set_cons_succ, List.set_cons_zero]
            exact { H.out with
              k9 := fun _ => rfl
              k10 := fun e => (H.out.k10 e).other m9 (fun e2 => H.out.ne e rfl e2.symm)
              k11 := fun _ => ⟨g, rfl, hN, set3 HG9.out⟩
              sz := Nat.le_trans H.out.sz m9.size
              cb := t0.1
              db := t0.2
              s0 := t1
              s1 := t2
              s2 := t3 }
        · intro listed a wx hI hall
          obtain ⟨b0, b1, b2, b3, b4, b5, b6, b7, b8, b9, x44, x45, x46, x47, x48, x49, x10, x11, rfl, rfl, h⟩ := hI
          obtain rfl : b5 = true := hall 5 (by decide)
          obtain rfl : b6 = true := hall 6 (by decide)
          obtain rfl : b7 = true := hall 7 (by decide)
          obtain rfl : b8 = true := hall 8 (by decide)
          obtain rfl : b9 = true := hall 9 (by decide)
          obtain ⟨g1, rfl, hN1, hg1⟩ := h.k10 rfl
          obtain ⟨g2, rfl, hN2, hg2⟩ := h.k11 rfl
          have hlim := HL.out
          have HF : Hid (SwAt v2 wx p b (n + 2) A2 pc bc n A [(g1, repO R1), (g2, repO R2), (w.heap.size, cmdO c), (w.heap.size + 1, cmdO d)]) := Lib.hid (((h.s2 rfl).more hg2 (by omega) (by omega)).more hg1 (by omega) (by omega))
          clear h hg1 hg2
          simp only [List.setIfInBounds_toArray, List.set_cons_succ, List.set_cons_zero]
          go_wp2_with fail
          go_meet
          exact ⟨g1, g2, rfl, rfl, HF.out⟩
      case rest =>
        obtain ⟨g1, g2, rfl, rfl, hsw⟩ := hcut
        have HSW := Lib.hid hsw
        clear hsw HSW0 H1 H2
        obtain ⟨D1, hd1, hd2⟩ := HD3.out
        have HE1 := Lib.hid hd1
        have HE2 := Lib.hid hd2
        have HG4 : Hid (Good (n + 1) D1) := Lib.hid (by have := HG.out.step d; rw [hd1] at this; exact this)
        obtain ⟨R0, hR0⟩ : ∃ R0, findR A2 nul = R0 := ⟨_, rfl⟩
        have HR0 := Lib.hid hR0
        clear hd1 hd2 hR0 HD3
        obtain ⟨⟨c0, c1, c2, c3, c4, c5⟩, _⟩ := box6 (HSW.out.bx.at (.tail _ (.tail _ (.tail _ (.head _)))))
        go_wp2_with fail
        refine (do_run HSW.out.c HG.out (by omega) HTV.out d hsd D1 R2 HE1.out).mono ?_
        rintro e y1 ⟨rfl, hr, hm⟩
        have HW1 := Lib.hid (HSW.out.didC hr hm)
        clear hr hm c0 c1 c2 c3 c4 c5 HSW
        go_upto_region 11 with fail
        obtain ⟨y2, hw⟩ : ∃ x, x = y1.alloc (repO R2) := ⟨_, rfl⟩
        rw [← hw]
        have hal := HW1.out.al (repO R2)
        rw [← hw] at hal
        have HW2 := Lib.hid hal
        clear hal hw
        obtain ⟨⟨c0, c1, c2, c3, c4, c5⟩, _⟩ := box6 (HW2.out.bx.at (.tail _ (.tail _ (.tail _ (.head _)))))
        go_wp2_with fail
        refine (do_run HW2.out.c HG4.out (by omega) HTV.out c hsc A2 R1 HE2.out).mono ?_
        rintro e y3 ⟨rfl, hr, hm⟩
        have HW3 := Lib.hid (HW2.out.didC hr hm)
        clear hr hm c0 c1 c2 c3 c4 c5 HW1 HW2
        go_upto_region 13 with fail
        obtain ⟨y4, hw⟩ : ∃ x, x = (y3.alloc (repO R1)).alloc (askO 5 ⟨#[]⟩) := ⟨_, rfl⟩
        rw [← hw]
        have hal := (HW3.out.al (repO R1)).al (askO 5 ⟨#[]⟩)
        rw [← hw] at hal
        obtain ⟨ga, hga⟩ : ∃ ga, ga = (y3.alloc (repO R1)).heap.size := ⟨_, rfl⟩
        have hga2 : ga = y3.heap.size + 1 := by rw [hga]; simp
        rw [← hga] at hal
        rw [hga2] at hal
        have HW4 := Lib.hid hal
        clear hal hw hga hga2 HW3
        have HS := Lib.hid (show ∀ (k m : Nat) (B C : List Ent) (w' : World), SwAt v2 w' p b k B pc bc m C [(y3.heap.size + 1, askO 5 ⟨#[]⟩), (y3.heap.size, repO R1), (y1.heap.size, repO R2), (g1, repO R1), (g2, repO R2), (w.heap.size, cmdO c), (w.heap.size + 1, cmdO d)] → (fun w' => w'.cell? ⟨y3.heap.size + 1, 0, none⟩ = some (.int .i64 5) ∧ w'.cell? ⟨y3.heap.size + 1, 1, none⟩ = some (.int .i64 1) ∧ w'.cell? ⟨y3.heap.size + 1, 2, none⟩ = some (.int .i64 1) ∧ w'.cell? ⟨y3.heap.size + 1, 3, none⟩ = some (.string ⟨#[]⟩) ∧ w'.cell? ⟨y3.heap.size + 1, 4, none⟩ = some (.string ⟨#[]⟩) ∧ w'.cell? ⟨y3.heap.size + 1, 5, none⟩ = some (.int .i64 0) ∧ w'.cell? ⟨y3.heap.size, 0, none⟩ = some (.int .i64 R1.code) ∧ w'.cell? ⟨y3.heap.size, 1, none⟩ = some (.string R1.val) ∧ w'.cell? ⟨y3.heap.size, 2, none⟩ = some (.int .i64 R1.rev) ∧ w'.cell? ⟨y1.heap.size, 0, none⟩ = some (.int .i64 R2.code) ∧ w'.cell? ⟨y1.heap.size, 1, none⟩ = some (.string R2.val) ∧ w'.cell? ⟨y1.heap.size, 2, none⟩ = some (.int .i64 R2.rev) ∧ w'.cell? ⟨g1, 0, none⟩ = some (.int .i64 R1.code) ∧ w'.cell? ⟨g1, 1, none⟩ = some (.string R1.val) ∧ w'.cell? ⟨g1, 2, none⟩ = some (.int .i64 R1.rev) ∧ w'.cell? ⟨g2, 0, none⟩ = some (.int .i64 R2.code) ∧ w'.cell? ⟨g2, 1, none⟩ = some (.string R2.val) ∧ w'.cell? ⟨g2, 2, none⟩ = some (.int .i64 R2.rev)) w' from fun k m B C w' h => by
          obtain ⟨⟨a0, a1, a2, a3, a4, a5⟩, _⟩ := box6 (h.bx.at (.head _))
          obtain ⟨⟨b0, b1, b2⟩, _⟩ := box3 (h.bx.at (.tail _ (.head _)))
          obtain ⟨⟨d0, d1, d2⟩, _⟩ := box3 (h.bx.at (.tail _ (.tail _ (.head _))))
          obtain ⟨⟨e0, e1, e2⟩, _⟩ := box3 (h.bx.at (.tail _ (.tail _ (.tail _ (.head _)))))
          obtain ⟨⟨f0, f1, f2⟩, _⟩ := box3 (h.bx.at (.tail _ (.tail _ (.tail _ (.tail _ (.head _))))))
          exact ⟨a0, a1, a2, a3, a4, a5, b0, b1, b2, d0, d1, d2, e0, e1, e2, f0, f1, f2⟩)
        have HS0 := Lib.hid (HS.out _ _ _ _ _ HW4.out.drew)
        have HDA := Lib.hid (show Calls Tryd.prog 14 #[.pointer (some ⟨p, 0, none⟩), .agg #[.int .i64 5, .int .i64 1, .int .i64 1, .string ⟨#[]⟩, .string ⟨#[]⟩, .int .i64 0]] y4.drew fun e w2 => e = .returned (repV R0) ∧ ((fun w' => w'.cell? ⟨y3.heap.size + 1, 0, none⟩ = some (.int .i64 5) ∧ w'.cell? ⟨y3.heap.size + 1, 1, none⟩ = some (.int .i64 1) ∧ w'.cell? ⟨y3.heap.size + 1, 2, none⟩ = some (.int .i64 1) ∧ w'.cell? ⟨y3.heap.size + 1, 3, none⟩ = some (.string ⟨#[]⟩) ∧ w'.cell? ⟨y3.heap.size + 1, 4, none⟩ = some (.string ⟨#[]⟩) ∧ w'.cell? ⟨y3.heap.size + 1, 5, none⟩ = some (.int .i64 0) ∧ w'.cell? ⟨y3.heap.size, 0, none⟩ = some (.int .i64 R1.code) ∧ w'.cell? ⟨y3.heap.size, 1, none⟩ = some (.string R1.val) ∧ w'.cell? ⟨y3.heap.size, 2, none⟩ = some (.int .i64 R1.rev) ∧ w'.cell? ⟨y1.heap.size, 0, none⟩ = some (.int .i64 R2.code) ∧ w'.cell? ⟨y1.heap.size, 1, none⟩ = some (.string R2.val) ∧ w'.cell? ⟨y1.heap.size, 2, none⟩ = some (.int .i64 R2.rev) ∧ w'.cell? ⟨g1, 0, none⟩ = some (.int .i64 R1.code) ∧ w'.cell? ⟨g1, 1, none⟩ = some (.string R1.val) ∧ w'.cell? ⟨g1, 2, none⟩ = some (.int .i64 R1.rev) ∧ w'.cell? ⟨g2, 0, none⟩ = some (.int .i64 R2.code) ∧ w'.cell? ⟨g2, 1, none⟩ = some (.string R2.val) ∧ w'.cell? ⟨g2, 2, none⟩ = some (.int .i64 R2.rev)) w2 ∧ SwAt v2 w2 p b (n + 2 + 1) A2 pc bc (n + 1 + 1) A2 [(y3.heap.size + 1, askO 5 ⟨#[]⟩), (y3.heap.size, repO R1), (y1.heap.size, repO R2), (g1, repO R1), (g2, repO R2), (w.heap.size, cmdO c), (w.heap.size + 1, cmdO d)]) from
          (all_run HW4.out.drew.a HG3.out (by omega) HTV.out R0 HR0.out).mono fun e w2 hh => by
            have h := HW4.out.drew.didA hh.2.1 hh.2.2
            exact ⟨hh.1, HS.out _ _ _ _ _ h, h⟩)
        have HDB := Lib.hid (show ∀ w1, SwAt v2 w1 p b (n + 2 + 1) A2 pc bc (n + 1 + 1) A2 [(y3.heap.size + 1, askO 5 ⟨#[]⟩), (y3.heap.size, repO R1), (y1.heap.size, repO R2), (g1, repO R1), (g2, repO R2), (w.heap.size, cmdO c), (w.heap.size + 1, cmdO d)] → Calls Tryd.prog 14 #[.pointer (some ⟨pc, 0, none⟩), .agg #[.int .i64 5, .int .i64 1, .int .i64 1, .string ⟨#[]⟩, .string ⟨#[]⟩, .int .i64 0]] w1 fun e w2 => e = .returned (repV R0) ∧ ((fun w' => w'.cell? ⟨y3.heap.size + 1, 0, none⟩ = some (.int .i64 5) ∧ w'.cell? ⟨y3.heap.size + 1, 1, none⟩ = some (.int .i64 1) ∧ w'.cell? ⟨y3.heap.size + 1, 2, none⟩ = some (.int .i64 1) ∧ w'.cell? ⟨y3.heap.size + 1, 3, none⟩ = some (.string ⟨#[]⟩) ∧ w'.cell? ⟨y3.heap.size + 1, 4, none⟩ = some (.string ⟨#[]⟩) ∧ w'.cell? ⟨y3.heap.size + 1, 5, none⟩ = some (.int .i64 0) ∧ w'.cell? ⟨y3.heap.size, 0, none⟩ = some (.int .i64 R1.code) ∧ w'.cell? ⟨y3.heap.size, 1, none⟩ = some (.string R1.val) ∧ w'.cell? ⟨y3.heap.size, 2, none⟩ = some (.int .i64 R1.rev) ∧ w'.cell? ⟨y1.heap.size, 0, none⟩ = some (.int .i64 R2.code) ∧ w'.cell? ⟨y1.heap.size, 1, none⟩ = some (.string R2.val) ∧ w'.cell? ⟨y1.heap.size, 2, none⟩ = some (.int .i64 R2.rev) ∧ w'.cell? ⟨g1, 0, none⟩ = some (.int .i64 R1.code) ∧ w'.cell? ⟨g1, 1, none⟩ = some (.string R1.val) ∧ w'.cell? ⟨g1, 2, none⟩ = some (.int .i64 R1.rev) ∧ w'.cell? ⟨g2, 0, none⟩ = some (.int .i64 R2.code) ∧ w'.cell? ⟨g2, 1, none⟩ = some (.string R2.val) ∧ w'.cell? ⟨g2, 2, none⟩ = some (.int .i64 R2.rev)) w2 ∧ SwAt v2 w2 p b (n + 2 + 1) A2 pc bc (n + 1 + 1 + 1) A2 [(y3.heap.size + 1, askO 5 ⟨#[]⟩), (y3.heap.size, repO R1), (y1.heap.size, repO R2), (g1, repO R1), (g2, repO R2), (w.heap.size, cmdO c), (w.heap.size + 1, cmdO d)]) from fun w1 hw1 =>
          (all_run hw1.c (HG3.out.mono (by omega)) (by omega) HTV.out R0 HR0.out).mono fun e w2 hh => by
            have h := hw1.didC hh.2.1 hh.2.2
            exact ⟨hh.1, HS.out _ _ _ _ _ h, h⟩)
        have HAW := Lib.hid (show ∀ w1, SwAt v2 w1 p b (n + 2 + 1) A2 pc bc (n + 1 + 1 + 1) A2 [(y3.heap.size + 1, askO 5 ⟨#[]⟩), (y3.heap.size, repO R1), (y1.heap.size, repO R2), (g1, repO R1), (g2, repO R2), (w.heap.size, cmdO c), (w.heap.size + 1, cmdO d)] → Calls Tryd.prog 12 #[] w1 fun e w2 => e = .returned (.bool true) ∧ ((fun w' => w'.cell? ⟨y3.heap.size + 1, 0, none⟩ = some (.int .i64 5) ∧ w'.cell? ⟨y3.heap.size + 1, 1, none⟩ = some (.int .i64 1) ∧ w'.cell? ⟨y3.heap.size + 1, 2, none⟩ = some (.int .i64 1) ∧ w'.cell? ⟨y3.heap.size + 1, 3, none⟩ = some (.string ⟨#[]⟩) ∧ w'.cell? ⟨y3.heap.size + 1, 4, none⟩ = some (.string ⟨#[]⟩) ∧ w'.cell? ⟨y3.heap.size + 1, 5, none⟩ = some (.int .i64 0) ∧ w'.cell? ⟨y3.heap.size, 0, none⟩ = some (.int .i64 R1.code) ∧ w'.cell? ⟨y3.heap.size, 1, none⟩ = some (.string R1.val) ∧ w'.cell? ⟨y3.heap.size, 2, none⟩ = some (.int .i64 R1.rev) ∧ w'.cell? ⟨y1.heap.size, 0, none⟩ = some (.int .i64 R2.code) ∧ w'.cell? ⟨y1.heap.size, 1, none⟩ = some (.string R2.val) ∧ w'.cell? ⟨y1.heap.size, 2, none⟩ = some (.int .i64 R2.rev) ∧ w'.cell? ⟨g1, 0, none⟩ = some (.int .i64 R1.code) ∧ w'.cell? ⟨g1, 1, none⟩ = some (.string R1.val) ∧ w'.cell? ⟨g1, 2, none⟩ = some (.int .i64 R1.rev) ∧ w'.cell? ⟨g2, 0, none⟩ = some (.int .i64 R2.code) ∧ w'.cell? ⟨g2, 1, none⟩ = some (.string R2.val) ∧ w'.cell? ⟨g2, 2, none⟩ = some (.int .i64 R2.rev)) w2 ∧ SwAt v2 w2 p b (n + 2 + 1) A2 pc bc (n + 1 + 1 + 1) A2 [(y3.heap.size + 1, askO 5 ⟨#[]⟩), (y3.heap.size, repO R1), (y1.heap.size, repO R2), (g1, repO R1), (g2, repO R2), (w.heap.size, cmdO c), (w.heap.size + 1, cmdO d)]) from fun w1 hw1 =>
          (awake_any w1 (HTV.out.next hw1.a.bel)).mono fun e w2 hh => by
            have h := hw1.next hh.2
            exact ⟨hh.1, HS.out _ _ _ _ _ h, h⟩)
        have q1 := rep_same R1.code R1.val R1.rev
        have q2 := rep_same R2.code R2.val R2.rev
        have q3 := rep_same R0.code R0.val R0.rev
        clear HW4
        go_region_held3 (fun w' => w'.cell? ⟨y3.heap.size + 1, 0, none⟩ = some (.int .i64 5) ∧ w'.cell? ⟨y3.heap.size + 1, 1, none⟩ = some (.int .i64 1) ∧ w'.cell? ⟨y3.heap.size + 1, 2, none⟩ = some (.int .i64 1) ∧ w'.cell? ⟨y3.heap.size + 1, 3, none⟩ = some (.string ⟨#[]⟩) ∧ w'.cell? ⟨y3.heap.size + 1, 4, none⟩ = some (.string ⟨#[]⟩) ∧ w'.cell? ⟨y3.heap.size + 1, 5, none⟩ = some (.int .i64 0) ∧ w'.cell? ⟨y3.heap.size, 0, none⟩ = some (.int .i64 R1.code) ∧ w'.cell? ⟨y3.heap.size, 1, none⟩ = some (.string R1.val) ∧ w'.cell? ⟨y3.heap.size, 2, none⟩ = some (.int .i64 R1.rev) ∧ w'.cell? ⟨y1.heap.size, 0, none⟩ = some (.int .i64 R2.code) ∧ w'.cell? ⟨y1.heap.size, 1, none⟩ = some (.string R2.val) ∧ w'.cell? ⟨y1.heap.size, 2, none⟩ = some (.int .i64 R2.rev) ∧ w'.cell? ⟨g1, 0, none⟩ = some (.int .i64 R1.code) ∧ w'.cell? ⟨g1, 1, none⟩ = some (.string R1.val) ∧ w'.cell? ⟨g1, 2, none⟩ = some (.int .i64 R1.rev) ∧ w'.cell? ⟨g2, 0, none⟩ = some (.int .i64 R2.code) ∧ w'.cell? ⟨g2, 1, none⟩ = some (.string R2.val) ∧ w'.cell? ⟨g2, 2, none⟩ = some (.int .i64 R2.rev))
          (first | exact HS0.out | exact h7 | exact h8 | exact h9)
          ((first | (go_at_call 14; with_reducible refine HDA.out.mono ?_; rintro e w7 ⟨rfl, h7, k7⟩) | (go_at_call 14; with_reducible refine (HDB.out _ k7).mono ?_; rintro e w8 ⟨rfl, h8, k8⟩) | (go_at_call 12; refine (HAW.out _ k8).mono ?_; rintro e w9 ⟨rfl, h9, k9⟩)))
        have HE := Lib.hid (HV2.out.trans (k9.a.bel.mono HV2.out.size))
        clear h7 k7 h8 k8 h9 k9 HDA HDB HAW HS HS0 q1 q2 q3
        go_wp2_with fail
        go_ret
        exact ⟨rfl, HE.out⟩
theorem swaps_law (L : List Cmd) (ao : Option Addr) (cap : Nat) (c d : Cmd) (w : World) (hV : CmdsV w.heap.size w ao cap L) (hC : CmdOk c) (hD : CmdOk d) (hT : TabsI w) :
    Calls Tryd.prog 8 #[.slice ao L.length cap, cmdV c, cmdV d] w fun e w' => e = .returned (.bool true) ∧ Below w.heap.size w w' := by
  by_cases h : greatB L 60 = true ∨ greatB [c, d] 2 = true ∨ meet c d = true
  · exact swaps_no L ao cap c d w hV hC hD hT h
  · simp only [not_or, Bool.not_eq_true] at h
    exact swaps_all L ao cap c d w hV hC hD hT h.1 h.2.1 h.2.2
end Go.Proofs.YtpeiamllkddhiaaDoor.P
