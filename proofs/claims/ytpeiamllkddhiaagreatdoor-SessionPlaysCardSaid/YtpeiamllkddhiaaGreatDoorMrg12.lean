/- Several texts in one. -/
import Derived.Test.YtpeiamllkddhiaaGreatDoorSesN
import Derived.Test.YtpeiamllkddhiaaGreatDoorMrg11

/- SessionPlays: what holds between its commands. -/
namespace Go.Proofs.YtpeiamllkddhiaaGreatDoor.P
open Go.RowKit Go.Proofs.YtpeiamllkddhiaaGreatDoor.R Go.Proofs.YtpeiamllkddhiaaGreatDoor.M Go.BigFrame
set_option linter.unusedVariables false
set_option linter.unusedSimpArgs false

theorem sgood_take (L : List Cmd) (i : Nat) : SGood i (sesRun ⟨[], []⟩ (L.take i)) :=
  ((SGood.nil).run (L.take i)).mono (by rw [List.length_take]; omega)
theorem no_cell {w : World} {b o : Nat} {v : Value} (h0 : ∃ es k, w.heap[b]? = some (.map es k)) (h : w.cell? ⟨b, o, none⟩ = some v) : False := by
  obtain ⟨es, k, hb⟩ := h0
  simp [World.cell?, hb] at h
theorem map_heap {w : World} {p b n : Nat} {A : List Ent} (h : AppAt w p b n A) : ∃ es k, w.heap[b]? = some (.map es k) := by
  obtain ⟨D, ⟨es, clock, hb, _⟩, _⟩ := h.map
  exact ⟨es, clock, hb⟩
theorem mapC_heap {w : World} {q n : Nat} {C : List Lst} (h : MapC w q n C) : ∃ es k, w.heap[q]? = some (.map es k) := by
  obtain ⟨D, ⟨es, clock, hb, _⟩, _⟩ := h
  exact ⟨es, clock, hb⟩
/-- rows of settings don't lie in maps -/
theorem SetsV.mods2 {w w1 : World} {s p b q n : Nat} {S : Ses} {ao : Option Addr} {cap : Nat} {A : List Ent} (h : SetsV w ao cap A) (hs : SesAt w s p b q n S) (hm : Mods (fun k => k = b ∨ k = q) w w1) : SetsV w1 ao cap A := by
  obtain ⟨es, k, hb⟩ := map_heap hs.app
  obtain ⟨es2, k2, hq⟩ := mapC_heap hs.map
  refine ⟨h.le, fun i e hi => ?_⟩
  obtain ⟨g, off, e1, hl, c0, c1, c2⟩ := h.row i e hi
  have hne : ¬ (g = b ∨ g = q) := by
    rintro (rfl | rfl)
    · exact no_cell ⟨_, _, hb⟩ c0
    · exact no_cell ⟨_, _, hq⟩ c0
  exact ⟨g, off, e1, Nat.lt_of_lt_of_le hl hm.size, (hm.cell (p := ⟨g, _, none⟩) hl hne).trans c0, (hm.cell (p := ⟨g, _, none⟩) hl hne).trans c1, (hm.cell (p := ⟨g, _, none⟩) hl hne).trans c2⟩
theorem LstV.mods2 {w w1 : World} {s p b q n : Nat} {S : Ses} {ao : Option Addr} {cap : Nat} {C : List Lst} (h : LstV w ao cap C) (hs : SesAt w s p b q n S) (hm : Mods (fun k => k = b ∨ k = q) w w1) : LstV w1 ao cap C := by
  obtain ⟨es, k, hb⟩ := map_heap hs.app
  obtain ⟨es2, k2, hq⟩ := mapC_heap hs.map
  refine ⟨h.le, fun i e hi => ?_⟩
  obtain ⟨g, off, e1, hl, c0, c1, c2, c3, c4⟩ := h.row i e hi
  have hne : ¬ (g = b ∨ g = q) := by
    rintro (rfl | rfl)
    · exact no_cell ⟨_, _, hb⟩ c0
    · exact no_cell ⟨_, _, hq⟩ c0
  exact ⟨g, off, e1, Nat.lt_of_lt_of_le hl hm.size, (hm.cell (p := ⟨g, _, none⟩) hl hne).trans c0, (hm.cell (p := ⟨g, _, none⟩) hl hne).trans c1, (hm.cell (p := ⟨g, _, none⟩) hl hne).trans c2, (hm.cell (p := ⟨g, _, none⟩) hl hne).trans c3, (hm.cell (p := ⟨g, _, none⟩) hl hne).trans c4⟩
/-- a state of the document's in a box -/
structure StAt (wx : World) (g : Nat) (S : Ses) : Prop where
  ex : ∃ oa ca oc cc, wx.heap[g]? = some (.cells #[.slice oa S.A.length ca, .slice oc S.C.length cc] 30 (0, 0)) ∧ SetsV wx oa ca S.A ∧ LstV wx oc cc S.C
theorem StAt.below {wx wy : World} {g : Nat} {S : Ses} (h : StAt wx g S) (hb : Below wx.heap.size wx wy) : StAt wy g S := by
  obtain ⟨oa, ca, oc, cc, h1, h2, h3⟩ := h.ex
  exact ⟨oa, ca, oc, cc, (hb.block _ (M.heap_lt h1)).trans h1, h2.below hb, h3.below hb⟩
theorem StAt.lt {wx : World} {g : Nat} {S : Ses} (h : StAt wx g S) : g < wx.heap.size := by
  obtain ⟨oa, ca, oc, cc, h1, _⟩ := h.ex
  exact M.heap_lt h1
theorem StAt.mods2 {wx wy : World} {s p b q n g : Nat} {S T : Ses} (h : StAt wx g T) (hs : SesAt wx s p b q n S) (hm : Mods (fun k => k = b ∨ k = q) wx wy) : StAt wy g T := by
  obtain ⟨oa, ca, oc, cc, h1, h2, h3⟩ := h.ex
  obtain ⟨es, k, hb⟩ := map_heap hs.app
  obtain ⟨es2, k2, hq⟩ := mapC_heap hs.map
  refine ⟨oa, ca, oc, cc, hm.heap h1 ?_, h2.mods2 hs hm, h3.mods2 hs hm⟩
  rintro (rfl | rfl)
  · rw [hb] at h1; cases h1
  · rw [hq] at h1; cases h1
/-- between the commands: the sessions, a copy of them, the document's two states -/
structure PlaySt (w wx : World) (s p b q n : Nat) (S : Ses) (s2 p2 b2 q2 nc : Nat) (C : Ses) (gx gt : Nat) : Prop where
  run : SRun w wx s p b q n S
  cpy : SRun w wx s2 p2 b2 q2 nc C
  x : StAt wx gx S
  t : StAt wx gt C
  g : SGood nc C
  le : nc ≤ 60
  ap : (s2 ≠ b ∧ s2 ≠ q) ∧ (p2 ≠ b ∧ p2 ≠ q) ∧ (b2 ≠ b ∧ b2 ≠ q) ∧ (q2 ≠ b ∧ q2 ≠ q)
  gg : gx ≠ gt
theorem PlaySt.next {w wx wy : World} {s p b q n s2 p2 b2 q2 nc gx gt : Nat} {S C : Ses} (h : PlaySt w wx s p b q n S s2 p2 b2 q2 nc C gx gt) (hb : Below wx.heap.size wx wy) : PlaySt w wy s p b q n S s2 p2 b2 q2 nc C gx gt :=
  ⟨h.run.next hb, h.cpy.next hb, h.x.below hb, h.t.below hb, h.g, h.le, h.ap, h.gg⟩
/-- the sessions did a command, the document's state being there already -/
theorem PlaySt.did {w wx wy : World} {s p b q n m s2 p2 b2 q2 nc gx gt : Nat} {S S2 C : Ses} (hr : SRun w wx s p b q n S) (hc : SRun w wx s2 p2 b2 q2 nc C) (hx : StAt wx gx S2) (ht : StAt wx gt C) (hg : SGood nc C) (hle : nc ≤ 60)
    (hap : (s2 ≠ b ∧ s2 ≠ q) ∧ (p2 ≠ b ∧ p2 ≠ q) ∧ (b2 ≠ b ∧ b2 ≠ q) ∧ (q2 ≠ b ∧ q2 ≠ q)) (hgg : gx ≠ gt) (hr2 : SRun w wy s p b q m S2) (hm : Mods (fun k => k = b ∨ k = q) wx wy) : PlaySt w wy s p b q m S2 s2 p2 b2 q2 nc C gx gt :=
  ⟨hr2, ⟨hr2.bel, hc.ses.keep hm (fun e => by rcases e with e | e; exact hap.1.1 e; exact hap.1.2 e) (fun e => by rcases e with e | e; exact hap.2.1.1 e; exact hap.2.1.2 e) (fun e => by rcases e with e | e; exact hap.2.2.1.1 e; exact hap.2.2.1.2 e) (fun e => by rcases e with e | e; exact hap.2.2.2.1 e; exact hap.2.2.2.2 e), hc.sge, hc.pge, hc.bge, hc.qge⟩,
    hx.mods2 hr.ses hm, ht.mods2 hr.ses hm, hg, hle, hap, hgg⟩
/-- a copy, in a run -/
theorem scopy_run {w wx : World} {s p b q n : Nat} {S : Ses} (h : SRun w wx s p b q n S) :
    Calls Tryz.prog 7 #[.pointer (some ⟨s, 0, none⟩)] wx fun e w' => ∃ s2 p2 b2 q2, e = .returned (.pointer (some ⟨s2, 0, none⟩)) ∧ (SRun w w' s2 p2 b2 q2 n S ∧ ((s2 ≠ b ∧ s2 ≠ q) ∧ (p2 ≠ b ∧ p2 ≠ q) ∧ (b2 ≠ b ∧ b2 ≠ q) ∧ (q2 ≠ b ∧ q2 ≠ q)) ∧ Below wx.heap.size wx w') :=
  (scopy_any s p b q n S wx h.ses).mono fun e w' ⟨s2, p2, b2, q2, he, hs, h1, h2, h3, h4, hb⟩ => by
    have l1 := h.ses.app.blt
    have l2 := h.ses.qlt
    have l0 := h.bel.size
    exact ⟨s2, p2, b2, q2, he, ⟨h.bel.trans (hb.mono l0), hs, by omega, by omega, by omega, by omega⟩, ⟨⟨by omega, by omega⟩, ⟨by omega, by omega⟩, ⟨by omega, by omega⟩, ⟨by omega, by omega⟩⟩, hb⟩
/-- the document's Do, of a state in its box -/
theorem sref_st {wx : World} {g : Nat} {S : Ses} (h : StAt wx g S) : ∃ oa ca oc cc, wx.heap[g]? = some (.cells #[.slice oa S.A.length ca, .slice oc S.C.length cc] 30 (0, 0)) ∧ SetsV wx oa ca S.A ∧ LstV wx oc cc S.C := h.ex
/-- the end: what is told of a client -/
theorem last_end (C : List Lst) (k : Int) : ((lookC C k).isSome = decide (0 ≤ atC C k)) ∧ (lookC C k = none → seqL (lookC C k) = 0 ∧ repL (lookC C k) = Rep.zero) ∧ ∀ e, lookC C k = some e → ∃ j : Nat, atC C k = j ∧ C[j]? = some e ∧ seqL (lookC C k) = e.seq ∧ repL (lookC C k) = e.rep := by
  refine ⟨?_, fun h => by rw [h]; exact ⟨rfl, rfl⟩, fun e h => ?_⟩
  · cases h : lookC C k with
    | none => rw [look_atC.1 h]; rfl
    | some e =>
      obtain ⟨j, hj, _⟩ := look_atC.2 e h
      rw [hj]
      simp
  · obtain ⟨j, hj, hx⟩ := look_atC.2 e h
    exact ⟨j, hj, hx, by rw [h]; rfl, by rw [h]; rfl⟩
end Go.Proofs.YtpeiamllkddhiaaGreatDoor.P

/- SessionPlays: what holds in its first drawn region. -/
namespace Go.Proofs.YtpeiamllkddhiaaGreatDoor.P
open Go.RowKit Go.Proofs.YtpeiamllkddhiaaGreatDoor.R Go.Proofs.YtpeiamllkddhiaaGreatDoor.M Go.BigFrame
set_option linter.unusedVariables false
set_option linter.unusedSimpArgs false

/-- a box of the document's state is none of the sessions' blocks -/
theorem SRun.far {v w w1 : World} {s p b q n g : Nat} {S : Ses} {o0 o1 : Option Addr} {n0 n1 m0 m1 : Nat} {T : TypeId} (h : SRun v w s p b q n S) (hg : w.heap[g]? = some (.cells #[.slice o0 n0 m0, .slice o1 n1 m1] T (0, 0))) (hm : Mods (fun j => j = g) w w1) (hv : v.heap.size ≤ g) : SRun v w1 s p b q n S := by
  obtain ⟨es, k, hb⟩ := map_heap h.ses.app
  obtain ⟨es2, k2, hq⟩ := mapC_heap h.ses.map
  refine h.apart hm hv ?_ ?_ ?_ ?_
  · rintro rfl
    rw [h.ses.box] at hg
    simp at hg
  · rintro rfl
    rw [h.ses.app.box] at hg
    simp at hg
  · rintro rfl
    rw [hb] at hg
    cases hg
  · rintro rfl
    rw [hq] at hg
    cases hg
structure R5S (v u : World) (s p b q : Nat) (g8 : Nat) (b0 b1 b2 b3 b4 b5 : Bool) (x28 x29 x30 x10 x9 : Value) (w : World) : Prop where
  k0 : b0 = true → x28 = .pointer (some ⟨s, 0, none⟩)
  k2 : b2 = true → x30 = .agg #[.slice none 0 0, .slice none 0 0]
  kin : Below u.heap.size u w
  kc : b1 = true → ∃ s2 p2 b2 q2, x29 = .pointer (some ⟨s2, 0, none⟩) ∧ SRun v w s2 p2 b2 q2 0 ⟨[], []⟩ ∧ ((s2 ≠ b ∧ s2 ≠ q) ∧ (p2 ≠ b ∧ p2 ≠ q) ∧ (b2 ≠ b ∧ b2 ≠ q) ∧ (q2 ≠ b ∧ q2 ≠ q))
  kb : b3 = true → ∃ g, x10 = .pointer (some ⟨g, 0, none⟩) ∧ u.heap.size ≤ g ∧ w.heap[g]? = some (.cells #[.slice none 0 0, .slice none 0 0] 30 (0, 0))
  k4 : b4 = true → x9 = x29
  c1_0 : b1 = true → b0 = true
  c4_1 : b4 = true → b1 = true
  c5_3 : b5 = true → b3 = true
  c5_2 : b5 = true → b2 = true
  c5_4 : b5 = true → b4 = true
def R5I (v u : World) (s p b q : Nat) (g8 : Nat) (arr : Array Value) (listed : Array Bool) (a : Act) (w : World) : Prop :=
  ∃ (b0 b1 b2 b3 b4 b5 : Bool) (x28 x29 x30 x10 x9 : Value), listed = #[b0, b1, b2, b3, b4, b5] ∧ a = ⟨(((((arr.setIfInBounds 28 x28).setIfInBounds 29 x29).setIfInBounds 30 x30).setIfInBounds 10 x10).setIfInBounds 9 x9), []⟩ ∧ R5S v u s p b q g8 b0 b1 b2 b3 b4 b5 x28 x29 x30 x10 x9 w
theorem R5_start (v u : World) (s p b q : Nat) (g8 : Nat) (arr : Array Value) (w : World) (h : ∀ x28 x29 x30 x10 x9, R5S v u s p b q g8 false false false false false false x28 x29 x30 x10 x9 w) : R5I v u s p b q g8 arr (Array.replicate 6 false) ⟨arr, []⟩ w :=
  ⟨false, false, false, false, false, false, arr.getD 28 undef, arr.getD 29 undef, arr.getD 30 undef, arr.getD 10 undef, arr.getD 9 undef, rfl, by simp only [set_self], h _ _ _ _ _⟩
end Go.Proofs.YtpeiamllkddhiaaGreatDoor.P
