/- Several texts in one. -/
import Derived.Test.YtpeiamllkddhiaaGreatDoorMrg12

/- SessionPlays: what holds in the drawn region of the document's Do. -/
namespace Go.Proofs.YtpeiamllkddhiaaGreatDoor.P
open Go.RowKit Go.Proofs.YtpeiamllkddhiaaGreatDoor.R Go.Proofs.YtpeiamllkddhiaaGreatDoor.M Go.BigFrame
set_option linter.unusedVariables false
set_option linter.unusedSimpArgs false

/-- clients' answers don't lie in the box of what is done -/
theorem LstV.apart9 {w w1 : World} {g : Nat} {ao : Option Addr} {cap : Nat} {C : List Lst} {T : TypeId} {o0 o1 : Option Addr} {n0 n1 m0 m1 : Nat} {i2 i4 : Int} {s3 : ByteArray} {b5 : Bool} (h : LstV w ao cap C)
    (hg : w.heap[g]? = some (.cells #[.slice o0 n0 m0, .slice o1 n1 m1, .int .i64 i2, .string s3, .int .i64 i4, .bool b5] T (0, 0))) (hm : Mods (fun k => k = g) w w1) : LstV w1 ao cap C := by
  refine ⟨h.le, fun i e hi => ?_⟩
  obtain ⟨g2, off, e1, hl, c0, c1, c2, c3, c4⟩ := h.row i e hi
  have hne : g2 ≠ g := by
    rintro rfl
    rw [cell_of_row w g2 _ _ _ _ hg] at c0 c1
    obtain ⟨o, ho⟩ : ∃ o, o = off + i * 5 := ⟨_, rfl⟩
    rw [← ho] at c0 c1
    clear ho
    rcases (by omega : o = 0 ∨ o = 1 ∨ o = 2 ∨ o = 3 ∨ o = 4 ∨ o = 5 ∨ 6 ≤ o) with rfl | rfl | rfl | rfl | rfl | rfl | h6
    · simp at c0
    · simp at c0
    · simp at c1
    · simp at c0
    · simp at c1
    · simp at c0
    · rw [Array.getElem?_eq_none (by simpa using h6)] at c0
      cases c0
  exact ⟨g2, off, e1, Nat.lt_of_lt_of_le hl hm.size, (hm.cell (p := ⟨g2, _, none⟩) hl hne).trans c0, (hm.cell (p := ⟨g2, _, none⟩) hl hne).trans c1, (hm.cell (p := ⟨g2, _, none⟩) hl hne).trans c2, (hm.cell (p := ⟨g2, _, none⟩) hl hne).trans c3, (hm.cell (p := ⟨g2, _, none⟩) hl hne).trans c4⟩
/-- settings don't lie in the box of a state -/
theorem SetsV.off2 {w w1 : World} {g : Nat} {ao : Option Addr} {cap : Nat} {A : List Ent} {T : TypeId} {o0 o1 : Option Addr} {n0 n1 m0 m1 : Nat} (h : SetsV w ao cap A)
    (hg : w.heap[g]? = some (.cells #[.slice o0 n0 m0, .slice o1 n1 m1] T (0, 0))) (hm : Mods (fun k => k = g) w w1) : SetsV w1 ao cap A := by
  refine ⟨h.le, fun i e hi => ?_⟩
  obtain ⟨g2, off, e1, hl, c0, c1, c2⟩ := h.row i e hi
  have hne : g2 ≠ g := by
    rintro rfl
    rw [cell_of_row w g2 _ _ _ _ hg] at c0
    obtain ⟨o, ho⟩ : ∃ o, o = off + i * 3 := ⟨_, rfl⟩
    rw [← ho] at c0
    clear ho
    rcases (by omega : o = 0 ∨ o = 1 ∨ 2 ≤ o) with rfl | rfl | h6
    · simp at c0
    · simp at c0
    · rw [Array.getElem?_eq_none (by simpa using h6)] at c0
      cases c0
  exact ⟨g2, off, e1, Nat.lt_of_lt_of_le hl hm.size, (hm.cell (p := ⟨g2, _, none⟩) hl hne).trans c0, (hm.cell (p := ⟨g2, _, none⟩) hl hne).trans c1, (hm.cell (p := ⟨g2, _, none⟩) hl hne).trans c2⟩
theorem LstV.off2 {w w1 : World} {g : Nat} {ao : Option Addr} {cap : Nat} {C : List Lst} {T : TypeId} {o0 o1 : Option Addr} {n0 n1 m0 m1 : Nat} (h : LstV w ao cap C)
    (hg : w.heap[g]? = some (.cells #[.slice o0 n0 m0, .slice o1 n1 m1] T (0, 0))) (hm : Mods (fun k => k = g) w w1) : LstV w1 ao cap C := by
  refine ⟨h.le, fun i e hi => ?_⟩
  obtain ⟨g2, off, e1, hl, c0, c1, c2, c3, c4⟩ := h.row i e hi
  have hne : g2 ≠ g := by
    rintro rfl
    rw [cell_of_row w g2 _ _ _ _ hg] at c0
    obtain ⟨o, ho⟩ : ∃ o, o = off + i * 5 := ⟨_, rfl⟩
    rw [← ho] at c0
    clear ho
    rcases (by omega : o = 0 ∨ o = 1 ∨ 2 ≤ o) with rfl | rfl | h6
    · simp at c0
    · simp at c0
    · rw [Array.getElem?_eq_none (by simpa using h6)] at c0
      cases c0
  exact ⟨g2, off, e1, Nat.lt_of_lt_of_le hl hm.size, (hm.cell (p := ⟨g2, _, none⟩) hl hne).trans c0, (hm.cell (p := ⟨g2, _, none⟩) hl hne).trans c1, (hm.cell (p := ⟨g2, _, none⟩) hl hne).trans c2, (hm.cell (p := ⟨g2, _, none⟩) hl hne).trans c3, (hm.cell (p := ⟨g2, _, none⟩) hl hne).trans c4⟩
/-- the document's new state stands in its box: what stays -/
theorem play_ref {w wx wy : World} {s p b q n s2 p2 b2 q2 nc gx gt : Nat} {S S2 C : Ses} {oy oz : Option Addr} {cy cz : Nat} (h : PlaySt w wx s p b q n S s2 p2 b2 q2 nc C gx gt) (hw : w.heap.size ≤ gx)
    (hy : SetsV wx oy cy S2.A) (hz : LstV wx oz cz S2.C) (hm : Mods (fun k => k = gx) wx wy) (hn : wy.heap[gx]? = some (.cells #[.slice oy S2.A.length cy, .slice oz S2.C.length cz] 30 (0, 0))) :
    SRun w wy s p b q n S ∧ SRun w wy s2 p2 b2 q2 nc C ∧ StAt wy gx S2 ∧ StAt wy gt C := by
  obtain ⟨oa, ca, oc, cc, hg, _, _⟩ := h.x.ex
  obtain ⟨ta, ka, tc, kc, ht, h1, h2⟩ := h.t.ex
  exact ⟨h.run.far hg hm hw, h.cpy.far hg hm hw, ⟨oy, cy, oz, cz, hn, hy.off2 hg hm, hz.off2 hg hm⟩, ⟨ta, ka, tc, kc, hm.heap ht (fun e => h.gg e.symm), h1.off2 hg hm, h2.off2 hg hm⟩⟩
/-- a box of cells is none of the maps -/
theorem box_mods {w wx wy : World} {s p b q n g : Nat} {S : Ses} {cs : Array Value} {T : TypeId} {fz : Nat × Nat} (h : SRun w wx s p b q n S) (hg : wx.heap[g]? = some (.cells cs T fz)) (hm : Mods (fun k => k = b ∨ k = q) wx wy) : wy.heap[g]? = some (.cells cs T fz) := by
  obtain ⟨es, k, hb⟩ := map_heap h.ses.app
  obtain ⟨es2, k2, hq⟩ := mapC_heap h.ses.map
  refine hm.heap hg ?_
  rintro (rfl | rfl)
  · rw [hb] at hg; cases hg
  · rw [hq] at hg; cases hg
/-- the copies are made anew -/
theorem play_copy {w u wz : World} {s p b q n s2 p2 b2 q2 nc gx gt s4 p4 b4 q4 : Nat} {S C : Ses} {oa oc : Option Addr} {ca cc : Nat} (h : PlaySt w u s p b q n S s2 p2 b2 q2 nc C gx gt) (hw : w.heap.size ≤ gt)
    (hx : u.heap[gx]? = some (.cells #[.slice oa S.A.length ca, .slice oc S.C.length cc] 30 (0, 0))) (hA : SetsV u oa ca S.A) (hC : LstV u oc cc S.C) (hm : Mods (fun k => k = gt) u wz)
    (hz : wz.heap[gt]? = some (.cells #[.slice oa S.A.length ca, .slice oc S.C.length cc] 30 (0, 0))) (hc : SRun w wz s4 p4 b4 q4 n S) (hap : (s4 ≠ b ∧ s4 ≠ q) ∧ (p4 ≠ b ∧ p4 ≠ q) ∧ (b4 ≠ b ∧ b4 ≠ q) ∧ (q4 ≠ b ∧ q4 ≠ q)) (hg : SGood n S) (hle : n ≤ 60) : PlaySt w wz s p b q n S s4 p4 b4 q4 n S gx gt := by
  obtain ⟨ta, ka, tc, kc, ht, _, _⟩ := h.t.ex
  exact ⟨h.run.far ht hm hw, hc, ⟨oa, ca, oc, cc, hm.heap hx h.gg, hA.off2 ht hm, hC.off2 ht hm⟩, ⟨oa, ca, oc, cc, hz, hA.off2 ht hm, hC.off2 ht hm⟩, hg, hle, hap, h.gg⟩
structure R9S (u : World) (g8 g off i len cap : Nat) (oa oc : Option Addr) (ca cc : Nat) (S S2 : Ses) (R : Rep) (F : Bool) (c : Cmd) (b0 b1 b2 b3 b4 b5 b6 b7 : Bool) (x37 x38 x39 x40 x41 x42 x12 : Value) (w : World) : Prop where
  k0 : b0 = true → x37 = .agg #[.slice oa S.A.length ca, .slice oc S.C.length cc]
  k1 : b1 = true → x38 = .slice (some ⟨g, off, none⟩) len cap
  k2 : b2 = true → x39 = .int .i64 (i : Int)
  k3 : b3 = true → x40 = .pointer (some ⟨g, off + i * 6, none⟩)
  k4 : b4 = true → x41 = cmdV c
  kin : Below u.heap.size u w
  kt : b5 = true → b7 = false → ∃ oy cy oz cz, x42 = .agg #[.slice oy S2.A.length cy, .slice oz S2.C.length cz, .int .i64 R.code, .string R.val, .int .i64 R.rev, .bool F] ∧ SetsV w oy cy S2.A ∧ LstV w oz cz S2.C
  kb : b6 = true → b7 = false → ∃ g9, x12 = .pointer (some ⟨g9, 0, none⟩) ∧ u.heap.size ≤ g9 ∧ w.heap[g9]? = some (.cells #[.slice none 0 0, .slice none 0 0, .int .i64 0, .string ⟨#[]⟩, .int .i64 0, .bool false] 35 (0, 0))
  kz : b7 = true → ∃ g9 oy cy oz cz, x12 = .pointer (some ⟨g9, 0, none⟩) ∧ u.heap.size ≤ g9 ∧ w.heap[g9]? = some (.cells #[.slice oy S2.A.length cy, .slice oz S2.C.length cz, .int .i64 R.code, .string R.val, .int .i64 R.rev, .bool F] 35 (0, 0)) ∧ SetsV w oy cy S2.A ∧ LstV w oz cz S2.C
  c3_1 : b3 = true → b1 = true
  c3_2 : b3 = true → b2 = true
  c4_3 : b4 = true → b3 = true
  c5_0 : b5 = true → b0 = true
  c5_4 : b5 = true → b4 = true
  c7_6 : b7 = true → b6 = true
  c7_5 : b7 = true → b5 = true
def R9I (u : World) (g8 g off i len cap : Nat) (oa oc : Option Addr) (ca cc : Nat) (S S2 : Ses) (R : Rep) (F : Bool) (c : Cmd) (arr : Array Value) (listed : Array Bool) (a : Act) (w : World) : Prop :=
  ∃ (b0 b1 b2 b3 b4 b5 b6 b7 : Bool) (x37 x38 x39 x40 x41 x42 x12 : Value), listed = #[b0, b1, b2, b3, b4, b5, b6, b7] ∧ a = ⟨(((((((arr.setIfInBounds 37 x37).setIfInBounds 38 x38).setIfInBounds 39 x39).setIfInBounds 40 x40).setIfInBounds 41 x41).setIfInBounds 42 x42).setIfInBounds 12 x12), []⟩ ∧ R9S u g8 g off i len cap oa oc ca cc S S2 R F c b0 b1 b2 b3 b4 b5 b6 b7 x37 x38 x39 x40 x41 x42 x12 w
theorem R9_start (u : World) (g8 g off i len cap : Nat) (oa oc : Option Addr) (ca cc : Nat) (S S2 : Ses) (R : Rep) (F : Bool) (c : Cmd) (arr : Array Value) (w : World) (h : ∀ x37 x38 x39 x40 x41 x42 x12, R9S u g8 g off i len cap oa oc ca cc S S2 R F c false false false false false false false false x37 x38 x39 x40 x41 x42 x12 w) : R9I u g8 g off i len cap oa oc ca cc S S2 R F c arr (Array.replicate 8 false) ⟨arr, []⟩ w :=
  ⟨false, false, false, false, false, false, false, false, arr.getD 37 undef, arr.getD 38 undef, arr.getD 39 undef, arr.getD 40 undef, arr.getD 41 undef, arr.getD 42 undef, arr.getD 12 undef, rfl, by simp only [set_self], h _ _ _ _ _ _ _⟩
structure R15S (v u : World) (s p b q n gt : Nat) (oa oc : Option Addr) (ca cc : Nat) (S2 : Ses) (b0 b1 b2 b3 b4 : Bool) (x67 x68 x69 x9 : Value) (w : World) : Prop where
  k0 : b0 = true → x67 = .pointer (some ⟨s, 0, none⟩)
  k2 : b2 = true → x69 = .agg #[.slice oa S2.A.length ca, .slice oc S2.C.length cc]
  kq : b4 = false → Below u.heap.size u w
  km : Mods (fun k => k = gt) u w
  kc : b1 = true → ∃ s2 p2 y2 q2, x68 = .pointer (some ⟨s2, 0, none⟩) ∧ SRun v w s2 p2 y2 q2 n S2 ∧ ((s2 ≠ b ∧ s2 ≠ q) ∧ (p2 ≠ b ∧ p2 ≠ q) ∧ (y2 ≠ b ∧ y2 ≠ q) ∧ (q2 ≠ b ∧ q2 ≠ q))
  kz : b4 = true → w.heap[gt]? = some (.cells #[.slice oa S2.A.length ca, .slice oc S2.C.length cc] 30 (0, 0))
  k3 : b3 = true → x9 = x68
  c1_0 : b1 = true → b0 = true
  c3_1 : b3 = true → b1 = true
  c4_2 : b4 = true → b2 = true
  c4_3 : b4 = true → b3 = true
def R15I (v u : World) (s p b q n gt : Nat) (oa oc : Option Addr) (ca cc : Nat) (S2 : Ses) (arr : Array Value) (listed : Array Bool) (a : Act) (w : World) : Prop :=
  ∃ (b0 b1 b2 b3 b4 : Bool) (x67 x68 x69 x9 : Value), listed = #[b0, b1, b2, b3, b4] ∧ a = ⟨((((arr.setIfInBounds 67 x67).setIfInBounds 68 x68).setIfInBounds 69 x69).setIfInBounds 9 x9), []⟩ ∧ R15S v u s p b q n gt oa oc ca cc S2 b0 b1 b2 b3 b4 x67 x68 x69 x9 w
theorem R15_start (v u : World) (s p b q n gt : Nat) (oa oc : Option Addr) (ca cc : Nat) (S2 : Ses) (arr : Array Value) (w : World) (h : ∀ x67 x68 x69 x9, R15S v u s p b q n gt oa oc ca cc S2 false false false false false x67 x68 x69 x9 w) : R15I v u s p b q n gt oa oc ca cc S2 arr (Array.replicate 5 false) ⟨arr, []⟩ w :=
  ⟨false, false, false, false, false, arr.getD 67 undef, arr.getD 68 undef, arr.getD 69 undef, arr.getD 9 undef, rfl, by simp only [set_self], h _ _ _ _⟩
end Go.Proofs.YtpeiamllkddhiaaGreatDoor.P

/- SessionPlays: what holds in the two drawn regions that ask the document for all settings. -/
namespace Go.Proofs.YtpeiamllkddhiaaGreatDoor.P
open Go.RowKit Go.Proofs.YtpeiamllkddhiaaGreatDoor.R Go.Proofs.YtpeiamllkddhiaaGreatDoor.M Go.BigFrame
set_option linter.unusedVariables false
set_option linter.unusedSimpArgs false

structure R20S (u : World) (gx n : Nat) (oa : Option Addr) (ca : Nat) (R : Rep) (b0 b1 b2 b3 b4 b5 b6 b7 b8 b9 : Bool) (x121 x122 x123 x124 x120 x125 x126 x20 x19 : Value) (w : World) : Prop where
  k0 : b0 = true → x121 = .pointer (some ⟨gx, 0, none⟩)
  k1 : b1 = true → x122 = .slice oa n ca
  k2 : b2 = true → x123 = .agg #[.int .i64 5, .int .i64 1, .int .i64 1, .string ⟨#[]⟩, .string ⟨#[]⟩, .int .i64 0]
  k6 : b6 = true → x126 = .agg #[.int .i64 R.code, .string R.val, .int .i64 R.rev]
  kin : Below u.heap.size u w
  kt : b3 = true → ∃ oo oc, x124 = .tuple #[.slice oo n oc, .agg #[.int .i64 R.code, .string R.val, .int .i64 R.rev]]
  km : b4 = true → ∃ oo oc, x120 = .tuple #[.slice oo n oc, .agg #[.int .i64 R.code, .string R.val, .int .i64 R.rev]]
  ke : b5 = true → ∃ oo oc, x125 = .slice oo n oc
  kb : b7 = true → b9 = false → ∃ g9, x20 = .pointer (some ⟨g9, 0, none⟩) ∧ u.heap.size ≤ g9 ∧ w.heap[g9]? = some (.cells #[.int .i64 0, .string ⟨#[]⟩, .int .i64 0] 33 (0, 0))
  kz : b9 = true → ∃ g9, x20 = .pointer (some ⟨g9, 0, none⟩) ∧ u.heap.size ≤ g9 ∧ w.heap[g9]? = some (.cells #[.int .i64 R.code, .string R.val, .int .i64 R.rev] 33 (0, 0))
  c1_0 : b1 = true → b0 = true
  c3_1 : b3 = true → b1 = true
  c3_2 : b3 = true → b2 = true
  c4_3 : b4 = true → b3 = true
  c5_4 : b5 = true → b4 = true
  c6_4 : b6 = true → b4 = true
  c8_5 : b8 = true → b5 = true
  c8_3 : b8 = true → b3 = true
  c9_7 : b9 = true → b7 = true
  c9_6 : b9 = true → b6 = true
  c9_8 : b9 = true → b8 = true
def R20I (u : World) (gx n : Nat) (oa : Option Addr) (ca : Nat) (R : Rep) (arr : Array Value) (listed : Array Bool) (a : Act) (w : World) : Prop :=
  ∃ (b0 b1 b2 b3 b4 b5 b6 b7 b8 b9 : Bool) (x121 x122 x123 x124 x120 x125 x126 x20 x19 : Value), listed = #[b0, b1, b2, b3, b4, b5, b6, b7, b8, b9] ∧ a = ⟨(((((((((arr.setIfInBounds 121 x121).setIfInBounds 122 x122).setIfInBounds 123 x123).setIfInBounds 124 x124).setIfInBounds 120 x120).setIfInBounds 125 x125).setIfInBounds 126 x126).setIfInBounds 20 x20).setIfInBounds 19 x19), []⟩ ∧ R20S u gx n oa ca R b0 b1 b2 b3 b4 b5 b6 b7 b8 b9 x121 x122 x123 x124 x120 x125 x126 x20 x19 w
theorem R20_start (u : World) (gx n : Nat) (oa : Option Addr) (ca : Nat) (R : Rep) (arr : Array Value) (w : World) (h : ∀ x121 x122 x123 x124 x120 x125 x126 x20 x19, R20S u gx n oa ca R false false false false false false false false false false x121 x122 x123 x124 x120 x125 x126 x20 x19 w) : R20I u gx n oa ca R arr (Array.replicate 10 false) ⟨arr, []⟩ w :=
  ⟨false, false, false, false, false, false, false, false, false, false, arr.getD 121 undef, arr.getD 122 undef, arr.getD 123 undef, arr.getD 124 undef, arr.getD 120 undef, arr.getD 125 undef, arr.getD 126 undef, arr.getD 20 undef, arr.getD 19 undef, rfl, by simp only [set_self], h _ _ _ _ _ _ _ _ _⟩
structure R21S (u : World) (gx n : Nat) (oa : Option Addr) (ca : Nat) (R : Rep) (b0 b1 b2 b3 b4 b5 b6 b7 b8 b9 : Bool) (x128 x129 x130 x131 x127 x132 x133 x22 x21 : Value) (w : World) : Prop where
  k0 : b0 = true → x128 = .pointer (some ⟨gx, 0, none⟩)
  k1 : b1 = true → x129 = .slice oa n ca
  k2 : b2 = true → x130 = .agg #[.int .i64 5, .int .i64 1, .int .i64 1, .string ⟨#[]⟩, .string ⟨#[]⟩, .int .i64 0]
  k6 : b6 = true → x133 = .agg #[.int .i64 R.code, .string R.val, .int .i64 R.rev]
  kin : Below u.heap.size u w
  kt : b3 = true → ∃ oo oc, x131 = .tuple #[.slice oo n oc, .agg #[.int .i64 R.code, .string R.val, .int .i64 R.rev]]
  km : b4 = true → ∃ oo oc, x127 = .tuple #[.slice oo n oc, .agg #[.int .i64 R.code, .string R.val, .int .i64 R.rev]]
  ke : b5 = true → ∃ oo oc, x132 = .slice oo n oc
  kb : b7 = true → b9 = false → ∃ g9, x22 = .pointer (some ⟨g9, 0, none⟩) ∧ u.heap.size ≤ g9 ∧ w.heap[g9]? = some (.cells #[.int .i64 0, .string ⟨#[]⟩, .int .i64 0] 33 (0, 0))
  kz : b9 = true → ∃ g9, x22 = .pointer (some ⟨g9, 0, none⟩) ∧ u.heap.size ≤ g9 ∧ w.heap[g9]? = some (.cells #[.int .i64 R.code, .string R.val, .int .i64 R.rev] 33 (0, 0))
  c1_0 : b1 = true → b0 = true
  c3_1 : b3 = true → b1 = true
  c3_2 : b3 = true → b2 = true
  c4_3 : b4 = true → b3 = true
  c5_4 : b5 = true → b4 = true
  c6_4 : b6 = true → b4 = true
  c8_5 : b8 = true → b5 = true
  c8_3 : b8 = true → b3 = true
  c9_7 : b9 = true → b7 = true
  c9_6 : b9 = true → b6 = true
  c9_8 : b9 = true → b8 = true
def R21I (u : World) (gx n : Nat) (oa : Option Addr) (ca : Nat) (R : Rep) (arr : Array Value) (listed : Array Bool) (a : Act) (w : World) : Prop :=
  ∃ (b0 b1 b2 b3 b4 b5 b6 b7 b8 b9 : Bool) (x128 x129 x130 x131 x127 x132 x133 x22 x21 : Value), listed = #[b0, b1, b2, b3, b4, b5, b6, b7, b8, b9] ∧ a = ⟨(((((((((arr.setIfInBounds 128 x128).setIfInBounds 129 x129).setIfInBounds 130 x130).setIfInBounds 131 x131).setIfInBounds 127 x127).setIfInBounds 132 x132).setIfInBounds 133 x133).setIfInBounds 22 x22).setIfInBounds 21 x21), []⟩ ∧ R21S u gx n oa ca R b0 b1 b2 b3 b4 b5 b6 b7 b8 b9 x128 x129 x130 x131 x127 x132 x133 x22 x21 w
theorem R21_start (u : World) (gx n : Nat) (oa : Option Addr) (ca : Nat) (R : Rep) (arr : Array Value) (w : World) (h : ∀ x128 x129 x130 x131 x127 x132 x133 x22 x21, R21S u gx n oa ca R false false false false false false false false false false x128 x129 x130 x131 x127 x132 x133 x22 x21 w) : R21I u gx n oa ca R arr (Array.replicate 10 false) ⟨arr, []⟩ w :=
  ⟨false, false, false, false, false, false, false, false, false, false, arr.getD 128 undef, arr.getD 129 undef, arr.getD 130 undef, arr.getD 131 undef, arr.getD 127 undef, arr.getD 132 undef, arr.getD 133 undef, arr.getD 22 undef, arr.getD 21 undef, rfl, by simp only [set_self], h _ _ _ _ _ _ _ _ _⟩
end Go.Proofs.YtpeiamllkddhiaaGreatDoor.P
