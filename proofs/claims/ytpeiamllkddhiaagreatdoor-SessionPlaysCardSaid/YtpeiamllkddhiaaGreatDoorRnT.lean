/- The runes' contracts with the library's tables in one word (out of RunesI, RunesJ, RunesM). -/
import Derived.Test.YtpeiamllkddhiaaGreatDoorRunesN
import Derived.Laws.StructEq
import Derived.WalkSmall
namespace Go.Proofs.YtpeiamllkddhiaaGreatDoor.R
open Go.RowKit Go.PlainAid Go.Lib

/-- what every walk of this layer takes of the library's tables -/
structure Tabs (w : World) : Prop where
  u : Lib.Utf8Tabs 0 1 w
  d : w.cell? ⟨5, 15, none⟩ = some (.int .u8 4)
  l3 : 0 < w.heap.size
  l4 : 1 < w.heap.size
  l7 : 5 < w.heap.size
theorem Tabs.below {w w' : World} {B : Nat} (h : Tabs w) (hb : Below B w w') (h3 : 0 < B) (h4 : 1 < B) (h7 : 5 < B) : Tabs w' :=
  ⟨tabs_of_below h.u hb h3 h4, (hb.cell (p := ⟨5, 15, none⟩) h7).trans h.d, Nat.lt_of_lt_of_le h.l3 hb.size, Nat.lt_of_lt_of_le h.l4 hb.size, Nat.lt_of_lt_of_le h.l7 hb.size⟩
theorem Tabs.next {w w' : World} (h : Tabs w) (hb : Below w.heap.size w w') : Tabs w' := h.below hb h.l3 h.l4 h.l7

theorem quote_t (s : ByteArray) (w : World) (hs : s.size ≤ 1000000) (h : Tabs w) (q : List UInt8) (hq : quoteL s = q) :
    Calls Tryz.prog 46 #[.string s] w fun e w' => e = .returned (.string ⟨q.toArray⟩) ∧ Below w.heap.size w w' ∧ Tabs w' := by
  subst hq
  exact (quote_any s w hs h.u h.l3 h.l4 h.d h.l7).mono fun e w' hh => ⟨hh.1, hh.2, h.next hh.2⟩
theorem key_t (s : ByteArray) (w : World) (hs : s.size ≤ 1000000) (h : Tabs w) (v : Int) (hv : errV (keyV s) = v) :
    Calls Tryz.prog 41 #[.string s] w fun e w' => e = .returned (.int .i64 v) ∧ Below w.heap.size w w' ∧ Tabs w' := by
  subst hv
  exact (key_any s w (by omega) h.u h.l3 h.l4).mono fun e w' hh => ⟨hh.1, hh.2, h.next hh.2⟩
theorem begin_t (s : ByteArray) (w : World) (hs : s.size ≤ 1000000) (h : Tabs w) (v : Int) (hv : errV (beginV s) = v) :
    Calls Tryz.prog 40 #[.string s] w fun e w' => e = .returned (.int .i64 v) ∧ Below w.heap.size w w' ∧ Tabs w' := by
  subst hv
  exact (beginning_any s w (by omega) h.u h.l3 h.l4).mono fun e w' hh => ⟨hh.1, hh.2, h.next hh.2⟩
theorem count_t (s : ByteArray) (w : World) (hs : s.size ≤ 1000000) (h : Tabs w) (n : Nat) (hv : (rl s).length = n) :
    Calls Tryz.prog 49 #[.string s] w fun e w' => e = .returned (.int .i64 n) ∧ Below w.heap.size w w' ∧ Tabs w' := by
  subst hv
  rw [← runeCount_rl]
  exact (count_any s w (by omega)).mono fun e w' hh => ⟨hh.1, hh.2, h.next hh.2⟩

theorem refRunes_t (s : ByteArray) (w : World) (hs : s.size ≤ 1000000) (h : Tabs w) :
    Calls Tryz.prog 42 #[.string s] w fun e w' => ∃ ao cap, e = .returned (.slice ao (rl s).length cap) ∧ Below w.heap.size w w' ∧ Tabs w' := by
  refine (runes_any s w hs).mono fun e w' hh => ?_
  obtain ⟨v, rfl, hown, hb⟩ := hh
  obtain ⟨ao, cap, rfl, _, _⟩ := own_view hown
  exact ⟨ao, cap, rfl, hb, h.next hb⟩
theorem refKey_t (s : ByteArray) (w : World) (hs : s.size ≤ 1000000) (h : Tabs w) (v : Bool) (hv : keyV s = v) :
    Calls Tryz.prog 36 #[.string s] w fun e w' => e = .returned (.bool v) ∧ Below w.heap.size w w' ∧ Tabs w' := by
  subst hv
  exact (refKey_any s w hs).mono fun e w' hh => ⟨hh.1, hh.2, h.next hh.2⟩
theorem refBegin_t (s : ByteArray) (w : World) (hs : s.size ≤ 1000000) (h : Tabs w) (v : Bool) (hv : beginV s = v) :
    Calls Tryz.prog 35 #[.string s] w fun e w' => e = .returned (.bool v) ∧ Below w.heap.size w w' ∧ Tabs w' := by
  subst hv
  exact (refBeginning_any s w hs).mono fun e w' hh => ⟨hh.1, hh.2, h.next hh.2⟩
theorem begins_t (s t : ByteArray) (w : World) (v : Bool) (hv : Lib.hasPrefix s.data.toList t.data.toList = v) :
    Calls Tryz.prog 45 #[.string s, .string t] w fun e w' => e = .returned (.bool v) ∧ w = w' := by subst hv; exact begins_any s t w
theorem refBegins_t (s t : ByteArray) (w : World) (v : Bool) (hv : Lib.hasPrefix s.data.toList t.data.toList = v) :
    Calls Tryz.prog 24 #[.string s, .string t] w fun e w' => e = .returned (.bool v) ∧ w = w' := by subst hv; exact refBegins_any s t w

theorem refRunes_row (s : ByteArray) (w : World) (hs : s.size ≤ 1000000) (h : Tabs w) (l : List (Int × Int)) (hl : rl s = l) :
    Calls Tryz.prog 42 #[.string s] w fun e w' => ∃ ao cap, e = .returned (.slice ao l.length cap) ∧ (∀ j, j < l.length → ∃ g, ao = some ⟨g, 0, none⟩ ∧ g < w'.heap.size ∧ ∀ j, j < l.length * 2 → w'.cell? ⟨g, j, none⟩ = (cellsR l)[j]?) ∧ Below w.heap.size w w' ∧ Tabs w' := by
  subst hl
  refine (runes_any s w hs).mono fun e w' hh => ?_
  obtain ⟨v, rfl, hown, hb⟩ := hh
  obtain ⟨ao, cap, rfl, _, hv⟩ := own_view hown
  refine ⟨ao, cap, rfl, fun j hj => ?_, hb, h.next hb⟩
  obtain ⟨g, rfl, _, hg, hc⟩ := hv (by omega)
  exact ⟨g, rfl, hg, hc⟩

end Go.Proofs.YtpeiamllkddhiaaGreatDoor.R
