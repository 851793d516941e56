/- strconv.ParseUint at base 16 and 32 bits, at every text. -/
import Derived.Test.YtojchifegifecaaDoorRunesW
import Derived.Test.YtojchifegifecaaDoorShelfE
namespace Go.Proofs.YtojchifegifecaaDoor.R
open Go.RowKit Go.PlainAid Go.Lib

/-- a variable of an error kind can be read -/
def ErrAt (g : Nat) (w : World) : Prop := ∃ ev, w.cell? ⟨g, 0, none⟩ = some ev ∧ (ev = .nilIface ∨ ∃ te pe, ev = .iface te pe)
theorem ErrAt.below {g B : Nat} {w w' : World} (h : ErrAt g w) (hb : Below B w w') (hg : g < B) : ErrAt g w' := by
  obtain ⟨ev, h1, h2⟩ := h; exact ⟨ev, (hb.cell (p := ⟨g, 0, none⟩) hg).trans h1, h2⟩

theorem toE2 (s : ByteArray) (w : World) (hs : s.size ≤ 1000000) (h : ErrAt 4 w) (fn : ByteArray) :
    Calls Tryd.prog 50 #[.string fn, .string s, .int .i64 16, .int .i64 32, .iface 84 (.int .i64 2)] w fun e w' => ∃ T v, e = .returned (.iface T v) ∧ Below w.heap.size w w' := by
  obtain ⟨ev, h1, h2⟩ := h
  refine (AnyPu.strconv_toError_syntax { Tryd.laysPu14 with } fn s 16 32 ev w (by omega) h1 h2).mono ?_
  rintro e w' ⟨N, rfl, _, _, hb⟩
  exact ⟨_, _, rfl, hb⟩
theorem toE1 (s : ByteArray) (w : World) (hs : s.size ≤ 1000000) (h : ErrAt 5 w) (fn : ByteArray) :
    Calls Tryd.prog 50 #[.string fn, .string s, .int .i64 16, .int .i64 32, .iface 84 (.int .i64 1)] w fun e w' => ∃ T v, e = .returned (.iface T v) ∧ Below w.heap.size w w' := by
  obtain ⟨ev, h1, h2⟩ := h
  refine (AnyPu.strconv_toError_range { Tryd.laysPu14 with } fn s 16 32 ev w (by omega) h1 h2).mono ?_
  rintro e w' ⟨N, rfl, _, _, hb⟩
  exact ⟨_, _, rfl, hb⟩

theorem pu_code (l : List UInt8) : ∀ acc, (pu acc l).2 = 0 ∨ (pu acc l).2 = 1 ∨ (pu acc l).2 = 2 := by
  induction l with
  | nil => intro acc; exact .inl rfl
  | cons c r ih =>
    intro acc
    simp only [pu]
    split
    · exact .inr (.inr rfl)
    · split
      · exact .inr (.inl rfl)
      · exact ih _
theorem puV_code (t : ByteArray) : (puV t).2 = 0 ∨ (puV t).2 = 1 ∨ (puV t).2 = 2 := by
  unfold puV; split
  · exact .inr (.inr rfl)
  · exact pu_code _ _

set_option maxRecDepth 100000 in
set_option maxHeartbeats 1000000 in
theorem upu_bad (t : ByteArray) (w : World) (hs : t.size ≤ 1000000) (v : Nat) (c : Int) (hc : errI (puV t).2 = .iface 84 (.int .i64 c)) (hv : (puV t).1 = v)
    (hE : ∀ W, Below w.heap.size w W → Calls Tryd.prog 50 #[.string ⟨#[80, 97, 114, 115, 101, 85, 105, 110, 116]⟩, .string t, .int .i64 16, .int .i64 32, .iface 84 (.int .i64 c)] W fun e w' => ∃ T v, e = .returned (.iface T v) ∧ Below W.heap.size W w') :
    Calls Tryd.prog 39 #[.string t, .int .i64 16, .int .i64 32] w fun e w' => (∃ T x, e = .returned (.tuple #[.int .u64 v, .iface T x])) ∧ Below w.heap.size w w' := by
  have HI := Lib.hid (show Calls Tryd.prog 49 #[.string t, .int .i64 16, .int .i64 32] w fun e w' => e = .returned (.tuple #[.int .u64 v, .iface 84 (.int .i64 c)]) ∧ Below w.heap.size w w' by
    have := ipu_any t w hs; rw [hv, hc] at this; exact this)
  have HE := Lib.hid hE
  clear hv hc hE
  go_enter Tryd.func39, Tryd.ntmps39
  go_wp2_with fail
  refine HI.out.mono ?_
  rintro e w1 ⟨rfl, b1⟩
  go_wp2_with fail
  refine (HE.out w1 b1).mono ?_
  rintro e w2 ⟨T, x, rfl, b2⟩
  have b3 := b1.trans (b2.mono b1.size)
  clear b1 b2
  go_wp2_with fail
  go_ret2
  exact ⟨⟨T, x, rfl⟩, b3⟩
end Go.Proofs.YtojchifegifecaaDoor.R
