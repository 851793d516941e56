/- The walks of the laws RunesQuotes and RunesUnquotes. -/
import Derived.Test.YtojchifegifecaaDoorRunesCC
namespace Go.Proofs.YtojchifegifecaaDoor.R
open Go.RowKit Go.PlainAid Go.Lib

theorem unqF_len : ∀ f s t, unqF f s = some t → t.length ≤ 4 * s.size
  | 0, s, t, h => by cases h; simp
  | f + 1, s, t, h => by
    unfold unqF at h
    split at h
    · cases h; simp
    · rename_i h0
      split at h
      · cases h
      · rename_i hn
        have hp := pieceV_le s (by omega)
        cases hu : unqF f (s.extract (pieceV s).2.toNat s.size) with
        | none => rw [hu] at h; cases h
        | some u =>
          rw [hu] at h
          have h := Option.some.inj h
          have ih := unqF_len f _ u hu
          rw [← h, List.length_append, dl_len]
          have hz : (s.extract (pieceV s).2.toNat s.size).size = s.size - (pieceV s).2.toNat := by simp
          rw [hz] at ih
          omega
theorem unquoteV_len (s : ByteArray) : (unquoteV s).1.size ≤ 4 * s.size := by
  unfold unquoteV
  split
  · exact Nat.zero_le _
  · cases hu : unqF s.size (s.extract 1 (s.size - 1)) with
    | none => exact Nat.zero_le _
    | some t =>
      have h := unqF_len _ _ _ hu
      have hz : (s.extract 1 (s.size - 1)).size ≤ s.size := by simp; omega
      simp only [endV]
      split
      · rw [bl_size]; omega
      · exact Nat.zero_le _

set_option maxRecDepth 100000 in
set_option maxHeartbeats 1000000 in
theorem long_any (s : ByteArray) (w : World) (h : Tabs2 w) (hs : ¬ s.size ≤ 1000) :
    Calls Tryd.prog 7 #[.string s] w fun e w' => e = .returned (.bool true) ∧ Below w.heap.size w w' := by
  have hs1 : (1000 : Int) < (s.size : Int) := by omega
  have HA := Lib.hid (awake_any w h.t)
  clear h hs
  go_enter Tryd.func7, Tryd.ntmps7
  go_wp2_with fail
  refine HA.out.mono ?_
  rintro e w1 ⟨rfl, b1⟩
  go_wp2_with fail
  go_ret
  exact ⟨rfl, b1⟩
set_option maxRecDepth 100000 in
set_option maxHeartbeats 1000000 in
theorem unquotes_law (s : ByteArray) (w : World) (h : Tabs2 w) :
    Calls Tryd.prog 7 #[.string s] w fun e w' => e = .returned (.bool true) ∧ Below w.heap.size w w' := by
  by_cases hs : s.size ≤ 1000
  · have hs1 : ¬ (1000 : Int) < (s.size : Int) := by omega
    have H := Lib.hid h
    have HU := Lib.hid (fun w (hw : Tabs2 w) => unq_any s w (by omega) hw (unquoteV s) rfl)
    have hl := unquoteV_len s
    clear h
    rcases unquote_told s with ⟨h1, h2⟩ | ⟨h1, h2⟩
    · generalize unquoteV s = R at *
      obtain ⟨t, is⟩ := R
      simp only at h1 h2
      subst h1 h2
      clear hl
      go_enter Tryd.func7, Tryd.ntmps7
      go_wp2_with fail
      refine (HU.out w H.out).mono ?_
      rintro e w1 ⟨rfl, b1⟩
      have B1 := Lib.hid b1
      clear b1
      go_wp2_with fail
      refine (awake_any w1 (H.out.next B1.out).t).mono ?_
      rintro e w2 ⟨rfl, b2⟩
      go_wp2_with fail
      go_ret
      exact ⟨rfl, B1.out.trans (b2.mono B1.out.size)⟩
    · generalize unquoteV s = R at *
      obtain ⟨t, is⟩ := R
      simp only at h1 h2 hl
      subst h1
      have HQ := Lib.hid h2
      have HTZ := Lib.hid (show t.size ≤ 1000000 by omega)
      clear h2 hl
      go_enter Tryd.func7, Tryd.ntmps7
      go_wp2_with fail
      refine (HU.out w H.out).mono ?_
      rintro e w1 ⟨rfl, b1⟩
      have B1 := Lib.hid b1
      clear b1
      go_wp2_with fail
      refine (quote_b t w1 HTZ.out (H.out.next B1.out).t s HQ.out).mono ?_
      rintro e w2 ⟨rfl, b2, _⟩
      have B2 := Lib.hid (B1.out.trans (b2.mono B1.out.size))
      clear b2
      go_wp2_with fail
      refine (awake_any w2 (H.out.next B2.out).t).mono ?_
      rintro e w3 ⟨rfl, b3⟩
      go_wp2_with fail
      go_ret
      exact ⟨rfl, B2.out.trans (b3.mono B2.out.size)⟩
  · exact long_any s w h hs

set_option maxRecDepth 100000 in
set_option maxHeartbeats 1000000 in
theorem quotes_law (s : ByteArray) (w : World) (h : Tabs2 w) :
    Calls Tryd.prog 6 #[.string s] w fun e w' => e = .returned (.bool true) ∧ Below w.heap.size w w' := by
  by_cases hs : s.size ≤ 1000
  · have hs1 : ¬ (1000 : Int) < (s.size : Int) := by omega
    have H := Lib.hid h
    obtain ⟨Q, hQ⟩ : ∃ Q, bl (quoteL s) = Q := ⟨_, rfl⟩
    have hqz : Q.size ≤ 11002 := by rw [← hQ, bl_size]; have := quoteL_len2 s 1000 hs; omega
    have HU := Lib.hid (show unquoteV Q = (s, true) by rw [← hQ]; exact unquote_quote s)
    have HQ := Lib.hid hQ
    have HS := Lib.hid (show s.size ≤ 1000000 by omega)
    clear h hs hQ
    go_enter Tryd.func6, Tryd.ntmps6
    go_wp2_with fail
    refine (quote_b s w HS.out H.out.t Q HQ.out).mono ?_
    rintro e w1 ⟨rfl, b1, _⟩
    have B1 := Lib.hid b1
    clear b1
    go_wp2_with fail
    refine (unq_any Q w1 (by omega) (H.out.next B1.out) (s, true) HU.out).mono ?_
    rintro e w2 ⟨rfl, b2⟩
    have B2 := Lib.hid (B1.out.trans (b2.mono B1.out.size))
    clear b2
    go_wp2_with fail
    refine ((refQuote_any s w2 HS.out).mono (fun e w' hh => (show e = .returned (.string Q) ∧ Below w2.heap.size w2 w' from ⟨by rw [hh.1, ← HQ.out]; rfl, hh.2⟩))).mono ?_
    rintro e w3 ⟨rfl, b3⟩
    have B3 := Lib.hid (B2.out.trans (b3.mono B2.out.size))
    clear b3
    go_wp2_with fail
    refine (awake_any w3 (H.out.next B3.out).t).mono ?_
    rintro e w4 ⟨rfl, b4⟩
    go_wp2_with fail
    go_ret
    exact ⟨rfl, B3.out.trans (b4.mono B3.out.size)⟩
  · have hs1 : (1000 : Int) < (s.size : Int) := by omega
    have HA := Lib.hid (awake_any w h.t)
    clear h hs
    go_enter Tryd.func6, Tryd.ntmps6
    go_wp2_with fail
    refine HA.out.mono ?_
    rintro e w1 ⟨rfl, b1⟩
    go_wp2_with fail
    go_ret
    exact ⟨rfl, b1⟩
end Go.Proofs.YtojchifegifecaaDoor.R
