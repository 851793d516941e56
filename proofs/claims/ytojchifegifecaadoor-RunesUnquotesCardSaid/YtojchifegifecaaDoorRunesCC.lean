/- Unquote, at every text. -/
import Derived.Test.YtojchifegifecaaDoorRunesBB
import Derived.Test.YtojchifegifecaaDoorRunesO
namespace Go.Proofs.YtojchifegifecaaDoor.R
open Go.RowKit Go.PlainAid Go.Lib

def szOf : Value → Nat
  | .string b => b.size
  | _ => 0
theorem ix_last (s : ByteArray) (m : Nat) (hs : 1 ≤ s.size) (hm : (s.get! (s.size - 1)).toNat = m) (W : World) : (Instr.index 9 (.string s) (.int .i64 ((s.size : Int) - 1))).run Tryd.prog W = .ok (.int .u8 (m : Int)) W := by
  have := ix_at s (s.size - 1) m (by omega) hm W
  rwa [show ((s.size - 1 : Nat) : Int) = (s.size : Int) - 1 by omega] at this
theorem unquoteV_bad {s : ByteArray} (h : s.size < 2 ∨ (s.get! 0).toNat ≠ 34 ∨ (s.get! (s.size - 1)).toNat ≠ 34) : unquoteV s = (⟨#[]⟩, false) := by unfold unquoteV; rw [if_pos h]
set_option maxRecDepth 100000 in
set_option maxHeartbeats 400000 in
theorem unq_bad (s : ByteArray) (w : World) (hs : s.size ≤ 200000) (h : s.size < 2 ∨ (s.get! 0).toNat ≠ 34 ∨ (s.get! (s.size - 1)).toNat ≠ 34) :
    Calls Tryd.prog 18 #[.string s] w fun e w' => e = .returned (.tuple #[.string ⟨#[]⟩, .bool false]) ∧ Below w.heap.size w w' := by
  by_cases h2 : s.size < 2
  · have h2' : (s.size : Int) < 2 := by omega
    clear h h2
    go_enter Tryd.func18, Tryd.ntmps18
    go_wp2_with fail
    go_ret2
    exact ⟨rfl, Below.refl _ _⟩
  · have h2' : ¬ (s.size : Int) < 2 := by omega
    obtain ⟨c, hc⟩ : ∃ c, (s.get! 0).toNat = c := ⟨_, rfl⟩
    obtain ⟨m, hm⟩ : ∃ m, (s.get! (s.size - 1)).toNat = m := ⟨_, rfl⟩
    have hix : ∀ W, (Instr.index 9 (.string s) (.int .i64 0)).run Tryd.prog W = .ok (.int .u8 (c : Int)) W := fun W => ix_at s 0 c (by omega) hc W
    have hixl := ix_last s m (by omega) hm
    rw [hc, hm] at h
    by_cases h3 : c = 34
    · have e1 : ((c : Int) != 34) = false := by rw [h3]; rfl
      have e2 : ((m : Int) != 34) = true := by rw [bne_iff_ne]; omega
      clear h hc hm h3 h2
      go_enter Tryd.func18, Tryd.ntmps18
      go_wp2_with fail
      go_ret2
      exact ⟨rfl, Below.refl _ _⟩
    · have e1 : ((c : Int) != 34) = true := by rw [bne_iff_ne]; omega
      clear h hc hm h3 h2
      go_enter Tryd.func18, Tryd.ntmps18
      go_wp2_with fail
      go_ret2
      exact ⟨rfl, Below.refl _ _⟩

set_option maxRecDepth 1000000 in
set_option maxHeartbeats 4000000 in
theorem unq_main (s : ByteArray) (w : World) (hs : s.size ≤ 200000) (hT : Tabs2 w) (h2 : 2 ≤ s.size) (h0 : (s.get! 0).toNat = 34) (hl : (s.get! (s.size - 1)).toNat = 34)
    (U : Option (List UInt8)) (hU : unqF s.size (s.extract 1 (s.size - 1)) = U) (R : ByteArray × Bool) (hR : endV s U = R) :
    Calls Tryd.prog 18 #[.string s] w fun e w' => e = .returned (.tuple #[.string R.1, .bool R.2]) ∧ Below w.heap.size w w' := by
  have HT := Lib.hid hT
  have HR := Lib.hid hR
  have h2' : ¬ (s.size : Int) < 2 := by omega
  have hix : ∀ W, (Instr.index 9 (.string s) (.int .i64 0)).run Tryd.prog W = .ok (.int .u8 34) W := fun W => ix_at s 0 34 (by omega) h0 W
  have hixl := ix_last s 34 (by omega) hl
  obtain ⟨body, hb⟩ : ∃ body, s.extract 1 (s.size - 1) = body := ⟨_, rfl⟩
  have hbz : body.size + 2 = s.size := by rw [← hb]; simp; omega
  have hsl : ∀ W, (Instr.slice 9 (.string s) (some (.int .i64 1)) (some (.int .i64 ((s.size : Int) - 1))) none).run Tryd.prog W = .ok (.string body) W := fun W => by
    rw [run_slice_string W 9 s .i64 .i64 (1 : Int) ((s.size : Int) - 1) Tryd.underlying9 (by omega) (by omega) (by omega), show ((s.size : Int) - 1).toNat = s.size - 1 by omega, ← hb]; rfl
  rw [hb] at hU
  have HU := Lib.hid hU
  clear hT hR h0 hl hU hb h2
  go_enter Tryd.func18, Tryd.ntmps18
  go_wp2_with fail
  have hI0 : IsBuilderF 39 5 w.heap.size w.heap.size (Lib.byteCells []) (w.alloc (.cells #[.pointer none, .slice none 0 0] 39)) := Lib.IsBuilderF.of (Lib.fresh_isBuilder 39 5 w)
  have hB0 : Below w.heap.size w (w.alloc (.cells #[.pointer none, .slice none 0 0] 39)) := (Below.refl _ w).alloc (Nat.le_refl _) _
  clear hix hixl hsl
  go_loopw [5] (fun vi wr => ∃ (inn : ByteArray) (f : Nat) (acc : List UInt8), vi = .string inn ∧ IsBuilderF 39 5 w.heap.size w.heap.size (Lib.byteCells acc) wr ∧ Below w.heap.size w wr ∧ U = (unqF f inn).map (acc ++ ·) ∧ inn.size ≤ f ∧ inn.size ≤ 200000 ∧ acc.length + 4 * inn.size ≤ 800000) (fun vi _ => szOf vi)
  case atStart => exact ⟨body, s.size, [], rfl, hI0, hB0, by rw [HU.out]; simp, by omega, by omega, by simp; omega⟩
  case round =>
    clear hI0 hB0
    obtain ⟨inn, f, acc, rfl, hI, hb, hun, hf, hz, hlen⟩ := hrel
    have HI := Lib.hid hI
    have HB := Lib.hid hb
    have HN := Lib.hid hun
    have hz0 : w.heap.size ≤ wr.heap.size := hb.size
    clear hI hb hun
    by_cases h0 : inn.size = 0
    · have hemp : inn.toList.isEmpty = true := by rw [empty_iff, h0]; rfl
      have HE := Lib.hid (show R = if bl (quoteL (bl acc)) = s then (bl acc, true) else (⟨#[]⟩, false) by
        have h : unqF f inn = some [] := by cases f <;> simp [unqF, h0]
        have h2 := HN.out
        rw [h] at h2
        simp only [Option.map_some, List.append_nil] at h2
        have h3 := HR.out
        rw [h2] at h3
        exact h3.symm)
      obtain ⟨Q, hQ⟩ : ∃ Q, bl (quoteL (bl acc)) = Q := ⟨_, rfl⟩
      have HQ := Lib.hid hQ
      clear hQ h0
      go_wp2_with fail
      refine Calls.mono (Tryd.Builder_String_any_k w.heap.size w.heap.size acc wr HI.out hz0) ?_
      rintro e w5 ⟨rfl, h5, b5, k5⟩
      have HB5 := Lib.hid (HB.out.trans b5)
      have HI5 := Lib.hid h5
      clear h5 b5 k5
      go_wp2_with fail
      refine (quote_b (bl acc) w5 (by rw [bl_size]; omega) (HT.out.next HB5.out).t Q HQ.out).mono ?_
      rintro e w6 ⟨rfl, b6, _⟩
      have HB6 := Lib.hid (HB5.out.trans (b6.mono HB5.out.size))
      have HI6 := Lib.hid (builder_below HI5.out (b6.mono (Nat.le_refl _)))
      have hz6 : w.heap.size ≤ w6.heap.size := HB6.out.size
      clear b6
      by_cases hq : Q = s
      · have HRR := Lib.hid (show R = (bl acc, true) by rw [HE.out, HQ.out, if_pos hq])
        subst hq
        go_wp2_with fail
        refine Calls.mono (Tryd.Builder_String_any_k w.heap.size w.heap.size acc w6 HI6.out hz6) ?_
        rintro e w7 ⟨rfl, h7, b7, k7⟩
        have HB7 := Lib.hid (HB6.out.trans b7)
        clear h7 b7 k7
        go_wp2_with fail
        go_ret2
        exact ⟨by rw [HRR.out]; rfl, HB7.out⟩
      · have HRR := Lib.hid (show R = (⟨#[]⟩, false) by rw [HE.out, HQ.out, if_neg hq])
        have e1 : (Q.toList == s.toList) = false := by
          rw [beq_eq_false_iff_ne]; intro h; rw [toList_data, toList_data] at h
          exact hq (ByteArray.ext (Array.toList_inj.1 h))
        have e2 : (Q.toList != s.toList) = true := by rw [bne, e1]; rfl
        clear hq
        go_wp2_with fail
        go_ret2
        exact ⟨by rw [HRR.out]; rfl, HB6.out⟩
    · have hemp : inn.toList.isEmpty = false := by rw [empty_iff]; exact beq_false_of_ne h0
      have hz1 : 1 ≤ inn.size := by omega
      obtain ⟨c, hc⟩ : ∃ c, (inn.get! 0).toNat = c := ⟨_, rfl⟩
      have hix : ∀ W, (Instr.index 9 (.string inn) (.int .i64 0)).run Tryd.prog W = .ok (.int .u8 (c : Int)) W := fun W => ix_at inn 0 c hz1 hc W
      have hs1 : ∀ W, (Instr.slice 9 (.string inn) none (some (.int .i64 1)) none).run Tryd.prog W = .ok (.string (inn.extract 0 1)) W := fun W => by
        rw [run_slice_string_h W 9 inn Tryd.underlying9 .i64 1 (by omega) (by omega)]; rfl
      have hs2 : ∀ W, (Instr.slice 9 (.string inn) (some (.int .i64 1)) none none).run Tryd.prog W = .ok (.string (inn.extract 1 inn.size)) W := fun W => by
        rw [run_slice_string_l W 9 inn Tryd.underlying9 .i64 1 (by omega) (by omega)]; rfl
      have hpl := pieceV_le inn hz1
      obtain ⟨g, rfl⟩ : ∃ g, f = g + 1 := ⟨f - 1, by omega⟩
      have hN := HN.out
      rw [unqF, if_neg h0] at hN
      by_cases h92 : c = 92
      · obtain ⟨⟨T, n⟩, hr⟩ : ∃ r, escV (inn.extract 1 inn.size) = r := ⟨_, rfl⟩
        have hle := escV_le (inn.extract 1 inn.size)
        have hez : (inn.extract 1 inn.size).size = inn.size - 1 := by simp
        have hpv : pieceV inn = if n = 0 then (⟨#[]⟩, 0) else (T, n + 1) := by unfold pieceV; rw [hc, if_pos h92, hr]
        rw [hr, hez] at hle
        have HR1 := Lib.hid hr
        subst h92
        by_cases hn0 : n = 0
        · rw [hpv, if_pos hn0] at hN
          have HRR := Lib.hid (show R = (⟨#[]⟩, false) by
            simp only [if_true, Option.map_none] at hN
            have h3 := HR.out
            rw [hN] at h3
            exact h3.symm)
          subst hn0
          clear hN hr hpv hpl hle
          obtain ⟨inn1, hi1⟩ : ∃ inn1, inn.extract 1 inn.size = inn1 := ⟨_, rfl⟩
          rw [hi1] at hs2 HR1 hez
          have HEZ := Lib.hid (show inn1.size ≤ 1000000 by omega)
          clear hi1 hez hc
          go_wp2_with fail
          refine (esc_any inn1 wr HEZ.out (HT.out.next HB.out) _ HR1.out).mono ?_
          rintro e w1 ⟨rfl, b1⟩
          have HB1 := Lib.hid (HB.out.trans (b1.mono HB.out.size))
          clear b1
          go_wp2_with fail
          go_ret2
          exact ⟨by rw [HRR.out]; rfl, HB1.out⟩
        · rw [hpv, if_neg hn0] at hN hpl
          obtain ⟨m, rfl⟩ := Int.eq_ofNat_of_zero_le hle.1
          simp only at hle hpl hN
          have hs3 : ∀ W, (Instr.slice 9 (.string inn) (some (.int .i64 ((m : Int) + 1))) none none).run Tryd.prog W = .ok (.string (inn.extract (m + 1) inn.size)) W := fun W => by
            rw [run_slice_string_l W 9 inn Tryd.underlying9 .i64 ((m : Int) + 1) (by omega) (by omega), show ((m : Int) + 1).toNat = m + 1 by omega]
          have hez3 : (inn.extract (m + 1) inn.size).size = inn.size - (m + 1) := by simp
          obtain ⟨inn3, hi3⟩ : ∃ inn3, inn.extract (m + 1) inn.size = inn3 := ⟨_, rfl⟩
          rw [if_neg (by omega), show ((m : Int) + 1).toNat = m + 1 by omega, hi3] at hN
          rw [hi3] at hs3 hez3
          have HNN := Lib.hid (show U = (unqF g inn3).map ((acc ++ T.data.toList) ++ ·) by
            rw [hN]; cases unqF g inn3 <;> simp)
          have e0 : ((m : Int) == 0) = false := beq_false' (by omega)
          have hm1 : 1 ≤ m := by omega
          have hTz : T.size ≤ 4 := hle.2.2
          have hmz : m + 1 ≤ inn.size := by omega
          clear hN hr hpv hpl hle hi3 hn0
          obtain ⟨inn1, hi1⟩ : ∃ inn1, inn.extract 1 inn.size = inn1 := ⟨_, rfl⟩
          rw [hi1] at hs2 HR1 hez
          have HEZ := Lib.hid (show inn1.size ≤ 1000000 by omega)
          clear hi1 hez hc
          go_wp2_with fail
          refine (esc_any inn1 wr HEZ.out (HT.out.next HB.out) _ HR1.out).mono ?_
          rintro e w1 ⟨rfl, b1⟩
          have HB1 := Lib.hid (HB.out.trans (b1.mono HB.out.size))
          have HI1 := Lib.hid (builder_below HI.out b1)
          have hz10 : w.heap.size ≤ w1.heap.size := HB1.out.size
          clear b1
          go_wp2_with fail
          refine Calls.mono (Tryd.Builder_WriteString_k w.heap.size w.heap.size (Lib.byteCells acc) _ w1 HI1.out ?_ hz10) ?_
          · rw [Lib.byteCells_length]; omega
          rintro e w4 ⟨rfl, h4, b4, k4⟩
          have hc4 : IsBuilderF 39 5 w.heap.size w.heap.size (Lib.byteCells (acc ++ T.data.toList)) w4 := by
            rw [Lib.byteCells_append]; exact .inr h4
          have HC4 := Lib.hid hc4
          have HB4 := Lib.hid (HB1.out.trans b4)
          clear h4 b4 k4 hc4
          go_wp2_with fail
          go_roundw
          case rel => exact ⟨inn3, g, acc ++ T.data.toList, rfl, HC4.out, HB4.out, HNN.out, by omega, by omega, by rw [List.length_append, dl_len]; omega⟩
          case measure => simp [szOf]; omega
      · have e92 : ((c : Int) == 92) = false := beq_false' (by omega)
        have hpv : pieceV inn = (inn.extract 0 1, 1) := by unfold pieceV; rw [hc, if_neg h92]
        rw [hpv] at hN hpl
        have hTz : (inn.extract 0 1).size = 1 := by simp; omega
        obtain ⟨T, hT⟩ : ∃ T, inn.extract 0 1 = T := ⟨_, rfl⟩
        have hez3 : (inn.extract 1 inn.size).size = inn.size - 1 := by simp
        obtain ⟨inn3, hi3⟩ : ∃ inn3, inn.extract 1 inn.size = inn3 := ⟨_, rfl⟩
        simp only at hN
        rw [if_neg (by decide), show ((1 : Int)).toNat = 1 from rfl, hi3, hT] at hN
        rw [hi3] at hs2 hez3
        rw [hT] at hs1 hTz
        have HNN := Lib.hid (show U = (unqF g inn3).map ((acc ++ T.data.toList) ++ ·) by
          rw [hN]; cases unqF g inn3 <;> simp)
        clear hN hpv hpl hi3 hT hc h92
        go_wp2_with fail
        refine Calls.mono (Tryd.Builder_WriteString_k w.heap.size w.heap.size (Lib.byteCells acc) _ wr HI.out ?_ hz0) ?_
        · rw [Lib.byteCells_length]; omega
        rintro e w4 ⟨rfl, h4, b4, k4⟩
        have hc4 : IsBuilderF 39 5 w.heap.size w.heap.size (Lib.byteCells (acc ++ T.data.toList)) w4 := by
          rw [Lib.byteCells_append]; exact .inr h4
        have HC4 := Lib.hid hc4
        have HB4 := Lib.hid (HB.out.trans b4)
        clear h4 b4 k4 hc4
        go_wp2_with fail
        go_roundw
        case rel => exact ⟨inn3, g, acc ++ T.data.toList, rfl, HC4.out, HB4.out, HNN.out, by omega, by omega, by rw [List.length_append, dl_len]; omega⟩
        case measure => simp [szOf]; omega

theorem unq_any (s : ByteArray) (w : World) (hs : s.size ≤ 200000) (hT : Tabs2 w) (R : ByteArray × Bool) (hR : unquoteV s = R) :
    Calls Tryd.prog 18 #[.string s] w fun e w' => e = .returned (.tuple #[.string R.1, .bool R.2]) ∧ Below w.heap.size w w' := by
  by_cases h : s.size < 2 ∨ (s.get! 0).toNat ≠ 34 ∨ (s.get! (s.size - 1)).toNat ≠ 34
  · rw [unquoteV_bad h] at hR; subst hR; exact unq_bad s w hs h
  · unfold unquoteV at hR
    rw [if_neg h] at hR
    exact unq_main s w hs hT (by omega) (by omega) (by omega) _ rfl R hR
end Go.Proofs.YtojchifegifecaaDoor.R
