/- The document's example of layer 4, and the law RunesKeys. -/
import Derived.Test.YtojchifegifecaaDoorRunesH
namespace Go.Proofs.YtojchifegifecaaDoor.R
open Go.RowKit Go.PlainAid Go.Lib

/-- what every walk of this layer takes of the library's tables -/
structure Tabs (w : World) : Prop where
  u : Lib.Utf8Tabs 0 1 w
  d : w.cell? ⟨7, 15, none⟩ = some (.int .u8 4)
  l3 : 0 < w.heap.size
  l4 : 1 < w.heap.size
  l7 : 7 < w.heap.size
theorem Tabs.below {w w' : World} {B : Nat} (h : Tabs w) (hb : Below B w w') (h3 : 0 < B) (h4 : 1 < B) (h7 : 7 < B) : Tabs w' :=
  ⟨tabs_of_below h.u hb h3 h4, (hb.cell (p := ⟨7, 15, none⟩) h7).trans h.d, Nat.lt_of_lt_of_le h.l3 hb.size, Nat.lt_of_lt_of_le h.l4 hb.size, Nat.lt_of_lt_of_le h.l7 hb.size⟩
theorem Tabs.next {w w' : World} (h : Tabs w) (hb : Below w.heap.size w w') : Tabs w' := h.below hb h.l3 h.l4 h.l7

theorem quote_t (s : ByteArray) (w : World) (hs : s.size ≤ 1000000) (h : Tabs w) (q : List UInt8) (hq : quoteL s = q) :
    Calls Tryd.prog 17 #[.string s] w fun e w' => e = .returned (.string ⟨q.toArray⟩) ∧ Below w.heap.size w w' ∧ Tabs w' := by
  subst hq
  exact (quote_any s w hs h.u h.l3 h.l4 h.d h.l7).mono fun e w' hh => ⟨hh.1, hh.2, h.next hh.2⟩
theorem key_t (s : ByteArray) (w : World) (hs : s.size ≤ 1000000) (h : Tabs w) (v : Int) (hv : errV (keyV s) = v) :
    Calls Tryd.prog 11 #[.string s] w fun e w' => e = .returned (.int .i64 v) ∧ Below w.heap.size w w' ∧ Tabs w' := by
  subst hv
  exact (key_any s w (by omega) h.u h.l3 h.l4).mono fun e w' hh => ⟨hh.1, hh.2, h.next hh.2⟩
theorem begin_t (s : ByteArray) (w : World) (hs : s.size ≤ 1000000) (h : Tabs w) (v : Int) (hv : errV (beginV s) = v) :
    Calls Tryd.prog 13 #[.string s] w fun e w' => e = .returned (.int .i64 v) ∧ Below w.heap.size w w' ∧ Tabs w' := by
  subst hv
  exact (beginning_any s w (by omega) h.u h.l3 h.l4).mono fun e w' hh => ⟨hh.1, hh.2, h.next hh.2⟩
theorem count_t (s : ByteArray) (w : World) (hs : s.size ≤ 1000000) (h : Tabs w) (n : Nat) (hv : (rl s).length = n) :
    Calls Tryd.prog 9 #[.string s] w fun e w' => e = .returned (.int .i64 n) ∧ Below w.heap.size w w' ∧ Tabs w' := by
  subst hv
  rw [← runeCount_rl]
  exact (count_any s w (by omega)).mono fun e w' hh => ⟨hh.1, hh.2, h.next hh.2⟩

def exS : ByteArray := ⟨#[97, 255, 206, 177]⟩
theorem exS_quote : quoteL exS = [34, 97, 92, 120, 102, 102, 92, 117, 51, 98, 49, 46, 34] := by decide +kernel
theorem exS_count : (rl exS).length = 3 := by decide +kernel
theorem exA_key : errV (keyV ⟨#[97]⟩) = 0 := by decide +kernel
theorem exE_key : errV (keyV ⟨#[]⟩) = 11 := by decide +kernel
theorem conv_ex (w : World) : (convert 35 9 (.slice (some ⟨w.heap.size, 0, none⟩) 4 4)).run Tryd.prog (w.alloc (.cells #[.int .u8 97, .int .u8 255, .int .u8 206, .int .u8 177] 5)) = .ok (.string exS) (w.alloc (.cells #[.int .u8 97, .int .u8 255, .int .u8 206, .int .u8 177] 5)) :=
  run_convert_bytes_back (P := Tryd.prog) _ 35 9 5 ⟨w.heap.size, 0, none⟩ 4 [97, 255, 206, 177] Tryd.underlying35 Tryd.underlying5 Tryd.underlying9 (fun j hj => by
    match j, hj with
    | 0, _ => simp [Addr.add]
    | 1, _ => simp [Addr.add]
    | 2, _ => simp [Addr.add]
    | 3, _ => simp [Addr.add])

set_option maxRecDepth 100000 in
set_option maxHeartbeats 1000000 in
theorem awake_any (w : World) (h : Tabs w) : Calls Tryd.prog 8 #[] w fun e w' => e = .returned (.bool true) ∧ Below w.heap.size w w' := by
  have H := Lib.hid h
  clear h
  have hcv := conv_ex w
  go_enter Tryd.func8, Tryd.ntmps8
  go_wp2_with fail
  have B0 := Lib.hid ((Below.refl w.heap.size w).alloc (Nat.le_refl _) (.cells #[.int .u8 97, .int .u8 255, .int .u8 206, .int .u8 177] 5))
  refine (quote_t exS _ (by decide) (H.out.next B0.out) _ exS_quote).mono ?_
  rintro e w1 ⟨rfl, b1, T1⟩
  have B1 := Lib.hid (B0.out.trans (b1.mono B0.out.size))
  have H1 := Lib.hid T1
  clear b1 T1 hcv
  go_wp2_with fail
  refine (count_t exS w1 (by decide) H1.out 3 exS_count).mono ?_
  rintro e w2 ⟨rfl, b2, T2⟩
  have B2 := Lib.hid (B1.out.trans (b2.mono B1.out.size))
  have H2 := Lib.hid T2
  clear b2 T2
  go_wp2_with fail
  refine (key_t _ w2 (by decide) H2.out 0 exA_key).mono ?_
  rintro e w3 ⟨rfl, b3, T3⟩
  have B3 := Lib.hid (B2.out.trans (b3.mono B2.out.size))
  have H3 := Lib.hid T3
  clear b3 T3
  go_wp2_with fail
  refine (key_t _ w3 (by decide) H3.out 11 exE_key).mono ?_
  rintro e w4 ⟨rfl, b4, T4⟩
  have B4 := Lib.hid (B3.out.trans (b4.mono B3.out.size))
  clear b4 T4
  go_wp2_with fail
  go_ret
  exact ⟨rfl, B4.out⟩
end Go.Proofs.YtojchifegifecaaDoor.R
