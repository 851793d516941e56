/- stonecropref04.At and Runes, at every text. -/
import Derived.Test.YtpeiamllkddhiaaGreatDoorMrg1
import Derived.Test.YtpeiamllkddhiaaGreatDoorMrg2
import Derived.Lib.RuneCount
import Derived.OwnWalk
namespace Go.Proofs.YtpeiamllkddhiaaGreatDoor.R
open Go.RowKit Go.PlainAid Go.Lib

theorem ret_agg2 {a b : Int} {p : Int × Int} (h : p = (a, b)) : Ending.returned (.agg #[.int .i64 a, .int .i64 b]) = .returned (.agg #[.int .i64 p.1, .int .i64 p.2]) := by rw [h]
theorem at_of {s : ByteArray} {k : Nat} {w : World} {a b : Int} (h : refAt s k = (a, b))
    (hc : Calls Tryz.prog 51 #[.string s, .int .i64 k] w fun e w' => e = .returned (.agg #[.int .i64 a, .int .i64 b]) ∧ Below w.heap.size w w') :
    Calls Tryz.prog 51 #[.string s, .int .i64 k] w fun e w' => e = .returned (.agg #[.int .i64 (refAt s k).1, .int .i64 (refAt s k).2]) ∧ Below w.heap.size w w' :=
  hc.mono fun _ _ ⟨he, hb⟩ => ⟨he.trans (ret_agg2 h), hb⟩

theorem at_any (s : ByteArray) (k : Nat) (w : World) (hs : s.size ≤ 140737488355328) (hk : k < s.size) :
    Calls Tryz.prog 51 #[.string s, .int .i64 k] w fun e w' => e = .returned (.agg #[.int .i64 (refAt s k).1, .int .i64 (refAt s k).2]) ∧ Below w.heap.size w w' := by
  have t1l := tl_le s (k + 1)
  have t2l := tl_le s (k + 2)
  have t3l := tl_le s (k + 3)
  by_cases c1 : bt s k < 128
  · exact at_of (by unfold refAt refV; rw [if_pos c1]) (at_a s k w hs hk c1)
  by_cases c2 : bt s k < 194
  · exact at_of (by unfold refAt refV; rw [if_neg c1, if_neg (by omega), if_neg (by omega), if_neg (by omega)]) (at_b1 s k w hs hk (by omega) c2)
  by_cases c3 : 244 < bt s k
  · exact at_of (by unfold refAt refV; rw [if_neg c1, if_neg (by omega), if_neg (by omega), if_neg (by omega)]) (at_b2 s k w hs hk c3)
  by_cases c4 : bt s k ≤ 223
  · by_cases t1 : tl s (k + 1) < 0
    · exact at_of (by unfold refAt refV; rw [if_neg c1, if_pos (by omega), if_pos t1]) (at_c10 s k w hs hk (by omega) c4 t1)
    · exact at_of (by unfold refAt refV; rw [if_neg c1, if_pos (by omega), if_neg t1]) (at_c1k s k w hs hk (by omega) c4 (by omega))
  by_cases c5 : bt s k ≤ 239
  · by_cases t1 : tl s (k + 1) < 0
    · exact at_of (by unfold refAt refV; rw [if_neg c1, if_neg (by omega), if_pos (by omega), if_pos t1]) (at_c20 s k w hs hk (by omega) c5 t1)
    by_cases t2 : tl s (k + 2) < 0
    · exact at_of (by unfold refAt refV; rw [if_neg c1, if_neg (by omega), if_pos (by omega), if_neg t1, if_pos t2]) (at_c21 s k w hs hk (by omega) c5 (by omega) t2)
    by_cases v1 : 64 * (64 * (bt s k - 224) + tl s (k + 1)) + tl s (k + 2) < 2048
    · exact at_of (by unfold refAt refV; rw [if_neg c1, if_neg (by omega), if_pos (by omega), if_neg t1, if_neg t2, if_pos (by omega)]) (at_c2x s k w hs hk (by omega) c5 v1 (by omega) (by omega))
    by_cases v2 : 64 * (64 * (bt s k - 224) + tl s (k + 1)) + tl s (k + 2) < 55296
    · exact at_of (by unfold refAt refV; rw [if_neg c1, if_neg (by omega), if_pos (by omega), if_neg t1, if_neg t2, if_neg (by omega)]) (at_c2k s k w hs hk (by omega) c5 (by omega) v2 (by omega) (by omega))
    by_cases v3 : 64 * (64 * (bt s k - 224) + tl s (k + 1)) + tl s (k + 2) ≤ 57343
    · exact at_of (by unfold refAt refV; rw [if_neg c1, if_neg (by omega), if_pos (by omega), if_neg t1, if_neg t2, if_pos (by omega)]) (at_c2y s k w hs hk (by omega) c5 (by omega) v3 (by omega) (by omega))
    · exact at_of (by unfold refAt refV; rw [if_neg c1, if_neg (by omega), if_pos (by omega), if_neg t1, if_neg t2, if_neg (by omega)]) (at_c2l s k w hs hk (by omega) c5 (by omega) (by omega) (by omega))
  · by_cases t1 : tl s (k + 1) < 0
    · exact at_of (by unfold refAt refV; rw [if_neg c1, if_neg (by omega), if_neg (by omega), if_pos (by omega), if_pos t1]) (at_c30 s k w hs hk (by omega) (by omega) t1)
    by_cases t2 : tl s (k + 2) < 0
    · exact at_of (by unfold refAt refV; rw [if_neg c1, if_neg (by omega), if_neg (by omega), if_pos (by omega), if_neg t1, if_pos t2]) (at_c31 s k w hs hk (by omega) (by omega) (by omega) t2)
    by_cases t3 : tl s (k + 3) < 0
    · exact at_of (by unfold refAt refV; rw [if_neg c1, if_neg (by omega), if_neg (by omega), if_pos (by omega), if_neg t1, if_neg t2, if_pos t3]) (at_c32 s k w hs hk (by omega) (by omega) (by omega) (by omega) t3)
    by_cases v1 : 64 * (64 * (64 * (bt s k - 240) + tl s (k + 1)) + tl s (k + 2)) + tl s (k + 3) < 65536
    · exact at_of (by unfold refAt refV; rw [if_neg c1, if_neg (by omega), if_neg (by omega), if_pos (by omega), if_neg t1, if_neg t2, if_neg t3, if_pos (by omega)]) (at_c3x s k w hs hk (by omega) (by omega) v1 (by omega) (by omega) (by omega))
    by_cases v2 : 1114111 < 64 * (64 * (64 * (bt s k - 240) + tl s (k + 1)) + tl s (k + 2)) + tl s (k + 3)
    · exact at_of (by unfold refAt refV; rw [if_neg c1, if_neg (by omega), if_neg (by omega), if_pos (by omega), if_neg t1, if_neg t2, if_neg t3, if_pos (by omega)]) (at_c3y s k w hs hk (by omega) (by omega) v2 (by omega) (by omega) (by omega))
    · exact at_of (by unfold refAt refV; rw [if_neg c1, if_neg (by omega), if_neg (by omega), if_pos (by omega), if_neg t1, if_neg t2, if_neg t3, if_neg (by omega)]) (at_c3k s k w hs hk (by omega) (by omega) (by omega) (by omega) (by omega) (by omega) (by omega))

/-! ### the list of all runes -/
/-- the runes from a place on, as the reference tells them -/
def rfrom (s : ByteArray) : Nat → Nat → List (Int × Int)
  | 0, _ => []
  | f + 1, k => if k < s.size then ofDec (Utf8.decode s k) :: rfrom s f (k + (Utf8.decode s k).2) else []
def rl (s : ByteArray) : List (Int × Int) := rfrom s s.size 0

theorem ofDec_snd (d : Nat × Nat) : (ofDec d).2 = (d.2 : Int) := by
  unfold ofDec; split
  · rename_i h; rw [h.2]; rfl
  · rfl
theorem decN_width (n b0 b1 b2 b3 : Nat) (hn : 1 ≤ n) : 1 ≤ (decodeN n b0 b1 b2 b3).2 ∧ (decodeN n b0 b1 b2 b3).2 ≤ n ∧ (decodeN n b0 b1 b2 b3).1 ≤ 1114111 := by
  unfold decodeN
  repeat' split
  all_goals (simp only []; omega)
theorem dec_width (s : ByteArray) (k : Nat) (h : k < s.size) : 1 ≤ (Utf8.decode s k).2 ∧ k + (Utf8.decode s k).2 ≤ s.size ∧ (Utf8.decode s k).1 ≤ 1114111 := by
  rw [decode_at]
  have := decN_width (s.size - k) (s.get! k).toNat (s.get! (k + 1)).toNat (s.get! (k + 2)).toNat (s.get! (k + 3)).toNat (by omega)
  omega
theorem rfrom_end (s : ByteArray) (f k : Nat) (h : ¬ k < s.size) : rfrom s f k = [] := by cases f <;> simp [rfrom, h]
theorem rfrom_length (s : ByteArray) : ∀ f k, (rfrom s f k).length ≤ f
  | 0, _ => Nat.le_refl _
  | f + 1, k => by
    simp only [rfrom]; split
    · simp only [List.length_cons]; have := rfrom_length s f (k + (Utf8.decode s k).2); omega
    · simp
theorem rl_length (s : ByteArray) : (rl s).length ≤ s.size := rfrom_length s _ _
def cellsR (l : List (Int × Int)) : List Value := l.flatMap fun p => [.int .i64 p.1, .int .i64 p.2]
theorem cellsR_snoc (l : List (Int × Int)) (p : Int × Int) : cellsR (l ++ [p]) = cellsR l ++ [.int .i64 p.1, .int .i64 p.2] := by simp [cellsR]
theorem cellsR_length (l : List (Int × Int)) : (cellsR l).length = l.length * 2 := by
  induction l with
  | nil => rfl
  | cons p l ih => simp only [cellsR, List.flatMap_cons, List.length_append, List.length_cons, List.length_nil] at *; omega
theorem own_below {w w' : World} {base : Nat} {e : TypeId} {size : Nat} {v : Value} {n : Nat} {xs : List Value} (h : w.ownsRow base e size v n xs) (hb : Below w.heap.size w w') : w'.ownsRow base e size v n xs :=
  h.kept (row := none) ⟨hb.os, hb.tape, hb.output, hb.size, fun k hk _ => hb.block k hk⟩ (Classical.em _)
theorem info_rune : (Tryz.prog.info? 87).map (fun i => (i.zero, i.size, i.bytes)) = some (some (.agg #[.int .i64 0, .int .i64 0]), 2, 16) := by kernel_rfl

set_option maxRecDepth 100000 in
set_option maxHeartbeats 1000000 in
theorem runes_any (s : ByteArray) (w : World) (hs : s.size ≤ 1000000) :
    Calls Tryz.prog 42 #[.string s] w fun e w' => ∃ v, e = .returned v ∧ w'.ownsRow w.heap.size 87 2 v (rl s).length (cellsR (rl s)) ∧ Below w.heap.size w w' := by
  obtain ⟨i0, hi0, hz0, hz1, hz2⟩ := info_parts info_rune
  go_enter Tryz.func42, Tryz.ntmps42
  go_wp2_with fail
  go_loopw [3, 4] (fun v i wr => ∃ f k acc, k ≤ s.size ∧ s.size ≤ k + f ∧ i = .int .i64 k ∧ rl s = acc ++ rfrom s f k ∧ wr.ownsRow w.heap.size 87 2 v acc.length (cellsR acc) ∧ acc.length ≤ k ∧ Below w.heap.size w wr) (fun _ i _ => s.size - (intOf i).toNat)
  case atStart => exact ⟨s.size, 0, [], by omega, by omega, rfl, rfl, World.ownsRow_nil _ _ _ _, Nat.le_refl _, Below.refl _ _⟩
  case round =>
    obtain ⟨f, k, acc, hk, hf, rfl, hacc, hown, hlen, hbel⟩ := hrel
    have HA := Lib.hid hacc
    clear hacc
    by_cases hlt : k < s.size
    · have hd := dec_width s k hlt
      obtain ⟨d, hd0⟩ : ∃ d, Utf8.decode s k = d := ⟨_, rfl⟩
      have HD := Lib.hid hd0
      rw [hd0] at hd
      clear hd0
      obtain ⟨V, hV⟩ : ∃ V, refAt s k = V := ⟨_, rfl⟩
      have HV := Lib.hid hV
      have HN := Lib.hid (show V.2 = (d.2 : Int) by rw [← hV, refAt_dec s hlt, ofDec_snd, HD.out])
      have hsz := hbel.size
      go_wp2_with fail
      refine (at_any s k _ (by omega) hlt).mono ?_
      rintro e w1 ⟨rfl, b1⟩
      rw [hV]
      clear hV
      have hown1 := own_below hown b1
      have hbel1 := hbel.trans (b1.mono hsz)
      clear b1 hown hbel hsz
      have hs1 := hbel1.size
      go_wp2_with (at_builtin; refine wpList_append_own _ rfl (.tmp 13) (.tmp 15) 84 rfl w.heap.size 87 i0 (.agg #[.int .i64 0, .int .i64 0]) 2 16 Tryz.underlying84 hi0 hz0 hz1 hz2 rfl (by decide) _ _ _ rfl ((hown1.alloc _).alloc _) ⟨w1.heap.size + 1, 0, none⟩ 1 1 [.int .i64 V.1, .int .i64 V.2] rfl rfl ?c1 ?c2 ?c3 ?c4 ?c5 ?_)
      case c1 =>
        intro j u hj
        match j, hj with
        | 0, hj => simp at hj; subst hj; simp [Addr.add]
        | 1, hj => simp at hj; subst hj; simp [Addr.add]
      case c2 => intro u hu; simp at hu; rcases hu with rfl | rfl <;> rfl
      case c3 => unfold maxLen; omega
      case c4 => omega
      case c5 => simp; omega
      intro v' w2 hown2 hgrow _
      have hc : w2.cell? ⟨w1.heap.size, 1, none⟩ = some (.int .i64 V.2) := by
        rw [World.cell?_of_block (w := (w1.alloc (.cells #[.int .i64 V.1, .int .i64 V.2] 87)).alloc (.cells #[.int .i64 V.1, .int .i64 V.2] 87)) (hgrow.block w1.heap.size (by simp; omega) (fun e => by have := (hown1.lt _ e.symm).2; omega))]
        simp
      have hbel2 : Below w.heap.size w w2 := ((hbel1.alloc hs1 _).alloc (by simp; omega) _).grown hgrow (by simp; omega) (fun j e => (hown1.lt _ e).1)
      have hv0 : 0 ≤ V.2 := by rw [HN.out]; omega
      have hv1 : V.2 ≤ 1000000 := by rw [HN.out]; omega
      clear hgrow hown1 hbel1 hs1
      go_wp2_with fail
      go_roundw
      case rel => exact ⟨f - 1, k + d.2, acc ++ [V], by omega, by omega, by rw [HN.out]; go_num, (by
        rw [HA.out]
        have e : rfrom s f k = V :: rfrom s (f - 1) (k + d.2) := by
          obtain ⟨g, rfl⟩ : ∃ g, f = g + 1 := ⟨f - 1, by omega⟩
          rw [rfrom, if_pos hlt, ← refAt_dec s hlt, HV.out, HD.out]; rfl
        rw [e, List.append_assoc]; rfl), by rw [cellsR_snoc, List.length_append]; exact hown2, by simp; omega, hbel2⟩
      case measure => have hN := HN.out; simp [intOf]; omega
    · go_wp2_with fail
      go_ret
      have e := HA.out
      rw [rfrom_end s f k hlt, List.append_nil] at e
      exact ⟨_, rfl, by rw [e]; exact hown, hbel⟩
end Go.Proofs.YtpeiamllkddhiaaGreatDoor.R
