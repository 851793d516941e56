/- Several texts in one. -/
import Derived.Test.YtlbkbjeajcadiaaGreatDoorMrg1
import Derived.Lib.DecodeN
import Derived.Test.YtlbkbjeajcadiaaGreatDoorMrg2
import Derived.Lib.RuneCount
import Derived.OwnWalk

/- Plain arithmetic: the reference's reading of a rune is the model's own decode. -/
namespace Go.Proofs.YtlbkbjeajcadiaaGreatDoor.R
open Go.RowKit Go.PlainAid Go.Lib

def tlN (n i b : Nat) : Int := if i < n ∧ 128 ≤ b ∧ b ≤ 191 then (b : Int) - 128 else -1
theorem tlN_neg {n i b : Nat} (h : ¬ (i < n ∧ b / 64 = 2)) (_hb : b < 256) : tlN n i b = -1 := by unfold tlN; rw [if_neg (by omega)]
theorem tlN_pos {n i b : Nat} (h : i < n ∧ b / 64 = 2) (_hb : b < 256) : tlN n i b = (b % 64 : Nat) := by unfold tlN; rw [if_pos (by omega)]; omega

/-- what the reference says of the model's rune and width -/
def ofDec (d : Nat × Nat) : Int × Int := if d.1 = 65533 ∧ d.2 = 1 then (-1, 1) else (d.1, d.2)
theorem ofDec_bad : ofDec (65533, 1) = (-1, 1) := by simp [ofDec]
theorem ofDec_ok {v n : Nat} (h : ¬ (v = 65533 ∧ n = 1)) : ofDec (v, n) = ((v : Int), (n : Int)) := by unfold ofDec; rw [if_neg (by simpa using h)]

theorem refV_dec (n b0 b1 b2 b3 : Nat) (h0 : b0 < 256) (h1 : b1 < 256) (h2 : b2 < 256) (h3 : b3 < 256) :
    refV b0 (tlN n 1 b1) (tlN n 2 b2) (tlN n 3 b3) = ofDec (decodeN n b0 b1 b2 b3) := by
  by_cases c1 : b0 < 128
  · unfold refV decodeN
    rw [if_pos (by omega), if_pos c1, ofDec_ok (by omega)]; rfl
  by_cases c2 : b0 < 194 ∨ 244 < b0
  · have e : decodeN n b0 b1 b2 b3 = (65533, 1) := by
      unfold decodeN
      rw [if_neg c1]
      split
      · rw [if_neg (by omega)]
      · split
        · omega
        · split
          · rw [if_neg (by omega)]
          · rfl
    rw [e, ofDec_bad]
    unfold refV
    rw [if_neg (by omega), if_neg (by omega), if_neg (by omega), if_neg (by omega)]
  by_cases c3 : b0 ≤ 223
  · unfold refV
    rw [if_neg (by omega), if_pos (by omega)]
    by_cases t1 : 1 < n ∧ b1 / 64 = 2
    · have e : decodeN n b0 b1 b2 b3 = (b0 % 32 * 64 + b1 % 64, 2) := by
        unfold decodeN
        rw [if_neg c1, if_pos ⟨by omega, t1⟩, if_pos (by omega)]
      rw [e, tlN_pos t1 h1, if_neg (by omega), ofDec_ok (by omega)]
      refine Prod.ext ?_ rfl
      show (64 : Int) * (b0 - 192) + (b1 % 64 : Nat) = ((b0 % 32 * 64 + b1 % 64 : Nat) : Int)
      omega
    · have e : decodeN n b0 b1 b2 b3 = (65533, 1) := by
        unfold decodeN
        rw [if_neg c1, if_neg (fun h => t1 h.2), if_neg (by omega), if_neg (by omega)]
      rw [e, tlN_neg t1 h1, if_pos (by omega), ofDec_bad]
  by_cases c4 : b0 ≤ 239
  · unfold refV
    rw [if_neg (by omega), if_neg (by omega), if_pos (by omega)]
    have a1 : ¬ (b0 / 32 = 6 ∧ (1 < n ∧ b1 / 64 = 2)) := by omega
    have a3 : ¬ (b0 / 8 = 30 ∧ (1 < n ∧ b1 / 64 = 2) ∧ (2 < n ∧ b2 / 64 = 2) ∧ (3 < n ∧ b3 / 64 = 2)) := by omega
    by_cases t1 : 1 < n ∧ b1 / 64 = 2
    · by_cases t2 : 2 < n ∧ b2 / 64 = 2
      · have e : decodeN n b0 b1 b2 b3 = if b0 % 16 * 4096 + b1 % 64 * 64 + b2 % 64 ≥ 2048 ∧ (b0 % 16 * 4096 + b1 % 64 * 64 + b2 % 64 < 55296 ∨ (57344 ≤ b0 % 16 * 4096 + b1 % 64 * 64 + b2 % 64 ∧ b0 % 16 * 4096 + b1 % 64 * 64 + b2 % 64 ≤ 1114111)) then (b0 % 16 * 4096 + b1 % 64 * 64 + b2 % 64, 3) else (65533, 1) := by
          unfold decodeN
          rw [if_neg c1, if_neg a1, if_pos ⟨by omega, t1, t2⟩]
        rw [e, tlN_pos t1 h1, tlN_pos t2 h2, if_neg (by omega), if_neg (by omega)]
        by_cases g : b0 % 16 * 4096 + b1 % 64 * 64 + b2 % 64 ≥ 2048 ∧ (b0 % 16 * 4096 + b1 % 64 * 64 + b2 % 64 < 55296 ∨ (57344 ≤ b0 % 16 * 4096 + b1 % 64 * 64 + b2 % 64 ∧ b0 % 16 * 4096 + b1 % 64 * 64 + b2 % 64 ≤ 1114111))
        · rw [if_pos g, if_neg (by omega), ofDec_ok (by omega)]
          refine Prod.ext ?_ rfl
          show (64 : Int) * (64 * (b0 - 224) + (b1 % 64 : Nat)) + (b2 % 64 : Nat) = ((b0 % 16 * 4096 + b1 % 64 * 64 + b2 % 64 : Nat) : Int)
          omega
        · rw [if_neg g, if_pos (by omega), ofDec_bad]
      · have e : decodeN n b0 b1 b2 b3 = (65533, 1) := by
          unfold decodeN
          rw [if_neg c1, if_neg a1, if_neg (fun h => t2 h.2.2), if_neg a3]
        rw [e, tlN_pos t1 h1, tlN_neg t2 h2, if_neg (by omega), if_pos (by omega), ofDec_bad]
    · have e : decodeN n b0 b1 b2 b3 = (65533, 1) := by
        unfold decodeN
        rw [if_neg c1, if_neg a1, if_neg (fun h => t1 h.2.1), if_neg a3]
      rw [e, tlN_neg t1 h1, if_pos (by omega), ofDec_bad]
  · unfold refV
    rw [if_neg (by omega), if_neg (by omega), if_neg (by omega), if_pos (by omega)]
    have a1 : ¬ (b0 / 32 = 6 ∧ (1 < n ∧ b1 / 64 = 2)) := by omega
    have a2 : ¬ (b0 / 16 = 14 ∧ (1 < n ∧ b1 / 64 = 2) ∧ (2 < n ∧ b2 / 64 = 2)) := by omega
    by_cases t1 : 1 < n ∧ b1 / 64 = 2
    · by_cases t2 : 2 < n ∧ b2 / 64 = 2
      · by_cases t3 : 3 < n ∧ b3 / 64 = 2
        · have e : decodeN n b0 b1 b2 b3 = if b0 % 8 * 262144 + b1 % 64 * 4096 + b2 % 64 * 64 + b3 % 64 ≥ 65536 ∧ (b0 % 8 * 262144 + b1 % 64 * 4096 + b2 % 64 * 64 + b3 % 64 < 55296 ∨ (57344 ≤ b0 % 8 * 262144 + b1 % 64 * 4096 + b2 % 64 * 64 + b3 % 64 ∧ b0 % 8 * 262144 + b1 % 64 * 4096 + b2 % 64 * 64 + b3 % 64 ≤ 1114111)) then (b0 % 8 * 262144 + b1 % 64 * 4096 + b2 % 64 * 64 + b3 % 64, 4) else (65533, 1) := by
            unfold decodeN
            rw [if_neg c1, if_neg a1, if_neg a2, if_pos ⟨by omega, t1, t2, t3⟩]
          rw [e, tlN_pos t1 h1, tlN_pos t2 h2, tlN_pos t3 h3, if_neg (by omega), if_neg (by omega), if_neg (by omega)]
          by_cases g : b0 % 8 * 262144 + b1 % 64 * 4096 + b2 % 64 * 64 + b3 % 64 ≥ 65536 ∧ (b0 % 8 * 262144 + b1 % 64 * 4096 + b2 % 64 * 64 + b3 % 64 < 55296 ∨ (57344 ≤ b0 % 8 * 262144 + b1 % 64 * 4096 + b2 % 64 * 64 + b3 % 64 ∧ b0 % 8 * 262144 + b1 % 64 * 4096 + b2 % 64 * 64 + b3 % 64 ≤ 1114111))
          · rw [if_pos g, if_neg (by omega), ofDec_ok (by omega)]
            refine Prod.ext ?_ rfl
            show (64 : Int) * (64 * (64 * (b0 - 240) + (b1 % 64 : Nat)) + (b2 % 64 : Nat)) + (b3 % 64 : Nat) = ((b0 % 8 * 262144 + b1 % 64 * 4096 + b2 % 64 * 64 + b3 % 64 : Nat) : Int)
            omega
          · rw [if_neg g, if_pos (by omega), ofDec_bad]
        · have e : decodeN n b0 b1 b2 b3 = (65533, 1) := by
            unfold decodeN
            rw [if_neg c1, if_neg a1, if_neg a2, if_neg (fun h => t3 h.2.2.2)]
          rw [e, tlN_pos t1 h1, tlN_pos t2 h2, tlN_neg t3 h3, if_neg (by omega), if_neg (by omega), if_pos (by omega), ofDec_bad]
      · have e : decodeN n b0 b1 b2 b3 = (65533, 1) := by
          unfold decodeN
          rw [if_neg c1, if_neg a1, if_neg a2, if_neg (fun h => t2 h.2.2.1)]
        rw [e, tlN_pos t1 h1, tlN_neg t2 h2, if_neg (by omega), if_pos (by omega), ofDec_bad]
    · have e : decodeN n b0 b1 b2 b3 = (65533, 1) := by
        unfold decodeN
        rw [if_neg c1, if_neg a1, if_neg a2, if_neg (fun h => t1 h.2.1)]
      rw [e, tlN_neg t1 h1, if_pos (by omega), ofDec_bad]

theorem bt_get (s : ByteArray) {k : Nat} (h : k < s.size) : bt s k = ((s.get! k).toNat : Int) := by
  unfold bt
  rw [dif_pos h]
  have e : s.get! k = s[k]'h := by
    cases s with
    | mk d => exact getElem!_pos d k h
  rw [e]
theorem tl_tlN (s : ByteArray) (k i : Nat) : tl s (k + i) = tlN (s.size - k) i (s.get! (k + i)).toNat := by
  unfold tl tlN
  by_cases h : k + i < s.size
  · rw [bt_get s h]
    by_cases g : 128 ≤ (s.get! (k + i)).toNat ∧ (s.get! (k + i)).toNat ≤ 191
    · rw [if_pos (by omega), if_pos (by omega)]
    · rw [if_neg (by omega), if_neg (by omega)]
  · rw [if_neg (by omega), if_neg (by omega)]
theorem u8_lt (b : UInt8) : b.toNat < 256 := b.toNat_lt
/-- THE REFERENCE's RUNE IS THE MODEL's. -/
theorem refAt_dec (s : ByteArray) {k : Nat} (h : k < s.size) : refAt s k = ofDec (Utf8.decode s k) := by
  rw [decode_at, ← refV_dec _ _ _ _ _ (u8_lt _) (u8_lt _) (u8_lt _) (u8_lt _)]
  unfold refAt
  rw [bt_get s h, tl_tlN, tl_tlN, tl_tlN]
end Go.Proofs.YtlbkbjeajcadiaaGreatDoor.R

/- stonecropref04.At and Runes, at every text. -/
namespace Go.Proofs.YtlbkbjeajcadiaaGreatDoor.R
open Go.RowKit Go.PlainAid Go.Lib

theorem ret_agg2 {a b : Int} {p : Int × Int} (h : p = (a, b)) : Ending.returned (.agg #[.int .i64 a, .int .i64 b]) = .returned (.agg #[.int .i64 p.1, .int .i64 p.2]) := by rw [h]
theorem at_of {s : ByteArray} {k : Nat} {w : World} {a b : Int} (h : refAt s k = (a, b))
    (hc : Calls Tryz.prog 165 #[.string s, .int .i64 k] w fun e w' => e = .returned (.agg #[.int .i64 a, .int .i64 b]) ∧ Below w.heap.size w w') :
    Calls Tryz.prog 165 #[.string s, .int .i64 k] w fun e w' => e = .returned (.agg #[.int .i64 (refAt s k).1, .int .i64 (refAt s k).2]) ∧ Below w.heap.size w w' :=
  hc.mono fun _ _ ⟨he, hb⟩ => ⟨he.trans (ret_agg2 h), hb⟩

theorem at_any (s : ByteArray) (k : Nat) (w : World) (hs : s.size ≤ 140737488355328) (hk : k < s.size) :
    Calls Tryz.prog 165 #[.string s, .int .i64 k] w fun e w' => e = .returned (.agg #[.int .i64 (refAt s k).1, .int .i64 (refAt s k).2]) ∧ Below w.heap.size w w' := by
  have t1l := tl_le s (k + 1)
  have t2l := tl_le s (k + 2)
  have t3l := tl_le s (k + 3)
  by_cases c1 : bt s k < 128
  · exact at_of (by unfold refAt refV; rw [if_pos c1]) (at_a s k w hs hk c1)
  by_cases c2 : bt s k < 194
  · exact at_of (by unfold refAt refV; rw [if_neg c1, if_neg (by omega), if_neg (by omega), if_neg (by omega)]) (at_b1 s k w hs hk (by omega) c2)
  by_cases c3 : 244 < bt s k
  · exact at_of (by unfold refAt refV; rw [if_neg c1, if_neg (by omega), if_neg (by omega), if_neg (by omega)]) (at_b2 s k w hs hk c3)
  by_cases c4 : bt s k ≤ 223
  · by_cases t1 : tl s (k + 1) < 0
    · exact at_of (by unfold refAt refV; rw [if_neg c1, if_pos (by omega), if_pos t1]) (at_c10 s k w hs hk (by omega) c4 t1)
    · exact at_of (by unfold refAt refV; rw [if_neg c1, if_pos (by omega), if_neg t1]) (at_c1k s k w hs hk (by omega) c4 (by omega))
  by_cases c5 : bt s k ≤ 239
  · by_cases t1 : tl s (k + 1) < 0
    · exact at_of (by unfold refAt refV; rw [if_neg c1, if_neg (by omega), if_pos (by omega), if_pos t1]) (at_c20 s k w hs hk (by omega) c5 t1)
    by_cases t2 : tl s (k + 2) < 0
    · exact at_of (by unfold refAt refV; rw [if_neg c1, if_neg (by omega), if_pos (by omega), if_neg t1, if_pos t2]) (at_c21 s k w hs hk (by omega) c5 (by omega) t2)
    by_cases v1 : 64 * (64 * (bt s k - 224) + tl s (k + 1)) + tl s (k + 2) < 2048
    · exact at_of (by unfold refAt refV; rw [if_neg c1, if_neg (by omega), if_pos (by omega), if_neg t1, if_neg t2, if_pos (by omega)]) (at_c2x s k w hs hk (by omega) c5 v1 (by omega) (by omega))
    by_cases v2 : 64 * (64 * (bt s k - 224) + tl s (k + 1)) + tl s (k + 2) < 55296
    · exact at_of (by unfold refAt refV; rw [if_neg c1, if_neg (by omega), if_pos (by omega), if_neg t1, if_neg t2, if_neg (by omega)]) (at_c2k s k w hs hk (by omega) c5 (by omega) v2 (by omega) (by omega))
    by_cases v3 : 64 * (64 * (bt s k - 224) + tl s (k + 1)) + tl s (k + 2) ≤ 57343
    · exact at_of (by unfold refAt refV; rw [if_neg c1, if_neg (by omega), if_pos (by omega), if_neg t1, if_neg t2, if_pos (by omega)]) (at_c2y s k w hs hk (by omega) c5 (by omega) v3 (by omega) (by omega))
    · exact at_of (by unfold refAt refV; rw [if_neg c1, if_neg (by omega), if_pos (by omega), if_neg t1, if_neg t2, if_neg (by omega)]) (at_c2l s k w hs hk (by omega) c5 (by omega) (by omega) (by omega))
  · by_cases t1 : tl s (k + 1) < 0
    · exact at_of (by unfold refAt refV; rw [if_neg c1, if_neg (by omega), if_neg (by omega), if_pos (by omega), if_pos t1]) (at_c30 s k w hs hk (by omega) (by omega) t1)
    by_cases t2 : tl s (k + 2) < 0
    · exact at_of (by unfold refAt refV; rw [if_neg c1, if_neg (by omega), if_neg (by omega), if_pos (by omega), if_neg t1, if_pos t2]) (at_c31 s k w hs hk (by omega) (by omega) (by omega) t2)
    by_cases t3 : tl s (k + 3) < 0
    · exact at_of (by unfold refAt refV; rw [if_neg c1, if_neg (by omega), if_neg (by omega), if_pos (by omega), if_neg t1, if_neg t2, if_pos t3]) (at_c32 s k w hs hk (by omega) (by omega) (by omega) (by omega) t3)
    by_cases v1 : 64 * (64 * (64 * (bt s k - 240) + tl s (k + 1)) + tl s (k + 2)) + tl s (k + 3) < 65536
    · exact at_of (by unfold refAt refV; rw [if_neg c1, if_neg (by omega), if_neg (by omega), if_pos (by omega), if_neg t1, if_neg t2, if_neg t3, if_pos (by omega)]) (at_c3x s k w hs hk (by omega) (by omega) v1 (by omega) (by omega) (by omega))
    by_cases v2 : 1114111 < 64 * (64 * (64 * (bt s k - 240) + tl s (k + 1)) + tl s (k + 2)) + tl s (k + 3)
    · exact at_of (by unfold refAt refV; rw [if_neg c1, if_neg (by omega), if_neg (by omega), if_pos (by omega), if_neg t1, if_neg t2, if_neg t3, if_pos (by omega)]) (at_c3y s k w hs hk (by omega) (by omega) v2 (by omega) (by omega) (by omega))
    · exact at_of (by unfold refAt refV; rw [if_neg c1, if_neg (by omega), if_neg (by omega), if_pos (by omega), if_neg t1, if_neg t2, if_neg t3, if_neg (by omega)]) (at_c3k s k w hs hk (by omega) (by omega) (by omega) (by omega) (by omega) (by omega) (by omega))

/-! ### the list of all runes -/
/-- the runes from a place on, as the reference tells them -/
def rfrom (s : ByteArray) : Nat → Nat → List (Int × Int)
  | 0, _ => []
  | f + 1, k => if k < s.size then ofDec (Utf8.decode s k) :: rfrom s f (k + (Utf8.decode s k).2) else []
def rl (s : ByteArray) : List (Int × Int) := rfrom s s.size 0

theorem ofDec_snd (d : Nat × Nat) : (ofDec d).2 = (d.2 : Int) := by
  unfold ofDec; split
  · rename_i h; rw [h.2]; rfl
  · rfl
theorem decN_width (n b0 b1 b2 b3 : Nat) (hn : 1 ≤ n) : 1 ≤ (decodeN n b0 b1 b2 b3).2 ∧ (decodeN n b0 b1 b2 b3).2 ≤ n ∧ (decodeN n b0 b1 b2 b3).1 ≤ 1114111 := by
  unfold decodeN
  repeat' split
  all_goals (simp only []; omega)
theorem dec_width (s : ByteArray) (k : Nat) (h : k < s.size) : 1 ≤ (Utf8.decode s k).2 ∧ k + (Utf8.decode s k).2 ≤ s.size ∧ (Utf8.decode s k).1 ≤ 1114111 := by
  rw [decode_at]
  have := decN_width (s.size - k) (s.get! k).toNat (s.get! (k + 1)).toNat (s.get! (k + 2)).toNat (s.get! (k + 3)).toNat (by omega)
  omega
theorem rfrom_end (s : ByteArray) (f k : Nat) (h : ¬ k < s.size) : rfrom s f k = [] := by cases f <;> simp [rfrom, h]
theorem rfrom_length (s : ByteArray) : ∀ f k, (rfrom s f k).length ≤ f
  | 0, _ => Nat.le_refl _
  | f + 1, k => by
    simp only [rfrom]; split
    · simp only [List.length_cons]; have := rfrom_length s f (k + (Utf8.decode s k).2); omega
    · simp
theorem rl_length (s : ByteArray) : (rl s).length ≤ s.size := rfrom_length s _ _
def cellsR (l : List (Int × Int)) : List Value := l.flatMap fun p => [.int .i64 p.1, .int .i64 p.2]
theorem cellsR_snoc (l : List (Int × Int)) (p : Int × Int) : cellsR (l ++ [p]) = cellsR l ++ [.int .i64 p.1, .int .i64 p.2] := by simp [cellsR]
theorem cellsR_length (l : List (Int × Int)) : (cellsR l).length = l.length * 2 := by
  induction l with
  | nil => rfl
  | cons p l ih => simp only [cellsR, List.flatMap_cons, List.length_append, List.length_cons, List.length_nil] at *; omega
theorem own_below {w w' : World} {base : Nat} {e : TypeId} {size : Nat} {v : Value} {n : Nat} {xs : List Value} (h : w.ownsRow base e size v n xs) (hb : Below w.heap.size w w') : w'.ownsRow base e size v n xs :=
  h.kept (row := none) ⟨hb.os, hb.tape, hb.output, hb.size, fun k hk _ => hb.block k hk⟩ (Classical.em _)
theorem info_rune : (Tryz.prog.info? 176).map (fun i => (i.zero, i.size, i.bytes)) = some (some (.agg #[.int .i64 0, .int .i64 0]), 2, 16) := by kernel_rfl

set_option maxRecDepth 100000 in
set_option maxHeartbeats 1000000 in
theorem runes_any (s : ByteArray) (w : World) (hs : s.size ≤ 1000000) :
    Calls Tryz.prog 131 #[.string s] w fun e w' => ∃ v, e = .returned v ∧ w'.ownsRow w.heap.size 176 2 v (rl s).length (cellsR (rl s)) ∧ Below w.heap.size w w' := by
  obtain ⟨i0, hi0, hz0, hz1, hz2⟩ := info_parts info_rune
  go_enter Tryz.func131, Tryz.ntmps131
  go_wp2_with fail
  go_loopw [3, 4] (fun v i wr => ∃ f k acc, k ≤ s.size ∧ s.size ≤ k + f ∧ i = .int .i64 k ∧ rl s = acc ++ rfrom s f k ∧ wr.ownsRow w.heap.size 176 2 v acc.length (cellsR acc) ∧ acc.length ≤ k ∧ Below w.heap.size w wr) (fun _ i _ => s.size - (intOf i).toNat)
  case atStart => exact ⟨s.size, 0, [], by omega, by omega, rfl, rfl, World.ownsRow_nil _ _ _ _, Nat.le_refl _, Below.refl _ _⟩
  case round =>
    obtain ⟨f, k, acc, hk, hf, rfl, hacc, hown, hlen, hbel⟩ := hrel
    have HA := Lib.hid hacc
    clear hacc
    by_cases hlt : k < s.size
    · have hd := dec_width s k hlt
      obtain ⟨d, hd0⟩ : ∃ d, Utf8.decode s k = d := ⟨_, rfl⟩
      have HD := Lib.hid hd0
      rw [hd0] at hd
      clear hd0
      obtain ⟨V, hV⟩ : ∃ V, refAt s k = V := ⟨_, rfl⟩
      have HV := Lib.hid hV
      have HN := Lib.hid (show V.2 = (d.2 : Int) by rw [← hV, refAt_dec s hlt, ofDec_snd, HD.out])
      have hsz := hbel.size
      go_wp2_with fail
      refine (at_any s k _ (by omega) hlt).mono ?_
      rintro e w1 ⟨rfl, b1⟩
      rw [hV]
      clear hV
      have hown1 := own_below hown b1
      have hbel1 := hbel.trans (b1.mono hsz)
      clear b1 hown hbel hsz
      have hs1 := hbel1.size
      go_wp2_with (at_builtin; refine wpList_append_own _ rfl (.tmp 13) (.tmp 15) 173 rfl w.heap.size 176 i0 (.agg #[.int .i64 0, .int .i64 0]) 2 16 Tryz.underlying173 hi0 hz0 hz1 hz2 rfl (by decide) _ _ _ rfl ((hown1.alloc _).alloc _) ⟨w1.heap.size + 1, 0, none⟩ 1 1 [.int .i64 V.1, .int .i64 V.2] rfl rfl ?c1 ?c2 ?c3 ?c4 ?c5 ?_)
      case c1 =>
        intro j u hj
        match j, hj with
        | 0, hj => simp at hj; subst hj; simp [Addr.add]
        | 1, hj => simp at hj; subst hj; simp [Addr.add]
      case c2 => intro u hu; simp at hu; rcases hu with rfl | rfl <;> rfl
      case c3 => unfold maxLen; omega
      case c4 => omega
      case c5 => simp; omega
      intro v' w2 hown2 hgrow _
      have hc : w2.cell? ⟨w1.heap.size, 1, none⟩ = some (.int .i64 V.2) := by
        rw [World.cell?_of_block (w := (w1.alloc (.cells #[.int .i64 V.1, .int .i64 V.2] 176)).alloc (.cells #[.int .i64 V.1, .int .i64 V.2] 176)) (hgrow.block w1.heap.size (by simp; omega) (fun e => by have := (hown1.lt _ e.symm).2; omega))]
        simp
      have hbel2 : Below w.heap.size w w2 := ((hbel1.alloc hs1 _).alloc (by simp; omega) _).grown hgrow (by simp; omega) (fun j e => (hown1.lt _ e).1)
      have hv0 : 0 ≤ V.2 := by rw [HN.out]; omega
      have hv1 : V.2 ≤ 1000000 := by rw [HN.out]; omega
      clear hgrow hown1 hbel1 hs1
      go_wp2_with fail
      go_roundw
      case rel => exact ⟨f - 1, k + d.2, acc ++ [V], by omega, by omega, by rw [HN.out]; go_num, (by
        rw [HA.out]
        have e : rfrom s f k = V :: rfrom s (f - 1) (k + d.2) := by
          obtain ⟨g, rfl⟩ : ∃ g, f = g + 1 := ⟨f - 1, by omega⟩
          rw [rfrom, if_pos hlt, ← refAt_dec s hlt, HV.out, HD.out]; rfl
        rw [e, List.append_assoc]; rfl), by rw [cellsR_snoc, List.length_append]; exact hown2, by simp; omega, hbel2⟩
      case measure => have hN := HN.out; simp [intOf]; omega
    · go_wp2_with fail
      go_ret
      have e := HA.out
      rw [rfrom_end s f k hlt, List.append_nil] at e
      exact ⟨_, rfl, by rw [e]; exact hown, hbel⟩
end Go.Proofs.YtlbkbjeajcadiaaGreatDoor.R
