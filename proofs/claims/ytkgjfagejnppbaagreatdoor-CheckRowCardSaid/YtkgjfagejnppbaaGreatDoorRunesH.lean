/- The program's Quote, at every text. -/
import Derived.Test.YtkgjfagejnppbaaGreatDoorMrg2
import Derived.StillTailTactics
import Derived.Laws.IdiomStrings
namespace Go.Proofs.YtkgjfagejnppbaaGreatDoor.R
open Go.RowKit Go.PlainAid Go.Lib

theorem builderAt_below {T e : TypeId} {B b : Nat} {p : Value} {bs : List Value} {w w' : World} (h : BuilderAtF T e B b p bs w) (hb : Below w.heap.size w w') : BuilderAtF T e B b p bs w' := by
  obtain ⟨hB, v, h1, hown, hne⟩ := h
  exact ⟨hB, v, heap_of_below h1 hb (heap_lt h1), hown.kept (row := none) ⟨hb.os, hb.tape, hb.output, hb.size, fun k hk _ => hb.block k hk⟩ (Classical.em _), hne⟩
theorem builder_below {T e : TypeId} {B b : Nat} {bs : List Value} {w w' : World} (h : IsBuilderF T e B b bs w) (hb : Below w.heap.size w w') : IsBuilderF T e B b bs w' :=
  h.elim (fun x => .inl (builderAt_below x hb)) (fun x => .inr (builderAt_below x hb))

/-- what stands for a rune in quotes -/
def qPiece (s : ByteArray) (k : Nat) : List UInt8 :=
  if lone s k then [92, 120, dig ((bt s k).toNat / 16), dig ((bt s k).toNat % 16)]
  else if (Utf8.decode s k).1 = 34 ∨ (Utf8.decode s k).1 = 92 then 92 :: Lib.encodeRune (Utf8.decode s k).1
  else if 32 ≤ (Utf8.decode s k).1 ∧ (Utf8.decode s k).1 ≤ 126 then Lib.encodeRune (Utf8.decode s k).1
  else [92, 117] ++ hexL (Utf8.decode s k).1 ++ [46]
def qFrom (s : ByteArray) : Nat → Nat → List UInt8
  | 0, _ => []
  | f + 1, k => if k < s.size then qPiece s k ++ qFrom s f (k + (Utf8.decode s k).2) else []
def quoteL (s : ByteArray) : List UInt8 := [34] ++ qFrom s s.size 0 ++ [34]
theorem qFrom_end (s : ByteArray) (f k : Nat) (h : ¬ k < s.size) : qFrom s f k = [] := by cases f <;> simp [qFrom, h]
theorem qFrom_step (s : ByteArray) {f k : Nat} (h : k < s.size) : qFrom s (f + 1) k = qPiece s k ++ qFrom s f (k + (Utf8.decode s k).2) := by rw [qFrom, if_pos h]

theorem hexD_len : ∀ f n, (hexD f n).length ≤ f + 1
  | 0, _ => by simp [hexD]
  | f + 1, n => by
    simp only [hexD]; split
    · simp
    · rw [List.length_append]; have := hexD_len f (n / 16); simp; omega
theorem enc_len (c : Nat) : (Lib.encodeRune (c : Int)).length ≤ 4 := by
  have := Lib.runeCells_le (c : Int); rw [Lib.runeCells_length] at this; exact this.2
theorem qPiece_len (s : ByteArray) (k : Nat) : (qPiece s k).length ≤ 11 := by
  unfold qPiece
  have h1 := enc_len (Utf8.decode s k).1
  have h2 := hexD_len 7 (Utf8.decode s k).1
  split
  · simp
  · split
    · simp; omega
    · split
      · omega
      · simp [hexL]; omega

set_option maxRecDepth 100000 in
theorem and15_u8 : ∀ m : Fin 256, bits .and .u8 ((m.val : Nat) : Int) 15 = ((m.val % 16 : Nat) : Int) := by decide
theorem dig_enc (x : Nat) (hx : x < 16) : Utf8.encode ((dig x).toNat : Int) = ⟨#[dig x]⟩ := by
  have h : ∀ y : Fin 16, Utf8.encode ((dig y.val).toNat : Int) = ⟨#[dig y.val]⟩ := by decide
  exact h ⟨x, hx⟩
def hexS : ByteArray := ⟨#[48, 49, 50, 51, 52, 53, 54, 55, 56, 57, 97, 98, 99, 100, 101, 102]⟩
theorem hexS_fin : ∀ y : Fin 16, hexS[y.val]'(Nat.lt_of_lt_of_le y.isLt (by decide)) = dig y.val := by decide
theorem hexS_get (x : Nat) (hx : x < 16) (h : x < hexS.size) : hexS[x]'h = dig x := hexS_fin ⟨x, hx⟩

theorem ix_s (s : ByteArray) (k m : Nat) (hk : k < s.size) (hb : ∀ h : k < s.size, ((s[k]'h).toNat : Int) = (m : Int)) (W : World) : (Instr.index 9 (.string s) (.int .i64 (k : Int))).run Tryz.prog W = .ok (.int .u8 (m : Int)) W := by
  rw [run_index_string W 9 s .i64 (k : Int) Tryz.underlying9, dif_pos (by omega)]
  simp only [Int.toNat_natCast]
  rw [hb hk]
theorem ix_h (j : Int) (x : Nat) (hj : j = (x : Int)) (hx : x < 16) (W : World) : (Instr.index 9 (.string ⟨#[48, 49, 50, 51, 52, 53, 54, 55, 56, 57, 97, 98, 99, 100, 101, 102]⟩) (.int .u8 j)).run Tryz.prog W = .ok (.int .u8 ((dig x).toNat : Int)) W := by
  subst hj
  have hz : ((hexS.size : Nat) : Int) = 16 := by decide
  have h := run_index_string (P := Tryz.prog) W 9 hexS .u8 (x : Int) Tryz.underlying9
  rw [dif_pos (by rw [hz]; omega)] at h
  simp only [Int.toNat_natCast] at h
  rw [hexS_get x hx] at h
  exact h
theorem cv_d (x : Nat) (hx : x < 16) (W : World) : (convert 5 9 (.int .u8 ((dig x).toNat : Int))).run Tryz.prog W = .ok (.string ⟨#[dig x]⟩) W := by
  rw [run_convert_int_string W 5 9 .u8 _ (by kernel_rfl) Tryz.underlying9, dig_enc x hx]

theorem cv_c (c : Nat) (hc : c = 34 ∨ c = 92) (W : World) : (convert 21 9 (.int .i32 (c : Int))).run Tryz.prog W = .ok (.string ⟨#[c.toUInt8]⟩) W := by
  rw [run_convert_int_string W 21 9 .i32 _ (by kernel_rfl) Tryz.underlying9]
  rcases hc with rfl | rfl
  · have : Utf8.encode ((34 : Nat) : Int) = ⟨#[(34 : Nat).toUInt8]⟩ := by decide
    rw [this]
  · have : Utf8.encode ((92 : Nat) : Int) = ⟨#[(92 : Nat).toUInt8]⟩ := by decide
    rw [this]
theorem enc_c (c : Nat) (hc : c = 34 ∨ c = 92) : Lib.encodeRune (c : Int) = [c.toUInt8] := by
  rcases hc with rfl | rfl <;> decide
theorem sz4 (a b : UInt8) : ((⟨#[92, 120]⟩ : ByteArray) ++ ⟨#[a]⟩ ++ ⟨#[b]⟩).size = 4 := by simp only [ByteArray.size_append]; rfl
theorem sz2 (a : UInt8) : ((⟨#[92]⟩ : ByteArray) ++ ⟨#[a]⟩).size = 2 := by simp only [ByteArray.size_append]; rfl
theorem szU (l : List UInt8) : ((⟨#[92, 117]⟩ : ByteArray) ++ ⟨l.toArray⟩ ++ ⟨#[46]⟩).size = l.length + 3 := by simp only [ByteArray.size_append]; show 2 + l.toArray.size + 1 = _; simp; omega
theorem cells4 (acc : List UInt8) (a b : UInt8) : Lib.byteCells acc ++ Lib.strCells (⟨#[92, 120]⟩ ++ ⟨#[a]⟩ ++ ⟨#[b]⟩) = Lib.byteCells (acc ++ [92, 120, a, b]) := by
  rw [Lib.strCells_eq, Lib.byteCells_append]; rfl
theorem cells2 (acc : List UInt8) (a : UInt8) : Lib.byteCells acc ++ Lib.strCells (⟨#[92]⟩ ++ ⟨#[a]⟩) = Lib.byteCells (acc ++ [92, a]) := by
  rw [Lib.strCells_eq, Lib.byteCells_append]; rfl
theorem cellsU (acc l : List UInt8) : Lib.byteCells acc ++ Lib.strCells (⟨#[92, 117]⟩ ++ ⟨l.toArray⟩ ++ ⟨#[46]⟩) = Lib.byteCells (acc ++ ([92, 117] ++ l ++ [46])) := by
  rw [Lib.strCells_eq, Lib.byteCells_append]
  congr 2

set_option maxRecDepth 1000000 in
set_option maxHeartbeats 8000000 in
theorem quote_any (s : ByteArray) (w : World) (hs : s.size ≤ 1000000) (hT : Lib.Utf8Tabs 0 1 w) (g3 : 0 < w.heap.size) (g4 : 1 < w.heap.size)
    (hD : w.cell? ⟨5, 15, none⟩ = some (.int .u8 4)) (g7 : 5 < w.heap.size) :
    Calls Tryz.prog 41 #[.string s] w fun e w' => e = .returned (.string ⟨(quoteL s).toArray⟩) ∧ Below w.heap.size w w' := by
  have HT := Lib.hid hT
  have HD := Lib.hid hD
  have HS := Lib.hid hs
  clear hT hD hs
  go_enter Tryz.func41, Tryz.ntmps41
  go_wp2_with fail
  refine (Tryz.Builder_WriteByte_k w.heap.size w.heap.size [] 34 _ (Lib.IsBuilderF.of (Lib.fresh_isBuilder 134 5 w)) (by simp) (by simp)).mono ?_
  rintro e w1 ⟨rfl, h1, b1, k1⟩
  have hI1 : IsBuilderF 134 5 w.heap.size w.heap.size (Lib.byteCells [34]) w1 := .inr h1
  have hB1 : Below w.heap.size w w1 := ((Below.refl _ w).alloc (Nat.le_refl _) _).trans b1
  clear h1 b1 k1
  go_wp2_with fail
  have hI2 := hI1.alloc (.stringIter s 0)
  have hit0 : (w1.alloc (.stringIter s 0)).heap[w1.heap.size]? = some (.stringIter s 0) := World.iter_heap w1 s 0
  have hB2 : Below w.heap.size w (w1.alloc (.stringIter s 0)) := hB1.alloc hB1.size _
  have hK : w.heap.size < w1.heap.size := (hI1.elim (fun x => x.lt) (fun x => x.lt))
  have hall0 : [34] ++ qFrom s s.size 0 ++ [34] = quoteL s := rfl
  obtain ⟨K, hKe⟩ : ∃ K, w1.heap.size = K := ⟨_, rfl⟩
  rw [hKe] at hit0 hK ⊢
  clear hKe hI1 hB1
  have hIt : w1.alloc (.stringIter s 0) = w1.iter s 0 := rfl
  rw [hIt] at hI2 hit0 hB2
  clear hIt
  generalize w1.iter s 0 = w2 at *
  obtain ⟨QL, hQL⟩ : ∃ QL, quoteL s = QL := ⟨_, rfl⟩
  have HQL := Lib.hid hQL
  rw [hQL] at hall0
  clear hQL
  go_loopw [] (fun wr => ∃ (pos f : Nat) (acc : List UInt8), IsBuilderF 134 5 w.heap.size w.heap.size (Lib.byteCells acc) wr ∧ wr.heap[K]? = some (.stringIter s pos) ∧ Below w.heap.size w wr ∧ acc ++ qFrom s f pos ++ [34] = QL ∧ s.size ≤ pos + f ∧ pos ≤ s.size ∧ acc.length ≤ 1 + 11 * pos) (fun wr => s.size - wr.iterPos K)
  case atStart => exact ⟨0, s.size, [34], hI2, hit0, hB2, hall0, by omega, by omega, by simp⟩
  case round =>
    clear hI2 hit0 hB2 hall0
    obtain ⟨pos, f, acc, hI, hit, hbw, hall, hf, hps, hlen⟩ := hrel
    have HA := Lib.hid hall
    clear hall
    have hsz := heap_lt hit
    have HP := Lib.hid (show wr.iterPos K = pos by simp only [World.iterPos, hit])
    by_cases hp : pos < s.size
    · have hnx : ∀ ty, (Instr.next (.pointer (some ⟨K, 0, none⟩)) true ty).run Tryz.prog wr = _ := fun ty => Lib.run_next_any_at wr K s pos ty hit hp
      have hwd := dec_width s pos hp
      have hit2 := Lib.iterAt_heap wr K s pos (pos + (Utf8.decode s pos).2) hit
      have hbw2 := Lib.below_iterAt hbw (k := K) (by omega) s (pos + (Utf8.decode s pos).2)
      have hI2 := hI.iterAt hit (pos + (Utf8.decode s pos).2)
      have hr : qFrom s f pos = qPiece s pos ++ qFrom s (f - 1) (pos + (Utf8.decode s pos).2) := by
        have hst : f = (f - 1) + 1 := by omega
        conv => lhs; rw [hst]
        exact qFrom_step s hp
      have hpl := qPiece_len s pos
      have HR := Lib.hid (show acc ++ qPiece s pos ++ qFrom s (f - 1) (pos + (Utf8.decode s pos).2) ++ [34] = QL by rw [← HA.out, hr]; simp)
      have hu : ∀ P : List UInt8, qPiece s pos = (if lone s pos then [92, 120, dig ((bt s pos).toNat / 16), dig ((bt s pos).toNat % 16)]
        else if (Utf8.decode s pos).1 = 34 ∨ (Utf8.decode s pos).1 = 92 then 92 :: Lib.encodeRune (Utf8.decode s pos).1
        else if 32 ≤ (Utf8.decode s pos).1 ∧ (Utf8.decode s pos).1 ≤ 126 then Lib.encodeRune (Utf8.decode s pos).1
        else [92, 117] ++ hexL (Utf8.decode s pos).1 ++ [46]) := fun _ => rfl
      have HU := Lib.hid (hu [])
      have HI := Lib.hid hit2
      have HB := Lib.hid hbw2
      have HB0 := Lib.hid hI2
      have hal := fun W hW => alone_any s pos W (by have := HS.out; omega) hp hW
      have HL := Lib.hid hal
      clear hr hu hit hbw hit2 hbw2 hI hI2 hal
      obtain ⟨W2, hW2⟩ : ∃ W2, wr.iterAt K s (pos + (Utf8.decode s pos).2) = W2 := ⟨_, rfl⟩
      rw [hW2] at hnx HI HB HB0
      have hz2 : K < W2.heap.size := heap_lt HI.out
      clear hW2
      obtain ⟨d, hd⟩ : ∃ d, Utf8.decode s pos = d := ⟨_, rfl⟩
      obtain ⟨P, hP⟩ : ∃ P, qPiece s pos = P := ⟨_, rfl⟩
      rw [hd] at hnx hwd HR HI HL HU
      rw [hP] at HR HU hpl
      clear hd hP
      go_wp2_with fail
      refine (HL.out W2 (tabs_of_below HT.out HB.out g3 g4)).mono ?_
      rintro e w3 ⟨rfl, b3⟩
      have HB3 := Lib.hid (HB.out.trans (b3.mono HB.out.size))
      have HI3 := Lib.hid (heap_of_below HI.out b3 hz2)
      have HB03 := Lib.hid (builder_below HB0.out b3)
      have hz3 : K < w3.heap.size := heap_lt HI3.out
      have hz30 : w.heap.size ≤ w3.heap.size := HB3.out.size
      clear b3
      cases hlo : lone s pos with
      | true =>
        have HU' := Lib.hid (show [92, 120, dig ((bt s pos).toNat / 16), dig ((bt s pos).toNat % 16)] = P by have h := HU.out; rw [hlo, if_pos rfl] at h; exact h.symm)
        clear hlo
        have h0 := bt_nonneg s pos
        have h9 := bt_le s pos
        obtain ⟨m, hm⟩ : ∃ m : Nat, (m : Int) = bt s pos := ⟨(bt s pos).toNat, by omega⟩
        have hb : ∀ (h : pos < s.size), ((s[pos]'h).toNat : Int) = (m : Int) := fun h => (get_bt s pos h).trans hm.symm
        have hm255 : m ≤ 255 := by omega
        have HM := Lib.hid (show [92, 120, dig (m / 16), dig (m % 16)] = P by rw [← HU'.out, ← hm]; rfl)
        have hand := and15_u8 ⟨m, by omega⟩
        simp only at hand
        have hx1 := ix_s s pos m hp hb
        have hx2 := ix_h ((m : Int) / 16) (m / 16) (by omega) (by omega)
        have hx3 := ix_h ((m : Int) % 16) (m % 16) (by omega) (by omega)
        have hv1 := cv_d (m / 16) (by omega)
        have hv2 := cv_d (m % 16) (by omega)
        obtain ⟨a, ha⟩ : ∃ a, dig (m / 16) = a := ⟨_, rfl⟩
        obtain ⟨b, hb'⟩ : ∃ b, dig (m % 16) = b := ⟨_, rfl⟩
        rw [ha] at hx2 hv1 HM
        rw [hb'] at hx3 hv2 HM
        clear hm h0 h9 ha hb' hb
        go_wp2_with fail
        go_still_tail 14, (by kernel_rfl)
        go_wp2_with fail
        refine Calls.mono (Tryz.Builder_WriteString_k w.heap.size w.heap.size (Lib.byteCells acc) _ w3.drew HB03.out ?_ hz30) ?_
        · have := HS.out; rw [Lib.byteCells_length, sz4]; omega
        rintro e w4 ⟨rfl, h4, b4, k4⟩
        have hc4 : BuilderAtF 134 5 w.heap.size w.heap.size (.pointer (some ⟨w.heap.size, 0, none⟩)) (Lib.byteCells (acc ++ P)) w4 := by
          have e := cells4 acc a b
          rw [e] at h4
          rw [← HM.out]
          exact h4
        have HB4 : Below w.heap.size w w4 := HB3.out.drew.trans b4
        have HC4 := Lib.hid hc4
        have HK4 := Lib.hid (k4.iter HI3.out (by omega))
        have HB4' := Lib.hid HB4
        clear h4 b4 k4 hc4 HB4
        go_wp2_with fail
        go_roundw
        case rel => exact ⟨pos + d.2, f - 1, acc ++ P, .inr HC4.out, HK4.out, HB4'.out, HR.out, by omega, by omega, by simp; omega⟩
        case measure =>
          have h1 := HK4.out
          have h2 := HP.out
          have h3 : w4.iterPos K = pos + d.2 := by simp only [World.iterPos, h1]
          rw [h2, h3]
          omega
      | false =>
        have HU' := Lib.hid (show (if d.1 = 34 ∨ d.1 = 92 then 92 :: Lib.encodeRune d.1 else if 32 ≤ d.1 ∧ d.1 ≤ 126 then Lib.encodeRune d.1 else [92, 117] ++ hexL d.1 ++ [46]) = P by have h := HU.out; rw [hlo] at h; simp only [Bool.false_eq_true, if_false] at h; exact h.symm)
        clear hlo
        by_cases hq : d.1 = 34 ∨ d.1 = 92
        · have HM := Lib.hid (show [92, d.1.toUInt8] = P by rw [← HU'.out, if_pos hq, enc_c _ hq])
          have hv := cv_c d.1 hq
          have e1 : ((d.1 : Int) == 34 || (d.1 : Int) == 92) = true := by rcases hq with h | h <;> rw [h] <;> rfl
          obtain ⟨a, ha⟩ : ∃ a, d.1.toUInt8 = a := ⟨_, rfl⟩
          rw [ha] at hv HM
          clear ha
          by_cases h34 : d.1 = 34
          · have e34 : ((d.1 : Int) == 34) = true := by rw [h34]; rfl
            clear hq h34 e1
            go_wp2_with fail
            refine Calls.mono (Tryz.Builder_WriteString_k w.heap.size w.heap.size (Lib.byteCells acc) _ w3 HB03.out ?_ hz30) ?_
            · have := HS.out; rw [Lib.byteCells_length, sz2]; omega
            rintro e w4 ⟨rfl, h4, b4, k4⟩
            have hc4 : BuilderAtF 134 5 w.heap.size w.heap.size (.pointer (some ⟨w.heap.size, 0, none⟩)) (Lib.byteCells (acc ++ P)) w4 := by
              have e := cells2 acc a
              rw [e] at h4
              rw [← HM.out]
              exact h4
            have HB4 : Below w.heap.size w w4 := HB3.out.trans b4
            have HC4 := Lib.hid hc4
            have HK4 := Lib.hid (k4.iter HI3.out (by omega))
            have HB4' := Lib.hid HB4
            clear h4 b4 k4 hc4 HB4
            go_wp2_with fail
            go_roundw
            case rel => exact ⟨pos + d.2, f - 1, acc ++ P, .inr HC4.out, HK4.out, HB4'.out, HR.out, by omega, by omega, by simp; omega⟩
            case measure =>
              have h1 := HK4.out
              have h2 := HP.out
              have h3 : w4.iterPos K = pos + d.2 := by simp only [World.iterPos, h1]
              rw [h2, h3]
              omega
          · have e34 : ((d.1 : Int) == 34) = false := beq_false' (by omega)
            have e92 : ((d.1 : Int) == 92) = true := beq_true' (by omega)
            clear hq h34 e1
            go_wp2_with fail
            refine Calls.mono (Tryz.Builder_WriteString_k w.heap.size w.heap.size (Lib.byteCells acc) _ w3 HB03.out ?_ hz30) ?_
            · have := HS.out; rw [Lib.byteCells_length, sz2]; omega
            rintro e w4 ⟨rfl, h4, b4, k4⟩
            have hc4 : BuilderAtF 134 5 w.heap.size w.heap.size (.pointer (some ⟨w.heap.size, 0, none⟩)) (Lib.byteCells (acc ++ P)) w4 := by
              have e := cells2 acc a
              rw [e] at h4
              rw [← HM.out]
              exact h4
            have HB4 : Below w.heap.size w w4 := HB3.out.trans b4
            have HC4 := Lib.hid hc4
            have HK4 := Lib.hid (k4.iter HI3.out (by omega))
            have HB4' := Lib.hid HB4
            clear h4 b4 k4 hc4 HB4
            go_wp2_with fail
            go_roundw
            case rel => exact ⟨pos + d.2, f - 1, acc ++ P, .inr HC4.out, HK4.out, HB4'.out, HR.out, by omega, by omega, by simp; omega⟩
            case measure =>
              have h1 := HK4.out
              have h2 := HP.out
              have h3 : w4.iterPos K = pos + d.2 := by simp only [World.iterPos, h1]
              rw [h2, h3]
              omega
        · have e34 : ((d.1 : Int) == 34) = false := beq_false' (by omega)
          have e92 : ((d.1 : Int) == 92) = false := beq_false' (by omega)
          by_cases hr : 32 ≤ d.1 ∧ d.1 ≤ 126
          · have HM := Lib.hid (show Lib.encodeRune d.1 = P by rw [← HU'.out, if_neg hq, if_pos hr])
            obtain ⟨r1, r2⟩ := hr
            clear hq
            have r1' : (32 : Int) ≤ (d.1 : Int) := by omega
            have r2' : (d.1 : Int) ≤ 126 := by omega
            go_wp2_with fail
            refine (Tryz.Builder_WriteRune_k w.heap.size w.heap.size (Lib.byteCells acc) d.1 (by omega) (by omega) w3 HB03.out (by have := HS.out; rw [Lib.byteCells_length]; omega) hz30).mono ?_
            rintro e w4 ⟨rfl, h4, b4, k4⟩
            have hc4 : BuilderAtF 134 5 w.heap.size w.heap.size (.pointer (some ⟨w.heap.size, 0, none⟩)) (Lib.byteCells (acc ++ P)) w4 := by
              have e := (show Lib.byteCells acc ++ Lib.runeCells (d.1 : Int) = Lib.byteCells (acc ++ Lib.encodeRune d.1) by rw [Lib.byteCells_append, Lib.byteCells_encodeRune])
              rw [e] at h4
              rw [← HM.out]
              exact h4
            have HB4 : Below w.heap.size w w4 := HB3.out.trans b4
            have HC4 := Lib.hid hc4
            have HK4 := Lib.hid (k4.iter HI3.out (by omega))
            have HB4' := Lib.hid HB4
            clear h4 b4 k4 hc4 HB4
            go_wp2_with fail
            go_roundw
            case rel => exact ⟨pos + d.2, f - 1, acc ++ P, .inr HC4.out, HK4.out, HB4'.out, HR.out, by omega, by omega, by simp; omega⟩
            case measure =>
              have h1 := HK4.out
              have h2 := HP.out
              have h3 : w4.iterPos K = pos + d.2 := by simp only [World.iterPos, h1]
              rw [h2, h3]
              omega
          · have HM := Lib.hid (show [92, 117] ++ hexL d.1 ++ [46] = P by rw [← HU'.out, if_neg hq, if_neg hr])
            have hxl := hexD_len 7 d.1
            have HX := Lib.hid (formatInt_any d.1 (by omega) w3 ((HB3.out.cell (p := ⟨5, 15, none⟩) g7).trans HD.out) (Nat.lt_of_lt_of_le g7 hz30))
            have hxl' : (hexL d.1).length ≤ 8 := hxl
            obtain ⟨L, hL⟩ : ∃ L, hexL d.1 = L := ⟨_, rfl⟩
            rw [hL] at HM HX hxl'
            clear hL hxl hq
            by_cases h32 : d.1 < 32
            · have h32' : ¬ (32 : Int) ≤ (d.1 : Int) := by omega
              clear hr
              go_wp2_with fail
              refine HX.out.mono ?_
              rintro e w5 ⟨rfl, b5⟩
              have HB5 := Lib.hid (HB3.out.trans (b5.mono hz30))
              have HI5 := Lib.hid (heap_of_below HI3.out b5 hz3)
              have HB05 := Lib.hid (builder_below HB03.out b5)
              have hz50 : w.heap.size ≤ w5.heap.size := HB5.out.size
              clear b5
              go_wp2_with fail
              refine Calls.mono (Tryz.Builder_WriteString_k w.heap.size w.heap.size (Lib.byteCells acc) _ w5 HB05.out ?_ hz50) ?_
              · have := HS.out; rw [Lib.byteCells_length, szU]; omega
              rintro e w4 ⟨rfl, h4, b4, k4⟩
              have hc4 : BuilderAtF 134 5 w.heap.size w.heap.size (.pointer (some ⟨w.heap.size, 0, none⟩)) (Lib.byteCells (acc ++ P)) w4 := by
                have e := cellsU acc L
                rw [e] at h4
                rw [← HM.out]
                exact h4
              have HB4 : Below w.heap.size w w4 := HB5.out.trans b4
              have HC4 := Lib.hid hc4
              have HK4 := Lib.hid (k4.iter HI5.out (by omega))
              have HB4' := Lib.hid HB4
              clear h4 b4 k4 hc4 HB4
              go_wp2_with fail
              go_roundw
              case rel => exact ⟨pos + d.2, f - 1, acc ++ P, .inr HC4.out, HK4.out, HB4'.out, HR.out, by omega, by omega, by simp; omega⟩
              case measure =>
                have h1 := HK4.out
                have h2 := HP.out
                have h3 : w4.iterPos K = pos + d.2 := by simp only [World.iterPos, h1]
                rw [h2, h3]
                omega
            · have h32' : (32 : Int) ≤ (d.1 : Int) := by omega
              have h126 : ¬ (d.1 : Int) ≤ 126 := by omega
              clear hr
              go_wp2_with fail
              refine HX.out.mono ?_
              rintro e w5 ⟨rfl, b5⟩
              have HB5 := Lib.hid (HB3.out.trans (b5.mono hz30))
              have HI5 := Lib.hid (heap_of_below HI3.out b5 hz3)
              have HB05 := Lib.hid (builder_below HB03.out b5)
              have hz50 : w.heap.size ≤ w5.heap.size := HB5.out.size
              clear b5
              go_wp2_with fail
              refine Calls.mono (Tryz.Builder_WriteString_k w.heap.size w.heap.size (Lib.byteCells acc) _ w5 HB05.out ?_ hz50) ?_
              · have := HS.out; rw [Lib.byteCells_length, szU]; omega
              rintro e w4 ⟨rfl, h4, b4, k4⟩
              have hc4 : BuilderAtF 134 5 w.heap.size w.heap.size (.pointer (some ⟨w.heap.size, 0, none⟩)) (Lib.byteCells (acc ++ P)) w4 := by
                have e := cellsU acc L
                rw [e] at h4
                rw [← HM.out]
                exact h4
              have HB4 : Below w.heap.size w w4 := HB5.out.trans b4
              have HC4 := Lib.hid hc4
              have HK4 := Lib.hid (k4.iter HI5.out (by omega))
              have HB4' := Lib.hid HB4
              clear h4 b4 k4 hc4 HB4
              go_wp2_with fail
              go_roundw
              case rel => exact ⟨pos + d.2, f - 1, acc ++ P, .inr HC4.out, HK4.out, HB4'.out, HR.out, by omega, by omega, by simp; omega⟩
              case measure =>
                have h1 := HK4.out
                have h2 := HP.out
                have h3 : w4.iterPos K = pos + d.2 := by simp only [World.iterPos, h1]
                rw [h2, h3]
                omega
    · have hnx : ∀ ty, (Instr.next (.pointer (some ⟨K, 0, none⟩)) true ty).run Tryz.prog wr = _ := fun ty => Lib.run_next_end_at wr K s pos ty hit hp
      have HE := Lib.hid (show acc ++ [34] = quoteL s by rw [HQL.out, ← HA.out, qFrom_end s f pos hp, List.append_nil])
      have HI := Lib.hid hI
      have HB := Lib.hid hbw
      have hz0 : w.heap.size ≤ wr.heap.size := hbw.size
      clear hI hbw
      go_wp2_with fail
      refine Calls.mono (Tryz.Builder_WriteByte_k w.heap.size w.heap.size (Lib.byteCells acc) 34 wr HI.out ?_ hz0) ?_
      · have := HS.out; rw [Lib.byteCells_length]; omega
      rintro e w4 ⟨rfl, h4, b4, k4⟩
      have hc4 : IsBuilderF 134 5 w.heap.size w.heap.size (Lib.byteCells (acc ++ [34])) w4 := by
        rw [Lib.byteCells_append]; exact .inr h4
      have HB4 := Lib.hid (HB.out.trans b4)
      have hz4 : w.heap.size ≤ w4.heap.size := HB4.out.size
      rw [HE.out] at hc4
      have HC4 := Lib.hid hc4
      clear h4 b4 k4 hc4
      go_wp2_with fail
      refine Calls.mono (Tryz.Builder_String_any_k w.heap.size w.heap.size (quoteL s) w4 HC4.out hz4) ?_
      rintro e w5 ⟨rfl, h5, b5, k5⟩
      have HB5 := Lib.hid (HB4.out.trans b5)
      clear h5 b5 k5
      go_wp2_with fail
      go_ret
      exact ⟨rfl, HB5.out⟩
end Go.Proofs.YtkgjfagejnppbaaGreatDoor.R
