/- Several texts in one. -/
import Derived.Test.YtkgjfagejnppbaaGreatDoorMrg1
import Derived.Test.YtkgjfagejnppbaaGreatDoorShelf
import Derived.Lib.OthersKept
import Derived.Laws.IdiomStrings

/- The program's keys: Count, alone, clean, Beginning, Key, Begins; the reference's Beginning, Key, Begins. -/
namespace Go.Proofs.YtkgjfagejnppbaaGreatDoor.R
open Go.RowKit Go.PlainAid Go.Lib

theorem tabs_of_below {g3 g4 B : Nat} {w w' : World} (h : Lib.Utf8Tabs g3 g4 w) (hb : Below B w w') (h3 : g3 < B) (h4 : g4 < B) : Lib.Utf8Tabs g3 g4 w' :=
  ⟨fun i hi => (hb.cell (p := ⟨g3, i, none⟩) h3).trans (h.1 i hi), fun i hi => ⟨(hb.cell (p := ⟨g4, 2 * i, none⟩) h4).trans (h.2 i hi).1, (hb.cell (p := ⟨g4, 2 * i + 1, none⟩) h4).trans (h.2 i hi).2⟩⟩

set_option maxHeartbeats 400000 in
theorem count_any (s : ByteArray) (w : World) (hs : s.size ≤ 140737488355328) :
    Calls Tryz.prog 37 #[.string s] w fun e w' => e = .returned (.int .i64 (Lib.runeCount s)) ∧ Below w.heap.size w w' := by
  go_enter Tryz.func37, Tryz.ntmps37
  go_wp2
  go_loopw [3] (fun n w' => ∃ (pos b acc : Nat), w' = w.iter s pos ∧ n = .int .i64 acc ∧ acc + Lib.runeCountFrom s b pos = Lib.runeCount s ∧ s.size ≤ pos + b ∧ acc ≤ pos) (fun _ w' => s.size - w'.iterPos w.heap.size)
  case atStart => exact ⟨0, s.size, 0, rfl, rfl, by simp [Lib.runeCount], by omega, Nat.le_refl _⟩
  case round =>
    obtain ⟨pos, b, acc, rfl, rfl, hc, hb, ha⟩ := hrel
    by_cases hp : pos < s.size
    · have hnx : ∀ ty, (Instr.next (.pointer (some ⟨w.heap.size, 0, none⟩)) true ty).run Tryz.prog (w.iter s pos) = _ := fun ty => run_next_any w s pos ty hp
      have hwd := Lib.decode_width_pos s pos hp
      go_wp2
      go_roundw
      case rel =>
        cases b with
        | zero => omega
        | succ b =>
          refine ⟨pos + (Utf8.decode s pos).2, b, acc + 1, rfl, by go_num, ?_, by omega, by omega⟩
          rw [← hc]
          simp [Lib.runeCountFrom, hp]
          omega
      case measure =>
        simp
        omega
    · have hnx : ∀ ty, (Instr.next (.pointer (some ⟨w.heap.size, 0, none⟩)) true ty).run Tryz.prog (w.iter s pos) = _ := fun ty => run_next_end w s pos ty hp
      go_wp2
      go_ret
      rw [Lib.runeCountFrom_end s b pos hp, Nat.add_zero] at hc
      subst hc
      exact ⟨rfl, (Below.refl _ _).alloc (Nat.le_refl _) _⟩

/-- does a byte stand alone at a place? -/
def lone (s : ByteArray) (k : Nat) : Bool := decide (Utf8.decode s k = (65533, 1))

theorem get_extract (s : ByteArray) (k j : Nat) : (s.extract k s.size).get! j = s.get! (k + j) := by
  cases s with
  | mk d =>
    show ((⟨d⟩ : ByteArray).extract k d.size).get! j = d[k + j]!
    have e : (ByteArray.extract ⟨d⟩ k d.size) = ⟨d.extract k d.size⟩ := by
      apply ByteArray.ext; simp
    rw [e]
    show (d.extract k d.size)[j]! = d[k + j]!
    by_cases h : k + j < d.size
    · rw [getElem!_pos (d.extract k d.size) j (by simp; omega), getElem!_pos d (k + j) h]; simp
    · have e1 : (d.extract k d.size)[j]? = none := Array.getElem?_eq_none (by simp; omega)
      have e2 : d[k + j]? = none := Array.getElem?_eq_none (by omega)
      rw [Array.getElem!_eq_getD, Array.getElem!_eq_getD, Array.getD_eq_getD_getElem?, Array.getD_eq_getD_getElem?, e1, e2]
theorem decode_extract (s : ByteArray) (k : Nat) (h : k < s.size) : Lib.decodeGo (s.extract k s.size) = Utf8.decode s k := by
  unfold Lib.decodeGo
  have hz : (s.extract k s.size).size = s.size - k := by simp
  rw [if_neg (by omega), decode_at, decode_at, hz, get_extract, get_extract, get_extract, get_extract]
  simp

set_option maxHeartbeats 400000 in
theorem alone_any (s : ByteArray) (k : Nat) (w : World) (_hs : s.size ≤ 140737488355328) (hk : k < s.size) (hT : Lib.Utf8Tabs 0 1 w) :
    Calls Tryz.prog 59 #[.string s, .int .i64 k, .int .i32 (Utf8.decode s k).1] w fun e w' => e = .returned (.bool (lone s k)) ∧ Below w.heap.size w w' := by
  by_cases h : (Utf8.decode s k).1 = 65533
  · have hd := decode_extract s k hk
    have HL := Lib.hid (show lone s k = (((Utf8.decode s k).2 : Int) == 1) by
      unfold lone
      by_cases h1 : (Utf8.decode s k).2 = 1
      · rw [decide_eq_true (Prod.ext h h1), h1]; rfl
      · rw [decide_eq_false (fun e => h1 (by rw [e])), beq_false' (by omega)])
    have e1 : (((Utf8.decode s k).1 : Int) != 65533) = false := by rw [h]; rfl
    have HD := Lib.hid hd
    have HT := Lib.hid hT
    have HE := Lib.hid e1
    clear hd hT e1 h
    obtain ⟨d, hd⟩ : ∃ d, Utf8.decode s k = d := ⟨_, rfl⟩
    rw [hd] at HD HE HL ⊢
    clear hd
    have e1 := HE.out
    go_enter Tryz.func59, Tryz.ntmps59
    go_wp2_with fail
    refine (Tryz.utf8_DecodeRuneInString (s.extract k s.size) w HT.out).mono ?_
    rintro e w1 ⟨rfl, b1⟩
    rw [HD.out]
    go_wp2_with fail
    go_ret
    exact ⟨ret_bool HL.out.symm, b1⟩
  · have HL := Lib.hid (show lone s k = false by unfold lone; exact decide_eq_false fun e => h (by rw [e]))
    have e1 : (((Utf8.decode s k).1 : Int) != 65533) = true := bne_true (by omega)
    obtain ⟨d, hd⟩ : ∃ d, Utf8.decode s k = d := ⟨_, rfl⟩
    rw [hd] at e1 ⊢
    clear hd hT h
    go_enter Tryz.func59, Tryz.ntmps59
    go_wp2_with fail
    go_ret
    exact ⟨ret_bool HL.out.symm, Below.refl _ _⟩
end Go.Proofs.YtkgjfagejnppbaaGreatDoor.R

/- The program's clean, Beginning, Key, Begins; the reference's Beginning, Key, Begins. -/
namespace Go.Proofs.YtkgjfagejnppbaaGreatDoor.R
open Go.RowKit Go.PlainAid Go.Lib

def okR (p : Int × Int) : Bool := decide (32 ≤ p.1 ∧ p.1 ≠ 127)
/-- may all runes stand in a key? -/
def cleanV (s : ByteArray) : Bool := (rl s).all okR
theorem okR_dec (s : ByteArray) (k : Nat) : okR (ofDec (Utf8.decode s k)) = (!(decide ((Utf8.decode s k).1 < 32) || decide ((Utf8.decode s k).1 = 127) || lone s k)) := by
  obtain ⟨⟨c, n⟩, hd⟩ : ∃ x, Utf8.decode s k = x := ⟨_, rfl⟩
  unfold okR lone ofDec
  rw [hd]
  by_cases h : c = 65533 ∧ n = 1
  · obtain ⟨rfl, rfl⟩ := h; simp
  · rw [if_neg (by simpa using h)]
    have h2 : decide ((c, n) = (65533, 1)) = false := decide_eq_false (by simpa using h)
    rw [h2, Bool.or_false]
    by_cases h3 : c < 32
    · rw [decide_eq_true h3, decide_eq_false (by show ¬ (32 ≤ (c : Int) ∧ _); omega)]; rfl
    · by_cases h4 : c = 127
      · rw [decide_eq_false h3, decide_eq_true h4, decide_eq_false (by show ¬ (32 ≤ (c : Int) ∧ (c : Int) ≠ 127); omega)]; rfl
      · rw [decide_eq_false h3, decide_eq_false h4, decide_eq_true (by show 32 ≤ (c : Int) ∧ (c : Int) ≠ 127; omega)]; rfl

theorem heap_of_below {B k : Nat} {w w' : World} {o : Obj} (h : w.heap[k]? = some o) (hb : Below B w w') (hk : k < B) : w'.heap[k]? = some o := (hb.block k hk).trans h
theorem heap_lt {k : Nat} {w : World} {o : Obj} (h : w.heap[k]? = some o) : k < w.heap.size := (Array.getElem?_eq_some_iff.1 h).1

set_option maxRecDepth 100000 in
set_option maxHeartbeats 1000000 in
theorem clean_any (s : ByteArray) (w : World) (hs : s.size ≤ 140737488355328) (hT : Lib.Utf8Tabs 0 1 w) (g3 : 0 < w.heap.size) (g4 : 1 < w.heap.size) :
    Calls Tryz.prog 38 #[.string s] w fun e w' => e = .returned (.bool (cleanV s)) ∧ Below w.heap.size w w' := by
  have HT := Lib.hid hT
  have HS := Lib.hid hs
  clear hT hs
  go_enter Tryz.func38, Tryz.ntmps38
  go_wp2
  go_loopw [] (fun wr => ∃ (pos f : Nat), wr.heap[w.heap.size]? = some (.stringIter s pos) ∧ Below w.heap.size w wr ∧ (rfrom s f pos).all okR = cleanV s ∧ s.size ≤ pos + f) (fun wr => s.size - wr.iterPos w.heap.size)
  case atStart => exact ⟨0, s.size, World.iter_heap w s 0, (Below.refl _ _).alloc (Nat.le_refl _) _, rfl, by omega⟩
  case round =>
    obtain ⟨pos, f, hit, hbw, hall, hf⟩ := hrel
    have HA := Lib.hid hall
    clear hall
    have hsz := heap_lt hit
    have HP := Lib.hid (show wr.iterPos w.heap.size = pos by simp only [World.iterPos, hit])
    by_cases hp : pos < s.size
    · have hnx : ∀ ty, (Instr.next (.pointer (some ⟨w.heap.size, 0, none⟩)) true ty).run Tryz.prog wr = _ := fun ty => Lib.run_next_any_at wr w.heap.size s pos ty hit hp
      have hwd := dec_width s pos hp
      have hok := okR_dec s pos
      have hit2 := Lib.iterAt_heap wr w.heap.size s pos (pos + (Utf8.decode s pos).2) hit
      have hbw2 := Lib.below_iterAt hbw (k := w.heap.size) (Nat.le_refl _) s (pos + (Utf8.decode s pos).2)
      have hst : f = (f - 1) + 1 := by omega
      have hr : rfrom s f pos = ofDec (Utf8.decode s pos) :: rfrom s (f - 1) (pos + (Utf8.decode s pos).2) := by
        conv => lhs; rw [hst]
        rw [rfrom, if_pos hp]
      have HR := Lib.hid hr
      have HO := Lib.hid hok
      have HI := Lib.hid hit2
      have HB := Lib.hid hbw2
      clear hr hok hit hbw hst hit2 hbw2
      have hal := fun W hW => alone_any s pos W HS.out hp hW
      have HL := Lib.hid hal
      clear hal
      obtain ⟨W2, hW2⟩ : ∃ W2, wr.iterAt w.heap.size s (pos + (Utf8.decode s pos).2) = W2 := ⟨_, rfl⟩
      rw [hW2] at hnx HI HB
      have hz2 : wr.heap.size = W2.heap.size := by rw [← hW2, Lib.iterAt_size]
      clear hW2
      obtain ⟨d, hd⟩ : ∃ d, Utf8.decode s pos = d := ⟨_, rfl⟩
      rw [hd] at hnx hwd HR HO HI HL
      clear hd
      by_cases h32 : d.1 < 32
      · have HF := Lib.hid (show cleanV s = false by rw [← HA.out, HR.out, List.all_cons, HO.out, decide_eq_true h32]; rfl)
        go_wp2_with fail
        go_ret
        exact ⟨ret_bool HF.out.symm, HB.out⟩
      · by_cases h127 : d.1 = 127
        · have HF := Lib.hid (show cleanV s = false by rw [← HA.out, HR.out, List.all_cons, HO.out, decide_eq_true h127, Bool.or_true]; rfl)
          have e1 : ((d.1 : Int) == 127) = true := beq_true' (by omega)
          clear h127
          go_wp2_with fail
          go_ret
          exact ⟨ret_bool HF.out.symm, HB.out⟩
        · have e1 : ((d.1 : Int) == 127) = false := beq_false' (by omega)
          have HQ := Lib.hid (show ∀ β, lone s pos = β → okR (ofDec d) = !β by intro β hβ; rw [HO.out, decide_eq_false h32, decide_eq_false h127, hβ]; rfl)
          clear h127
          go_wp2_with fail
          refine (HL.out W2 (tabs_of_below HT.out HB.out g3 g4)).mono ?_
          rintro e w2 ⟨rfl, b2⟩
          cases hlo : lone s pos with
          | true =>
            have HF := Lib.hid (show cleanV s = false by rw [← HA.out, HR.out, List.all_cons, HQ.out true hlo]; rfl)
            clear hlo
            go_wp2_with fail
            go_ret
            exact ⟨ret_bool HF.out.symm, HB.out.trans (b2.mono HB.out.size)⟩
          | false =>
            have HF := Lib.hid (show (rfrom s (f - 1) (pos + d.2)).all okR = cleanV s by rw [← HA.out, HR.out, List.all_cons, HQ.out false hlo]; rfl)
            clear hlo
            go_wp2_with fail
            go_roundw
            case rel => exact ⟨pos + d.2, f - 1, heap_of_below HI.out b2 (by omega), HB.out.trans (b2.mono HB.out.size), HF.out, by omega⟩
            case measure =>
              have h1 := heap_of_below HI.out b2 (by omega)
              have h2 := HP.out
              have h3 : w2.iterPos w.heap.size = pos + d.2 := by simp only [World.iterPos, h1]
              rw [h2, h3]
              omega
    · have hnx : ∀ ty, (Instr.next (.pointer (some ⟨w.heap.size, 0, none⟩)) true ty).run Tryz.prog wr = _ := fun ty => Lib.run_next_end_at wr w.heap.size s pos ty hit hp
      have HF := Lib.hid (show cleanV s = true by rw [← HA.out, rfrom_end s f pos hp]; rfl)
      go_wp2_with fail
      go_ret
      exact ⟨ret_bool HF.out.symm, hbw⟩

/-! ### keys -/
theorem runeCount_rl (s : ByteArray) : Lib.runeCount s = (rl s).length := by
  have h : ∀ f k, Lib.runeCountFrom s f k = (rfrom s f k).length := by
    intro f
    induction f with
    | zero => intro k; rfl
    | succ f ih =>
      intro k
      simp only [Lib.runeCountFrom, rfrom]
      split
      · rw [ih, List.length_cons]; omega
      · rfl
  exact h _ _
/-- is a text a beginning? -/
def beginV (s : ByteArray) : Bool := decide ((rl s).length ≤ 32) && cleanV s
def keyV (s : ByteArray) : Bool := !(s.size == 0) && beginV s
/-- the error's number -/
def errV (b : Bool) : Int := if b then 0 else 11

set_option maxRecDepth 100000 in
set_option maxHeartbeats 400000 in
theorem beginning_any (s : ByteArray) (w : World) (hs : s.size ≤ 140737488355328) (hT : Lib.Utf8Tabs 0 1 w) (g3 : 0 < w.heap.size) (g4 : 1 < w.heap.size) :
    Calls Tryz.prog 22 #[.string s] w fun e w' => e = .returned (.int .i64 (errV (beginV s))) ∧ Below w.heap.size w w' := by
  have HT := Lib.hid hT
  have HS := Lib.hid hs
  clear hT hs
  have hc := fun W => count_any s W HS.out
  have HC := Lib.hid hc
  have hcl := fun W (hb : Below w.heap.size w W) => clean_any s W HS.out (tabs_of_below HT.out hb g3 g4) (Nat.lt_of_lt_of_le g3 hb.size) (Nat.lt_of_lt_of_le g4 hb.size)
  have HL := Lib.hid hcl
  have hrc := runeCount_rl s
  obtain ⟨n, hn⟩ : ∃ n, Lib.runeCount s = n := ⟨_, rfl⟩
  have HN := Lib.hid hn
  have HE := Lib.hid (hn.symm.trans hrc)
  clear hc hcl hrc hn
  go_enter Tryz.func22, Tryz.ntmps22
  go_wp2_with fail
  refine (HC.out w).mono ?_
  rintro e w1 ⟨rfl, b1⟩
  rw [HN.out]
  by_cases h32 : 32 < n
  · have HF := Lib.hid (show beginV s = false by unfold beginV; rw [← HE.out, decide_eq_false (by omega)]; rfl)
    go_wp2_with fail
    go_ret
    exact ⟨ret_int (by rw [HF.out]; rfl), b1⟩
  · have HF := Lib.hid (show beginV s = cleanV s by unfold beginV; rw [← HE.out, decide_eq_true (by omega)]; rfl)
    go_wp2_with fail
    refine (HL.out w1 b1).mono ?_
    rintro e w2 ⟨rfl, b2⟩
    have b2 := b1.trans (b2.mono b1.size)
    clear b1
    cases hv : cleanV s with
    | true =>
      have HV := Lib.hid hv
      clear hv
      go_wp2_with fail
      go_ret
      exact ⟨ret_int (by rw [HF.out, HV.out]; rfl), b2⟩
    | false =>
      have HV := Lib.hid hv
      clear hv
      go_wp2_with fail
      go_ret
      exact ⟨ret_int (by rw [HF.out, HV.out]; rfl), b2⟩

theorem toList_data (s : ByteArray) : s.toList = s.data.toList := by
  have h := Lib.extract_toList s 0 s.size
  have h2 := Lib.extract_data s 0 s.size
  rw [ByteArray.extract_zero_size] at h h2
  rw [h, ← h2]
theorem empty_iff (s : ByteArray) : s.toList.isEmpty = (s.size == 0) := by
  rw [toList_data]
  cases s with
  | mk d =>
    show d.toList.isEmpty = (d.size == 0)
    rw [Bool.eq_iff_iff]
    simp
set_option maxRecDepth 100000 in
set_option maxHeartbeats 400000 in
theorem key_any (s : ByteArray) (w : World) (hs : s.size ≤ 140737488355328) (hT : Lib.Utf8Tabs 0 1 w) (g3 : 0 < w.heap.size) (g4 : 1 < w.heap.size) :
    Calls Tryz.prog 23 #[.string s] w fun e w' => e = .returned (.int .i64 (errV (keyV s))) ∧ Below w.heap.size w w' := by
  have HB := Lib.hid (beginning_any s w hs hT g3 g4)
  clear hs hT
  go_enter Tryz.func23, Tryz.ntmps23
  go_wp2_with fail
  · have h : s.toList.isEmpty = true := by assumption
    rw [empty_iff] at h
    go_ret
    exact ⟨ret_int (by unfold keyV; rw [h]; rfl), Below.refl _ _⟩
  · have h : s.toList.isEmpty = false := by assumption
    rw [empty_iff] at h
    have HF := Lib.hid (show keyV s = beginV s by unfold keyV; rw [h]; rfl)
    refine HB.out.mono ?_
    rintro e w1 ⟨rfl, b1⟩
    go_wp2_with fail
    go_ret
    exact ⟨ret_int (by rw [HF.out]), b1⟩

theorem begins_any (s t : ByteArray) (w : World) :
    Calls Tryz.prog 40 #[.string s, .string t] w fun e w' => e = .returned (.bool (Lib.hasPrefix s.data.toList t.data.toList)) ∧ w = w' := by
  go_enter Tryz.func40, Tryz.ntmps40
  go_wp2_with fail
  refine (Tryz.strings_HasPrefix s t w).mono ?_
  rintro e w1 ⟨rfl, rfl⟩
  go_wp2_with fail
  go_ret
  exact ⟨rfl, rfl⟩

/-- an owned row, looked at -/
theorem own_view {w : World} {base : Nat} {e : TypeId} {size : Nat} {v : Value} {n : Nat} {xs : List Value} (h : w.ownsRow base e size v n xs) :
    ∃ ao cap, v = .slice ao n cap ∧ n ≤ maxLen ∧ (0 < n → ∃ g, ao = some ⟨g, 0, none⟩ ∧ base ≤ g ∧ g < w.heap.size ∧ ∀ j, j < n * size → w.cell? ⟨g, j, none⟩ = xs[j]?) := by
  have h' := h
  rcases h with ⟨_, ⟨rfl, rfl⟩ | ⟨g, cap, cur, rfl, hb, hg, hn, hc, _, _⟩⟩
  · exact ⟨none, 0, rfl, Nat.zero_le _, fun h => absurd h (by omega)⟩
  · exact ⟨some ⟨g, 0, none⟩, cap, rfl, Nat.le_trans hn hc, fun _ => ⟨g, rfl, hb, (Array.getElem?_eq_some_iff.1 hg).1, fun j hj => h'.cellAt j hj⟩⟩
theorem cellsR_get : ∀ (l : List (Int × Int)) (i : Nat) (h : i < l.length), (cellsR l)[i * 2]? = some (.int .i64 l[i].1) ∧ (cellsR l)[i * 2 + 1]? = some (.int .i64 l[i].2)
  | p :: l, 0, _ => ⟨rfl, rfl⟩
  | p :: l, i + 1, h => by
    have := cellsR_get l i (by simpa using h)
    have e : (i + 1) * 2 = i * 2 + 2 := by omega
    rw [e]
    exact this
end Go.Proofs.YtkgjfagejnppbaaGreatDoor.R

/- Plain law: of clean texts the runes tell the bytes, and the bytes the runes; a text behind a clean one. -/
namespace Go.Proofs.YtkgjfagejnppbaaGreatDoor.R
open Go.RowKit Go.PlainAid Go.Lib

/-! ### on texts -/
theorem decN_width4 (n b0 b1 b2 b3 : Nat) : (decodeN n b0 b1 b2 b3).2 ≤ 4 := by
  unfold decodeN
  repeat' split
  all_goals (simp only []; omega)
/-- the runes from a place on -/
def rf (s : ByteArray) (k : Nat) : List (Int × Int) := rfrom s s.size k
/-! ### bytes -/
/-! ### one behind the other -/
end Go.Proofs.YtkgjfagejnppbaaGreatDoor.R

/- strconv.FormatInt at base 16, of what is no greater than a rune. -/
namespace Go.Proofs.YtkgjfagejnppbaaGreatDoor.R
open Go.RowKit Go.PlainAid Go.Lib

theorem key16 : IntKind.u64.wrap (bits BinOp.and IntKind.u64 16 (IntKind.u64.wrap (-16)) * 285870213051353865) / 288230376151711744 = 15 := by decide +kernel

set_option maxRecDepth 100000 in
set_option maxHeartbeats 400000 in
theorem tz64_16 (w : World) (hT : w.cell? ⟨5, 15, none⟩ = some (.int .u8 4)) :
    Calls Tryz.prog 178 #[.int .u64 16] w fun e w' => e = .returned (.int .i64 4) ∧ w = w' := by
  go_enter Tryz.func178, Tryz.ntmps178
  go_wp2_with (simp only [key16])
  go_ret
  exact ⟨rfl, rfl⟩

set_option maxRecDepth 100000 in
set_option maxHeartbeats 400000 in
theorem tz_16 (w : World) (hT : w.cell? ⟨5, 15, none⟩ = some (.int .u8 4)) :
    Calls Tryz.prog 159 #[.int .u64 16] w fun e w' => e = .returned (.int .i64 4) ∧ w = w' := by
  go_enter Tryz.func159, Tryz.ntmps159
  go_wp2_with fail
  refine (tz64_16 w hT).mono ?_
  rintro e w1 ⟨rfl, rfl⟩
  go_wp2_with fail
  go_ret
  exact ⟨rfl, rfl⟩

set_option maxRecDepth 100000 in
set_option maxHeartbeats 400000 in
theorem pow2_16 (w : World) :
    Calls Tryz.prog 158 #[.int .i64 16] w fun e w' => e = .returned (.bool true) ∧ w = w' := by
  go_enter Tryz.func158, Tryz.ntmps158
  go_wp2_with fail
  go_ret
  exact ⟨rfl, rfl⟩

/-- a hexadecimal digit -/
def dig (n : Nat) : UInt8 := if n < 10 then UInt8.ofNat (48 + n) else UInt8.ofNat (87 + n)
/-- a number's hexadecimal digits -/
def hexD : Nat → Nat → List UInt8
  | 0, n => [dig n]
  | f + 1, n => if n < 16 then [dig n] else hexD f (n / 16) ++ [dig (n % 16)]
def hexL (n : Nat) : List UInt8 := hexD 7 n

theorem and15 (u : Nat) (h : u < 18446744073709551616) : bits .and .u64 (u : Int) 15 = ((u % 16 : Nat) : Int) := by
  have := bits_and_u64_nat u 15 h (by omega)
  rw [show ((15 : Int)) = ((15 : Nat) : Int) from rfl, this]
  have e : u &&& 15 = u % 16 := Nat.and_two_pow_sub_one_eq_mod u 4
  rw [e]

theorem hexD_small {f n : Nat} (h : n < 16) : hexD f n = [dig n] := by cases f <;> simp [hexD, h]
theorem hexD_great {f n : Nat} (h : 16 ≤ n) : hexD (f + 1) n = hexD f (n / 16) ++ [dig (n % 16)] := by rw [hexD, if_neg (by omega)]

def digS : ByteArray := ⟨#[48, 49, 50, 51, 52, 53, 54, 55, 56, 57, 97, 98, 99, 100, 101, 102, 103, 104, 105, 106, 107, 108, 109, 110, 111, 112, 113, 114, 115, 116, 117, 118, 119, 120, 121, 122]⟩
theorem digS_fin : ∀ y : Fin 16, digS[y.val]'(Nat.lt_of_lt_of_le y.isLt (by decide)) = dig y.val := by decide
theorem digS_get (x : Nat) (hx : x < 16) (h : x < digS.size) : digS[x]'h = dig x := digS_fin ⟨x, hx⟩

/-- the buffer: its last cells hold the digits so far -/
structure Digs (wr : World) (A i : Nat) (acc : List UInt8) : Prop where
  len : i + acc.length = 65
  some' : ∀ j, j < 65 → ∃ v, wr.cell? ⟨A, j, none⟩ = some v
  fz : ∀ j, j < 65 → wr.frozen? ⟨A, j, none⟩ = false
  at' : ∀ j (h : j < acc.length), wr.cell? ⟨A, i + j, none⟩ = some (.int .u8 (acc[j].toNat : Int))
theorem Digs.put {wr : World} {A i : Nat} {acc : List UInt8} (h : Digs wr A (i + 1) acc) (c : UInt8) : Digs (wr.setCell ⟨A, i, none⟩ (.int .u8 (c.toNat : Int))) A i (c :: acc) := by
  obtain ⟨v, hv⟩ := h.some' i (by have := h.len; omega)
  refine ⟨by have := h.len; simp; omega, fun j hj => ?_, fun j hj => ?_, fun j hj => ?_⟩
  · by_cases e : j = i
    · subst e; exact ⟨_, World.cell?_setCell_same _ _ _ hv⟩
    · rw [World.cell?_setCell_other _ _ _ _ (by simp <;> omega)]; exact h.some' j hj
  · rw [World.frozen?_setCell]; exact h.fz j hj
  · cases j with
    | zero => rw [Nat.add_zero]; exact World.cell?_setCell_same _ _ _ hv
    | succ j =>
      rw [World.cell?_setCell_other _ _ _ _ (by simp)]
      have := h.at' j (by simpa using hj)
      rw [show i + (j + 1) = i + 1 + j by omega, this]
      simp

theorem zc : Tryz.zeroCells227 = Array.replicate 65 (.int .u8 0) := by kernel_rfl

theorem sl65 (A i : Nat) (hi : i ≤ 64) (W : World) : (Instr.sliceAt 227 (.pointer (some ⟨A, 0, none⟩)) (some (.int .i64 (i : Int))) none none).run Tryz.prog W = .ok (.slice (some ⟨A, i, none⟩) (65 - i) (65 - i)) W := by
  have e1 : Tryz.prog.arrayLen 227 = 65 := by kernel_rfl
  have e2 : (sizeOf (Tryz.prog.elem 227)).run Tryz.prog W = .ok 1 W := by kernel_rfl
  have h := run_sliceAt_array_l (P := Tryz.prog) W 227 ⟨A, 0, none⟩ (by kernel_rfl) .i64 (i : Int) (by omega) (by rw [e1]; omega)
  rw [h, e1, e2]
  simp only [Result.andThen, slicedAt, Int.toNat_natCast, Nat.mul_one]
  rw [if_neg (by omega)]
  simp [Addr.add]
  omega
theorem conv65 (W : World) (A i : Nat) (l : List UInt8) (h : Digs W A i l) : (convert 132 9 (.slice (some ⟨A, i, none⟩) (65 - i) (65 - i))).run Tryz.prog W = .ok (.string ⟨l.toArray⟩) W := by
  have hl := h.len
  have := run_convert_bytes_back (P := Tryz.prog) W 132 9 5 ⟨A, i, none⟩ (65 - i) l Tryz.underlying132 Tryz.underlying5 Tryz.underlying9 (fun j hj => by rw [Go.WideShapes.add_plain]; exact h.at' j hj)
  rw [show l.length = 65 - i by omega] at this
  exact this

set_option maxRecDepth 100000 in
set_option maxHeartbeats 1000000 in
theorem formatBits_any (u : Nat) (hu : u < 4294967296) (w : World) (hT : w.cell? ⟨5, 15, none⟩ = some (.int .u8 4)) (hg : 5 < w.heap.size) :
    Calls Tryz.prog 132 #[.slice none 0 0, .int .u64 u, .int .i64 16, .bool false, .bool false] w fun e w' => e = .returned (.tuple #[.slice none 0 0, .string ⟨(hexL u).toArray⟩]) ∧ Below w.heap.size w w' := by
  have HT := Lib.hid hT
  clear hT
  go_enter Tryz.func132, Tryz.ntmps132
  go_wp2_with fail
  refine (pow2_16 _).mono ?_
  rintro e w1 ⟨rfl, rfl⟩
  go_wp2_with fail
  refine (tz_16 _ ?_).mono ?_
  · exact ((Below.refl w.heap.size w).alloc (Nat.le_refl _) _).cell (p := ⟨5, 15, none⟩) hg |>.trans HT.out
  rintro e w1 ⟨rfl, rfl⟩
  go_wp2_with fail
  have hD : Digs (w.alloc (.cells Tryz.zeroCells227 227)) w.heap.size 65 [] :=
    ⟨rfl, fun j hj => ⟨.int .u8 0, by rw [zc]; simp [hj]⟩, fun j _ => by simp, fun j h => absurd h (by simp)⟩
  have hB : Below w.heap.size w (w.alloc (.cells Tryz.zeroCells227 227)) := (Below.refl _ _).alloc (Nat.le_refl _) _
  go_loopw [1, 13] (fun uu ii wr => ∃ (n i : Nat) (acc : List UInt8), uu = .int .u64 n ∧ ii = .int .i64 i ∧ n < 16 ^ (8 - acc.length) ∧ acc.length ≤ 7 ∧ hexL u = hexD (7 - acc.length) n ++ acc ∧ Digs wr w.heap.size i acc ∧ Below w.heap.size w wr) (fun uu _ _ => (RowKit.intOf uu).toNat)
  case atStart => exact ⟨u, 65, [], rfl, rfl, by simpa using hu, by simp, by simp [hexL], hD, hB⟩
  case round =>
    clear hD hB
    obtain ⟨n, i, acc, rfl, rfl, hn, hl, hacc, hD, hB⟩ := hrel
    have HA := Lib.hid hacc
    have HD := Lib.hid hD
    have hi := hD.len
    clear hacc hD
    have hn2 : n < 4294967296 := Nat.lt_of_lt_of_le hn (Nat.le_trans (Nat.pow_le_pow_right (by omega) (Nat.sub_le 8 acc.length)) (by decide))
    have HN := Lib.hid hn
    clear hn
    by_cases h16 : 16 ≤ n
    · have hand := and15 n (by omega)
      have hdig : n % 16 < 16 := by omega
      obtain ⟨c, hc⟩ := HD.out.some' (i - 1) (by omega)
      have hf := HD.out.fz (i - 1) (by omega)
      obtain ⟨i', rfl⟩ : ∃ i', i = i' + 1 := ⟨i - 1, by omega⟩
      rw [Nat.add_sub_cancel] at hc hf
      go_wp2_with fail
      go_roundw
      case rel =>
        have hq : n % 16 < digS.size := Nat.lt_of_lt_of_le hdig (by decide)
        have hl6 : acc.length ≤ 6 := by
          rcases Nat.lt_or_ge 6 acc.length with h | h
          · have e : 8 - acc.length = 1 := by omega
            have := HN.out; rw [e] at this; omega
          · exact h
        refine ⟨n / 16, i', digS[n % 16] :: acc, by go_num, rfl, ?_, by simp; omega, ?_, HD.out.put _, hB.setCell (Nat.le_refl _) _⟩
        · have h1 := HN.out
          have e : 8 - acc.length = (8 - (acc.length + 1)) + 1 := by omega
          rw [e, Nat.pow_succ] at h1
          simp only [List.length_cons]
          omega
        · rw [HA.out, digS_get _ hdig]
          have e : 7 - acc.length = (7 - (acc.length + 1)) + 1 := by omega
          rw [e, hexD_great h16]
          simp
      case measure => simp [RowKit.intOf]; omega
    · obtain ⟨c, hc⟩ := HD.out.some' (i - 1) (by omega)
      have hf := HD.out.fz (i - 1) (by omega)
      obtain ⟨i', rfl⟩ : ∃ i', i = i' + 1 := ⟨i - 1, by omega⟩
      rw [Nat.add_sub_cancel] at hc hf
      have hsl := sl65 w.heap.size i' (by omega)
      have hq : n < digS.size := Nat.lt_of_lt_of_le (show n < 16 by omega) (by decide)
      have hq2 : n < (⟨#[48, 49, 50, 51, 52, 53, 54, 55, 56, 57, 97, 98, 99, 100, 101, 102, 103, 104, 105, 106, 107, 108, 109, 110, 111, 112, 113, 114, 115, 116, 117, 118, 119, 120, 121, 122]⟩ : ByteArray).size := hq
      have hcv : (convert 132 9 (.slice (some ⟨w.heap.size, i', none⟩) (65 - i') (65 - i'))).run Tryz.prog (wr.setCell ⟨w.heap.size, i', none⟩ (.int .u8 (((⟨#[48, 49, 50, 51, 52, 53, 54, 55, 56, 57, 97, 98, 99, 100, 101, 102, 103, 104, 105, 106, 107, 108, 109, 110, 111, 112, 113, 114, 115, 116, 117, 118, 119, 120, 121, 122]⟩ : ByteArray)[n]'hq2).toNat : Int))) = .ok (.string ⟨(digS[n]'hq :: acc).toArray⟩) (wr.setCell ⟨w.heap.size, i', none⟩ (.int .u8 (((⟨#[48, 49, 50, 51, 52, 53, 54, 55, 56, 57, 97, 98, 99, 100, 101, 102, 103, 104, 105, 106, 107, 108, 109, 110, 111, 112, 113, 114, 115, 116, 117, 118, 119, 120, 121, 122]⟩ : ByteArray)[n]'hq2).toNat : Int))) := conv65 _ _ _ _ (HD.out.put (digS[n]'hq))
      have hR : digS[n]'hq :: acc = hexL u := by rw [HA.out, digS_get _ (by omega), hexD_small (by omega)]; rfl
      rw [hR] at hcv
      clear hR
      have hi64 : (i' : Int) ≤ 64 := by omega
      obtain ⟨L, hL⟩ : ∃ L, hexL u = L := ⟨_, rfl⟩
      rw [hL] at hcv
      have HL := Lib.hid hL
      clear hL
      have HB := Lib.hid hB
      clear hB
      go_wp2_with fail
      go_ret2
      exact ⟨congrArg (fun L : List UInt8 => Ending.returned (.tuple #[.slice none 0 0, .string ⟨L.toArray⟩])) HL.out.symm, HB.out.setCell (Nat.le_refl _) _⟩

set_option maxRecDepth 100000 in
set_option maxHeartbeats 400000 in
theorem formatInt_any (u : Nat) (hu : u < 4294967296) (w : World) (hT : w.cell? ⟨5, 15, none⟩ = some (.int .u8 4)) (hg : 5 < w.heap.size) :
    Calls Tryz.prog 66 #[.int .i64 u, .int .i64 16] w fun e w' => e = .returned (.string ⟨(hexL u).toArray⟩) ∧ Below w.heap.size w w' := by
  have HF := Lib.hid (formatBits_any u hu w hT hg)
  generalize hexL u = L at HF ⊢
  clear hT
  go_enter Tryz.func66, Tryz.ntmps66
  go_wp2_with fail
  go_in
  go_wp2_with fail
  refine HF.out.mono ?_
  rintro e w1 ⟨rfl, b1⟩
  go_wp2_with fail
  go_ret
  exact ⟨rfl, b1⟩
end Go.Proofs.YtkgjfagejnppbaaGreatDoor.R
