/- The program's clean, Beginning, Key, Begins; the reference's Beginning, Key, Begins. -/
import Derived.Test.YtlbkbjeajcadiaaGreatDoorMrg4
namespace Go.Proofs.YtlbkbjeajcadiaaGreatDoor.R
open Go.RowKit Go.PlainAid Go.Lib

def okR (p : Int × Int) : Bool := decide (32 ≤ p.1 ∧ p.1 ≠ 127)
/-- may all runes stand in a key? -/
def cleanV (s : ByteArray) : Bool := (rl s).all okR
theorem okR_dec (s : ByteArray) (k : Nat) : okR (ofDec (Utf8.decode s k)) = (!(decide ((Utf8.decode s k).1 < 32) || decide ((Utf8.decode s k).1 = 127) || lone s k)) := by
  obtain ⟨⟨c, n⟩, hd⟩ : ∃ x, Utf8.decode s k = x := ⟨_, rfl⟩
  unfold okR lone ofDec
  rw [hd]
  by_cases h : c = 65533 ∧ n = 1
  · obtain ⟨rfl, rfl⟩ := h; simp
  · rw [if_neg (by simpa using h)]
    have h2 : decide ((c, n) = (65533, 1)) = false := decide_eq_false (by simpa using h)
    rw [h2, Bool.or_false]
    by_cases h3 : c < 32
    · rw [decide_eq_true h3, decide_eq_false (by show ¬ (32 ≤ (c : Int) ∧ _); omega)]; rfl
    · by_cases h4 : c = 127
      · rw [decide_eq_false h3, decide_eq_true h4, decide_eq_false (by show ¬ (32 ≤ (c : Int) ∧ (c : Int) ≠ 127); omega)]; rfl
      · rw [decide_eq_false h3, decide_eq_false h4, decide_eq_true (by show 32 ≤ (c : Int) ∧ (c : Int) ≠ 127; omega)]; rfl

theorem heap_of_below {B k : Nat} {w w' : World} {o : Obj} (h : w.heap[k]? = some o) (hb : Below B w w') (hk : k < B) : w'.heap[k]? = some o := (hb.block k hk).trans h
theorem heap_lt {k : Nat} {w : World} {o : Obj} (h : w.heap[k]? = some o) : k < w.heap.size := (Array.getElem?_eq_some_iff.1 h).1

set_option maxRecDepth 100000 in
set_option maxHeartbeats 1000000 in
theorem clean_any (s : ByteArray) (w : World) (hs : s.size ≤ 140737488355328) (hT : Lib.Utf8Tabs 0 1 w) (g3 : 0 < w.heap.size) (g4 : 1 < w.heap.size) :
    Calls Tryz.prog 108 #[.string s] w fun e w' => e = .returned (.bool (cleanV s)) ∧ Below w.heap.size w w' := by
  have HT := Lib.hid hT
  have HS := Lib.hid hs
  clear hT hs
  go_enter Tryz.func108, Tryz.ntmps108
  go_wp2
  go_loopw [] (fun wr => ∃ (pos f : Nat), wr.heap[w.heap.size]? = some (.stringIter s pos) ∧ Below w.heap.size w wr ∧ (rfrom s f pos).all okR = cleanV s ∧ s.size ≤ pos + f) (fun wr => s.size - wr.iterPos w.heap.size)
  case atStart => exact ⟨0, s.size, World.iter_heap w s 0, (Below.refl _ _).alloc (Nat.le_refl _) _, rfl, by omega⟩
  case round =>
    obtain ⟨pos, f, hit, hbw, hall, hf⟩ := hrel
    have HA := Lib.hid hall
    clear hall
    have hsz := heap_lt hit
    have HP := Lib.hid (show wr.iterPos w.heap.size = pos by simp only [World.iterPos, hit])
    by_cases hp : pos < s.size
    · have hnx : ∀ ty, (Instr.next (.pointer (some ⟨w.heap.size, 0, none⟩)) true ty).run Tryz.prog wr = _ := fun ty => Lib.run_next_any_at wr w.heap.size s pos ty hit hp
      have hwd := dec_width s pos hp
      have hok := okR_dec s pos
      have hit2 := Lib.iterAt_heap wr w.heap.size s pos (pos + (Utf8.decode s pos).2) hit
      have hbw2 := Lib.below_iterAt hbw (k := w.heap.size) (Nat.le_refl _) s (pos + (Utf8.decode s pos).2)
      have hst : f = (f - 1) + 1 := by omega
      have hr : rfrom s f pos = ofDec (Utf8.decode s pos) :: rfrom s (f - 1) (pos + (Utf8.decode s pos).2) := by
        conv => lhs; rw [hst]
        rw [rfrom, if_pos hp]
      have HR := Lib.hid hr
      have HO := Lib.hid hok
      have HI := Lib.hid hit2
      have HB := Lib.hid hbw2
      clear hr hok hit hbw hst hit2 hbw2
      have hal := fun W hW => alone_any s pos W HS.out hp hW
      have HL := Lib.hid hal
      clear hal
      obtain ⟨W2, hW2⟩ : ∃ W2, wr.iterAt w.heap.size s (pos + (Utf8.decode s pos).2) = W2 := ⟨_, rfl⟩
      rw [hW2] at hnx HI HB
      have hz2 : wr.heap.size = W2.heap.size := by rw [← hW2, Lib.iterAt_size]
      clear hW2
      obtain ⟨d, hd⟩ : ∃ d, Utf8.decode s pos = d := ⟨_, rfl⟩
      rw [hd] at hnx hwd HR HO HI HL
      clear hd
      by_cases h32 : d.1 < 32
      · have HF := Lib.hid (show cleanV s = false by rw [← HA.out, HR.out, List.all_cons, HO.out, decide_eq_true h32]; rfl)
        go_wp2_with fail
        go_ret
        exact ⟨ret_bool HF.out.symm, HB.out⟩
      · by_cases h127 : d.1 = 127
        · have HF := Lib.hid (show cleanV s = false by rw [← HA.out, HR.out, List.all_cons, HO.out, decide_eq_true h127, Bool.or_true]; rfl)
          have e1 : ((d.1 : Int) == 127) = true := beq_true' (by omega)
          clear h127
          go_wp2_with fail
          go_ret
          exact ⟨ret_bool HF.out.symm, HB.out⟩
        · have e1 : ((d.1 : Int) == 127) = false := beq_false' (by omega)
          have HQ := Lib.hid (show ∀ β, lone s pos = β → okR (ofDec d) = !β by intro β hβ; rw [HO.out, decide_eq_false h32, decide_eq_false h127, hβ]; rfl)
          clear h127
          go_wp2_with fail
          refine (HL.out W2 (tabs_of_below HT.out HB.out g3 g4)).mono ?_
          rintro e w2 ⟨rfl, b2⟩
          cases hlo : lone s pos with
          | true =>
            have HF := Lib.hid (show cleanV s = false by rw [← HA.out, HR.out, List.all_cons, HQ.out true hlo]; rfl)
            clear hlo
            go_wp2_with fail
            go_ret
            exact ⟨ret_bool HF.out.symm, HB.out.trans (b2.mono HB.out.size)⟩
          | false =>
            have HF := Lib.hid (show (rfrom s (f - 1) (pos + d.2)).all okR = cleanV s by rw [← HA.out, HR.out, List.all_cons, HQ.out false hlo]; rfl)
            clear hlo
            go_wp2_with fail
            go_roundw
            case rel => exact ⟨pos + d.2, f - 1, heap_of_below HI.out b2 (by omega), HB.out.trans (b2.mono HB.out.size), HF.out, by omega⟩
            case measure =>
              have h1 := heap_of_below HI.out b2 (by omega)
              have h2 := HP.out
              have h3 : w2.iterPos w.heap.size = pos + d.2 := by simp only [World.iterPos, h1]
              rw [h2, h3]
              omega
    · have hnx : ∀ ty, (Instr.next (.pointer (some ⟨w.heap.size, 0, none⟩)) true ty).run Tryz.prog wr = _ := fun ty => Lib.run_next_end_at wr w.heap.size s pos ty hit hp
      have HF := Lib.hid (show cleanV s = true by rw [← HA.out, rfrom_end s f pos hp]; rfl)
      go_wp2_with fail
      go_ret
      exact ⟨ret_bool HF.out.symm, hbw⟩

/-! ### keys -/
theorem runeCount_rl (s : ByteArray) : Lib.runeCount s = (rl s).length := by
  have h : ∀ f k, Lib.runeCountFrom s f k = (rfrom s f k).length := by
    intro f
    induction f with
    | zero => intro k; rfl
    | succ f ih =>
      intro k
      simp only [Lib.runeCountFrom, rfrom]
      split
      · rw [ih, List.length_cons]; omega
      · rfl
  exact h _ _
/-- is a text a beginning? -/
def beginV (s : ByteArray) : Bool := decide ((rl s).length ≤ 32) && cleanV s
def keyV (s : ByteArray) : Bool := !(s.size == 0) && beginV s
/-- the error's number -/
def errV (b : Bool) : Int := if b then 0 else 11

set_option maxRecDepth 100000 in
set_option maxHeartbeats 400000 in
theorem beginning_any (s : ByteArray) (w : World) (hs : s.size ≤ 140737488355328) (hT : Lib.Utf8Tabs 0 1 w) (g3 : 0 < w.heap.size) (g4 : 1 < w.heap.size) :
    Calls Tryz.prog 81 #[.string s] w fun e w' => e = .returned (.int .i64 (errV (beginV s))) ∧ Below w.heap.size w w' := by
  have HT := Lib.hid hT
  have HS := Lib.hid hs
  clear hT hs
  have hc := fun W => count_any s W HS.out
  have HC := Lib.hid hc
  have hcl := fun W (hb : Below w.heap.size w W) => clean_any s W HS.out (tabs_of_below HT.out hb g3 g4) (Nat.lt_of_lt_of_le g3 hb.size) (Nat.lt_of_lt_of_le g4 hb.size)
  have HL := Lib.hid hcl
  have hrc := runeCount_rl s
  obtain ⟨n, hn⟩ : ∃ n, Lib.runeCount s = n := ⟨_, rfl⟩
  have HN := Lib.hid hn
  have HE := Lib.hid (hn.symm.trans hrc)
  clear hc hcl hrc hn
  go_enter Tryz.func81, Tryz.ntmps81
  go_wp2_with fail
  refine (HC.out w).mono ?_
  rintro e w1 ⟨rfl, b1⟩
  rw [HN.out]
  by_cases h32 : 32 < n
  · have HF := Lib.hid (show beginV s = false by unfold beginV; rw [← HE.out, decide_eq_false (by omega)]; rfl)
    go_wp2_with fail
    go_ret
    exact ⟨ret_int (by rw [HF.out]; rfl), b1⟩
  · have HF := Lib.hid (show beginV s = cleanV s by unfold beginV; rw [← HE.out, decide_eq_true (by omega)]; rfl)
    go_wp2_with fail
    refine (HL.out w1 b1).mono ?_
    rintro e w2 ⟨rfl, b2⟩
    have b2 := b1.trans (b2.mono b1.size)
    clear b1
    cases hv : cleanV s with
    | true =>
      have HV := Lib.hid hv
      clear hv
      go_wp2_with fail
      go_ret
      exact ⟨ret_int (by rw [HF.out, HV.out]; rfl), b2⟩
    | false =>
      have HV := Lib.hid hv
      clear hv
      go_wp2_with fail
      go_ret
      exact ⟨ret_int (by rw [HF.out, HV.out]; rfl), b2⟩

theorem toList_data (s : ByteArray) : s.toList = s.data.toList := by
  have h := Lib.extract_toList s 0 s.size
  have h2 := Lib.extract_data s 0 s.size
  rw [ByteArray.extract_zero_size] at h h2
  rw [h, ← h2]
theorem empty_iff (s : ByteArray) : s.toList.isEmpty = (s.size == 0) := by
  rw [toList_data]
  cases s with
  | mk d =>
    show d.toList.isEmpty = (d.size == 0)
    rw [Bool.eq_iff_iff]
    simp
theorem prefix_take (s t : ByteArray) (_h : t.size ≤ s.size) : ((s.extract 0 t.size).toList == t.toList) = Lib.hasPrefix s.data.toList t.data.toList := by
  rw [Lib.extract_toList, toList_data, List.drop_zero, Nat.sub_zero]
  unfold Lib.hasPrefix
  have hl : t.size = t.data.toList.length := rfl
  rw [hl, Bool.eq_iff_iff, beq_iff_eq, List.isPrefixOf_iff_prefix]
  constructor
  · intro e; rw [← e]; exact List.take_prefix _ _
  · rintro ⟨r, hr⟩; rw [← hr]; simp
theorem prefix_long (s t : ByteArray) (h : ¬ t.size ≤ s.size) : Lib.hasPrefix s.data.toList t.data.toList = false := by
  unfold Lib.hasPrefix
  rw [Bool.eq_false_iff]
  intro e
  have := (List.isPrefixOf_iff_prefix.1 e).length_le
  exact h this

set_option maxRecDepth 100000 in
set_option maxHeartbeats 400000 in
theorem key_any (s : ByteArray) (w : World) (hs : s.size ≤ 140737488355328) (hT : Lib.Utf8Tabs 0 1 w) (g3 : 0 < w.heap.size) (g4 : 1 < w.heap.size) :
    Calls Tryz.prog 82 #[.string s] w fun e w' => e = .returned (.int .i64 (errV (keyV s))) ∧ Below w.heap.size w w' := by
  have HB := Lib.hid (beginning_any s w hs hT g3 g4)
  clear hs hT
  go_enter Tryz.func82, Tryz.ntmps82
  go_wp2_with fail
  · have h : s.toList.isEmpty = true := by assumption
    rw [empty_iff] at h
    go_ret
    exact ⟨ret_int (by unfold keyV; rw [h]; rfl), Below.refl _ _⟩
  · have h : s.toList.isEmpty = false := by assumption
    rw [empty_iff] at h
    have HF := Lib.hid (show keyV s = beginV s by unfold keyV; rw [h]; rfl)
    refine HB.out.mono ?_
    rintro e w1 ⟨rfl, b1⟩
    go_wp2_with fail
    go_ret
    exact ⟨ret_int (by rw [HF.out]), b1⟩

theorem begins_any (s t : ByteArray) (w : World) :
    Calls Tryz.prog 164 #[.string s, .string t] w fun e w' => e = .returned (.bool (Lib.hasPrefix s.data.toList t.data.toList)) ∧ w = w' := by
  go_enter Tryz.func164, Tryz.ntmps164
  go_wp2_with fail
  refine (Tryz.strings_HasPrefix s t w).mono ?_
  rintro e w1 ⟨rfl, rfl⟩
  go_wp2_with fail
  go_ret
  exact ⟨rfl, rfl⟩

set_option maxRecDepth 100000 in
set_option maxHeartbeats 400000 in
theorem refBegins_any (s t : ByteArray) (w : World) :
    Calls Tryz.prog 35 #[.string s, .string t] w fun e w' => e = .returned (.bool (Lib.hasPrefix s.data.toList t.data.toList)) ∧ w = w' := by
  go_enter Tryz.func35, Tryz.ntmps35
  go_wp2_with fail
  · have h : t.size ≤ s.size := by assumption
    go_ret
    exact ⟨ret_bool (prefix_take s t h), rfl⟩
  · have h : ¬ t.size ≤ s.size := by assumption
    go_ret
    exact ⟨ret_bool (prefix_long s t h).symm, rfl⟩

/-! ### the reference's beginnings -/
/-- an owned row, looked at -/
theorem own_view {w : World} {base : Nat} {e : TypeId} {size : Nat} {v : Value} {n : Nat} {xs : List Value} (h : w.ownsRow base e size v n xs) :
    ∃ ao cap, v = .slice ao n cap ∧ n ≤ maxLen ∧ (0 < n → ∃ g, ao = some ⟨g, 0, none⟩ ∧ base ≤ g ∧ g < w.heap.size ∧ ∀ j, j < n * size → w.cell? ⟨g, j, none⟩ = xs[j]?) := by
  have h' := h
  rcases h with ⟨_, ⟨rfl, rfl⟩ | ⟨g, cap, cur, rfl, hb, hg, hn, hc, _, _⟩⟩
  · exact ⟨none, 0, rfl, Nat.zero_le _, fun h => absurd h (by omega)⟩
  · exact ⟨some ⟨g, 0, none⟩, cap, rfl, Nat.le_trans hn hc, fun _ => ⟨g, rfl, hb, (Array.getElem?_eq_some_iff.1 hg).1, fun j hj => h'.cellAt j hj⟩⟩
theorem cellsR_get : ∀ (l : List (Int × Int)) (i : Nat) (h : i < l.length), (cellsR l)[i * 2]? = some (.int .i64 l[i].1) ∧ (cellsR l)[i * 2 + 1]? = some (.int .i64 l[i].2)
  | p :: l, 0, _ => ⟨rfl, rfl⟩
  | p :: l, i + 1, h => by
    have := cellsR_get l i (by simpa using h)
    have e : (i + 1) * 2 = i * 2 + 2 := by omega
    rw [e]
    exact this
set_option maxRecDepth 100000 in
set_option maxHeartbeats 1000000 in
theorem refBeginning_any (s : ByteArray) (w : World) (hs : s.size ≤ 1000000) :
    Calls Tryz.prog 100 #[.string s] w fun e w' => e = .returned (.bool (beginV s)) ∧ Below w.heap.size w w' := by
  have HR := Lib.hid (runes_any s w hs)
  have hl := rl_length s
  obtain ⟨l, hlr⟩ : ∃ l, rl s = l := ⟨_, rfl⟩
  have HV := Lib.hid (show beginV s = (decide (l.length ≤ 32) && l.all okR) by unfold beginV cleanV; rw [hlr])
  rw [hlr] at HR hl
  have hl' : l.length ≤ 1000000 := by omega
  clear hlr hl
  go_enter Tryz.func100, Tryz.ntmps100
  go_wp2_with fail
  refine HR.out.mono ?_
  rintro e w1 ⟨v, rfl, hown, b1⟩
  go_wp2_with fail
  obtain ⟨ao, cap, rfl, _, hv⟩ := own_view hown
  have HO := Lib.hid hv
  clear hv hown
  go_loop [4] (fun i => ∃ k : Nat, k ≤ l.length ∧ i = .int .i64 k ∧ (l.drop k).all okR = l.all okR) (fun i => l.length - (RowKit.intOf i).toNat)
  case atStart => exact ⟨0, Nat.zero_le _, rfl, rfl⟩
  case round =>
    obtain ⟨k, hk, rfl, hall⟩ := hrel
    have HA := Lib.hid hall
    clear hall
    by_cases hlt : k < l.length
    · obtain ⟨g, rfl, _, hg, hcell⟩ := HO.out (by omega)
      have hc := (hcell (k * 2) (by omega)).trans (cellsR_get l k hlt).1
      have HC := Lib.hid hcell
      have HD := Lib.hid (show (l.drop k).all okR = (okR l[k] && (l.drop (k + 1)).all okR) by rw [List.drop_eq_getElem_cons hlt]; rfl)
      clear hcell
      obtain ⟨p, hp⟩ : ∃ p, l[k] = p := ⟨_, rfl⟩
      rw [hp] at hc HD
      clear hp
      by_cases h32 : p.1 < 32
      · have HF := Lib.hid (show beginV s = false by
          rw [HV.out, ← HA.out, HD.out]; unfold okR; rw [decide_eq_false (by omega : ¬ (32 ≤ p.1 ∧ p.1 ≠ 127))]; simp)
        go_wp2_with fail
        go_ret
        exact ⟨ret_bool HF.out.symm, b1⟩
      · by_cases h127 : p.1 = 127
        · have HF := Lib.hid (show beginV s = false by
            rw [HV.out, ← HA.out, HD.out]; unfold okR; rw [decide_eq_false (by omega : ¬ (32 ≤ p.1 ∧ p.1 ≠ 127))]; simp)
          have e1 : (p.1 == 127) = true := beq_true' h127
          clear h127
          go_wp2_with fail
          go_ret
          exact ⟨ret_bool HF.out.symm, b1⟩
        · have HF := Lib.hid (show (l.drop (k + 1)).all okR = l.all okR by
            rw [← HA.out, HD.out]; unfold okR; rw [decide_eq_true (by omega : 32 ≤ p.1 ∧ p.1 ≠ 127)]; rfl)
          have e1 : (p.1 == 127) = false := beq_false' h127
          clear h127
          go_wp2_with fail
          go_round
          case rel => exact ⟨k + 1, by omega, by go_num, HF.out⟩
          case measure => simp [RowKit.intOf]; omega
    · obtain rfl : k = l.length := by omega
      have HF := Lib.hid (show beginV s = decide (l.length ≤ 32) by rw [HV.out, ← HA.out, List.drop_length]; simp)
      go_wp2_with fail
      go_ret
      refine ⟨ret_bool ?_, b1⟩
      rw [HF.out]
      simp
      omega

set_option maxRecDepth 100000 in
set_option maxHeartbeats 400000 in
theorem refKey_any (s : ByteArray) (w : World) (hs : s.size ≤ 1000000) :
    Calls Tryz.prog 101 #[.string s] w fun e w' => e = .returned (.bool (keyV s)) ∧ Below w.heap.size w w' := by
  have HB := Lib.hid (refBeginning_any s w hs)
  clear hs
  go_enter Tryz.func101, Tryz.ntmps101
  go_wp2_with fail
  · have h : s.toList = [] := by assumption
    have h2 : (s.size == 0) = true := by rw [← empty_iff, h]; rfl
    go_ret
    exact ⟨ret_bool (by unfold keyV; rw [h2]; rfl), Below.refl _ _⟩
  · have h : ¬ s.toList = [] := by assumption
    have h2 : (s.size == 0) = false := by rw [← empty_iff]; simpa using h
    have HF := Lib.hid (show keyV s = beginV s by unfold keyV; rw [h2]; rfl)
    have H2 := Lib.hid h2
    clear h h2
    refine HB.out.mono ?_
    rintro e w1 ⟨rfl, b1⟩
    go_wp2_with fail
    go_ret
    exact ⟨ret_bool (by rw [HF.out, empty_iff, H2.out]; rfl), b1⟩
end Go.Proofs.YtlbkbjeajcadiaaGreatDoor.R
