/- Contract: slices.DeleteFunc with the closure. -/
import Derived.Test.YtngackbgcknphaaBagJ
import Derived.Test.YtngackbgcknphaaBagE
import Derived.BigCall
import Derived.BigGuard
namespace Go.Proofs.Ytngackbgcknphaa.B
open Go.RowKit M
set_option linter.unusedVariables false

theorem own_setcell {w : World} {B : Nat} {e : TypeId} {size g n cap : Nat} {xs : List Value} (h : w.ownsRow B e size (.slice (some ⟨g, 0, none⟩) n cap) n xs) (j : Nat) (hj : j < xs.length) (u : Value) :
    (w.setCell ⟨g, j, none⟩ u).ownsRow B e size (.slice (some ⟨g, 0, none⟩) n cap) n (xs.set j u) := by
  refine ⟨by rw [List.length_set]; exact h.1, ?_⟩
  rcases h.2 with ⟨h0, _⟩ | ⟨g', c, cur, e0, hb, hg, hnc, hm, hs, ht⟩
  · cases h0
  · cases e0
    refine .inr ⟨g, cap, cur.setIfInBounds j u, rfl, hb, ?_, hnc, hm, ?_, ?_⟩
    · have := heap_set w g j u g _ _ _ hg
      rwa [if_pos rfl] at this
    · simpa using hs
    · rw [← ht, Array.toList_setIfInBounds, List.take_set]
theorem cellsE_set (M : List E) (i : Nat) (x : E) : cellsE (M.set i x) = (((cellsE M).set (i * 3) (.int .i64 x.f)).set (i * 3 + 1) (.int .i64 x.t)).set (i * 3 + 2) (.slice x.ao x.l.length x.cap) := by
  induction M generalizing i with
  | nil => simp [cellsE]
  | cons y M ih =>
    cases i with
    | zero => rfl
    | succ i =>
      have := ih i
      rw [show (i + 1) * 3 = i * 3 + 3 by omega]
      show y.cells ++ cellsE (M.set i x) = _
      rw [this]
      rfl
/-- the ones that stay -/
def stay (o : Int) (L : List E) : List E := L.filter fun x => decide (x.t ≠ o)
theorem stay_append (o : Int) (L M : List E) : stay o (L ++ M) = stay o L ++ stay o M := List.filter_append _ _
theorem stay_le (o : Int) (L : List E) : (stay o L).length ≤ L.length := List.length_filter_le _ _

set_option maxRecDepth 100000 in
set_option maxHeartbeats 400000 in
theorem del_none (B : Nat) (w : World) (ao : Option Addr) (cap : Nat) (L : List E) (o : Int) (bx : Nat) (h : w.ownsRow B 24 3 (.slice ao L.length cap) L.length (cellsE L)) (hok : ∀ x ∈ L, BytesV w x.v x.l ∧ x.l.length ≤ 100) (hle : L.length ≤ 4096)
    (hbx : w.heap[bx]? = some (.cells #[others o] 28 (0, 0))) (hno : ∀ x ∈ L, x.t ≠ o) :
    Calls Try.prog 21 #[.slice ao L.length cap, wrap bx] w fun e w' => e = .returned (.slice ao L.length cap) ∧ Below w.heap.size w w' := by
  have HI := Lib.hid (index_none B w ao cap L o bx h hok hle hbx hno)
  clear h hbx hok hno
  unfold wrap at HI ⊢
  go_enter Try.func21, Try.ntmps21
  go_wp2_with fail
  refine HI.out.mono ?_
  rintro e w1 ⟨rfl, b1⟩
  have HB := Lib.hid b1
  clear b1
  go_wp2_with fail
  go_ret
  exact ⟨rfl, HB.out⟩

set_option maxRecDepth 100000 in
set_option maxHeartbeats 1000000 in
theorem del_some (B : Nat) (w : World) (g cap : Nat) (L : List E) (o : Int) (bx : Nat) (h : w.ownsRow B 24 3 (.slice (some ⟨g, 0, none⟩) L.length cap) L.length (cellsE L)) (hok : ∀ x ∈ L, BytesV w x.v x.l ∧ x.l.length ≤ 100) (haw : ∀ x ∈ L, BytesAway (fun k => k = g) x.v x.l) (hle : L.length ≤ 4096)
    (hbx : w.heap[bx]? = some (.cells #[others o] 28 (0, 0))) (hbg : bx ≠ g) (n : Nat) (x : E) (hyn : L[n]? = some x) (hyt : x.t = o) (hno : ∀ (j : Nat) (y : E), j < n → L[j]? = some y → y.t ≠ o) :
    Calls Try.prog 21 #[.slice (some ⟨g, 0, none⟩) L.length cap, wrap bx] w fun e w' => e = .returned (.slice (some ⟨g, 0, none⟩) (stay o L).length cap) ∧ (w'.ownsRow B 24 3 (.slice (some ⟨g, 0, none⟩) (stay o L).length cap) (stay o L).length (cellsE (stay o L)) ∧ Mods (fun k => k = g) w w') := by
  have HI := Lib.hid (index_at B w _ cap L o bx h hok hle hbx n x hyn hyt hno)
  have hnl : n < L.length := (List.getElem?_eq_some_iff.1 hyn).1
  obtain ⟨_, hcm, hcap⟩ : ∃ (_ : True), cap ≤ maxLen ∧ L.length ≤ cap := by
    obtain ⟨_, _, e0, h1, h2, _⟩ := own_view h
    cases e0
    exact ⟨trivial, h2, h1⟩
  have HST := Lib.hid (show (L.take (n + 1)).length = n + 1 ∧ stay o (L.take (n + 1)) = L.take n from by
    refine ⟨by rw [List.length_take]; omega, ?_⟩
    rw [List.take_add_one, hyn, stay_append]
    have e1 : stay o (L.take n) = L.take n := List.filter_eq_self.2 (fun y hy => by
      obtain ⟨j, hj⟩ := List.mem_iff_getElem?.1 hy
      have hjn : j < n := by have := (List.getElem?_eq_some_iff.1 hj).1; rw [List.length_take] at this; omega
      rw [List.getElem?_take, if_pos hjn] at hj
      exact decide_eq_true (hno j y hjn hj))
    rw [e1]
    simp [stay, hyt])
  have hgl : g < w.heap.size := (h.lt g rfl).2
  have HOW := Lib.hid h
  have HOK := Lib.hid hok
  have HAW := Lib.hid haw
  have HBX := Lib.hid hbx
  clear h hbx hok hno hyt hyn haw
  unfold wrap at HI ⊢
  go_enter Try.func21, Try.ntmps21
  go_wp2_with fail
  refine HI.out.mono ?_
  rintro e w1 ⟨rfl, b1⟩
  have HB := Lib.hid b1
  have hn1 : ((n : Int) == -1) = false := by rw [beq_eq_false_iff_ne]; omega
  clear b1
  go_wp2_with fail
  go_loopw [5, 6] (fun iv jv wr => ∃ (i j : Nat) (M : List E), iv = .int .i64 i ∧ jv = .int .i64 j ∧ i < j ∧ j ≤ L.length ∧ M.length = L.length ∧ i = (stay o (L.take j)).length ∧ M.take i = stay o (L.take j) ∧ M.drop j = L.drop j ∧ wr.ownsRow B 24 3 (.slice (some ⟨g, 0, none⟩) L.length cap) L.length (cellsE M) ∧ Mods (fun k => k = g) w wr) (fun _ jv _ => L.length - (intOf jv).toNat)
  case atStart =>
    refine ⟨n, n + 1, L, rfl, by go_num, by omega, by omega, rfl, ?_, ?_, rfl, ?_, Mods.of_below HB.out⟩
    · rw [HST.out.2, List.length_take]; omega
    · rw [HST.out.2]
    · exact own_kept HOW.out (Mods.of_below (S := fun _ => False) HB.out) (fun _ _ h => h)
  case round =>
    obtain ⟨i, j, M, rfl, rfl, hij, hj, hMl, hi, hMt, hMd, hown, hm⟩ := hrel
    have HO := Lib.hid hown
    have HM := Lib.hid hm
    have HI2 := Lib.hid (And.intro hi (And.intro hMt hMd))
    clear hi hMt hMd
    by_cases hlt : j < L.length
    · obtain ⟨y, hy⟩ : ∃ y, L[j]? = some y := ⟨_, List.getElem?_eq_getElem hlt⟩
      have hyM : M[j]? = some y := by
        have h1 : (M.drop j)[0]? = (L.drop j)[0]? := by rw [HI2.out.2.2]
        simpa [List.getElem?_drop, hy] using h1
      obtain ⟨z, hzM⟩ : ∃ z, M[i]? = some z := ⟨_, List.getElem?_eq_getElem (by omega)⟩
      have hmem := List.mem_of_getElem? hy
      obtain ⟨hb1, hb2⟩ := HOK.out y hmem
      have hb1' := hb1.keep hm (HAW.out y hmem)
      obtain ⟨g', e0, hgr, hg⟩ := rowcell hown (by omega)
      obtain rfl : g = g' := by simpa using e0
      obtain ⟨q0, q1, q2⟩ := cellsE_get M j y hyM
      have c0 := (hg _ _ q0).1
      have c1 := (hg _ _ q1).1
      have c2 := (hg _ _ q2).1
      have hbxr := hm.heap HBX.out hbg
      have HBXr := Lib.hid hbxr
      have hbxl := heap_lt hbxr
      have HV := Lib.hid hb1'
      have HY := Lib.hid hy
      have HZ := Lib.hid hzM
      have hjl : (j : Int) < (L.length : Int) := by omega
      clear hown hm hy hyM hzM hb1 hb1' e0 hg q0 q1 q2 hbxr
      go_wp2_with fail
      obtain ⟨W2, hW2⟩ : ∃ W2, W2 = wr.alloc (.cells #[.int .i64 y.f, .int .i64 y.t, .slice y.ao y.l.length y.cap] 24) := ⟨_, rfl⟩
      have hM2 : Mods (fun _ => False) wr W2 := by rw [hW2]; exact (Mods.refl _ wr).alloc _
      have hbox : W2.heap[wr.heap.size]? = some (.cells #[.int .i64 y.f, .int .i64 y.t, .slice y.ao y.l.length y.cap] 24 (0, 0)) := by rw [hW2]; exact heap_alloc_new wr _
      rw [← hW2]
      clear hW2
      have HM2 := Lib.hid hM2
      have HBOX := Lib.hid hbox
      clear hM2 hbox
      by_cases hto : y.t = o
      · refine (wrap_fn o bx y W2 true (decide_eq_true hto) (HM2.out.heap HBXr.out (fun h => h)) (HV.out.keep HM2.out (fun _ _ _ h => h)) hb2).mono ?_
        rintro e w3 ⟨rfl, b3⟩
        have HMM := Lib.hid (((HM.out.then HM2.out (fun _ _ h => h.elim)).then (Mods.of_below (S := fun _ => False) b3) (fun _ _ h => h.elim)))
        have HO3 := Lib.hid (own_kept (own_kept HO.out HM2.out (fun _ _ h => h)) (Mods.of_below (S := fun _ => False) b3) (fun _ _ h => h))
        have HN := Lib.hid (show stay o (L.take (j + 1)) = stay o (L.take j) from by rw [List.take_add_one, HY.out, stay_append]; simp [stay, hto])
        have HD := Lib.hid (show M.drop (j + 1) = L.drop (j + 1) from by rw [← List.drop_drop, HI2.out.2.2, List.drop_drop])
        clear b3 hto c0 c1 c2
        go_wp2_with fail
        go_roundw
        case rel =>
          exact ⟨i, j + 1, M, rfl, by go_num, by omega, by omega, hMl, by rw [HN.out]; exact HI2.out.1, by rw [HN.out]; exact HI2.out.2.1, HD.out, HO3.out, HMM.out⟩
        case measure => simp [intOf]; omega
      · refine (wrap_fn o bx y W2 false (decide_eq_false hto) (HM2.out.heap HBXr.out (fun h => h)) (HV.out.keep HM2.out (fun _ _ _ h => h)) hb2).mono ?_
        rintro e w3 ⟨rfl, b3⟩
        have hm3 := ((HM.out.then HM2.out (fun _ _ h => h.elim)).then (Mods.of_below (S := fun _ => False) b3) (fun _ _ h => h.elim))
        have ho3 := (own_kept (own_kept HO.out HM2.out (fun _ _ h => h)) (Mods.of_below (S := fun _ => False) b3) (fun _ _ h => h))
        have hbox3 := (b3.block _ (heap_lt HBOX.out)).trans HBOX.out
        obtain ⟨e0, e1, e2⟩ := (box3 hbox3).1
        obtain ⟨g', eg, hg3, hg⟩ := rowcell ho3 (by omega)
        obtain rfl : g = g' := by simpa using eg
        obtain ⟨q0, q1, q2⟩ := cellsE_get M i z HZ.out
        obtain ⟨z0, f0⟩ := hg _ _ q0
        obtain ⟨z1, f1⟩ := hg _ _ q1
        obtain ⟨z2, f2⟩ := hg _ _ q2
        have HM3 := Lib.hid hm3
        have HO3 := Lib.hid ho3
        have HN := Lib.hid (show stay o (L.take (j + 1)) = stay o (L.take j) ++ [y] from by rw [List.take_add_one, HY.out, stay_append]; simp [stay, hto])
        have HD := Lib.hid (show (M.set i y).drop (j + 1) = L.drop (j + 1) from by
          rw [List.drop_set, if_pos (by omega), ← List.drop_drop, HI2.out.2.2, List.drop_drop])
        have HT := Lib.hid (show (M.set i y).take (i + 1) = stay o (L.take j) ++ [y] from by
          rw [List.take_add_one, List.take_set_of_le (by omega), HI2.out.2.1, List.getElem?_set_self (by omega)]
          rfl)
        have hil : (i : Int) < (L.length : Int) := by omega
        have hgw : ¬ g = wr.heap.size := by omega
        clear b3 hto c0 c1 c2 hm3 ho3 hbox3 eg hg q0 q1 q2
        go_wp2_with fail
        go_roundw
        case rel => 
          refine ⟨i + 1, j + 1, M.set i y, by go_num, by go_num, by omega, by omega, by simpa using hMl, ?_, ?_, HD.out, ?_, ?_⟩
          · rw [HN.out, List.length_append, ← HI2.out.1]; rfl
          · rw [HN.out]; exact HT.out
          · rw [cellsE_set]
            have hcl : (cellsE M).length = M.length * 3 := cellsE_length M
            exact own_setcell (own_setcell (own_setcell HO3.out (i * 3) (by omega) _) (i * 3 + 1) (by rw [List.length_set]; omega) _) (i * 3 + 2) (by rw [List.length_set, List.length_set]; omega) _
          · exact ((HM3.out.setCell (p := ⟨g, i * 3, none⟩) (fun _ => rfl) _).setCell (p := ⟨g, i * 3 + 1, none⟩) (fun _ => rfl) _).setCell (p := ⟨g, i * 3 + 2, none⟩) (fun _ => rfl) _
        case measure => simp [intOf]; omega
    · obtain rfl : j = L.length := by omega
      rw [List.take_length] at HI2
      have hjl : ¬ ((L.length : Nat) : Int) < (L.length : Int) := by omega
      obtain ⟨hxl, h2⟩ := hown
      rcases h2 with ⟨h0, _⟩ | ⟨g', c', cur, e0, hB, hg, hnc, hcm', hcs, htk⟩
      · cases h0
      cases e0
      obtain ⟨zs, hzs⟩ : ∃ zs, (Builtin.zeroCells (Value.agg #[.int .i64 0, .int .i64 0, .slice none 0 0]).cells (L.length - i)).toList = zs := ⟨_, rfl⟩
      have hzl : zs.length = (L.length - i) * 3 := by rw [← hzs, Array.length_toList, size_zeroCells]; rfl
      have hz1 : ∀ u ∈ zs, u.oneCell' = true := by
        intro u hu
        rw [← hzs] at hu
        simp only [Builtin.zeroCells, Value.cells, Array.toList_map, List.mem_map, Array.mem_toList_iff, Array.mem_range] at hu
        obtain ⟨q, hq, rfl⟩ := hu
        have : q % 3 = 0 ∨ q % 3 = 1 ∨ q % 3 = 2 := by omega
        rcases this with h | h | h <;> simp [h, Value.oneCell']
      obtain ⟨cur2, hcur2⟩ : ∃ cur2, cur2 = (cur.toList.take (i * 3) ++ zs ++ cur.toList.drop (i * 3 + zs.length)).toArray := ⟨_, rfl⟩
      have hcl : (Builtin.clear_ #[33] 0 #[.slice (some ⟨g, i * 3, none⟩) (L.length - i) (cap - i)]).run Try.prog wr = .ok (.tuple #[]) (wr.setRow g cur2) := by
        rw [hcur2]
        exact run_clear_row (P := Try.prog) wr 33 24 0 _ Try.underlying33 zero_env g (i * 3) (L.length - i) (cap - i) cur hg zs hzs (by rw [hzl, hcs]; omega) hz1 (by omega)
      have HEND := Lib.hid (show (wr.setRow g cur2).ownsRow B 24 3 (.slice (some ⟨g, 0, none⟩) i cap) i (cellsE (stay o L)) ∧ Mods (fun k => k = g) w (wr.setRow g cur2) from by
        refine ⟨⟨by rw [cellsE_length, ← HI2.out.1], .inr ⟨g, cap, cur2, rfl, hB, setRow_heap wr g cur cur2 _ (0, 0) hg, by omega, hcm', ?_, ?_⟩⟩, HM.out.setRow (fun _ => rfl) _⟩
        · rw [hcur2]; simp only [List.size_toArray, List.length_append, List.length_take, List.length_drop, Array.length_toList, hcs, hzl]; omega
        · have h1 : (cur.toList.take (i * 3)).length = i * 3 := by rw [List.length_take, Array.length_toList, hcs]; omega
          rw [hcur2]
          show List.take (i * 3) (cur.toList.take (i * 3) ++ _ ++ _) = _
          rw [List.append_assoc, List.take_append_of_le_length (by omega), List.take_take, Nat.min_self, ← HI2.out.2.1, cellsE_take, ← htk, List.take_take, Nat.min_eq_left (by omega)])
      have HI3 := Lib.hid HI2.out.1
      have hic : i ≤ cap := by omega
      have hci : ¬ cap = i := by omega
      have hiL : i ≤ L.length := by omega
      have hcm2 : (cap : Int) ≤ 9223372036854775807 := by unfold maxLen at hcm; omega
      clear hxl hg htk hzs hcur2 hm hz1 hcs
      go_wp2_with fail
      go_ret
      refine ⟨ret_val (by rw [← HI3.out]; rfl), ?_⟩
      rw [← HI3.out]
      exact HEND.out
end Go.Proofs.Ytngackbgcknphaa.B
