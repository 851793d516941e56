/- Several texts in one. -/
import Derived.Test.YtndfhejfhfhbdaaGreatDoorMrg27
import Derived.Test.YtndfhejfhfhbdaaGreatDoorMrg24
import Derived.Test.YtndfhejfhfhbdaaGreatDoorMrg25
import Derived.Laws.Small
import Derived.Test.YtndfhejfhfhbdaaGreatDoorMrg26

/- The law's place, turned. -/
namespace Go.Proofs.YtndfhejfhfhbdaaGreatDoor.O
open Go.RowKit Go.Proofs.YtndfhejfhfhbdaaGreatDoor.M Go.BigFrame Go.Proofs.YtndfhejfhfhbdaaGreatDoor.K
set_option linter.unusedVariables false
set_option linter.unusedSimpArgs false

set_option maxRecDepth 100000 in
set_option maxHeartbeats 4000000 in
theorem place_any (l : List Id) (ao : Option Addr) (cap : Nat) (i : Id) (w : World) (h : IdsV w ao cap l) (v : Int) (hv : atI l i = v) :
    Calls Tryz.prog 26 #[.slice ao l.length cap, idV i] w fun e w' => e = .returned (.int .i64 v) ∧ Below w.heap.size w w' := by
  obtain ⟨hl1, hl2⟩ := h.le
  unfold maxLen at hl2
  have H := Lib.hid h
  have HV := Lib.hid hv
  clear h hv
  go_enter Tryz.func26, Tryz.ntmps26
  go_upto_region 1 with fail
  obtain ⟨W, hW⟩ : ∃ W, W = w.alloc (idO i) := ⟨_, rfl⟩
  rw [← hW]
  have HB : Hid (Below w.heap.size w W) := Lib.hid (by rw [hW]; exact (Below.refl _ _).alloc (Nat.le_refl _) _)
  have HX : Hid (W.heap[w.heap.size]? = some (idO i)) := Lib.hid (by rw [hW]; exact heap_alloc_new w _)
  clear hW
  have HL := Lib.hid (H.out.below (B := 0) HB.out)
  have hlt := M.heap_lt HX.out
  clear H
  go_wp2_with fail
  go_loopw [5] (fun iv wr => ∃ k : Nat, iv = .int .i64 k ∧ k ≤ l.length ∧ Below W.heap.size W wr ∧ (∀ j x, j < k → l[j]? = some x → x ≠ i)) (fun iv _ => l.length - (intOf iv).toNat)
  case atStart => exact ⟨0, rfl, Nat.zero_le _, Below.refl _ _, fun j x hj => absurd hj (by omega)⟩
  case round =>
    obtain ⟨k, rfl, hk, hb, hno⟩ := hrel
    have HNO := Lib.hid hno
    have HBR := Lib.hid hb
    clear hno hb
    by_cases hkl : k < l.length
    · have hii : (k : Int) < (l.length : Int) := by omega
      obtain ⟨x, hx⟩ : ∃ x, l[k]? = some x := ⟨_, List.getElem?_eq_getElem hkl⟩
      obtain ⟨b, off, rfl, hbl, c0, c1⟩ := HL.out.row k x hx
      obtain ⟨⟨d0, d1⟩, _⟩ := box2 HX.out
      have k0 := Kin.cell ((HBR.out.cell (p := ⟨b, _, none⟩) hbl).trans c0)
      have k1 := Kin.cell ((HBR.out.cell (p := ⟨b, _, none⟩) hbl).trans c1)
      have k2 := Kin.cell ((HBR.out.cell (p := ⟨w.heap.size, _, none⟩) hlt).trans d0)
      have k3 := Kin.cell ((HBR.out.cell (p := ⟨w.heap.size, _, none⟩) hlt).trans d1)
      clear c0 c1 d0 d1
      by_cases hxi : x = i
      · have HE := Lib.hid (show v = (k : Int) by rw [← HV.out]; exact atI_here (hxi ▸ hx) HNO.out)
        subst hxi
        have q := eql_yes x
        clear hx
        go_upto_region 4 with fail
        refine wp_region_kin (by kernel_rfl) (by kernel_rfl) ?_
        repeat (go_big_quiet_step (fail))
        refine wpQuiet_nil ?_
        intro _ hxx
        obtain ⟨xk, rfl⟩ := hxx
        have HBK := Lib.hid (HBR.out.trans (xk.h.mono HBR.out.size))
        clear k0 k1 k2 k3 q
        go_wp2_with fail
        go_ret
        exact ⟨by rw [HE.out]; rfl, HB.out.trans (HBK.out.mono HB.out.size)⟩
      · have HN := Lib.hid (show ∀ j y, j < k + 1 → l[j]? = some y → y ≠ i from fun j y hj hy => by
          by_cases e : j = k
          · subst e; rw [hx] at hy; cases hy; exact hxi
          · exact HNO.out j y (by omega) hy)
        have q := eql_no hxi
        clear hx hxi
        go_upto_region 4 with fail
        refine wp_region_kin (by kernel_rfl) (by kernel_rfl) ?_
        repeat (go_big_quiet_step (fail))
        refine wpQuiet_nil ?_
        intro _ hxx
        obtain ⟨xk, rfl⟩ := hxx
        have HBK := Lib.hid (HBR.out.trans (xk.h.mono HBR.out.size))
        clear k0 k1 k2 k3 q
        go_wp2_with fail
        go_roundw
        case rel => exact ⟨k + 1, by go_num, by omega, HBK.out, HN.out⟩
        case measure => simp [intOf]; omega
    · obtain rfl : k = l.length := by omega
      have hii : ¬ (l.length : Int) < (l.length : Int) := by omega
      have HE := Lib.hid (show v = -1 by rw [← HV.out]; exact atI_none (fun j y hj => HNO.out j y hj))
      go_wp2_with fail
      go_ret
      exact ⟨by rw [HE.out]; rfl, HB.out.trans (HBR.out.mono HB.out.size)⟩
set_option maxRecDepth 100000 in
set_option maxHeartbeats 4000000 in
theorem pick_any (k : Int) (n : Nat) (w : World) (hk : P.InI k) (hn : n ≤ 1000) :
    Calls Tryz.prog 39 #[.int .i64 k, .int .i64 n] w fun e w' => ∃ j : Nat, e = .returned (.int .i64 j) ∧ (j ≤ n ∧ w = w') := by
  unfold P.InI at hk
  obtain ⟨hk1, hk2⟩ := hk
  go_enter Tryz.func39, Tryz.ntmps39
  by_cases h0 : n = 0
  · subst h0
    go_wp2_with fail
    go_ret
    exact ⟨0, rfl, Nat.le_refl _, rfl⟩
  · have e1 : ¬ (n : Int) < 1 := by omega
    have e2 : ¬ (n : Int) = 0 := by omega
    have hr1 : k.tmod n < n := Int.tmod_lt_of_pos _ (by omega)
    have hr2 : -(n : Int) < k.tmod n := by
      have := Int.tmod_lt_of_pos (-k) (b := (n : Int)) (by omega)
      rw [Int.neg_tmod] at this
      omega
    by_cases h3 : k.tmod n < 0
    · obtain ⟨j, hj⟩ : ∃ j : Nat, k.tmod n + n = (j : Int) := ⟨(k.tmod n + n).toNat, by omega⟩
      go_wp2_with fail
      go_ret
      exact ⟨j, by rw [← hj]; rfl, by omega, rfl⟩
    · obtain ⟨j, hj⟩ : ∃ j : Nat, k.tmod n = (j : Int) := ⟨(k.tmod n).toNat, by omega⟩
      go_wp2_with fail
      go_ret
      exact ⟨j, by rw [← hj]; rfl, by omega, rfl⟩
end Go.Proofs.YtndfhejfhfhbdaaGreatDoor.O

/- The law's com; the document's example. -/
namespace Go.Proofs.YtndfhejfhfhbdaaGreatDoor.O
open Go.RowKit Go.Proofs.YtndfhejfhfhbdaaGreatDoor.M Go.BigFrame Go.Proofs.YtndfhejfhfhbdaaGreatDoor.K Go.Proofs.YtndfhejfhfhbdaaGreatDoor.T Go.Proofs.YtndfhejfhfhbdaaGreatDoor.R
set_option linter.unusedVariables false
set_option linter.unusedSimpArgs false

def cmd0 : P.Cmd := ⟨0, 0, 0, P.nul, P.nul, 0⟩
def comR (r s : Int) (l : List Id) (ao : Option Addr) (cap : Nat) : Rv := ⟨⟨r, 1⟩, 3, ⟨0, 0⟩, ⟨0, 0⟩, cmd0, l, s, 1, ao, cap⟩
def comV (r s : Int) (v : Value) : Value := .agg #[.int .i64 r, .int .i64 1, .int .i64 3, .int .i64 0, .int .i64 0, .int .i64 0, .int .i64 0, .int .i64 0, .int .i64 0, .int .i64 0, .string ⟨#[]⟩, .string ⟨#[]⟩, .int .i64 0, v, .int .i64 s, .int .i64 1]
set_option maxRecDepth 100000 in
set_option maxHeartbeats 4000000 in
theorem com_any (r s : Int) (l : List Id) (ao : Option Addr) (cap : Nat) (w : World) :
    Calls Tryz.prog 41 #[.int .i64 r, .int .i64 s, .slice ao l.length cap] w fun e w' => e = .returned (recV (comR r s l ao cap)) ∧ w' = w.alloc (recO (comR r s l ao cap)) := by
  go_enter Tryz.func41, Tryz.ntmps41
  go_wp2_with fail
  refine ret_box w.heap.size (recA (comR r s l ao cap)) 38 (recV (comR r s l ao cap)) (heap_alloc_new w _) (fun W' h => ?_) rfl ⟨rfl, rfl⟩
  obtain ⟨c0, c1, c2, c3, c4, c5, c6, c7, c8, c9, c10, c11, c12, c13, c14, c15⟩ := box16 (x := comR r s l ao cap) h
  simp [results, Tryz.results41, go_sem, c0, c1, c2, c3, c4, c5, c6, c7, c8, c9, c10, c11, c12, c13, c14, c15]
def exA : Id := ⟨0, 1⟩
def exB : Id := ⟨1, 1⟩
def nd1 : Nd := ⟨exA, [exB], 2, 1⟩
def nd2 : Nd := ⟨exB, [exA], 1, 1⟩
theorem ex_by : byIds [nd1, nd2] = [nd1, nd2] := rfl
theorem ex_e0 : edR [nd1, nd2] 0 = [1] := by decide
theorem ex_e1 : edR [nd1, nd2] 1 = [0] := by decide
theorem ex_order2 : InOrder (edR [nd1, nd2]) 2 [[0, 1]] (fun _ => 0) := by
  refine ⟨⟨fun v hv => ?_, fun i c v hc hv => ?_, fun c hc => ?_, fun u w he => Nat.le_refl _, fun u w hu hw e => ?_⟩, fun p p' hp hp' hlt => ?_⟩
  · have : v = 0 ∨ v = 1 := by omega
    rcases this with rfl | rfl
    · exact ⟨[0, 1], rfl, by simp⟩
    · exact ⟨[0, 1], rfl, by simp⟩
  · have hi := (List.getElem?_eq_some_iff.1 hc).1
    have : i = 0 := by simp at hi; omega
    subst this
    obtain rfl : [0, 1] = c := by simpa using hc
    simp at hv
    rcases hv with rfl | rfl <;> simp
  · simp at hc
    subst hc
    simp
  · have e01 : Path (edR [nd1, nd2]) 2 0 1 := .one ⟨by omega, by omega, by rw [ex_e0]; simp⟩
    have e10 : Path (edR [nd1, nd2]) 2 1 0 := .one ⟨by omega, by omega, by rw [ex_e1]; simp⟩
    have h1 : u = 0 ∨ u = 1 := by omega
    have h2 : w = 0 ∨ w = 1 := by omega
    rcases h1 with rfl | rfl <;> rcases h2 with rfl | rfl <;> first | exact .refl _ | exact e01 | exact e10
  · simp at hp'
    omega
theorem ex_row : Row (byIds [nd1, nd2]) [exB, exA] := by
  rw [ex_by]
  exact ⟨[[0, 1]], fun _ => 0, ex_order2, by rfl⟩
theorem ex_ok (l : List Id) (hl : l = [exA] ∨ l = [exB]) (r s : Int) (hr : 0 ≤ r ∧ r < 7) (hs : 1 ≤ s ∧ s ≤ 100) (ao : Option Addr) (cap : Nat) (hne : (⟨r, 1⟩ : Id) ∉ l) : goodR (comR r s l ao cap) = true := by
  have h1 : idOk ⟨r, 1⟩ = true := idOk_iff.2 ⟨hr.1, hr.2, by simp, by simp⟩
  have h2 : setOk l = true := by rcases hl with rfl | rfl <;> decide
  have h3 : P.chk cmd0 = 0 := by decide
  have h4 : attrChk l s 1 = 0 := by
    unfold attrChk
    rw [h2, show tagBad 1 = false from rfl, show seqBad s 1 = false from by unfold seqBad; simp; omega]
    rfl
  unfold goodR recOk headBad balBad restOk comR
  simp [h1, h3, h4, hne]
  decide
theorem ids_box {w : World} {g : Nat} {i : Id} (h : w.heap[g]? = some (.cells #[.int .i64 i.r, .int .i64 i.n] 27 (0, 0))) (hi : IdI i) : IdsV w (some ⟨g, 0, none⟩) 1 [i] := by
  obtain ⟨⟨h0, h1⟩, _⟩ := box2 h
  refine ⟨⟨Nat.le_refl _, by unfold maxLen; simp⟩, fun e => (by cases e), fun k x hk => ?_, fun x hx => ?_⟩
  · have hk0 : k = 0 := by have := (List.getElem?_eq_some_iff.1 hk).1; simp at this; omega
    subst hk0
    cases hk
    exact ⟨g, 0, rfl, M.heap_lt h, h0, h1⟩
  · rw [List.mem_singleton.1 hx]; exact hi
def exX (g1 g2 : Nat) : List Rv := [comR 0 2 [exB] (some ⟨g1, 0, none⟩) 1, comR 1 1 [exA] (some ⟨g2, 0, none⟩) 1]
theorem ex_recs {w : World} {g1 g2 g3 : Nat} (h1 : w.heap[g1]? = some (.cells #[.int .i64 exB.r, .int .i64 exB.n] 27 (0, 0))) (h2 : w.heap[g2]? = some (.cells #[.int .i64 exA.r, .int .i64 exA.n] 27 (0, 0)))
    (h3 : w.heap[g3]? = some (.cells (cellsR (exX g1 g2)).toArray 38 (0, 0))) : RecsV w (some ⟨g3, 0, none⟩) 2 (exX g1 g2) := by
  refine ⟨⟨Nat.le_refl _, by unfold maxLen; simp⟩, fun e => (by cases e), fun k x hk => ⟨g3, 0, rfl, M.heap_lt h3, .of fun j hj => ?_⟩, fun x hx => ?_⟩
  · rw [cell_of_row w g3 _ _ _ _ h3, ← cellsR_get (exX g1 g2) k x hk j hj, Nat.zero_add]
    simp
  · have hcm : P.CmdOk cmd0 := by
      refine ⟨?_, ?_, ?_, ?_, ?_, ?_⟩ <;> first | exact Nat.zero_le _ | (unfold P.InI cmd0; simp)
    rcases List.mem_cons.1 hx with rfl | hx
    · exact ⟨hcm, ids_box h1 ⟨by unfold P.InI exB; simp, by unfold P.InI exB; simp⟩, ⟨by unfold P.InI; simp [comR], by unfold P.InI; simp [comR]⟩⟩
    · rw [List.mem_singleton.1 hx]
      exact ⟨hcm, ids_box h2 ⟨by unfold P.InI exA; simp, by unfold P.InI exA; simp⟩, ⟨by unfold P.InI; simp [comR], by unfold P.InI; simp [comR]⟩⟩
theorem ex_run (g1 g2 g3 : Nat) (w : World) (hT : Tabs w) (h1 : w.heap[g1]? = some (.cells #[.int .i64 exB.r, .int .i64 exB.n] 27 (0, 0))) (h2 : w.heap[g2]? = some (.cells #[.int .i64 exA.r, .int .i64 exA.n] 27 (0, 0)))
    (h3 : w.heap[g3]? = some (.cells (cellsR (exX g1 g2)).toArray 38 (0, 0))) :
    Calls Tryz.prog 13 #[.slice (some ⟨g3, 0, none⟩) 2 2] w fun e w' => ∃ (oo : Option Addr) (oc : Nat), e = .returned (.tuple #[.slice oo 2 oc, .int .i64 0]) ∧ (OwnL w' w.heap.size oo oc [exB, exA] ∧ Below w.heap.size w w') := by
  have hv : errO (okR (exX g1 g2)) (nds (exX g1 g2)) = 0 := by
    have e1 : okR (exX g1 g2) = true := by
      unfold okR exX
      rw [List.all_cons, List.all_cons, ex_ok [exB] (.inr rfl) 0 2 (by omega) (by omega) _ _ (by decide), ex_ok [exA] (.inl rfl) 1 1 (by omega) (by omega) _ _ (by decide)]
      rfl
    rw [e1]
    show errO true [nd1, nd2] = 0
    decide
  refine (Order_any (exX g1 g2) _ 2 w (ex_recs h1 h2 h3) hT (by simp [exX]) (fun x hx => ?_) (fun x hx => ?_) 0 hv).mono ?_
  · rcases List.mem_cons.1 hx with rfl | hx
    · simp [comR]
    · rw [List.mem_singleton.1 hx]; simp [comR]
  · rcases List.mem_cons.1 hx with rfl | hx
    · exact Nat.zero_le _
    · rw [List.mem_singleton.1 hx]; exact Nat.zero_le _
  · rintro e w' ⟨oo, oc, out, rfl, h4, h5, h6, h7⟩
    have h8 : out = [exB, exA] := Row.one (h4 rfl) (show Row (byIds (nds (exX g1 g2))) [exB, exA] from ex_row)
    subst h8
    exact ⟨oo, oc, rfl, h6, h7⟩
end Go.Proofs.YtndfhejfhfhbdaaGreatDoor.O

/- The document's Without. -/
namespace Go.Proofs.YtndfhejfhfhbdaaGreatDoor.O
open Go.RowKit Go.Proofs.YtndfhejfhfhbdaaGreatDoor.M Go.BigFrame Go.Proofs.YtndfhejfhfhbdaaGreatDoor.K
set_option linter.unusedVariables false
set_option linter.unusedSimpArgs false

def withoutI (l : List Id) (i : Id) : List Id := l.filter fun x => !decide (x = i)
theorem withoutI_next {l : List Id} {i x : Id} {k : Nat} (hx : l[k]? = some x) : withoutI (l.take (k + 1)) i = withoutI (l.take k) i ++ (if x = i then [] else [x]) := by
  unfold withoutI
  rw [List.take_add_one, hx, List.filter_append]
  congr 1
  by_cases h : x = i
  · simp [h]
  · simp [h]
theorem withoutI_len (l : List Id) (i : Id) : (withoutI l i).length ≤ l.length := List.length_filter_le _ _
set_option maxRecDepth 100000 in
set_option maxHeartbeats 4000000 in
theorem refwithout_any (l : List Id) (ao : Option Addr) (cap : Nat) (i : Id) (w : World) (h : IdsV w ao cap l) (hl : l.length ≤ 1000000) :
    Calls Tryz.prog 11 #[.slice ao l.length cap, idV i] w fun e w' => ∃ oo oc, e = .returned (.slice oo (withoutI l i).length oc) ∧ (OwnL w' w.heap.size oo oc (withoutI l i) ∧ Below w.heap.size w w') := by
  obtain ⟨hl1, hl2⟩ := h.le
  unfold maxLen at hl2
  obtain ⟨i0, hi, hz0, hz1, hz2⟩ := info_parts info_id
  have H := Lib.hid h
  clear h
  go_enter Tryz.func11, Tryz.ntmps11
  go_upto_region 1 with fail
  obtain ⟨W, hW⟩ : ∃ W, W = w.alloc (idO i) := ⟨_, rfl⟩
  rw [← hW]
  have HB : Hid (Below w.heap.size w W) := Lib.hid (by rw [hW]; exact (Below.refl _ _).alloc (Nat.le_refl _) _)
  have HX : Hid (W.heap[w.heap.size]? = some (idO i)) := Lib.hid (by rw [hW]; exact heap_alloc_new w _)
  clear hW
  have HL := Lib.hid (H.out.below (B := 0) HB.out)
  have hlt := M.heap_lt HX.out
  clear H
  go_wp2_with fail
  go_loopw [5, 6] (fun ov kv wr => ∃ (k : Nat) (M : List Id) (oo : Option Addr) (oc : Nat), ov = .slice oo M.length oc ∧ kv = .int .i64 k ∧ k ≤ l.length ∧ M = withoutI (l.take k) i ∧ OwnL wr W.heap.size oo oc M ∧ Below W.heap.size W wr) (fun _ kv _ => l.length - (intOf kv).toNat)
  case atStart => exact ⟨0, [], none, 0, rfl, rfl, Nat.zero_le _, by simp [withoutI], World.ownsRow_nil _ _ _ _, Below.refl _ _⟩
  case round =>
    obtain ⟨k, M, oo, oc, rfl, rfl, hk, hM, hown, hb⟩ := hrel
    have HM := Lib.hid hM
    have HOW := Lib.hid hown
    have HBR := Lib.hid hb
    have hMl2 : M.length ≤ 1000000 := by
      have h1 := withoutI_len (l.take k) i
      rw [← hM, List.length_take] at h1
      omega
    clear hM hown hb
    have hWr := HBR.out.size
    by_cases hkl : k < l.length
    · have hii : (k : Int) < (l.length : Int) := by omega
      obtain ⟨x, hx⟩ : ∃ x, l[k]? = some x := ⟨_, List.getElem?_eq_getElem hkl⟩
      obtain ⟨b, off, rfl, hbl, c0, c1⟩ := HL.out.row k x hx
      obtain ⟨⟨d0, d1⟩, _⟩ := box2 HX.out
      have e0 := (HBR.out.cell (p := ⟨b, _, none⟩) hbl).trans c0
      have e1 := (HBR.out.cell (p := ⟨b, _, none⟩) hbl).trans c1
      have k0 := Kin.cell e0
      have k1 := Kin.cell e1
      have k2 := Kin.cell ((HBR.out.cell (p := ⟨w.heap.size, _, none⟩) hlt).trans d0)
      have k3 := Kin.cell ((HBR.out.cell (p := ⟨w.heap.size, _, none⟩) hlt).trans d1)
      have HNX := Lib.hid (withoutI_next (i := i) hx)
      rw [← HM.out] at HNX
      clear c0 c1 d0 d1 hx e0 e1
      by_cases hxi : x = i
      · subst hxi
        have q := neq_no x
        have HN := Lib.hid (show M = withoutI (l.take (k + 1)) x by rw [HNX.out, if_pos rfl, List.append_nil])
        go_upto_region 5 with fail
        refine wp_region_kin (by kernel_rfl) (by kernel_rfl) ?_
        repeat (go_big_quiet_step (fail))
        refine wpQuiet_nil ?_
        intro _ hxx
        obtain ⟨xk, rfl⟩ := hxx
        have HBK := Lib.hid (HBR.out.trans (xk.h.mono hWr))
        have HOK := Lib.hid (Go.Proofs.YtndfhejfhfhbdaaGreatDoor.R.own_below HOW.out xk.h)
        clear k0 k1 k2 k3 q
        go_wp2_with fail
        go_roundw
        case rel => exact ⟨k + 1, M, oo, oc, rfl, by go_num, by omega, HN.out, HOK.out, HBK.out⟩
        case measure => simp [intOf]; omega
      · have q := neq_yes hxi
        have HN := Lib.hid (show M ++ [x] = withoutI (l.take (k + 1)) i by rw [HNX.out, if_neg hxi])
        go_upto_region 5 with fail
        refine wp_region_kin (by kernel_rfl) (by kernel_rfl) ?_
        repeat (go_big_quiet_step (fail))
        refine wpQuiet_nil ?_
        intro _ hxx
        obtain ⟨xk, rfl⟩ := hxx
        have HBK := Lib.hid (HBR.out.trans (xk.h.mono hWr))
        have HOK := Lib.hid (Go.Proofs.YtndfhejfhfhbdaaGreatDoor.R.own_below HOW.out xk.h)
        have hsk := HBK.out.size
        obtain ⟨c0, c1⟩ := And.intro (k0 xk) (k1 xk)
        clear k0 k1 k2 k3 q
        go_wp2_with (refine wpList_app idC 2 (fun _ => rfl) (by decide) idC_one (by rfl) (.tmp 19) (.tmp 24) 25 (by rfl) W.heap.size 27 i0 _ 16 Tryz.underlying25 hi hz0 hz1 hz2 (by decide) rfl oo oc M x #[.int .i64 x.r, .int .i64 x.n] rfl (by rfl) (by exact HOK.out) (by rfl) (by omega) (by omega) ?_; intro oo' oc' w7 hown hmod hbel; have HOW7 := Lib.hid hown; have HBE7 := Lib.hid hbel; clear hown hmod hbel)
        clear c0 c1
        go_roundw
        case rel => exact ⟨k + 1, M ++ [x], oo', oc', by simp, by go_num, by omega, HN.out, HOW7.out, HBK.out.trans HBE7.out⟩
        case measure => simp [intOf]; omega
    · obtain rfl : k = l.length := by omega
      have hii : ¬ (l.length : Int) < (l.length : Int) := by omega
      have HE := Lib.hid (show M = withoutI l i by rw [HM.out, List.take_length])
      have HF1 := Lib.hid (show OwnL wr w.heap.size oo oc M from own_base HOW.out (fun q hq => Nat.le_trans HB.out.size (HOW.out.lt q hq).1))
      have HF2 := Lib.hid (HB.out.trans (HBR.out.mono HB.out.size))
      go_wp2_with fail
      go_ret
      refine ⟨oo, oc, ?_, ?_, HF2.out⟩
      · rw [← HE.out]; rfl
      · rw [← HE.out]; exact HF1.out
end Go.Proofs.YtndfhejfhfhbdaaGreatDoor.O

/- Plain law of OrderTags. -/
namespace Go.Proofs.YtndfhejfhfhbdaaGreatDoor.O
open Go.RowKit Go.Proofs.YtndfhejfhfhbdaaGreatDoor.M Go.BigFrame Go.Proofs.YtndfhejfhfhbdaaGreatDoor.K Go.Proofs.YtndfhejfhfhbdaaGreatDoor.T
set_option linter.unusedVariables false
set_option linter.unusedSimpArgs false

def idN (i : Nat) : Id := ⟨((i % 7 : Nat) : Int), ((1 + i / 7 : Nat) : Int)⟩
def allN (n : Nat) : List Id := (List.range n).map idN
def depsN (n i : Nat) : List Id := withoutI (setI (allN n)) (idN i)
theorem idN_inj {i j : Nat} (e : idN i = idN j) : i = j := by
  unfold idN at e
  have h1 := congrArg Id.r e
  have h2 := congrArg Id.n e
  simp only at h1 h2
  omega
theorem allN_get {n i : Nat} (h : i < n) : (allN n)[i]? = some (idN i) := by
  unfold allN
  rw [List.getElem?_map, List.getElem?_range h]
  rfl
theorem allN_len (n : Nat) : (allN n).length = n := by unfold allN; simp
theorem allN_next (n : Nat) : allN (n + 1) = allN n ++ [idN n] := by unfold allN; rw [List.range_succ, List.map_append]; rfl
theorem allN_mem {n : Nat} {x : Id} : x ∈ allN n ↔ ∃ i, i < n ∧ idN i = x := by
  unfold allN
  rw [List.mem_map]
  simp
theorem allN_nodup (n : Nat) : (allN n).Nodup := by
  unfold allN
  refine List.pairwise_map.2 (List.nodup_range.imp fun h e => h (idN_inj e))
theorem allN_ok {n : Nat} (hn : n ≤ 8) : ∀ x ∈ allN n, IdI x := fun x hx => by
  obtain ⟨i, hi, rfl⟩ := allN_mem.1 hx
  unfold IdI P.InI idN
  simp only
  omega
theorem depsN_mem {n i : Nat} {x : Id} : x ∈ depsN n i ↔ x ∈ allN n ∧ x ≠ idN i := by
  unfold depsN withoutI
  rw [List.mem_filter, setI_mem]
  simp
theorem depsN_ok : ∀ n, n < 9 → ∀ i, i < n → setOk (depsN n i) = true := by decide +kernel
theorem depsN_len (n i : Nat) : (depsN n i).length ≤ n := by
  have h1 := withoutI_len (setI (allN n)) (idN i)
  have h2 := setI_len (allN n)
  rw [allN_len] at h2
  unfold depsN
  omega
def tagR (n i : Nat) (sq tg : Int) (ao : Option Addr) (cap : Nat) : Rv := ⟨idN i, 3, ⟨0, 0⟩, ⟨0, 0⟩, cmd0, depsN n i, sq, tg, ao, cap⟩
def TagOk (sq tg : Int) : Prop := (tg = 1 ∧ 1 ≤ sq ∧ sq ≤ 1000) ∨ (tg = 2 ∧ sq = 0)
def TagX (n : Nat) (X : List Rv) : Prop := ∀ i x, X[i]? = some x → ∃ sq tg ao cap, x = tagR n i sq tg ao cap ∧ TagOk sq tg
theorem TagX.next {n : Nat} {X : List Rv} (h : TagX n X) {sq tg : Int} (ao : Option Addr) (cap : Nat) (hk : TagOk sq tg) : TagX n (X ++ [tagR n X.length sq tg ao cap]) := fun i x hx => by
  rcases Nat.lt_or_ge i X.length with hi | hi
  · rw [List.getElem?_append_left hi] at hx
    exact h i x hx
  · rw [List.getElem?_append_right hi] at hx
    have h0 := (List.getElem?_eq_some_iff.1 hx).1
    have : i = X.length := by simp at h0; omega
    subst this
    simp at hx
    exact ⟨sq, tg, ao, cap, hx.symm, hk⟩
theorem tag_good {n i : Nat} {sq tg : Int} {ao : Option Addr} {cap : Nat} (hn : n ≤ 8) (hi : i < n) (hk : TagOk sq tg) : goodR (tagR n i sq tg ao cap) = true := by
  have h1 : idOk (idN i) = true := idOk_iff.2 (by unfold idN; simp only; omega)
  have h2 : setOk (depsN n i) = true := depsN_ok n (by omega) i hi
  have h3 : P.chk cmd0 = 0 := by decide
  have h4 : attrChk (depsN n i) sq tg = 0 := by
    unfold attrChk
    rw [h2]
    rcases hk with ⟨rfl, h5, h6⟩ | ⟨rfl, rfl⟩
    · rw [show tagBad 1 = false from rfl, show seqBad sq 1 = false from by unfold seqBad; simp; omega]
      rfl
    · rfl
  have h5 : idN i ∉ depsN n i := fun h => (depsN_mem.1 h).2 rfl
  unfold goodR recOk headBad balBad restOk tagR
  simp [h1, h3, h4, h5]
  decide
section
variable {n : Nat} {X : List Rv}
theorem tag_ids (h : TagX n X) (hl : X.length = n) : idsX X = allN n := by
  refine List.ext_getElem? fun i => ?_
  rcases Nat.lt_or_ge i n with hi | hi
  · rw [allN_get hi, List.getElem?_map, List.getElem?_eq_getElem (by omega)]
    obtain ⟨sq, tg, ao, cap, e, _⟩ := h i _ (List.getElem?_eq_getElem (by omega))
    rw [e]
    rfl
  · rw [List.getElem?_eq_none (by rw [List.length_map]; omega), List.getElem?_eq_none (by rw [allN_len]; omega)]
theorem tag_err (hn : n ≤ 8) (h : TagX n X) (hl : X.length = n) : errO (okR X) (nds X) = 0 := by
  refine errO_ok.2 ⟨List.all_eq_true.2 fun x hx => ?_, ?_, ?_⟩
  · obtain ⟨i, hi⟩ := List.mem_iff_getElem?.1 hx
    obtain ⟨sq, tg, ao, cap, rfl, hk⟩ := h i x hi
    exact tag_good hn (by have := (List.getElem?_eq_some_iff.1 hi).1; omega) hk
  · rw [unl_nds, tag_ids h hl]; exact allN_nodup n
  · refine missB_no.2 fun a ha d hd => ?_
    obtain ⟨x, hx, rfl⟩ := List.mem_map.1 ha
    obtain ⟨i, hi⟩ := List.mem_iff_getElem?.1 hx
    obtain ⟨sq, tg, ao, cap, rfl, hk⟩ := h i x hi
    rw [nds_ids, tag_ids h hl]
    exact (depsN_mem.1 hd).1
/-- what the statement asks of two neighbours -/
def rightB (x y : Rv) : Bool := if x.tag = y.tag then (decide (x.seq < y.seq) || (decide (x.seq = y.seq) && ilt x.id y.id)) else decide (x.tag < y.tag)
theorem right_of {x y : Rv} {n i j : Nat} {sq tg sq2 tg2 : Int} {ao ao2 : Option Addr} {cap cap2 : Nat} (hx : x = tagR n i sq tg ao cap) (hy : y = tagR n j sq2 tg2 ao2 cap2) (h1 : TagOk sq tg) (h2 : TagOk sq2 tg2) (h : wlt x.nd y.nd = true) : rightB x y = true := by
  have h3 : x.seq = sq ∧ x.tag = tg := by rw [hx]; exact ⟨rfl, rfl⟩
  have h4 : y.seq = sq2 ∧ y.tag = tg2 := by rw [hy]; exact ⟨rfl, rfl⟩
  rw [wlt_iff] at h
  simp only [Rv.nd] at h
  unfold rightB
  unfold TagOk at h1 h2
  by_cases e : x.tag = y.tag
  · rw [if_pos e]
    rcases h with h | ⟨_, h | ⟨h5, h6⟩⟩
    · omega
    · simp [h.2]
    · have : x.seq = y.seq := by omega
      simp [this, h6]
  · rw [if_neg e]
    rcases h with h | ⟨h, _⟩
    · simpa using h
    · exact absurd h e
theorem tag_path (h : TagX n X) (hl : X.length = n) : ∀ u v, u < (byIds (nds X)).length → v < (byIds (nds X)).length → Path (edR (byIds (nds X))) (byIds (nds X)).length u v := by
  intro u v hu hv
  have hU : Unl (byIds (nds X)) := (unl_nds.2 (by rw [tag_ids h hl]; exact allN_nodup n)).perm (byIds_perm _)
  by_cases huv : u = v
  · subst huv; exact .refl _
  · refine .one ((edgeR hU).2 ⟨_, _, List.getElem?_eq_getElem hu, List.getElem?_eq_getElem hv, ?_⟩)
    have ha := (byIds_perm (nds X)).mem_iff.1 (List.getElem_mem hu)
    have hb := (byIds_perm (nds X)).mem_iff.1 (List.getElem_mem hv)
    have hne : (byIds (nds X))[v].id ≠ (byIds (nds X))[u].id := fun e => huv ((List.getElem_inj hU.nodup).1 (hU.inj (List.getElem_mem hv) (List.getElem_mem hu) e).symm)
    obtain ⟨x, hx, ex⟩ := List.mem_map.1 ha
    obtain ⟨y, hy, ey⟩ := List.mem_map.1 hb
    rw [← ex, ← ey] at hne ⊢
    obtain ⟨i, hi⟩ := List.mem_iff_getElem?.1 hx
    obtain ⟨sq, tg, ao, cap, e1, _⟩ := h i x hi
    have hyi : y.id ∈ allN n := by rw [← tag_ids h hl]; exact List.mem_map.2 ⟨y, hy, rfl⟩
    have hxd : x.nd.deps = depsN n i := by rw [e1]; rfl
    have hxi : x.nd.id = idN i := by rw [e1]; rfl
    rw [hxd, depsN_mem]
    exact ⟨hyi, by rw [← hxi]; exact hne⟩
theorem tag_row (h : TagX n X) (hl : X.length = n) {out : List Id} (hr : Row (byIds (nds X)) out) : out.length = n ∧ (∀ a ∈ out, a ∈ idsX X) ∧ ∀ (k : Nat) a b, out[k]? = some a → out[k + 1]? = some b →
    ∃ (p q : Nat) (x y : Rv), X[p]? = some x ∧ X[q]? = some y ∧ atI (idsX X) a = p ∧ atI (idsX X) b = q ∧ x.id = a ∧ y.id = b ∧ rightB x y = true := by
  have hnd : (idsX X).Nodup := by rw [tag_ids h hl]; exact allN_nodup n
  have hU : Unl (byIds (nds X)) := (unl_nds.2 hnd).perm (byIds_perm _)
  obtain ⟨L, q, hc, rfl⟩ := hr.cmps
  obtain ⟨t, e, hp, hw⟩ := all_row hc hU (tag_path h hl)
  have hp2 : t.Perm (nds X) := hp.trans (byIds_perm _)
  rw [e]
  refine ⟨by unfold idsOf; rw [List.length_map, hp2.length_eq, nds_len, hl], fun a ha => ?_, fun k a b ha hb => ?_⟩
  · unfold idsOf at ha
    obtain ⟨z, hz, rfl⟩ := List.mem_map.1 ha
    rw [← nds_ids]
    exact List.mem_map.2 ⟨z, hp2.mem_iff.1 hz, rfl⟩
  · unfold idsOf at ha hb
    rw [List.getElem?_map, Option.map_eq_some_iff] at ha hb
    obtain ⟨za, hza, rfl⟩ := ha
    obtain ⟨zb, hzb, rfl⟩ := hb
    obtain ⟨hk1, e1⟩ := List.getElem?_eq_some_iff.1 hza
    obtain ⟨hk2, e2⟩ := List.getElem?_eq_some_iff.1 hzb
    have hab := List.pairwise_iff_getElem.1 hw k (k + 1) hk1 hk2 (by omega)
    rw [e1, e2] at hab
    obtain ⟨x, hx, rfl⟩ := List.mem_map.1 (hp2.mem_iff.1 (List.mem_of_getElem? hza))
    obtain ⟨y, hy, rfl⟩ := List.mem_map.1 (hp2.mem_iff.1 (List.mem_of_getElem? hzb))
    obtain ⟨i, hi⟩ := List.mem_iff_getElem?.1 hx
    obtain ⟨j, hj⟩ := List.mem_iff_getElem?.1 hy
    obtain ⟨_, _, _, _, f1, g1⟩ := h i x hi
    obtain ⟨_, _, _, _, f2, g2⟩ := h j y hj
    exact ⟨i, j, x, y, hi, hj, atI_some hnd (ids_get hi), atI_some hnd (ids_get hj), rfl, rfl, right_of f1 f2 g1 g2 hab⟩
end
end Go.Proofs.YtndfhejfhfhbdaaGreatDoor.O
