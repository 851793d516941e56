/- Several texts in one. -/
import Derived.Test.YtndfhejfhfhbdaaGreatDoorMrg23
import Derived.Test.YtndfhejfhfhbdaaGreatDoorMrg24
import Derived.Laws.Small
import Derived.Test.YtndfhejfhfhbdaaGreatDoorOrdAC

/- The law's place, turned. -/
namespace Go.Proofs.YtndfhejfhfhbdaaGreatDoor.O
open Go.RowKit Go.Proofs.YtndfhejfhfhbdaaGreatDoor.M Go.BigFrame Go.Proofs.YtndfhejfhfhbdaaGreatDoor.K
set_option linter.unusedVariables false
set_option linter.unusedSimpArgs false

set_option maxRecDepth 100000 in
set_option maxHeartbeats 4000000 in
theorem place_any (l : List Id) (ao : Option Addr) (cap : Nat) (i : Id) (w : World) (h : IdsV w ao cap l) (v : Int) (hv : atI l i = v) :
    Calls Tryz.prog 26 #[.slice ao l.length cap, idV i] w fun e w' => e = .returned (.int .i64 v) ∧ Below w.heap.size w w' := by
  obtain ⟨hl1, hl2⟩ := h.le
  unfold maxLen at hl2
  have H := Lib.hid h
  have HV := Lib.hid hv
  clear h hv
  go_enter Tryz.func26, Tryz.ntmps26
  go_upto_region 1 with fail
  obtain ⟨W, hW⟩ : ∃ W, W = w.alloc (idO i) := ⟨_, rfl⟩
  rw [← hW]
  have HB : Hid (Below w.heap.size w W) := Lib.hid (by rw [hW]; exact (Below.refl _ _).alloc (Nat.le_refl _) _)
  have HX : Hid (W.heap[w.heap.size]? = some (idO i)) := Lib.hid (by rw [hW]; exact heap_alloc_new w _)
  clear hW
  have HL := Lib.hid (H.out.below (B := 0) HB.out)
  have hlt := M.heap_lt HX.out
  clear H
  go_wp2_with fail
  go_loopw [5] (fun iv wr => ∃ k : Nat, iv = .int .i64 k ∧ k ≤ l.length ∧ Below W.heap.size W wr ∧ (∀ j x, j < k → l[j]? = some x → x ≠ i)) (fun iv _ => l.length - (intOf iv).toNat)
  case atStart => exact ⟨0, rfl, Nat.zero_le _, Below.refl _ _, fun j x hj => absurd hj (by omega)⟩
  case round =>
    obtain ⟨k, rfl, hk, hb, hno⟩ := hrel
    have HNO := Lib.hid hno
    have HBR := Lib.hid hb
    clear hno hb
    by_cases hkl : k < l.length
    · have hii : (k : Int) < (l.length : Int) := by omega
      obtain ⟨x, hx⟩ : ∃ x, l[k]? = some x := ⟨_, List.getElem?_eq_getElem hkl⟩
      obtain ⟨b, off, rfl, hbl, c0, c1⟩ := HL.out.row k x hx
      obtain ⟨⟨d0, d1⟩, _⟩ := box2 HX.out
      have k0 := Kin.cell ((HBR.out.cell (p := ⟨b, _, none⟩) hbl).trans c0)
      have k1 := Kin.cell ((HBR.out.cell (p := ⟨b, _, none⟩) hbl).trans c1)
      have k2 := Kin.cell ((HBR.out.cell (p := ⟨w.heap.size, _, none⟩) hlt).trans d0)
      have k3 := Kin.cell ((HBR.out.cell (p := ⟨w.heap.size, _, none⟩) hlt).trans d1)
      clear c0 c1 d0 d1
      by_cases hxi : x = i
      · have HE := Lib.hid (show v = (k : Int) by rw [← HV.out]; exact atI_here (hxi ▸ hx) HNO.out)
        subst hxi
        have q := eql_yes x
        clear hx
        go_upto_region 4 with fail
        refine wp_region_kin (by kernel_rfl) (by kernel_rfl) ?_
        repeat (go_big_quiet_step (fail))
        refine wpQuiet_nil ?_
        intro _ hxx
        obtain ⟨xk, rfl⟩ := hxx
        have HBK := Lib.hid (HBR.out.trans (xk.h.mono HBR.out.size))
        clear k0 k1 k2 k3 q
        go_wp2_with fail
        go_ret
        exact ⟨by rw [HE.out]; rfl, HB.out.trans (HBK.out.mono HB.out.size)⟩
      · have HN := Lib.hid (show ∀ j y, j < k + 1 → l[j]? = some y → y ≠ i from fun j y hj hy => by
          by_cases e : j = k
          · subst e; rw [hx] at hy; cases hy; exact hxi
          · exact HNO.out j y (by omega) hy)
        have q := eql_no hxi
        clear hx hxi
        go_upto_region 4 with fail
        refine wp_region_kin (by kernel_rfl) (by kernel_rfl) ?_
        repeat (go_big_quiet_step (fail))
        refine wpQuiet_nil ?_
        intro _ hxx
        obtain ⟨xk, rfl⟩ := hxx
        have HBK := Lib.hid (HBR.out.trans (xk.h.mono HBR.out.size))
        clear k0 k1 k2 k3 q
        go_wp2_with fail
        go_roundw
        case rel => exact ⟨k + 1, by go_num, by omega, HBK.out, HN.out⟩
        case measure => simp [intOf]; omega
    · obtain rfl : k = l.length := by omega
      have hii : ¬ (l.length : Int) < (l.length : Int) := by omega
      have HE := Lib.hid (show v = -1 by rw [← HV.out]; exact atI_none (fun j y hj => HNO.out j y hj))
      go_wp2_with fail
      go_ret
      exact ⟨by rw [HE.out]; rfl, HB.out.trans (HBR.out.mono HB.out.size)⟩
set_option maxRecDepth 100000 in
set_option maxHeartbeats 4000000 in
theorem pick_any (k : Int) (n : Nat) (w : World) (hk : P.InI k) (hn : n ≤ 1000) :
    Calls Tryz.prog 39 #[.int .i64 k, .int .i64 n] w fun e w' => ∃ j : Nat, e = .returned (.int .i64 j) ∧ (j ≤ n ∧ w = w') := by
  unfold P.InI at hk
  obtain ⟨hk1, hk2⟩ := hk
  go_enter Tryz.func39, Tryz.ntmps39
  by_cases h0 : n = 0
  · subst h0
    go_wp2_with fail
    go_ret
    exact ⟨0, rfl, Nat.le_refl _, rfl⟩
  · have e1 : ¬ (n : Int) < 1 := by omega
    have e2 : ¬ (n : Int) = 0 := by omega
    have hr1 : k.tmod n < n := Int.tmod_lt_of_pos _ (by omega)
    have hr2 : -(n : Int) < k.tmod n := by
      have := Int.tmod_lt_of_pos (-k) (b := (n : Int)) (by omega)
      rw [Int.neg_tmod] at this
      omega
    by_cases h3 : k.tmod n < 0
    · obtain ⟨j, hj⟩ : ∃ j : Nat, k.tmod n + n = (j : Int) := ⟨(k.tmod n + n).toNat, by omega⟩
      go_wp2_with fail
      go_ret
      exact ⟨j, by rw [← hj]; rfl, by omega, rfl⟩
    · obtain ⟨j, hj⟩ : ∃ j : Nat, k.tmod n = (j : Int) := ⟨(k.tmod n).toNat, by omega⟩
      go_wp2_with fail
      go_ret
      exact ⟨j, by rw [← hj]; rfl, by omega, rfl⟩
end Go.Proofs.YtndfhejfhfhbdaaGreatDoor.O

/- The law's com; the document's example. -/
namespace Go.Proofs.YtndfhejfhfhbdaaGreatDoor.O
open Go.RowKit Go.Proofs.YtndfhejfhfhbdaaGreatDoor.M Go.BigFrame Go.Proofs.YtndfhejfhfhbdaaGreatDoor.K Go.Proofs.YtndfhejfhfhbdaaGreatDoor.T Go.Proofs.YtndfhejfhfhbdaaGreatDoor.R
set_option linter.unusedVariables false
set_option linter.unusedSimpArgs false

def cmd0 : P.Cmd := ⟨0, 0, 0, P.nul, P.nul, 0⟩
def comR (r s : Int) (l : List Id) (ao : Option Addr) (cap : Nat) : Rv := ⟨⟨r, 1⟩, 3, ⟨0, 0⟩, ⟨0, 0⟩, cmd0, l, s, 1, ao, cap⟩
def comV (r s : Int) (v : Value) : Value := .agg #[.int .i64 r, .int .i64 1, .int .i64 3, .int .i64 0, .int .i64 0, .int .i64 0, .int .i64 0, .int .i64 0, .int .i64 0, .int .i64 0, .string ⟨#[]⟩, .string ⟨#[]⟩, .int .i64 0, v, .int .i64 s, .int .i64 1]
set_option maxRecDepth 100000 in
set_option maxHeartbeats 4000000 in
theorem com_any (r s : Int) (l : List Id) (ao : Option Addr) (cap : Nat) (w : World) :
    Calls Tryz.prog 41 #[.int .i64 r, .int .i64 s, .slice ao l.length cap] w fun e w' => e = .returned (recV (comR r s l ao cap)) ∧ w' = w.alloc (recO (comR r s l ao cap)) := by
  go_enter Tryz.func41, Tryz.ntmps41
  go_wp2_with fail
  refine ret_box w.heap.size (recA (comR r s l ao cap)) 38 (recV (comR r s l ao cap)) (heap_alloc_new w _) (fun W' h => ?_) rfl ⟨rfl, rfl⟩
  obtain ⟨c0, c1, c2, c3, c4, c5, c6, c7, c8, c9, c10, c11, c12, c13, c14, c15⟩ := box16 (x := comR r s l ao cap) h
  simp [results, Tryz.results41, go_sem, c0, c1, c2, c3, c4, c5, c6, c7, c8, c9, c10, c11, c12, c13, c14, c15]
def exA : Id := ⟨0, 1⟩
def exB : Id := ⟨1, 1⟩
def nd1 : Nd := ⟨exA, [exB], 2, 1⟩
def nd2 : Nd := ⟨exB, [exA], 1, 1⟩
theorem ex_by : byIds [nd1, nd2] = [nd1, nd2] := rfl
theorem ex_e0 : edR [nd1, nd2] 0 = [1] := by decide
theorem ex_e1 : edR [nd1, nd2] 1 = [0] := by decide
theorem ex_order2 : InOrder (edR [nd1, nd2]) 2 [[0, 1]] (fun _ => 0) := by
  refine ⟨⟨fun v hv => ?_, fun i c v hc hv => ?_, fun c hc => ?_, fun u w he => Nat.le_refl _, fun u w hu hw e => ?_⟩, fun p p' hp hp' hlt => ?_⟩
  · have : v = 0 ∨ v = 1 := by omega
    rcases this with rfl | rfl
    · exact ⟨[0, 1], rfl, by simp⟩
    · exact ⟨[0, 1], rfl, by simp⟩
  · have hi := (List.getElem?_eq_some_iff.1 hc).1
    have : i = 0 := by simp at hi; omega
    subst this
    obtain rfl : [0, 1] = c := by simpa using hc
    simp at hv
    rcases hv with rfl | rfl <;> simp
  · simp at hc
    subst hc
    simp
  · have e01 : Path (edR [nd1, nd2]) 2 0 1 := .one ⟨by omega, by omega, by rw [ex_e0]; simp⟩
    have e10 : Path (edR [nd1, nd2]) 2 1 0 := .one ⟨by omega, by omega, by rw [ex_e1]; simp⟩
    have h1 : u = 0 ∨ u = 1 := by omega
    have h2 : w = 0 ∨ w = 1 := by omega
    rcases h1 with rfl | rfl <;> rcases h2 with rfl | rfl <;> first | exact .refl _ | exact e01 | exact e10
  · simp at hp'
    omega
theorem ex_row : Row (byIds [nd1, nd2]) [exB, exA] := by
  rw [ex_by]
  exact ⟨[[0, 1]], fun _ => 0, ex_order2, by rfl⟩
theorem ex_ok (l : List Id) (hl : l = [exA] ∨ l = [exB]) (r s : Int) (hr : 0 ≤ r ∧ r < 7) (hs : 1 ≤ s ∧ s ≤ 100) (ao : Option Addr) (cap : Nat) (hne : (⟨r, 1⟩ : Id) ∉ l) : goodR (comR r s l ao cap) = true := by
  have h1 : idOk ⟨r, 1⟩ = true := idOk_iff.2 ⟨hr.1, hr.2, by simp, by simp⟩
  have h2 : setOk l = true := by rcases hl with rfl | rfl <;> decide
  have h3 : P.chk cmd0 = 0 := by decide
  have h4 : attrChk l s 1 = 0 := by
    unfold attrChk
    rw [h2, show tagBad 1 = false from rfl, show seqBad s 1 = false from by unfold seqBad; simp; omega]
    rfl
  unfold goodR recOk headBad balBad restOk comR
  simp [h1, h3, h4, hne]
  decide
theorem ids_box {w : World} {g : Nat} {i : Id} (h : w.heap[g]? = some (.cells #[.int .i64 i.r, .int .i64 i.n] 27 (0, 0))) (hi : IdI i) : IdsV w (some ⟨g, 0, none⟩) 1 [i] := by
  obtain ⟨⟨h0, h1⟩, _⟩ := box2 h
  refine ⟨⟨Nat.le_refl _, by unfold maxLen; simp⟩, fun e => (by cases e), fun k x hk => ?_, fun x hx => ?_⟩
  · have hk0 : k = 0 := by have := (List.getElem?_eq_some_iff.1 hk).1; simp at this; omega
    subst hk0
    cases hk
    exact ⟨g, 0, rfl, M.heap_lt h, h0, h1⟩
  · rw [List.mem_singleton.1 hx]; exact hi
def exX (g1 g2 : Nat) : List Rv := [comR 0 2 [exB] (some ⟨g1, 0, none⟩) 1, comR 1 1 [exA] (some ⟨g2, 0, none⟩) 1]
theorem ex_recs {w : World} {g1 g2 g3 : Nat} (h1 : w.heap[g1]? = some (.cells #[.int .i64 exB.r, .int .i64 exB.n] 27 (0, 0))) (h2 : w.heap[g2]? = some (.cells #[.int .i64 exA.r, .int .i64 exA.n] 27 (0, 0)))
    (h3 : w.heap[g3]? = some (.cells (cellsR (exX g1 g2)).toArray 38 (0, 0))) : RecsV w (some ⟨g3, 0, none⟩) 2 (exX g1 g2) := by
  refine ⟨⟨Nat.le_refl _, by unfold maxLen; simp⟩, fun e => (by cases e), fun k x hk => ⟨g3, 0, rfl, M.heap_lt h3, .of fun j hj => ?_⟩, fun x hx => ?_⟩
  · rw [cell_of_row w g3 _ _ _ _ h3, ← cellsR_get (exX g1 g2) k x hk j hj, Nat.zero_add]
    simp
  · have hcm : P.CmdOk cmd0 := by
      refine ⟨?_, ?_, ?_, ?_, ?_, ?_⟩ <;> first | exact Nat.zero_le _ | (unfold P.InI cmd0; simp)
    rcases List.mem_cons.1 hx with rfl | hx
    · exact ⟨hcm, ids_box h1 ⟨by unfold P.InI exB; simp, by unfold P.InI exB; simp⟩, ⟨by unfold P.InI; simp [comR], by unfold P.InI; simp [comR]⟩⟩
    · rw [List.mem_singleton.1 hx]
      exact ⟨hcm, ids_box h2 ⟨by unfold P.InI exA; simp, by unfold P.InI exA; simp⟩, ⟨by unfold P.InI; simp [comR], by unfold P.InI; simp [comR]⟩⟩
theorem ex_run (g1 g2 g3 : Nat) (w : World) (hT : Tabs w) (h1 : w.heap[g1]? = some (.cells #[.int .i64 exB.r, .int .i64 exB.n] 27 (0, 0))) (h2 : w.heap[g2]? = some (.cells #[.int .i64 exA.r, .int .i64 exA.n] 27 (0, 0)))
    (h3 : w.heap[g3]? = some (.cells (cellsR (exX g1 g2)).toArray 38 (0, 0))) :
    Calls Tryz.prog 13 #[.slice (some ⟨g3, 0, none⟩) 2 2] w fun e w' => ∃ (oo : Option Addr) (oc : Nat), e = .returned (.tuple #[.slice oo 2 oc, .int .i64 0]) ∧ (OwnL w' w.heap.size oo oc [exB, exA] ∧ Below w.heap.size w w') := by
  have hv : errO (okR (exX g1 g2)) (nds (exX g1 g2)) = 0 := by
    have e1 : okR (exX g1 g2) = true := by
      unfold okR exX
      rw [List.all_cons, List.all_cons, ex_ok [exB] (.inr rfl) 0 2 (by omega) (by omega) _ _ (by decide), ex_ok [exA] (.inl rfl) 1 1 (by omega) (by omega) _ _ (by decide)]
      rfl
    rw [e1]
    show errO true [nd1, nd2] = 0
    decide
  refine (Order_any (exX g1 g2) _ 2 w (ex_recs h1 h2 h3) hT (by simp [exX]) (fun x hx => ?_) (fun x hx => ?_) 0 hv).mono ?_
  · rcases List.mem_cons.1 hx with rfl | hx
    · simp [comR]
    · rw [List.mem_singleton.1 hx]; simp [comR]
  · rcases List.mem_cons.1 hx with rfl | hx
    · exact Nat.zero_le _
    · rw [List.mem_singleton.1 hx]; exact Nat.zero_le _
  · rintro e w' ⟨oo, oc, out, rfl, h4, h5, h6, h7⟩
    have h8 : out = [exB, exA] := Row.one (h4 rfl) (show Row (byIds (nds (exX g1 g2))) [exB, exA] from ex_row)
    subst h8
    exact ⟨oo, oc, rfl, h6, h7⟩
end Go.Proofs.YtndfhejfhfhbdaaGreatDoor.O

/- The law's awake. -/
namespace Go.Proofs.YtndfhejfhfhbdaaGreatDoor.O
open Go.RowKit Go.Proofs.YtndfhejfhfhbdaaGreatDoor.M Go.BigFrame Go.Proofs.YtndfhejfhfhbdaaGreatDoor.K Go.Proofs.YtndfhejfhfhbdaaGreatDoor.T Go.Proofs.YtndfhejfhfhbdaaGreatDoor.R
set_option linter.unusedVariables false
set_option linter.unusedSimpArgs false

theorem heap_dr (w : World) (k : Nat) : w.drew.heap[k]? = w.heap[k]? := rfl
theorem ex_cells (g1 g2 : Nat) : (cellsR (exX g1 g2)).toArray = #[.int .i64 0, .int .i64 1, .int .i64 3, .int .i64 0, .int .i64 0, .int .i64 0, .int .i64 0, .int .i64 0, .int .i64 0, .int .i64 0, .string ⟨#[]⟩, .string ⟨#[]⟩, .int .i64 0, .slice (some ⟨g1, 0, none⟩) 1 1, .int .i64 2, .int .i64 1, .int .i64 1, .int .i64 1, .int .i64 3, .int .i64 0, .int .i64 0, .int .i64 0, .int .i64 0, .int .i64 0, .int .i64 0, .int .i64 0, .string ⟨#[]⟩, .string ⟨#[]⟩, .int .i64 0, .slice (some ⟨g2, 0, none⟩) 1 1, .int .i64 1, .int .i64 1] := by
  simp [cellsR, exX, comR, cmd0, P.nul, exA, exB]
  rfl
theorem ex_run2 (w0 : World) (g1 g2 g3 : Nat) (hg : g3 = w0.heap.size) (h1 : w0.heap[g1]? = some (.cells #[.int .i64 1, .int .i64 1] 27 (0, 0))) (h2 : w0.heap[g2]? = some (.cells #[.int .i64 0, .int .i64 1] 27 (0, 0))) (hT : Tabs w0) :
    Calls Tryz.prog 13 #[.slice (some ⟨g3, 0, none⟩) 2 2] (w0.alloc (.cells #[.int .i64 0, .int .i64 1, .int .i64 3, .int .i64 0, .int .i64 0, .int .i64 0, .int .i64 0, .int .i64 0, .int .i64 0, .int .i64 0, .string ⟨#[]⟩, .string ⟨#[]⟩, .int .i64 0, .slice (some ⟨g1, 0, none⟩) 1 1, .int .i64 2, .int .i64 1, .int .i64 1, .int .i64 1, .int .i64 3, .int .i64 0, .int .i64 0, .int .i64 0, .int .i64 0, .int .i64 0, .int .i64 0, .int .i64 0, .string ⟨#[]⟩, .string ⟨#[]⟩, .int .i64 0, .slice (some ⟨g2, 0, none⟩) 1 1, .int .i64 1, .int .i64 1] 38)).drew fun e w' => ∃ (oo : Option Addr) (oc : Nat), e = .returned (.tuple #[.slice oo 2 oc, .int .i64 0]) ∧ (OwnL w' w0.heap.size oo oc [exB, exA] ∧ Below w0.heap.size w0 w') := by
  subst hg
  have hb : Below w0.heap.size w0 (w0.alloc (.cells #[.int .i64 0, .int .i64 1, .int .i64 3, .int .i64 0, .int .i64 0, .int .i64 0, .int .i64 0, .int .i64 0, .int .i64 0, .int .i64 0, .string ⟨#[]⟩, .string ⟨#[]⟩, .int .i64 0, .slice (some ⟨g1, 0, none⟩) 1 1, .int .i64 2, .int .i64 1, .int .i64 1, .int .i64 1, .int .i64 3, .int .i64 0, .int .i64 0, .int .i64 0, .int .i64 0, .int .i64 0, .int .i64 0, .int .i64 0, .string ⟨#[]⟩, .string ⟨#[]⟩, .int .i64 0, .slice (some ⟨g2, 0, none⟩) 1 1, .int .i64 1, .int .i64 1] 38)).drew := ((Below.refl _ _).alloc (Nat.le_refl _) _).drew
  refine (ex_run g1 g2 w0.heap.size _ (hT.next hb) ((hb.block _ (M.heap_lt h1)).trans h1) ((hb.block _ (M.heap_lt h2)).trans h2) (by rw [ex_cells, heap_dr, heap_al, if_pos rfl])).mono ?_
  rintro e w' ⟨oo, oc, rfl, h3, h4⟩
  exact ⟨oo, oc, rfl, own_base h3 (fun q hq => Nat.le_trans hb.size (h3.lt q hq).1), hb.trans (h4.mono hb.size)⟩
theorem com_one (ao : Option Addr) (cap : Nat) (w : World) :
    Calls Tryz.prog 41 #[.int .i64 0, .int .i64 2, .slice ao 1 cap] w fun e w' => e = .returned (.agg #[.int .i64 0, .int .i64 1, .int .i64 3, .int .i64 0, .int .i64 0, .int .i64 0, .int .i64 0, .int .i64 0, .int .i64 0, .int .i64 0, .string ⟨#[]⟩, .string ⟨#[]⟩, .int .i64 0, .slice ao 1 cap, .int .i64 2, .int .i64 1]) ∧
      w' = w.alloc (.cells #[.int .i64 0, .int .i64 1, .int .i64 3, .int .i64 0, .int .i64 0, .int .i64 0, .int .i64 0, .int .i64 0, .int .i64 0, .int .i64 0, .string ⟨#[]⟩, .string ⟨#[]⟩, .int .i64 0, .slice ao 1 cap, .int .i64 2, .int .i64 1] 38) := com_any 0 2 [exB] ao cap w
theorem com_two (ao : Option Addr) (cap : Nat) (w : World) :
    Calls Tryz.prog 41 #[.int .i64 1, .int .i64 1, .slice ao 1 cap] w fun e w' => e = .returned (.agg #[.int .i64 1, .int .i64 1, .int .i64 3, .int .i64 0, .int .i64 0, .int .i64 0, .int .i64 0, .int .i64 0, .int .i64 0, .int .i64 0, .string ⟨#[]⟩, .string ⟨#[]⟩, .int .i64 0, .slice ao 1 cap, .int .i64 1, .int .i64 1]) ∧
      w' = w.alloc (.cells #[.int .i64 1, .int .i64 1, .int .i64 3, .int .i64 0, .int .i64 0, .int .i64 0, .int .i64 0, .int .i64 0, .int .i64 0, .int .i64 0, .string ⟨#[]⟩, .string ⟨#[]⟩, .int .i64 0, .slice ao 1 cap, .int .i64 1, .int .i64 1] 38) := com_any 1 1 [exA] ao cap w
theorem ids_lit {w : World} {g : Nat} {l : List Id} (h : w.heap[g]? = some (.cells (cellsI l).toArray 27 (0, 0))) (hl : l.length ≤ 1000) (hok : ∀ x ∈ l, IdI x) : IdsV w (some ⟨g, 0, none⟩) l.length l := by
  refine ⟨⟨Nat.le_refl _, by unfold maxLen; omega⟩, fun e => (by cases e), fun k x hk => ?_, hok⟩
  obtain ⟨h1, h2⟩ := cellsI_get l k x hk
  refine ⟨g, 0, rfl, M.heap_lt h, ?_, ?_⟩
  · rw [cell_of_row w g _ _ _ _ h, Nat.zero_add]; simpa using h1
  · rw [cell_of_row w g _ _ _ _ h, Nat.zero_add]; simpa using h2
theorem keep4 {W w' : World} {g1 g2 : Nat} {v0 v1 v2 v3 : Value} (hb : Below W.heap.size W w') (h1 : g1 < W.heap.size) (h2 : g2 < W.heap.size) (a0 : W.cell? ⟨g1, 0, none⟩ = some v0) (a1 : W.cell? ⟨g1, 1, none⟩ = some v1) (b0 : W.cell? ⟨g2, 0, none⟩ = some v2) (b1 : W.cell? ⟨g2, 1, none⟩ = some v3) :
    w'.cell? ⟨g1, 0, none⟩ = some v0 ∧ w'.cell? ⟨g1, 1, none⟩ = some v1 ∧ w'.cell? ⟨g2, 0, none⟩ = some v2 ∧ w'.cell? ⟨g2, 1, none⟩ = some v3 :=
  ⟨(hb.cell (p := ⟨g1, 0, none⟩) h1).trans a0, (hb.cell (p := ⟨g1, 1, none⟩) h1).trans a1, (hb.cell (p := ⟨g2, 0, none⟩) h2).trans b0, (hb.cell (p := ⟨g2, 1, none⟩) h2).trans b1⟩
set_option maxRecDepth 100000 in
set_option maxHeartbeats 4000000 in
theorem awake_any (w : World) (hT : Tabs w) :
    Calls Tryz.prog 10 #[] w fun e w' => e = .returned (.bool true) ∧ Below w.heap.size w w' := by
  have HT0 := Lib.hid hT
  clear hT
  go_enter Tryz.func10, Tryz.ntmps10
  go_upto_region 2 with fail
  obtain ⟨W, hW⟩ : ∃ W, W = (w.alloc (.cells #[.int .i64 0, .int .i64 1] 27)).alloc (.cells #[.int .i64 1, .int .i64 1] 27) := ⟨_, rfl⟩
  have hA : W.heap[w.heap.size]? = some (.cells #[.int .i64 0, .int .i64 1] 27 (0, 0)) := by rw [hW, heap_al, heap_al]; simp
  have hB : W.heap[w.heap.size + 1]? = some (.cells #[.int .i64 1, .int .i64 1] 27 (0, 0)) := by rw [hW, heap_al]; simp
  have HBW := Lib.hid (show Below w.heap.size w W by rw [hW]; exact ((Below.refl _ _).alloc (Nat.le_refl _) _).alloc (by simp) _)
  have HT := Lib.hid (HT0.out.next HBW.out)
  rw [← hW]
  clear hW
  obtain ⟨⟨a0, a1⟩, _⟩ := box2 hA
  obtain ⟨⟨b0, b1⟩, _⟩ := box2 hB
  obtain ⟨ga, hga⟩ : ∃ g, g = w.heap.size := ⟨_, rfl⟩
  obtain ⟨gb, hgb⟩ : ∃ g, g = w.heap.size + 1 := ⟨_, rfl⟩
  have hlt := M.heap_lt hB
  rw [← hgb] at b0 b1 hlt ⊢
  have HGA := Lib.hid hga
  have HGB := Lib.hid hgb
  have hla : w.heap.size < W.heap.size := M.heap_lt hA
  clear hA hB hgb
  go_region_held3 (fun w' => w'.cell? ⟨w.heap.size, 0, none⟩ = some (.int .i64 0) ∧ w'.cell? ⟨w.heap.size, 1, none⟩ = some (.int .i64 1) ∧ w'.cell? ⟨gb, 0, none⟩ = some (.int .i64 1) ∧ w'.cell? ⟨gb, 1, none⟩ = some (.int .i64 1))
    (exact keep4 (by repeat (first | (exact HZ.out) | exact Below.refl _ _ | refine Below.drew ?_ | refine Below.alloc ?_ (by simp <;> omega) _)) hla hlt a0 a1 b0 b1)
    ((first
      | (go_at_call 41; first | with_reducible refine (com_one _ _ _).mono ?_ | with_reducible refine (com_two _ _ _).mono ?_
         rintro e wc ⟨rfl, rfl⟩)
      | (go_at_call 13
         refine (ex_run2 _ _ _ _ (by simp) (by rw [heap_al, heap_al, heap_al, heap_al]; simp +arith) (by rw [heap_al, heap_al, heap_al, heap_al]; simp +arith) (HT.out.next (by repeat (first | exact Below.refl _ _ | refine Below.drew ?_ | refine Below.alloc ?_ (by simp <;> omega) _)))).mono ?_
         rintro e wz ⟨oo, oc, rfl, how, hbz⟩
         have HZ := Lib.hid (Below.trans (a := W) (c := wz) (B := W.heap.size) (by repeat (first | exact Below.refl _ _ | refine Below.drew ?_ | refine Below.alloc ?_ (by simp <;> omega) _)) (hbz.mono (by simp <;> omega)))
         have HOWZ := Lib.hid how
         clear how hbz)))
  all_goals
    have HBZ := Lib.hid (HBW.out.trans (HZ.out.mono HBW.out.size))
    have HOWV := Lib.hid (Go.Proofs.YtndfhejfhfhbdaaGreatDoor.O.IdsV.of_own (B := 0) (l := [exB, exA]) (own_base HOWZ.out (fun _ _ => Nat.zero_le _)) (fun x hx => by
      rcases List.mem_cons.1 hx with rfl | hx
      · exact ⟨by unfold P.InI exB; simp, by unfold P.InI exB; simp⟩
      · rw [List.mem_singleton.1 hx]; exact ⟨by unfold P.InI exA; simp, by unfold P.InI exA; simp⟩))
    obtain ⟨a0', a1', b0', b1'⟩ := keep4 HZ.out hla hlt a0 a1 b0 b1
    clear a0 a1 b0 b1
    go_upto_region 3 with fail
    have HEQ := Lib.hid (refequal_any [exB, exA] [exB, exA] oo (some ⟨wz.heap.size, 0, none⟩) oc 2 (wz.alloc (.cells #[.int .i64 1, .int .i64 1, .int .i64 0, .int .i64 1] 27)) (HOWV.out.below (B := 0) ((Below.refl _ _).alloc (Nat.le_refl _) _)) (ids_lit (l := [exB, exA]) (heap_alloc_new wz _) (by simp) (fun x hx => by
      rcases List.mem_cons.1 hx with rfl | hx
      · exact ⟨by unfold P.InI exB; simp, by unfold P.InI exB; simp⟩
      · rw [List.mem_singleton.1 hx]; exact ⟨by unfold P.InI exA; simp, by unfold P.InI exA; simp⟩)) true (decide_eq_true rfl))
    go_wp2_with fail
    refine HEQ.out.mono ?_
    rintro e wf ⟨rfl, hbf⟩
    have HBF := Lib.hid ((HBZ.out.alloc HBZ.out.size _).trans (hbf.mono (by have := HBZ.out.size; simp; omega)))
    clear hbf HEQ a0' a1' b0' b1'
    go_wp2_with fail
    go_ret
    exact ⟨rfl, HBF.out⟩
end Go.Proofs.YtndfhejfhfhbdaaGreatDoor.O
