/- Several texts in one. -/
import Derived.RangeFuncBox
import Derived.RangeFuncLeaves
import Derived.RangeFuncNested
import Derived.Shelf.Abstract
import Derived.WalkKit
import Derived.OwnWalkIn
import Derived.TacticsInMore
import Derived.LoopNIn
import Derived.LoopIn
import Derived.Test.YtndfhejfhfhbdaaGreatDoorMrg29
import Derived.Test.YtndfhejfhfhbdaaGreatDoorMrg13
import Derived.RangeFuncCalls

/- maps.Values at records. -/
namespace Go.Proofs.YtndfhejfhfhbdaaGreatDoor.O
open Go.RowKit Go.Proofs.YtndfhejfhfhbdaaGreatDoor.M Go.BigFrame Go.Sort Go.Shelf
set_option linter.unusedVariables false
set_option linter.unusedSimpArgs false
attribute [local go_sem] Oper.semAt_some

theorem RngR.of_walks {w w1 : World} {b r n : Nat} {L left : List Rv} {cnt : Nat} (h : RngR w b r n L left cnt) (hk : KeepsWalks w w1) : RngR w1 b r n L left cnt := by
  obtain ⟨D, lf, h1, h2⟩ := h.own
  exact ⟨⟨D, lf, h1.of_walks hk, h2⟩, h.nd, h.ok, h.sub⟩
theorem RngR.iter_walk {w : World} {b r n : Nat} {L left : List Rv} {cnt : Nat} (h : RngR w b r n L left cnt) : ∃ o : Obj, w.heap[r]? = some o ∧ o.isWalk = true := by
  obtain ⟨D, lf, h1, _⟩ := h.own
  exact h1.iter_walk
theorem grown_of_mods {w w1 : World} {r : Nat} (h : Mods (fun k => k = r) w w1) : w.grownBy w1 (some r) := ⟨h.os, h.tape, h.output, h.size, fun i hi hne => h.block i hi (fun e => hne (by rw [e]))⟩
theorem grown_of_below {w w1 : World} (h : Below w.heap.size w w1) : w.grownBy w1 none := ⟨(M.Mods.of_below (S := fun _ => False) h).os, (M.Mods.of_below (S := fun _ => False) h).tape, (M.Mods.of_below (S := fun _ => False) h).output, h.size, fun i hi _ => h.block i hi⟩
abbrev InL (L : List Rv) : Type := { x : Rv // x ∈ L }
set_option maxRecDepth 100000 in
set_option maxHeartbeats 4000000 in
theorem valuesM1_in (n : Nat) (hn : 1 ≤ n) (l Bm b nn : Nat) (L : List Rv) (J Jx : List (InL L) → World → Prop) (W : World) (hJ : AbidesFrom W.heap.size J)
    (hY : ∀ pre (x : InL L) W1, J pre W1 → pre.length < L.length → YieldAt Fence.wide (n - 1) Tryz.prog l #[recV x.1] W1 fun e W' => (e = .returned (.bool true) ∧ J (pre ++ [x]) W' ∧ KeepsWalks W1 W') ∨ (e = .returned (.bool false) ∧ Jx (pre ++ [x]) W'))
    (hm : W.cell? ⟨Bm, 0, none⟩ = some (.map (some b))) (hown : MapR W b nn L) (h0 : J [] W) :
    CallsIn Fence.wide n Tryz.prog 102 #[.func (.yield l) #[] #[], .pointer (some ⟨Bm, 0, none⟩)] W fun e W' => (∃ v, e = .returned v) ∧
      ((∃ ys : List (InL L), (ys.map Subtype.val).Perm L ∧ J ys W') ∨ (∃ pre, True ∧ Jx pre W')) := by
  refine callsIn_of_wp Tryz.func102 rfl trivial ?_ rfl
  simp only [Tryz.ntmps102, List.size_toArray, List.length_cons, List.length_nil, Nat.reduceAdd, Nat.reduceSub, Array.replicate_succ, Array.replicate_zero, List.push_toArray, List.append_toArray, List.nil_append, List.cons_append]
  have HY := Lib.hid hY
  have HJA := Lib.hid hJ
  have HND := Lib.hid hown.nd
  clear hY hJ
  obtain ⟨w1, cnt1, hrun, hrg1, hb1⟩ := hown.range
  have HRG1 := Lib.hid hrg1
  have HJ1 := Lib.hid (show J [] w1 from HJA.out _ W w1 none h0 (grown_of_below hb1) (fun r e => by cases e))
  clear hrg1 hb1 h0
  gi_wp2
  clear hrun
  gi_loopw [4] (fun _ wr => ∃ (ps : List (InL L)) (left : List Rv) (cnt : Nat), RngR wr b W.heap.size nn L left cnt ∧ (ps.map Subtype.val ++ left).Perm L ∧ J ps wr) (fun _ wr => wr.rangeLeft b W.heap.size)
  case atStart => exact ⟨[], L, cnt1, HRG1.out, List.Perm.refl _, HJ1.out⟩
  case round =>
    obtain ⟨ps, left, cnt, hrg, hp, hjs⟩ := hrel
    have HR := Lib.hid hrg
    have HP := Lib.hid hp
    have HJ := Lib.hid hjs
    clear hrg hp hjs HRG1 HJ1
    rcases HR.out.next 0 with ⟨h0, hl, hrun⟩ | ⟨x, w2, cnt2, hx, hrun, hrg2, hlt, hmn, hen⟩
    · have HE := Lib.hid (show (ps.map Subtype.val).Perm L by have := HP.out; rwa [hl, List.append_nil] at this)
      clear h0 hl
      gi_wp2
      go_end0
      exact ⟨⟨_, rfl⟩, .inl ⟨ps, HE.out, HJ.out⟩⟩
    · have HX := Lib.hid hx
      have HRG := Lib.hid hrg2
      have HLT := Lib.hid hlt
      have HLP := Lib.hid (left_perm HND.out HR.out.sub hx)
      have HXM := Lib.hid (HR.out.sub.subset hx)
      have HJ2 := Lib.hid (show J ps w2 from HJA.out _ wr w2 (some W.heap.size) HJ.out (grown_of_mods hmn) (fun r e => by cases e; exact ⟨Nat.le_refl _, HR.out.iter_walk⟩))
      have hlen : ps.length < L.length := by
        have h1 := HP.out.length_eq
        rw [List.length_append, List.length_map] at h1
        have := List.length_pos_of_mem hx
        omega
      clear hx hrg2 hlt hmn
      have HJ3 := Lib.hid (show J ps (w2.alloc (recO x)) from HJA.out _ w2 _ none HJ2.out (World.grownBy_alloc w2 _ none) (fun r e => by cases e))
      obtain ⟨fn, tmps, assign, body, hy, hR⟩ := HY.out ps ⟨x, HXM.out⟩ (w2.alloc (recO x)) HJ3.out hlen
      have HRR := Lib.hid hR
      clear hR
      gi_wp2
      refine HRR.out.mono ?_
      rintro e W3 (⟨rfl, hJ3, hk3⟩ | ⟨rfl, hJx3⟩)
      · have HJN := Lib.hid hJ3
        have HRG3 := Lib.hid (((HRG.out.below ((Below.refl _ _).alloc (Nat.le_refl _) (recO x)))).of_walks hk3)
        clear hJ3 hk3 hrun hen hy
        gi_wp2
        go_roundw
        case rel =>
          refine ⟨ps ++ [⟨x, HXM.out⟩], _, cnt2, HRG3.out, ?_, HJN.out⟩
          rw [List.map_append, List.append_assoc]
          exact (List.Perm.append_left _ HLP.out.symm).trans HP.out
        case measure =>
          rw [HRG3.out.left_eq, HR.out.left_eq]
          exact HLT.out
      · have HJN := Lib.hid hJx3
        clear hJx3 hrun hen hy
        gi_wp2
        refine bodyPost_ret (results_none rfl _ _ _) rfl ?_
        exact ⟨⟨_, rfl⟩, .inr ⟨_, trivial, HJN.out⟩⟩
set_option maxRecDepth 100000 in
set_option maxHeartbeats 4000000 in
theorem valuesM_in (n : Nat) (b : Option Nat) (w : World) :
    CallsIn Fence.wide n Tryz.prog 65 #[.map b] w fun e w' => e = .returned (.func (.func 102) #[] #[.pointer (some ⟨w.heap.size, 0, none⟩)]) ∧ w' = w.alloc (.cells #[.map b] 86) := by
  refine callsIn_of_wp Tryz.func65 rfl trivial ?_ rfl
  simp only [Tryz.ntmps65, List.size_toArray, List.length_cons, List.length_nil, Nat.reduceAdd, Nat.reduceSub, Array.replicate_succ, Array.replicate_zero, List.push_toArray, List.append_toArray, List.nil_append, List.cons_append]
  gi_wp2
  go_ret
  exact ⟨rfl, rfl⟩
/-- what maps.Values hands back: all of them, in some order -/
theorem valuesM_stops (n : Nat) (hn : 1 ≤ n) (Bm b nn : Nat) (L : List Rv) (w : World) (hc : w.cell? ⟨Bm, 0, none⟩ = some (.map (some b))) (h : MapR w b nn L) :
    SeqStopsK Fence.wide n Tryz.prog 102 #[.pointer (some ⟨Bm, 0, none⟩)] (fun x : InL L => #[recV x.1]) KeepsWalks (fun ys => (ys.map Subtype.val).Perm L) (fun pre => True) L.length w := fun l J Jx W hW hJ _ hY h0 =>
  valuesM1_in n hn l Bm b nn L J Jx W hJ hY ((hW.cell (p := ⟨Bm, 0, none⟩) (World.block_lt_of_cell? w _ hc)).trans hc) (h.below hW) h0
end Go.Proofs.YtndfhejfhfhbdaaGreatDoor.O

/- The engine's Executed and Needs. -/
namespace Go.Proofs.YtndfhejfhfhbdaaGreatDoor.O
open Go.RowKit Go.Proofs.YtndfhejfhfhbdaaGreatDoor.M Go.BigFrame Go.Sort Go.Shelf
set_option linter.unusedVariables false
set_option linter.unusedSimpArgs false
attribute [local go_sem] Oper.semAt_some

set_option maxRecDepth 100000 in
set_option maxHeartbeats 4000000 in
theorem engexec_any (p b1 b2 n m : Nat) (ro : Option Addr) (rc : Nat) (L : List Rv) (D : List Id) (w : World) (h : EngAt w p b1 b2 n m ro rc L D) (hD : D.length ≤ 1000000) :
    Calls Tryz.prog 33 #[.pointer (some ⟨p, 0, none⟩)] w fun e w' => ∃ oo oc, e = .returned (.slice oo D.length oc) ∧ (OwnL w' w.heap.size oo oc D ∧ Below w.heap.size w w') := by
  obtain ⟨e0, e1, e2⟩ := h.cells
  have HCL := Lib.hid (cloneI_any D ro rc w (IdsV.of_own h.row h.di) hD)
  clear h
  go_enter Tryz.func33, Tryz.ntmps33
  go_wp2_with fail
  refine HCL.out.mono ?_
  rintro e w1 ⟨oo, oc, rfl, how, hb⟩
  have HOW := Lib.hid how
  have HB := Lib.hid hb
  clear how hb
  go_wp2_with fail
  go_ret
  exact ⟨oo, oc, rfl, HOW.out, HB.out⟩
/-- the ids that lack -/
def needL (A : List Rv) (D : List Id) (l : List Id) : List Id := l.filter fun d => !thereB A D d
def needsL (A : List Rv) (D : List Id) (L : List Rv) : List Id := L.flatMap fun x => needL A D x.deps
def needsV {A : List Rv} (D : List Id) (pre : List (InL A)) : List Id := needsL A D (pre.map Subtype.val)
theorem needsV_next {A : List Rv} (D : List Id) (pre : List (InL A)) (x : InL A) : needsV D (pre ++ [x]) = needsV D pre ++ needL A D x.1.deps := by
  unfold needsV needsL
  rw [List.map_append, List.flatMap_append]
  simp
def NeedI (w0 : World) (N : List Id) (W : World) : Prop :=
  (∃ v, Go.Boxed W w0.heap.size 25 v ∧ W.ownsRow w0.heap.size 27 2 v N.length (N.flatMap idC) ∧ True) ∧ Below w0.heap.size w0 W
theorem NeedI.own {α : Type} (f : α → List Id) (w0 : World) {B : Nat} (hB : w0.heap.size ≤ B) : OwnFrom B (fun pre => NeedI w0 (f pre)) :=
  OwnFrom.and (Own.from (Go.holdsRow_own w0.heap.size w0.heap.size 25 27 2 (fun pre : α => (f pre).length) (fun pre => (f pre).flatMap idC) (fun _ _ => True)) _) (ownFrom_below (Nat.le_refl _) hB)
theorem NeedI.below {w0 W W1 : World} {N : List Id} (h : NeedI w0 N W) (hb : Below W.heap.size W W1) : NeedI w0 N W1 := by
  obtain ⟨⟨v, h1, h2, _⟩, h3⟩ := h
  exact ⟨⟨v, (hb.block _ h1.lt).trans h1, own_kept h2 (Mods.of_below (S := fun _ => False) hb) (fun _ _ h => h), trivial⟩, h3.trans (hb.mono h3.size)⟩
theorem keepsOthers_below {W W1 : World} (hb : Below W.heap.size W W1) : KeepsOthers W W1 := ⟨hb.size, fun k o hk _ => (hb.block k (M.heap_lt hk)).trans hk⟩
theorem needL_next {L : List Rv} {D l : List Id} {j : Nat} {d : Id} (h : l[j]? = some d) : needL L D (l.take (j + 1)) = needL L D (l.take j) ++ (if thereB L D d = true then [] else [d]) := by
  unfold needL
  rw [List.take_add_one, h, List.filter_append]
  congr 1
  cases hb : thereB L D d <;> simp [hb]
set_option maxRecDepth 100000 in
set_option maxHeartbeats 4000000 in
theorem engneeds_in (n : Nat) (hn : 6 ≤ n) (p b1 b2 nn m : Nat) (ro : Option Addr) (rc : Nat) (L : List Rv) (D : List Id) (w : World) (h : EngAt w p b1 b2 nn m ro rc L D) (hL : L.length ≤ 100) (hdl : ∀ x ∈ L, x.deps.length ≤ 1000) :
    CallsIn Fence.wide n Tryz.prog 34 #[.pointer (some ⟨p, 0, none⟩)] w fun e w' => ∃ oo oc S, e = .returned (.slice oo (S : List Id).length oc) ∧ (S = setI (needsL L D L) ∧ OwnL w' w.heap.size oo oc S ∧ Below w.heap.size w w') := by
  have h1 : 1 ≤ n := by omega
  obtain ⟨i0, hi, hz0, hz1, hz2⟩ := info_parts info_id
  obtain ⟨e0, e1, e2⟩ := h.cells
  have hplt := h.plt
  have H := Lib.hid h
  clear h
  refine callsIn_of_wp_marks Tryz.func34 rfl trivial ?_ rfl
  simp only [Tryz.ntmps34, List.size_toArray, List.length_cons, List.length_nil, Nat.reduceAdd, Nat.reduceSub, Array.replicate_succ, Array.replicate_zero, List.push_toArray, List.append_toArray, List.nil_append, List.cons_append]
  gi_wp2
  obtain ⟨W0, hW0⟩ : ∃ W0, w.alloc (.cells #[.pointer (some ⟨p, 0, none⟩)] 57) = W0 := ⟨_, rfl⟩
  have hs0 : W0.heap.size = w.heap.size + 1 := by rw [← hW0]; simp
  have HB0 := Lib.hid (show Below w.heap.size w W0 by rw [← hW0]; exact (Below.refl _ _).alloc (Nat.le_refl _) _)
  have hx0 : W0.heap[w.heap.size]? = some (.cells #[.pointer (some ⟨p, 0, none⟩)] 57 (0, 0)) := by rw [← hW0]; exact heap_alloc_new w _
  rw [hW0]
  clear hW0 e0 e1 e2
  refine ⟨trivial, (valuesM_in (n - 1) (some b1) _).mono ?_⟩
  rintro e w' ⟨rfl, rfl⟩
  gi_wp2
  obtain ⟨W2, hW2⟩ : ∃ W2, (W0.alloc (.cells #[.slice none 0 0] 25)).alloc (.cells #[.map (some b1)] 86) = W2 := ⟨_, rfl⟩
  have hs2 : W2.heap.size = w.heap.size + 3 := by rw [← hW2]; simp; omega
  have HB2 := Lib.hid (show Below W0.heap.size W0 W2 by rw [← hW2]; exact ((Below.refl _ _).alloc (Nat.le_refl _) _).alloc (by simp) _)
  have hx2 : Go.Boxed W2 W0.heap.size 25 (.slice none 0 0) := by rw [← hW2]; exact (Go.Boxed.new W0 _ _).alloc _
  have hm2 : W2.cell? ⟨w.heap.size + 1 + 1, 0, none⟩ = some (.map (some b1)) := by
    have h5 : W2.heap[w.heap.size + 1 + 1]? = some (.cells #[.map (some b1)] 86 (0, 0)) := by
      rw [← hW2, heap_al, if_pos (by simp; omega)]
    exact cell_of_row W2 (w.heap.size + 1 + 1) 0 _ _ _ h5
  have hgw : (W0.alloc (.cells #[.slice none 0 0] 25)).heap.size = w.heap.size + 1 + 1 := by simp; omega
  rw [hW2] at *
  clear hW2
  have HEW := Lib.hid (fun (wx : World) (hb : Below W0.heap.size W0 wx) => H.out.below (HB0.out.trans (hb.mono (by omega))))
  have HX0 := Lib.hid (fun (wx : World) (hb : Below W0.heap.size W0 wx) => (hb.block _ (M.heap_lt hx0)).trans hx0)
  have hwt := (HEW.out W2 HB2.out).wt
  have hseq := valuesM_stops (n - 1) (by omega) (w.heap.size + 1 + 1) b1 nn L W2 hm2 hwt
  refine wpIn_rangeFunc_ownH rfl h1 (gf := 102) (lb := #[.pointer (some ⟨w.heap.size + 1 + 1, 0, none⟩)]) rfl trivial (enters_of Tryz.func102 (by kernel_rfl) rfl) hseq walksK_t walksK_b (Below.refl _ _) (fun _ => rfl) (fun pre => NeedI W0 (needsV D pre)) (fun _ _ _ => False) (NeedI.own (needsV D) W0 (by omega)) (fun _ _ _ _ _ hs _ _ => hs)
    ⟨⟨_, hx2, World.ownsRow_nil _ _ _ _, trivial⟩, HB2.out⟩
    (fun x a' W => ∃ Bx, W0.heap.size < Bx ∧ W.heap[Bx]? = some (recO x.1) ∧ a' = { tmps := #[.pointer (some ⟨p, 0, none⟩), .pointer (some ⟨w.heap.size, 0, none⟩), .slice none 0 0, .pointer (some ⟨w.heap.size + 1, 0, none⟩), .pointer (some ⟨Bx, 0, none⟩), undef, undef, .pointer (some ⟨p, 0, none⟩), .pointer (some ⟨p, 0, none⟩), .pointer (some ⟨p, 0, none⟩), .map (some b1), .func (.func 102) #[] #[.pointer (some ⟨w.heap.size + 1 + 1, 0, none⟩)], recV x.1, undef, undef, undef, undef, undef, undef, undef, undef, undef, undef, undef, undef, undef, undef, undef, undef, undef, undef, undef], defers := [] })
    (fun x a' _ X Y row hs hg hr => by
      obtain ⟨Bx, h1, h2, h3⟩ := hs
      refine ⟨Bx, h1, (hg.block Bx (M.heap_lt h2) (fun e => ?_)).trans h2, h3⟩
      obtain ⟨_, o, ho, hc⟩ := hr Bx e.symm
      rw [h2] at ho
      cases ho
      cases hc)
    ?assign ?body ?done ?stop
  case assign =>
    rintro l pre x W K hI hK
    gi_wp2
    exact hK _ _ ((KeepsOthers.alloc _ _).from _) (KeepsWalks.alloc W _) ((NeedI.own (needsV D) W0 (Nat.le_refl _)).alloc _ hI) ⟨W.heap.size, hI.1.choose_spec.1.lt, heap_alloc_new W _, rfl⟩
  case body =>
    rintro l pre x a' W hlW _ hI ⟨Bx, hBx, bX, rfl⟩ hlt
    have HI := Lib.hid hI
    have HEN := Lib.hid (HEW.out W hI.2)
    have HXD := Lib.hid (HEN.out.ok x.1 x.2).1.deps
    have hdx := hdl x.1 x.2
    have hnl : (needsV D pre).length ≤ 100000 := by
      have h5 : ∀ q : List (InL L), (needsV D q).length ≤ q.length * 1000 := fun q => by
        induction q with
        | nil => simp [needsV, needsL]
        | cons y t ih =>
          have h6 : needsV D (y :: t) = needL L D y.1.deps ++ needsV D t := by unfold needsV needsL; simp
          have h7 : (needL L D y.1.deps).length ≤ y.1.deps.length := List.length_filter_le _ _
          have h8 := hdl y.1 y.2
          rw [h6, List.length_append, List.length_cons]
          omega
      have := h5 pre
      omega
    obtain ⟨c0, c1, c2, c33, c4, c5, c6, c7, c8, c9, c10, c11, c12, c13, c14, c15⟩ := box16 bX
    have hsW := hI.2.size
    clear c0 c1 c2 c33 c4 c5 c6 c7 c8 c9 c10 c11 c12 c14 c15 bX hI
    gi_wp2
    clear c13
    gi_loopw [17] (fun iv wr => ∃ (j : Nat), iv = .int .i64 j ∧ j ≤ x.1.deps.length ∧ NeedI W0 (needsV D pre ++ needL L D (x.1.deps.take j)) wr ∧ KeepsOthers W wr ∧ Below W0.heap.size W wr) (fun iv _ => x.1.deps.length - (intOf iv).toNat)
    case atStart => exact ⟨0, rfl, Nat.zero_le _, by simpa [needL] using HI.out, KeepsOthers.refl _, Below.refl _ _⟩
    case round =>
      obtain ⟨j, rfl, hj, hni, hko, hbw⟩ := hrel
      have HN := Lib.hid hni
      have HKO := Lib.hid hko
      have HBW := Lib.hid hbw
      have HER := Lib.hid (HEW.out wr hni.2)
      have hsr := hni.2.size
      have c1 := box1 (HX0.out wr hni.2)
      clear hni hko hbw
      by_cases hjl : j < x.1.deps.length
      · have hii : (j : Int) < (x.1.deps.length : Int) := by omega
        obtain ⟨d, hd⟩ : ∃ d, x.1.deps[j]? = some d := ⟨_, List.getElem?_eq_getElem hjl⟩
        obtain ⟨b, off, ed, hbl, d0, d1⟩ := HXD.out.row j d hd
        have HID := Lib.hid (HXD.out.ok d (List.mem_of_getElem? hd))
        have HD := Lib.hid hd
        have HDV := Lib.hid ((HER.out.ok x.1 x.2).1.deps)
        obtain ⟨b', off', ed', hbl', q0, q1⟩ := HDV.out.row j d hd
        rw [ed] at ed'
        cases ed'
        rw [ed]
        clear hd d0 d1
        obtain ⟨v, hv⟩ : ∃ v, thereB L D d = v := ⟨_, rfl⟩
        have HV := Lib.hid hv
        have hlw : w.heap.size < wr.heap.size := by omega
        have hb5 : Below wr.heap.size wr (wr.alloc (idO d)) := (Below.refl _ _).alloc (Nat.le_refl _) _
        have HHAS := Lib.hid (enghas_any p b1 b2 nn m ro rc L D d (wr.alloc (idO d)) (HER.out.below hb5) HID.out v hv)
        have HB5 := Lib.hid hb5
        clear hv hb5
        gi_wp2
        refine ⟨trivial, fun _ => by omega, ((callsIn_wide.2 HHAS.out).inRound l).mono ?_⟩
        rintro e w6 ⟨rfl, hb6⟩
        have HB6 := Lib.hid (HB5.out.trans (hb6.mono HB5.out.size))
        have hx6 : w6.heap[wr.heap.size]? = some (idO d) := (hb6.block _ (by simp)).trans (heap_alloc_new wr _)
        have HN6 := Lib.hid (HN.out.below HB6.out)
        have HKO6 := Lib.hid (HKO.out.trans (keepsOthers_below HB6.out))
        have HBW6 := Lib.hid (HBW.out.trans (HB6.out.mono hsr))
        clear hb6 HHAS
        cases v with
        | true =>
          have HL := Lib.hid (show needL L D (x.1.deps.take (j + 1)) = needL L D (x.1.deps.take j) by rw [needL_next HD.out, if_pos HV.out, List.append_nil])
          clear c1 q0 q1 hx6
          gi_wp2
          go_roundw
          case rel => exact ⟨j + 1, by go_num, by omega, by rw [HL.out]; exact HN6.out, HKO6.out, HBW6.out⟩
          case measure => simp [intOf]; omega
        | false =>
          obtain ⟨⟨v0, bB1, hrow, _⟩, hB1⟩ := HN6.out
          have HROW := Lib.hid hrow
          have HBB := Lib.hid bB1
          have hs6 := hB1.size
          have cB : w6.cell? ⟨w.heap.size + 1, 0, none⟩ = some v0 := by have := bB1.cell; rwa [hs0] at this
          obtain ⟨⟨z0, z1⟩, _⟩ := box2 hx6
          obtain ⟨N, hN⟩ : ∃ N, needsV D pre ++ needL L D (x.1.deps.take j) = N := ⟨_, rfl⟩
          rw [hN] at HROW
          have HNX := Lib.hid (show N ++ [d] = needsV D pre ++ needL L D (x.1.deps.take (j + 1)) by rw [needL_next HD.out, if_neg (by rw [HV.out]; simp), ← List.append_assoc, hN])
          have hNl : N.length ≤ 1000000 := by
            have h7 : (needL L D (x.1.deps.take j)).length ≤ (x.1.deps.take j).length := List.length_filter_le _ _
            rw [List.length_take] at h7
            rw [← hN, List.length_append]
            omega
          have HB1W := Lib.hid hB1
          clear hrow bB1 hB1 hN c1 q0 q1 hx6
          gi_wp2_with (refine wpListIn_append_own _ rfl (.tmp 25) (.tmp 27) 25 rfl W0.heap.size 27 i0 _ 2 16 Tryz.underlying25 hi hz0 hz1 hz2 rfl (by decide) v0 N.length (N.flatMap idC) rfl (HROW.out.alloc _) ⟨w6.heap.size, 0, none⟩ 1 1 (idC d) rfl rfl (World.news_of_block (cs := #[.int .i64 d.r, .int .i64 d.n]) (fr := (0, 0)) (heap_alloc_new w6 _)) (idC_one d) (by unfold maxLen; omega) (by omega) (by simp; omega) ?_
                       intro v' w7 hown' hg3 _
                       have HOWN := Lib.hid hown'
                       have HG3 := Lib.hid hg3
                       clear hown' hg3
                       obtain ⟨b1', b2', b3', b4', b5'⟩ := HBB.out.appended (by decide) HROW.out hs6 (Nat.le_refl _) HOWN.out HG3.out
                       obtain ⟨g3, cap3, rfl⟩ := ownsRow_succ HOWN.out
                       have cB3 : w7.cell? ⟨w.heap.size + 1, 0, none⟩ = some v0 := (by have := b1'.cell; rwa [hs0] at this)
                       have fB3 : w7.frozen? ⟨w.heap.size + 1, 0, none⟩ = false := (by have := b1'.frozen; rwa [hs0] at this)
                       have HE := Lib.hid (show KeepsOthers w6 (w7.setCell ⟨W0.heap.size, 0, none⟩ (.slice (some ⟨g3, 0, none⟩) (N.length + 1) cap3)) ∧ Below W0.heap.size w6 (w7.setCell ⟨W0.heap.size, 0, none⟩ (.slice (some ⟨g3, 0, none⟩) (N.length + 1) cap3)) ∧ NeedI W0 (N ++ [d]) (w7.setCell ⟨W0.heap.size, 0, none⟩ (.slice (some ⟨g3, 0, none⟩) (N.length + 1) cap3)) from
                         ⟨b4', b5', ⟨_, b2', by simpa using b3', trivial⟩, HB1W.out.trans b5'⟩)
                       clear b1' b2' b3' b4' b5')
          have ea : (⟨w.heap.size + 1, 0, none⟩ : Addr) = ⟨W0.heap.size, 0, none⟩ := by rw [hs0]
          rw [ea]
          go_roundw
          case rel => exact ⟨j + 1, by go_num, by omega, by rw [← HNX.out]; exact HE.out.2.2, HKO6.out.trans HE.out.1, HBW6.out.trans HE.out.2.1⟩
          case measure => simp [intOf]; omega
      · obtain rfl : j = x.1.deps.length := by omega
        have hii : ¬ (x.1.deps.length : Int) < (x.1.deps.length : Int) := by omega
        have HF := Lib.hid (show NeedI W0 (needsV D (pre ++ [x])) wr by rw [needsV_next]; have := HN.out; rwa [List.take_length] at this)
        gi_wp2
        exact ⟨HKO.out.from _, HKO.out.walks, HF.out⟩
  case done =>
    rintro Dd ys W hD hperm hI hK
    obtain ⟨⟨v, bB1, hrow, _⟩, hB1⟩ := hI
    have cB : W.cell? ⟨w.heap.size + 1, 0, none⟩ = some v := by have := bB1.cell; rwa [hs0] at this
    obtain ⟨N, hN⟩ : ∃ N, needsV D ys = N := ⟨_, rfl⟩
    rw [hN] at hrow
    have hmem : ∀ d, d ∈ N ↔ d ∈ needsL L D L := fun d => by
      rw [← hN]
      unfold needsV needsL
      simp only [List.mem_flatMap]
      exact ⟨fun ⟨x, hx, h⟩ => ⟨x, hperm.mem_iff.1 hx, h⟩, fun ⟨x, hx, h⟩ => ⟨x, hperm.mem_iff.2 hx, h⟩⟩
    have HSE := Lib.hid (show setI N = setI (needsL L D L) from setI_same hmem)
    obtain ⟨oo, oc, rfl⟩ : ∃ oo oc, v = .slice oo N.length oc := by
      rcases hrow.2 with ⟨rfl, h0⟩ | ⟨g2, cap2, _, rfl, _⟩
      · exact ⟨none, 0, by rw [h0]⟩
      · exact ⟨_, _, rfl⟩
    have HIV := Lib.hid (show IdsV W oo oc N from IdsV.of_own hrow (fun d hd => by
      obtain ⟨x, hx, h⟩ := List.mem_flatMap.1 ((hmem d).1 hd)
      exact (H.out.ok x hx).1.deps.ok d (List.mem_filter.1 h).1))
    have hNl : N.length ≤ 1000000 := by
      have h5 : ∀ q : List (InL L), (needsV D q).length ≤ q.length * 1000 := fun q => by
        induction q with
        | nil => simp [needsV, needsL]
        | cons y t ih =>
          have h6 : needsV D (y :: t) = needL L D y.1.deps ++ needsV D t := by unfold needsV needsL; simp
          have h7 : (needL L D y.1.deps).length ≤ y.1.deps.length := List.length_filter_le _ _
          have h8 := hdl y.1 y.2
          rw [h6, List.length_append, List.length_cons]
          omega
      have h9 := h5 ys
      have h10 := hperm.length_eq
      rw [List.length_map] at h10
      rw [hN] at h9
      omega
    have HSET := Lib.hid (set_any N oo oc W HIV.out hNl)
    have HB1 := Lib.hid hB1
    have HK := Lib.hid hK
    clear hrow hB1 bB1 hmem hN hK
    gi_wp2
    refine ⟨trivial, (callsIn_wide.2 HSET.out).mono ?_⟩
    rintro e w6 ⟨so, sc, rfl, how, hb6⟩
    have HOW := Lib.hid how
    have HB6 := Lib.hid hb6
    have hK6 : w6.heap[Dd]? = some (.deferred (some [])) := (hb6.block _ (M.heap_lt HK.out)).trans HK.out
    clear how hb6 cB
    have HBW := Lib.hid (show Below w.heap.size w w6 from HB0.out.trans ((HB1.out.trans (HB6.out.mono HB1.out.size)).mono (by omega)))
    have HF := Lib.hid (show OwnL (w6.putObj Dd (.deferred none)) w.heap.size so sc (setI N) ∧ Below w.heap.size w (w6.putObj Dd (.deferred none)) from ⟨ownsRow_putObj (own_base HOW.out (fun q hq => by have := (HOW.out.lt q hq).1; have := HB1.out.size; omega)) _ hK6 rfl, HBW.out.trans (belowK_b (w := W2) (by omega) w6 Dd _ _ hD hK6 rfl rfl)⟩)
    gi_wp2
    refine ⟨by simp, .inl ⟨_, _, rfl, run_takeDeferred hK6, ?_⟩⟩
    exact ⟨_, results_tmp rfl _ _ _, so, sc, setI N, rfl, HSE.out, HF.out.1, HF.out.2⟩
  case stop =>
    rintro D c pre W _ _ h _
    exact h.elim
theorem engneeds_any (p b1 b2 nn m : Nat) (ro : Option Addr) (rc : Nat) (L : List Rv) (D : List Id) (w : World) (h : EngAt w p b1 b2 nn m ro rc L D) (hL : L.length ≤ 100) (hdl : ∀ x ∈ L, x.deps.length ≤ 1000) :
    Calls Tryz.prog 34 #[.pointer (some ⟨p, 0, none⟩)] w fun e w' => ∃ oo oc S, e = .returned (.slice oo (S : List Id).length oc) ∧ (S = setI (needsL L D L) ∧ OwnL w' w.heap.size oo oc S ∧ Below w.heap.size w w') :=
  callsIn_wide.1 (engneeds_in 6 (by omega) p b1 b2 nn m ro rc L D w h hL hdl)
end Go.Proofs.YtndfhejfhfhbdaaGreatDoor.O
