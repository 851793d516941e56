/- Several texts in one. -/
import Derived.RangeFuncBox
import Derived.RangeFuncLeaves
import Derived.RangeFuncNested
import Derived.RangeFuncCalls
import Derived.Shelf.Abstract
import Derived.WalkKit
import Derived.OwnWalkIn
import Derived.TacticsInMore
import Derived.LoopNIn
import Derived.LoopIn
import Derived.Test.YtlbkbjeajcadiaaGreatDoorMrg26
import Derived.Test.YtlbkbjeajcadiaaGreatDoorMrg28
import Derived.Test.YtlbkbjeajcadiaaGreatDoorBkW

/- maps.Keys and slices.Collect at the book's ids. -/
namespace Go.Proofs.YtlbkbjeajcadiaaGreatDoor.B
open Go.RowKit Go.Proofs.YtlbkbjeajcadiaaGreatDoor.M Go.BigFrame Go.Sort Go.Shelf Go.Proofs.YtlbkbjeajcadiaaGreatDoor.O Go.Proofs.YtlbkbjeajcadiaaGreatDoor.P Go.Proofs.YtlbkbjeajcadiaaGreatDoor.Mp Go.Proofs.YtlbkbjeajcadiaaGreatDoor.Rw
set_option linter.unusedVariables false
set_option linter.unusedSimpArgs false
attribute [local go_sem] Oper.semAt_some

section
variable {κ ν : Type} [DecidableEq κ] {S : MapS κ ν}
theorem rng_of_walks {w w1 : World} {b r n : Nat} {L left : List (κ × ν)} {cnt : Nat} (h : RngL S w b r n L left cnt) (hk : KeepsWalks w w1) : RngL S w1 b r n L left cnt := by
  obtain ⟨D, lf, h1, h2⟩ := h.own
  exact ⟨⟨D, lf, h1.of_walks hk, h2⟩, h.nd, h.ok, h.sub⟩
theorem rng_iter {w : World} {b r n : Nat} {L left : List (κ × ν)} {cnt : Nat} (h : RngL S w b r n L left cnt) : ∃ o : Obj, w.heap[r]? = some o ∧ o.isWalk = true := by
  obtain ⟨D, lf, h1, _⟩ := h.own
  exact h1.iter_walk
theorem keys_perm {L left : List (κ × ν)} (hn : (L.map Prod.fst).Nodup) (hs : left.Sublist L) {p : κ × ν} (hp : p ∈ left) : (left.map Prod.fst).Perm (p.1 :: (delD left p.1).map Prod.fst) := by
  have h1 : (left.map Prod.fst).Nodup := hn.sublist (hs.map _)
  have hd : ∀ k, k ∈ (delD left p.1).map Prod.fst ↔ k ∈ left.map Prod.fst ∧ k ≠ p.1 := fun k => by
    unfold delD
    rw [List.mem_map, List.mem_map]
    constructor
    · rintro ⟨q, hq, rfl⟩
      rw [List.mem_filter] at hq
      exact ⟨⟨q, hq.1, rfl⟩, by simpa using hq.2⟩
    · rintro ⟨⟨q, hq, rfl⟩, hne⟩
      exact ⟨q, List.mem_filter.2 ⟨hq, by simpa using hne⟩, rfl⟩
  have h2 : (p.1 :: (delD left p.1).map Prod.fst).Nodup := List.nodup_cons.2 ⟨fun h => ((hd _).1 h).2 rfl, h1.sublist (List.filter_sublist.map _)⟩
  refine (List.perm_ext_iff_of_nodup h1 h2).2 fun k => ?_
  rw [List.mem_cons, hd]
  constructor
  · intro hk
    by_cases e : k = p.1
    · exact .inl e
    · exact .inr ⟨hk, e⟩
  · rintro (rfl | h)
    · exact List.mem_map.2 ⟨p, hp, rfl⟩
    · exact h.1
end
theorem grown_of_mods {w w1 : World} {r : Nat} (h : Mods (fun k => k = r) w w1) : w.grownBy w1 (some r) := ⟨h.os, h.tape, h.output, h.size, fun i hi hne => h.block i hi (fun e => hne (by rw [e]))⟩
theorem grown_of_below {w w1 : World} (h : Below w.heap.size w w1) : w.grownBy w1 none := ⟨(M.Mods.of_below (S := fun _ => False) h).os, (M.Mods.of_below (S := fun _ => False) h).tape, (M.Mods.of_below (S := fun _ => False) h).output, h.size, fun i hi _ => h.block i hi⟩
/-- an id that a map has -/
abbrev InK (L : List (O.Id × Rv)) : Type := { i : O.Id // i ∈ L.map Prod.fst }
set_option maxRecDepth 100000 in
set_option maxHeartbeats 4000000 in
theorem keysM1_in (n : Nat) (hn : 1 ≤ n) (l Bm b nn : Nat) (L : List (O.Id × Rv)) (J Jx : List (InK L) → World → Prop) (W : World) (hJ : AbidesFrom W.heap.size J)
    (hY : ∀ pre (x : InK L) W1, J pre W1 → pre.length < L.length → YieldAt Fence.wide (n - 1) Tryz.prog l #[idV x.1] W1 fun e W' => (e = .returned (.bool true) ∧ J (pre ++ [x]) W' ∧ KeepsWalks W1 W') ∨ (e = .returned (.bool false) ∧ Jx (pre ++ [x]) W'))
    (hm : W.cell? ⟨Bm, 0, none⟩ = some (.map (some b))) (hown : MapL sIR W b nn L) (h0 : J [] W) :
    CallsIn Fence.wide n Tryz.prog 76 #[.func (.yield l) #[] #[], .pointer (some ⟨Bm, 0, none⟩)] W fun e W' => (∃ v, e = .returned v) ∧
      ((∃ ys : List (InK L), (ys.map Subtype.val).Perm (L.map Prod.fst) ∧ J ys W') ∨ (∃ pre, True ∧ Jx pre W')) := by
  refine callsIn_of_wp Tryz.func76 rfl trivial ?_ rfl
  simp only [Tryz.ntmps76, List.size_toArray, List.length_cons, List.length_nil, Nat.reduceAdd, Nat.reduceSub, Array.replicate_succ, Array.replicate_zero, List.push_toArray, List.append_toArray, List.nil_append, List.cons_append]
  have HY := Lib.hid hY
  have HJA := Lib.hid hJ
  have HND := Lib.hid hown.nd
  clear hY hJ
  obtain ⟨w1, cnt1, hrun, hrg1, hb1⟩ := hown.range lIR
  replace hrun : (Instr.range 61 (.map (some b))).run Tryz.prog W = .ok (.pointer (some ⟨W.heap.size, 0, none⟩)) w1 := hrun
  have HRG1 := Lib.hid hrg1
  have HJ1 := Lib.hid (show J [] w1 from HJA.out _ W w1 none h0 (grown_of_below hb1) (fun r e => by cases e))
  clear hrg1 hb1 h0
  gi_wp2
  clear hrun
  gi_loopw [3] (fun _ wr => ∃ (ps : List (InK L)) (left : List (O.Id × Rv)) (cnt : Nat), RngL sIR wr b W.heap.size nn L left cnt ∧ (ps.map Subtype.val ++ left.map Prod.fst).Perm (L.map Prod.fst) ∧ J ps wr) (fun _ wr => wr.rangeLeft b W.heap.size)
  case atStart => exact ⟨[], L, cnt1, HRG1.out, List.Perm.refl _, HJ1.out⟩
  case round =>
    obtain ⟨ps, left, cnt, hrg, hp, hjs⟩ := hrel
    have HR := Lib.hid hrg
    have HP := Lib.hid hp
    have HJ := Lib.hid hjs
    clear hrg hp hjs HRG1 HJ1
    rcases HR.out.next lIR iIR 0 with ⟨h0, hl, hrun⟩ | ⟨x, w2, cnt2, hx, hrun, hrg2, hlt, hmn, hen⟩
    · have HE := Lib.hid (show (ps.map Subtype.val).Perm (L.map Prod.fst) by have := HP.out; rwa [hl, List.map_nil, List.append_nil] at this)
      clear h0 hl
      gi_wp2
      go_end0
      exact ⟨⟨_, rfl⟩, .inl ⟨ps, HE.out, HJ.out⟩⟩
    · have HX := Lib.hid hx
      have HRG := Lib.hid hrg2
      have HLT := Lib.hid hlt
      have HLP := Lib.hid (keys_perm HND.out HR.out.sub hx)
      have HXM := Lib.hid (show x.1 ∈ L.map Prod.fst from List.mem_map.2 ⟨x, HR.out.sub.subset hx, rfl⟩)
      have HJ2 := Lib.hid (show J ps w2 from HJA.out _ wr w2 (some W.heap.size) HJ.out (grown_of_mods hmn) (fun r e => by cases e; exact ⟨Nat.le_refl _, rng_iter HR.out⟩))
      have hlen : ps.length < L.length := by
        have h1 := HP.out.length_eq
        rw [List.length_append, List.length_map, List.length_map, List.length_map] at h1
        have := List.length_pos_of_mem hx
        omega
      replace hrun : (Instr.next (.pointer (some ⟨W.heap.size, 0, none⟩)) false 0).run Tryz.prog wr = .ok (.tuple #[.bool true, .agg #[.int .i64 x.1.r, .int .i64 x.1.n], recV x.2]) w2 := hrun
      replace hen : (Instr.entry (.pointer (some ⟨W.heap.size, 0, none⟩))).run Tryz.prog w2 = .ok (.tuple #[.agg #[.int .i64 x.1.r, .int .i64 x.1.n], recV x.2]) w2 := hen
      clear hx hrg2 hlt hmn
      have HJ3 := Lib.hid (show J ps (w2.alloc (idO x.1)) from HJA.out _ w2 _ none HJ2.out (World.grownBy_alloc w2 _ none) (fun r e => by cases e))
      obtain ⟨fn, tmps, assign, body, hy, hR⟩ := HY.out ps ⟨x.1, HXM.out⟩ (w2.alloc (idO x.1)) HJ3.out hlen
      have HRR := Lib.hid hR
      clear hR
      gi_wp2
      refine HRR.out.mono ?_
      rintro e W3 (⟨rfl, hJ3, hk3⟩ | ⟨rfl, hJx3⟩)
      · have HJN := Lib.hid hJ3
        have HRG3 := Lib.hid (rng_of_walks (HRG.out.below ((Below.refl _ _).alloc (Nat.le_refl _) (idO x.1))) hk3)
        clear hJ3 hk3 hrun hen hy
        gi_wp2
        go_roundw
        case rel =>
          refine ⟨ps ++ [⟨x.1, HXM.out⟩], _, cnt2, HRG3.out, ?_, HJN.out⟩
          rw [List.map_append, List.append_assoc]
          exact (List.Perm.append_left _ HLP.out.symm).trans HP.out
        case measure =>
          rw [HRG3.out.left_eq, HR.out.left_eq]
          exact HLT.out
      · have HJN := Lib.hid hJx3
        clear hJx3 hrun hen hy
        gi_wp2
        refine bodyPost_ret (results_none rfl _ _ _) rfl ?_
        exact ⟨⟨_, rfl⟩, .inr ⟨_, trivial, HJN.out⟩⟩
set_option maxRecDepth 100000 in
set_option maxHeartbeats 4000000 in
theorem keysM_in (n : Nat) (b : Option Nat) (w : World) :
    CallsIn Fence.wide n Tryz.prog 41 #[.map b] w fun e w' => e = .returned (.func (.func 76) #[] #[.pointer (some ⟨w.heap.size, 0, none⟩)]) ∧ w' = w.alloc (.cells #[.map b] 61) := by
  refine callsIn_of_wp Tryz.func41 rfl trivial ?_ rfl
  simp only [Tryz.ntmps41, List.size_toArray, List.length_cons, List.length_nil, Nat.reduceAdd, Nat.reduceSub, Array.replicate_succ, Array.replicate_zero, List.push_toArray, List.append_toArray, List.nil_append, List.cons_append]
  gi_wp2
  go_ret
  exact ⟨rfl, rfl⟩
theorem keysM_stops (n : Nat) (hn : 1 ≤ n) (Bm b nn : Nat) (L : List (O.Id × Rv)) (w : World) (hc : w.cell? ⟨Bm, 0, none⟩ = some (.map (some b))) (h : MapL sIR w b nn L) :
    SeqStopsK Fence.wide n Tryz.prog 76 #[.pointer (some ⟨Bm, 0, none⟩)] (fun x : InK L => #[idV x.1]) KeepsWalks (fun ys => (ys.map Subtype.val).Perm (L.map Prod.fst)) (fun pre => True) L.length w := fun l J Jx W hW hJ _ hY h0 =>
  keysM1_in n hn l Bm b nn L J Jx W hJ hY ((hW.cell (p := ⟨Bm, 0, none⟩) (World.block_lt_of_cell? w _ hc)).trans hc) (h.below hW) h0
def KeyI (w0 : World) (N : List O.Id) (W : World) : Prop :=
  (∃ v, Go.Boxed W w0.heap.size 36 v ∧ W.ownsRow w0.heap.size 31 2 v N.length (N.flatMap idC) ∧ True) ∧ Below w0.heap.size w0 W
theorem KeyI.own {α : Type} (f : α → List O.Id) (w0 : World) {B : Nat} (hB : w0.heap.size ≤ B) : OwnFrom B (fun pre => KeyI w0 (f pre)) :=
  OwnFrom.and (Own.from (Go.holdsRow_own w0.heap.size w0.heap.size 36 31 2 (fun pre : α => (f pre).length) (fun pre => (f pre).flatMap idC) (fun _ _ => True)) _) (ownFrom_below (Nat.le_refl _) hB)
def KeyAx (w0 : World) (sv : Value) (x : O.Id) (a' : Act) (W : World) : Prop :=
  ∃ Bx, w0.heap.size < Bx ∧ W.heap[Bx]? = some (idO x) ∧ a' = { tmps := #[.slice none 0 0, sv, .pointer (some ⟨w0.heap.size, 0, none⟩), undef, .slice none 0 0, .pointer (some ⟨Bx, 0, none⟩), sv, idV x, undef, undef, undef, undef, undef], defers := [] }
set_option maxRecDepth 100000 in
set_option maxHeartbeats 4000000 in
theorem appendK_in (n : Nat) (hn : 3 ≤ n) (g : Nat) (lb : Array Value) (eg : ∀ args w, (callFunc g args).run Tryz.prog w = .ok (.enter g args) w) (L : List (O.Id × Rv)) (hl : L.length ≤ 1000000) (w : World)
    (hseq : SeqStopsK Fence.wide (n - 1) Tryz.prog g lb (fun x : InK L => #[idV x.1]) KeepsWalks (fun ys => (ys.map Subtype.val).Perm (L.map Prod.fst)) (fun pre => True) L.length w) :
    CallsIn Fence.wide n Tryz.prog 75 #[.slice none 0 0, .func (.func g) #[] lb] w fun e w' => ∃ oo oc ks, e = .returned (.slice oo (ks : List O.Id).length oc) ∧ (ks.Perm (L.map Prod.fst) ∧ OwnL w' w.heap.size oo oc ks ∧ Below w.heap.size w w') := by
  have h1 : 1 ≤ n := by omega
  obtain ⟨i0, hi, hz0, hz1, hz2⟩ := info_parts info_id
  refine callsIn_of_wp_marks Tryz.func75 rfl trivial ?_ rfl
  simp only [Tryz.ntmps75, List.size_toArray, List.length_cons, List.length_nil, Nat.reduceAdd, Nat.reduceSub, Array.replicate_succ, Array.replicate_zero, List.push_toArray, List.append_toArray, List.nil_append, List.cons_append]
  gi_wp2
  have bB := Go.Boxed.new w 36 (.slice none 0 0)
  have hB0 : Below w.heap.size w (w.alloc (.cells #[.slice none 0 0] 36)) := (Below.refl _ w).alloc (Nat.le_refl _) _
  have hsz : (w.alloc (.cells #[.slice none 0 0] 36)).heap.size = w.heap.size + 1 := by simp
  obtain ⟨W0, hW0⟩ : ∃ W0, w.alloc (.cells #[.slice none 0 0] 36) = W0 := ⟨_, rfl⟩
  rw [hW0] at bB hB0 hsz ⊢
  clear hW0
  refine wpIn_rangeFunc_ownH rfl h1 (gf := g) (lb := lb) rfl trivial eg hseq walksK_t walksK_b hB0 (fun _ => rfl) (fun pre : List (InK L) => KeyI w (pre.map Subtype.val)) (fun _ _ _ => False) (KeyI.own (fun pre : List (InK L) => pre.map Subtype.val) w (by omega)) (fun _ _ _ _ _ hs _ _ => hs)
    ⟨⟨_, bB, World.ownsRow_nil _ _ _ _, trivial⟩, hB0⟩
    (fun x a' W => KeyAx w (.func (.func g) #[] lb) x.1 a' W)
    (fun x a' _ X Y row hs hg hr => by
      obtain ⟨Bx, h1, h2, h3⟩ := hs
      refine ⟨Bx, h1, (hg.block Bx (M.heap_lt h2) (fun e => ?_)).trans h2, h3⟩
      obtain ⟨_, o, ho, hc⟩ := hr Bx e.symm
      rw [h2] at ho
      cases ho
      cases hc)
    ?assign ?body ?done ?stop
  case assign =>
    rintro l pre x W K hI hK
    gi_wp2
    exact hK _ _ ((KeepsOthers.alloc _ _).from _) (KeepsWalks.alloc W _) ((KeyI.own (fun pre : List (InK L) => pre.map Subtype.val) w (Nat.le_refl _)).alloc _ hI) ⟨W.heap.size, hI.1.choose_spec.1.lt, heap_alloc_new W _, rfl⟩
  case body =>
    rintro l pre x a' W hlW _ ⟨⟨v, bB1, hrow, _⟩, hB1⟩ ⟨Bx, hBx, bX, rfl⟩ hlt
    obtain ⟨N, hN⟩ : ∃ N, pre.map Subtype.val = N := ⟨_, rfl⟩
    have hNl : N.length < 1000000 := by rw [← hN, List.length_map]; omega
    rw [hN] at hrow
    have HNX := Lib.hid (show (pre ++ [x]).map Subtype.val = N ++ [x.1] by rw [List.map_append, hN]; rfl)
    have HROW := Lib.hid hrow
    have HB1 := Lib.hid hB1
    have HBB := Lib.hid bB1
    have HBX := Lib.hid bX
    obtain ⟨⟨c0, c1⟩, _⟩ := box2 bX
    have cB := bB1.cell
    have hsW := hB1.size
    clear hrow hB1 bB1 bX hN
    gi_wp2_with (refine wpListIn_append_own _ rfl (.tmp 8) (.tmp 10) 36 rfl w.heap.size 31 i0 _ 2 16 Tryz.underlying36 hi hz0 hz1 hz2 rfl (by decide) v N.length (N.flatMap idC) rfl (HROW.out.alloc _) ⟨W.heap.size, 0, none⟩ 1 1 (idC x.1) rfl rfl (World.news_of_block (cs := #[.int .i64 x.1.r, .int .i64 x.1.n]) (fr := (0, 0)) (heap_alloc_new W _)) (idC_one x.1) (by unfold maxLen; omega) (by omega) (by simp; omega) ?_
                 intro v' w3 hown' hg3 _
                 have HOWN := Lib.hid hown'
                 have HG3 := Lib.hid hg3
                 clear hown' hg3
                 obtain ⟨b1, b2, b3, b4, b5⟩ := HBB.out.appended (by decide) HROW.out hsW (Nat.le_refl _) HOWN.out HG3.out
                 obtain ⟨g3, cap3, rfl⟩ := ownsRow_succ HOWN.out
                 have cB3 := b1.cell
                 have fB3 := b1.frozen
                 have HE := Lib.hid (show KeepsOthers W (w3.setCell ⟨w.heap.size, 0, none⟩ (.slice (some ⟨g3, 0, none⟩) (N.length + 1) cap3)) ∧ KeyI w (N ++ [x.1]) (w3.setCell ⟨w.heap.size, 0, none⟩ (.slice (some ⟨g3, 0, none⟩) (N.length + 1) cap3)) from
                   ⟨b4, ⟨_, b2, by simpa using b3, trivial⟩, HB1.out.trans b5⟩)
                 clear b1 b2 b3 b4 b5)
    exact ⟨HE.out.1.from _, HE.out.1.walks, by show KeyI w ((pre ++ [x]).map Subtype.val) _; rw [HNX.out]; exact HE.out.2⟩
  case done =>
    rintro D ys W hD hperm ⟨⟨v, bB1, hrow, _⟩, hB1⟩ hK
    have cB := bB1.cell
    obtain ⟨N, hN⟩ : ∃ N, ys.map Subtype.val = N := ⟨_, rfl⟩
    rw [hN] at hrow hperm
    obtain ⟨oo, oc, rfl⟩ : ∃ oo oc, v = .slice oo N.length oc := by
      rcases hrow.2 with ⟨rfl, h0⟩ | ⟨g2, cap2, _, rfl, _⟩
      · exact ⟨none, 0, by rw [h0]⟩
      · exact ⟨_, _, rfl⟩
    have HF := Lib.hid (show N.Perm (L.map Prod.fst) ∧ OwnL (W.putObj D (.deferred none)) w.heap.size oo oc N ∧ Below w.heap.size w (W.putObj D (.deferred none)) from ⟨hperm, ownsRow_putObj hrow _ hK rfl, hB1.trans (belowK_b (w := w) (Nat.le_refl _) W D _ _ (by omega) hK rfl rfl)⟩)
    clear hrow hB1 hperm hN
    gi_wp2
    refine ⟨by simp, .inl ⟨_, _, rfl, run_takeDeferred hK, ?_⟩⟩
    exact ⟨_, results_tmp rfl _ _ _, oo, oc, N, rfl, HF.out⟩
  case stop =>
    rintro D c pre W _ _ h _
    exact h.elim
set_option maxRecDepth 100000 in
set_option maxHeartbeats 4000000 in
theorem collectK_in (n : Nat) (hn : 4 ≤ n) (g : Nat) (lb : Array Value) (eg : ∀ args w, (callFunc g args).run Tryz.prog w = .ok (.enter g args) w) (L : List (O.Id × Rv)) (hl : L.length ≤ 1000000) (w : World)
    (hseq : SeqStopsK Fence.wide (n - 1 - 1) Tryz.prog g lb (fun x : InK L => #[idV x.1]) KeepsWalks (fun ys => (ys.map Subtype.val).Perm (L.map Prod.fst)) (fun pre => True) L.length w) :
    CallsIn Fence.wide n Tryz.prog 40 #[.func (.func g) #[] lb] w fun e w' => ∃ oo oc ks, e = .returned (.slice oo (ks : List O.Id).length oc) ∧ (ks.Perm (L.map Prod.fst) ∧ OwnL w' w.heap.size oo oc ks ∧ Below w.heap.size w w') := by
  refine callsIn_of_wp Tryz.func40 rfl trivial ?_ rfl
  simp only [Tryz.ntmps40, List.size_toArray, List.length_cons, List.length_nil, Nat.reduceAdd, Nat.reduceSub, Array.replicate_succ, Array.replicate_zero, List.push_toArray, List.append_toArray, List.nil_append, List.cons_append]
  gi_wp2
  refine ⟨trivial, fun _ => by omega, (appendK_in (n - 1) (by omega) g lb eg L hl _ hseq).mono ?_⟩
  rintro e w' ⟨oo, oc, ks, rfl, hF⟩
  have HF := Lib.hid hF
  clear hF
  gi_wp2
  go_ret
  exact ⟨oo, oc, ks, rfl, HF.out⟩
/-- the value that maps.Keys hands back -/
abbrev keysF (Bm : Nat) : Value := .func (.func 76) #[] #[.pointer (some ⟨Bm, 0, none⟩)]
theorem keysM_any (b : Option Nat) (w : World) :
    Calls Tryz.prog 41 #[.map b] w fun e w' => e = .returned (keysF w.heap.size) ∧ w' = w.alloc (.cells #[.map b] 61) :=
  callsIn_wide.1 (keysM_in 1 b w)
/-- slices.Collect of maps.Keys: the keys, in some order -/
theorem collectK_any (Bm b nn : Nat) (L : List (O.Id × Rv)) (w : World) (hl : L.length ≤ 1000000) (hc : w.cell? ⟨Bm, 0, none⟩ = some (.map (some b))) (h : MapL sIR w b nn L) :
    Calls Tryz.prog 40 #[keysF Bm] w fun e w' => ∃ oo oc ks, e = .returned (.slice oo (ks : List O.Id).length oc) ∧ (ks.Perm (L.map Prod.fst) ∧ OwnL w' w.heap.size oo oc ks ∧ Below w.heap.size w w') :=
  callsIn_wide.1 (collectK_in 5 (by omega) _ _ (enters_of Tryz.func76 (by kernel_rfl) rfl) L hl w (keysM_stops 3 (by omega) Bm b nn L w hc h))
end Go.Proofs.YtlbkbjeajcadiaaGreatDoor.B

/- The book in memory: All. -/
namespace Go.Proofs.YtlbkbjeajcadiaaGreatDoor.B
open Go.RowKit Go.Proofs.YtlbkbjeajcadiaaGreatDoor.M Go.BigFrame Go.Maps Go.Proofs.YtlbkbjeajcadiaaGreatDoor.O Go.Proofs.YtlbkbjeajcadiaaGreatDoor.P Go.Proofs.YtlbkbjeajcadiaaGreatDoor.Mp Go.Proofs.YtlbkbjeajcadiaaGreatDoor.Rw Go.Proofs.YtlbkbjeajcadiaaGreatDoor.R
set_option linter.unusedVariables false
set_option linter.unusedSimpArgs false

/-- what a book's record is -/
theorem getR_ok {w : World} {p n : Nat} {R : List (O.Id × Rv)} {U : Nat → Prop} (h : Bk w p n R U) {i : O.Id} (hi : IdI i) : CmdOk (getR R i).cmd ∧ IdI (getR R i).id ∧ (getR R i).deps.length ≤ 1000 ∧ (∀ d ∈ (getR R i).deps, IdI d) ∧ (getR R i).id = i := by
  obtain ⟨x, b, A, Fi, h1, _, _⟩ := h
  obtain ⟨g1, g2⟩ := getR_len h1 i
  cases hf : hasD R i with
  | false =>
    have e := getR_none hf
    rw [e] at g1 g2 ⊢
    exact ⟨show CmdOk zc from ⟨⟨by decide, by decide⟩, ⟨by decide, by decide⟩, ⟨by decide, by decide⟩, ⟨by decide, by decide⟩, by decide, by decide⟩, hi, g1, g2, rfl⟩
  | true =>
    obtain ⟨k1, k2, _, _, _⟩ := h1.ok _ (findD_some (getR_some hf))
    exact ⟨k1.cmd, k1.id, g1, g2, k2⟩
/-- a record whose row of ids is the call's own -/
structure RowOwn (wr : World) (B : Nat) (y : Rv) : Prop where
  cmd : CmdOk y.cmd
  id : IdI y.id
  own : OwnL wr B y.ao y.cap y.deps
  di : ∀ d ∈ y.deps, IdI d
  dl : y.deps.length ≤ 1000
theorem RowOwn.ok {wr : World} {B : Nat} {y : Rv} (h : RowOwn wr B y) : RvOk wr y := ⟨h.cmd, IdsV.of_own h.own h.di, h.id⟩
theorem RowOwn.below {wr wx : World} {B : Nat} {y : Rv} (h : RowOwn wr B y) (hb : Below wr.heap.size wr wx) : RowOwn wx B y := ⟨h.cmd, h.id, eown_b h.own hb, h.di, h.dl⟩
theorem rows_apart {w : World} {B B2 n n2 cap cap2 k : Nat} {ao ao2 : Option Addr} {xs ys : List Value} (h : w.ownsRow B 31 2 (.slice ao n cap) n xs) (h2 : w.ownsRow B2 40 16 (.slice ao2 n2 cap2) n2 ys) (e : (Value.slice ao n cap).ownBlock = some k) : ¬ ∃ a, ao2 = some a ∧ k = a.block := by
  rintro ⟨a2, e2, ek⟩
  cases ao with
  | none => cases e
  | some a =>
    obtain rfl : a.block = k := Option.some.inj e
    obtain ⟨cs, hh, _⟩ := K.own_heap h a rfl
    obtain ⟨cs2, hh2, _⟩ := K.own_heap h2 a2 e2
    rw [ek, hh2] at hh
    exact absurd (Option.some.inj hh) (by simp)
theorem RowOwn.turned {wr wx : World} {B B2 n2 cap2 : Nat} {ao2 : Option Addr} {ys : List Value} {y : Rv} (h : RowOwn wr B y) (h2 : wr.ownsRow B2 40 16 (.slice ao2 n2 cap2) n2 ys) (hm : Mods (fun j => ∃ a, ao2 = some a ∧ j = a.block) wr wx) : RowOwn wx B y :=
  ⟨h.cmd, h.id, own_kept h.own hm (fun k hk => rows_apart h.own h2 hk), h.di, h.dl⟩
/-- what All has come to -/
structure AllS (w wr : World) (B : Nat) (oo : Option Addr) (oc : Nat) (Y : List Rv) : Prop where
  own : OwnRc wr B oo oc Y
  row : ∀ y ∈ Y, RowOwn wr B y
  bel : Below w.heap.size w wr
theorem AllS.below {w wr wx : World} {B : Nat} {oo : Option Addr} {oc : Nat} {Y : List Rv} (h : AllS w wr B oo oc Y) (hb : Below wr.heap.size wr wx) : AllS w wx B oo oc Y :=
  ⟨Go.Proofs.YtlbkbjeajcadiaaGreatDoor.R.own_below h.own hb, fun y hy => (h.row y hy).below hb, h.bel.trans (hb.mono h.bel.size)⟩
set_option maxRecDepth 100000 in
set_option maxHeartbeats 4000000 in
theorem all_any (p n : Nat) (R : List (O.Id × Rv)) (U : Nat → Prop) (w : World) (h : Bk w p n R U) (hn : n ≤ 10000) :
    Calls Tryz.prog 18 #[.pointer (some ⟨p, 0, none⟩)] w fun e w' => ∃ oo oc Y, e = .returned (.slice oo (Y : List Rv).length oc) ∧ (RecsV w' oo oc Y ∧ Y.map core = (setI (R.map Prod.fst)).map (fun i => core (getR R i)) ∧ (∀ y ∈ Y, y.deps.length ≤ 1000) ∧ Below w.heap.size w w') := by
  obtain ⟨i0, hi, hz0, hz1, hz2⟩ := info_parts info_recs
  obtain ⟨b, hcell, hmap⟩ : ∃ b, w.cell? ⟨p, 1, none⟩ = some (.map (some b)) ∧ MapL sIR w b n R := by
    obtain ⟨x, b, A, Fi, h1, _, _⟩ := h
    exact ⟨b, h1.cells.2.1, h1.recs⟩
  have hRl : R.length ≤ 10000 := Nat.le_trans hmap.len_le hn
  have HMP := Lib.hid hmap
  have HBK := Lib.hid h
  clear hmap h
  have HK := Lib.hid (keysM_any (some b) w)
  go_enter Tryz.func18, Tryz.ntmps18
  go_wp2_with fail
  refine HK.out.mono ?_
  rintro e w1 ⟨rfl, hw1⟩
  have hb1 : Below w.heap.size w w1 := by rw [hw1]; exact (Below.refl _ _).alloc (Nat.le_refl _) _
  have hc1 : w1.cell? ⟨w.heap.size, 0, none⟩ = some (.map (some b)) := by
    have h5 : w1.heap[w.heap.size]? = some (.cells #[.map (some b)] 61 (0, 0)) := by rw [hw1]; exact heap_alloc_new w _
    exact cell_of_row w1 w.heap.size 0 _ _ _ h5
  have HB1 := Lib.hid hb1
  have HCL := Lib.hid (collectK_any w.heap.size b n R w1 (by omega) hc1 (HMP.out.below hb1))
  clear hw1 hb1 hc1 hcell HK
  go_wp2_with fail
  refine HCL.out.mono ?_
  rintro e w2 ⟨ko, kc, ks, rfl, hperm, hown, hb2⟩
  have HPM := Lib.hid hperm
  have HB2 := Lib.hid (HB1.out.trans (hb2.mono HB1.out.size))
  have hkl : ks.length = R.length := by rw [hperm.length_eq, List.length_map]
  have HIK := Lib.hid (show ∀ i ∈ ks, IdI i from fun i hi => by
    obtain ⟨q, hq, rfl⟩ := List.mem_map.1 (hperm.mem_iff.1 hi)
    exact HMP.out.ok q hq)
  have HST := Lib.hid (set_any ks ko kc w2 (IdsV.of_own hown HIK.out) (by omega))
  have HSS := Lib.hid (show setI ks = setI (R.map Prod.fst) from setI_same fun d => hperm.mem_iff)
  have hkl2 : (setI ks).length ≤ 10000 := by have := setI_len ks; omega
  clear hperm hown hb2 HCL hkl
  go_wp2_with fail
  refine HST.out.mono ?_
  rintro e w3 ⟨so, sc, rfl, hown3, hb3⟩
  obtain ⟨S, hS⟩ : ∃ S, setI ks = S := ⟨_, rfl⟩
  have HIS := Lib.hid (show ∀ i ∈ S, IdI i from fun i hi => by
    rw [← hS, setI_mem] at hi
    exact HIK.out i hi)
  rw [hS] at hown3 hkl2 HSS ⊢
  have HB3 := Lib.hid (HB2.out.trans (hb3.mono HB2.out.size))
  have HSV := Lib.hid (IdsV.of_own hown3 HIS.out)
  have HBK3 := Lib.hid (HBK.out.below HB3.out)
  obtain ⟨BB, hBB⟩ : ∃ B, w3.heap.size = B := ⟨_, rfl⟩
  have HBB := Lib.hid hBB
  have hwB : w.heap.size ≤ BB := by rw [← hBB]; exact HB3.out.size
  obtain ⟨hs1, hs2⟩ := HSV.out.le
  unfold maxLen at hs2
  clear hown3 hb3 HST hS hBB HBK HMP HIK HPM
  go_wp2_with fail
  go_loopw [3, 14] (fun ov kv wr => ∃ (k : Nat) (Y : List Rv) (oo : Option Addr) (oc : Nat), ov = .slice oo Y.length oc ∧ kv = .int .i64 k ∧ k ≤ S.length ∧ Y.map core = (S.take k).map (fun i => core (getR R i)) ∧ AllS w3 wr BB oo oc Y) (fun _ kv _ => S.length - (intOf kv).toNat)
  case atStart => exact ⟨0, [], none, 0, rfl, rfl, Nat.zero_le _, rfl, World.ownsRow_nil _ _ _ _, fun y hy => (by cases hy), Below.refl _ _⟩
  case round =>
    obtain ⟨k, Y, oo, oc, rfl, rfl, hk, hY, hs⟩ := hrel
    have HY := Lib.hid hY
    have HS := Lib.hid hs
    have hYl : Y.length ≤ 10000 := by
      have := congrArg List.length hY
      rw [List.length_map, List.length_map, List.length_take] at this
      omega
    clear hY hs
    by_cases hkl : k < S.length
    · have hii : (k : Int) < (S.length : Int) := by omega
      obtain ⟨i, hix⟩ : ∃ x, S[k]? = some x := ⟨_, List.getElem?_eq_getElem hkl⟩
      have HII := Lib.hid (HIS.out i (List.mem_of_getElem? hix))
      have HNX := Lib.hid (show (S.take (k + 1)).map (fun i => core (getR R i)) = (S.take k).map (fun i => core (getR R i)) ++ [core (getR R i)] by rw [List.take_add_one, hix, List.map_append]; rfl)
      obtain ⟨g, off, e0, hgl, r0, r1⟩ := HSV.out.row k i hix
      subst e0
      have c0 := (HS.out.bel.cell (p := ⟨g, _, none⟩) hgl).trans r0
      have c1 := (HS.out.bel.cell (p := ⟨g, _, none⟩) hgl).trans r1
      clear hix r0 r1
      go_upto_region 5 with fail
      obtain ⟨w4, hw4⟩ : ∃ w4, w4 = wr.alloc (idO i) := ⟨_, rfl⟩
      rw [← hw4]
      have hb4 : Below wr.heap.size wr w4 := by rw [hw4]; exact (Below.refl _ _).alloc (Nat.le_refl _) _
      have hx4 : w4.heap[wr.heap.size]? = some (idO i) := by rw [hw4]; exact heap_alloc_new wr _
      have HS4 := Lib.hid (HS.out.below hb4)
      have HBK4 := Lib.hid (HBK3.out.below HS4.out.bel)
      have HGT := Lib.hid (get_any p n R U i w4 HBK4.out HII.out)
      have HRO := Lib.hid (getR_ok HBK4.out HII.out)
      obtain ⟨⟨d0, d1⟩, _⟩ := box2 hx4
      clear hw4 hb4 hx4 c0 c1
      go_wp2_with fail
      refine HGT.out.mono ?_
      rintro e w5 ⟨ao, cap, rfl, ho5, hb5⟩
      obtain ⟨y, hy⟩ : ∃ y, { getR R i with ao := ao, cap := cap } = y := ⟨_, rfl⟩
      rw [hy]
      have HS5 := Lib.hid (HS4.out.below hb5)
      have hB5 : BB ≤ w5.heap.size := by rw [← HBB.out]; exact HS5.out.bel.size
      have HRY := Lib.hid (show RowOwn w5 BB y from by
        rw [← hy]
        exact ⟨HRO.out.1, HRO.out.2.1, own_base ho5 (fun q hq => by have := (ho5.lt q hq).1; have := HS4.out.bel.size; have := HBB.out; omega), HRO.out.2.2.2.1, HRO.out.2.2.1⟩)
      have HCY := Lib.hid (show core y = core (getR R i) by rw [← hy]; rfl)
      clear hy ho5 hb5 HGT d0 d1
      go_wp2_with (refine wpList_app recC 16 (fun _ => rfl) (by decide) recC_one (by rfl) (.tmp 18) (.tmp 22) 22 (by rfl) BB 40 i0 _ 160 Tryz.underlying22 hi hz0 hz1 hz2 (by decide) rfl oo oc Y y (recA y) rfl (by rfl) (by exact HS5.out.own) (by rfl) (by omega) (by omega) ?_; intro oo' oc' w7 hown hmod hbel; have HOW7 := Lib.hid hown; have HMO7 := Lib.hid hmod; have HBE7 := Lib.hid hbel; clear hown hmod hbel)
      go_roundw
      case rel =>
        refine ⟨k + 1, Y ++ [y], oo', oc', by first | rfl | simp, by go_num, by omega, ?_, HOW7.out, fun z hz => ?_, HS5.out.bel.trans (HBE7.out.mono (by rw [← HBB.out]; exact Nat.le_refl _))⟩
        · rw [HNX.out, List.map_append, HY.out, List.map_cons, List.map_nil, HCY.out]
        · rcases List.mem_append.1 hz with hz | hz
          · exact (HS5.out.row z hz).turned HS5.out.own HMO7.out
          · rw [List.mem_singleton.1 hz]; exact HRY.out.turned HS5.out.own HMO7.out
      case measure => simp [intOf]; omega
    · obtain rfl : k = S.length := by omega
      have hii : ¬ (S.length : Int) < (S.length : Int) := by omega
      have HE := Lib.hid (show Y.map core = S.map (fun i => core (getR R i)) by have := HY.out; rwa [List.take_length] at this)
      go_wp2_with fail
      go_ret
      exact ⟨oo, oc, Y, rfl, RecsV.of_own HS.out.own (fun y hy => (HS.out.row y hy).ok), by rw [HE.out, HSS.out], fun y hy => (HS.out.row y hy).dl, HB3.out.trans (HS.out.bel.mono HB3.out.size)⟩
end Go.Proofs.YtlbkbjeajcadiaaGreatDoor.B
