/- Several texts in one. -/
import Derived.RangeFuncBox
import Derived.RangeFuncLeaves
import Derived.RangeFuncNested
import Derived.Shelf.Abstract
import Derived.WalkKit
import Derived.OwnWalkIn
import Derived.TacticsInMore
import Derived.LoopNIn
import Derived.LoopIn
import Derived.Test.YtndfhejfhfhbdaaGreatDoorMrg16
import Derived.Maps.Keyed
import Derived.Maps.Own
import Derived.Maps.OwnSet
import Derived.Maps.Views
import Derived.DeepKeys4

/- slices.Values, slices.AppendSeq and slices.Collect at records. -/
namespace Go.Proofs.YtndfhejfhfhbdaaGreatDoor.O
open Go.RowKit Go.Proofs.YtndfhejfhfhbdaaGreatDoor.M Go.BigFrame Go.Sort Go.Shelf
set_option linter.unusedVariables false
set_option linter.unusedSimpArgs false
attribute [local go_sem] Oper.semAt_some

set_option maxRecDepth 100000 in
set_option maxHeartbeats 4000000 in
theorem valuesR1_in (n : Nat) (hn : 1 ≤ n) (l Bs n₀ b off cap : Nat) (X : List Rv) (hl : X.length ≤ 1000000) (hb : b < n₀) (J Jx : List Rv → World → Prop) (W : World) (hJ : AbidesFrom W.heap.size J) (hn0 : n₀ ≤ W.heap.size)
    (hY : ∀ pre x W1, J pre W1 → pre.length < X.length → YieldAt Fence.wide (n - 1) Tryz.prog l #[recV x] W1 fun e W' => (e = .returned (.bool true) ∧ J (pre ++ [x]) W' ∧ Below n₀ W1 W') ∨ (e = .returned (.bool false) ∧ Jx (pre ++ [x]) W'))
    (hBs : W.cell? ⟨Bs, 0, none⟩ = some (.slice (some ⟨b, off, none⟩) X.length cap)) (hc : ∀ j x, X[j]? = some x → RecAt W b (off + j * 16) x) (h0 : J [] W) :
    CallsIn Fence.wide n Tryz.prog 68 #[.func (.yield l) #[] #[], .pointer (some ⟨Bs, 0, none⟩)] W fun e W' => (∃ v, e = .returned v) ∧
      ((∃ ys, ys = X ∧ J ys W') ∨ (∃ pre, pre <+: X ∧ Jx pre W')) := by
  refine callsIn_of_wp Tryz.func68 rfl trivial ?_ rfl
  simp only [Tryz.ntmps68, List.size_toArray, List.length_cons, List.length_nil, Nat.reduceAdd, Nat.reduceSub, Array.replicate_succ, Array.replicate_zero, List.push_toArray, List.append_toArray, List.nil_append, List.cons_append]
  gi_wp2
  gi_loopw [7] (fun i wr => ∃ k : Nat, k ≤ X.length ∧ i = .int .i64 k ∧ J (X.take k) wr ∧ Below n₀ W wr)
    (fun i _ => X.length - (intOf i).toNat)
  case atStart => exact ⟨0, Nat.zero_le _, rfl, h0, Below.refl _ _⟩
  case round =>
    obtain ⟨k, hk, rfl, hJs, hnx⟩ := hrel
    have HNX := Lib.hid hnx
    have HJ := Lib.hid hJs
    have HY := Lib.hid hY
    have HC := Lib.hid hc
    have HJA := Lib.hid hJ
    clear hnx hJs hY hc h0 hJ
    by_cases hlt : k < X.length
    · obtain ⟨x, hx⟩ : ∃ x, X[k]? = some x := ⟨_, List.getElem?_eq_getElem hlt⟩
      obtain ⟨c0, c1, c2, c3, c4, c5, c6, c7, c8, c9, c10, c11, c12, c13, c14, c15⟩ := RecAt.of (fun j hj => (HNX.out.cell (p := ⟨b, _, none⟩) hb).trans ((HC.out k x hx).get j hj))
      have HX := Lib.hid hx
      clear hx
      have HA : J (X.take k) (wr.alloc (recO x)) := HJA.out _ wr _ none HJ.out (World.grownBy_alloc wr _ none) (fun r e => by cases e)
      obtain ⟨fn, tmps, assign, body, hy, hR⟩ := HY.out _ x _ HA (by rw [List.length_take]; omega)
      have HR := Lib.hid hR
      have HXT := Lib.hid (show X.take k ++ [x] = X.take (k + 1) by rw [List.take_add_one, HX.out]; rfl)
      have HB2 := Lib.hid (HNX.out.alloc (Nat.le_trans hn0 HNX.out.size) (recO x))
      clear hR HA
      gi_wp2
      refine HR.out.mono ?_
      rintro e W3 (⟨rfl, hJ3, hk3⟩ | ⟨rfl, hJx3⟩)
      · have HJ3 := Lib.hid hJ3
        have HB3 := Lib.hid (HB2.out.trans hk3)
        clear hJ3 hk3
        gi_wp2
        go_roundw
        case rel => exact ⟨k + 1, by omega, by simp, by rw [← HXT.out]; exact HJ3.out, HB3.out⟩
        case measure => simp [intOf]; omega
      · gi_wp2
        refine bodyPost_ret (results_none rfl _ _ _) rfl ?_
        exact ⟨⟨_, rfl⟩, .inr ⟨_, by rw [HXT.out]; exact List.take_prefix _ _, hJx3⟩⟩
    · obtain rfl : k = X.length := by omega
      have HJE := Lib.hid (show J X wr from by have := HJ.out; rwa [List.take_length] at this)
      gi_wp2
      go_end0
      exact ⟨⟨_, rfl⟩, .inl ⟨_, rfl, HJE.out⟩⟩
set_option maxRecDepth 100000 in
set_option maxHeartbeats 4000000 in
theorem valuesR1_nil_in (n : Nat) (l Bs : Nat) (ao : Option Addr) (cap : Nat) (J : List Rv → World → Prop) (W : World) (hBs : W.cell? ⟨Bs, 0, none⟩ = some (.slice ao 0 cap)) (h0 : J [] W) :
    CallsIn Fence.wide n Tryz.prog 68 #[.func (.yield l) #[] #[], .pointer (some ⟨Bs, 0, none⟩)] W fun e W' => (∃ v, e = .returned v) ∧ J [] W' := by
  refine callsIn_of_wp Tryz.func68 rfl trivial ?_ rfl
  simp only [Tryz.ntmps68, List.size_toArray, List.length_cons, List.length_nil, Nat.reduceAdd, Nat.reduceSub, Array.replicate_succ, Array.replicate_zero, List.push_toArray, List.append_toArray, List.nil_append, List.cons_append]
  gi_wp2
  gi_loopw [7] (fun i wr => i = .int .i64 0 ∧ J [] wr) (fun _ _ => 0)
  case atStart => exact ⟨rfl, h0⟩
  case round =>
    obtain ⟨rfl, hJs⟩ := hrel
    gi_wp2
    go_end0
    exact ⟨⟨_, rfl⟩, hJs⟩
set_option maxRecDepth 100000 in
set_option maxHeartbeats 4000000 in
theorem valuesR_in (n : Nat) (a : Option Addr) (len cap : Nat) (w : World) :
    CallsIn Fence.wide n Tryz.prog 45 #[.slice a len cap] w fun e w' => e = .returned (.func (.func 68) #[] #[.pointer (some ⟨w.heap.size, 0, none⟩)]) ∧ w' = w.alloc (.cells #[.slice a len cap] 28) := by
  refine callsIn_of_wp Tryz.func45 rfl trivial ?_ rfl
  simp only [Tryz.ntmps45, List.size_toArray, List.length_cons, List.length_nil, Nat.reduceAdd, Nat.reduceSub, Array.replicate_succ, Array.replicate_zero, List.push_toArray, List.append_toArray, List.nil_append, List.cons_append]
  gi_wp2
  go_ret
  exact ⟨rfl, rfl⟩
/-- what slices.Values hands back: all of them, in order -/
theorem valuesR_stops (n : Nat) (hn : 1 ≤ n) (Bs n₀ : Nat) (ao : Option Addr) (cap : Nat) (X : List Rv) (hl : X.length ≤ 1000000) (w w1 : World) (hBs : Bs < w.heap.size) (hn₀ : n₀ ≤ w.heap.size) (hc : w.cell? ⟨Bs, 0, none⟩ = some (.slice ao X.length cap)) (h : RecsV w1 ao cap X) (h1 : w1.heap.size ≤ n₀) (hb : Below n₀ w1 w) :
    SeqStopsK Fence.wide n Tryz.prog 68 #[.pointer (some ⟨Bs, 0, none⟩)] (fun x : Rv => #[recV x]) (Below n₀) (fun ys => ys = X) (fun pre => pre <+: X) X.length w := fun l J Jx W hW hJ _ hY h0 => by
  have hc' := (hW.cell (p := ⟨Bs, 0, none⟩) hBs).trans hc
  have hb2 : Below n₀ w1 W := hb.trans (hW.mono hn₀)
  cases X with
  | nil => exact (valuesR1_nil_in n l Bs ao cap J W hc' h0).mono fun e W' ⟨he, hj⟩ => ⟨he, .inl ⟨_, rfl, hj⟩⟩
  | cons x X =>
    obtain ⟨b, off, e, hbl, _⟩ := h.row 0 x rfl
    subst e
    exact valuesR1_in n hn l Bs n₀ b off cap (x :: X) hl (Nat.lt_of_lt_of_le hbl h1) J Jx W hJ (Nat.le_trans hn₀ hW.size) hY hc' (fun j y hj => by
      obtain ⟨b', off', e', hbl', hr⟩ := h.row j y hj
      cases e'
      exact hr.below (hb2.mono h1) hbl') h0
def AppI (w0 : World) (pre : List Rv) (W : World) : Prop :=
  (∃ v, Go.Boxed W w0.heap.size 28 v ∧ W.ownsRow w0.heap.size 38 16 v pre.length (pre.flatMap recC) ∧ True) ∧ Below w0.heap.size w0 W
theorem AppI.own (w0 : World) {B : Nat} (hB : w0.heap.size ≤ B) : OwnFrom B (AppI w0) :=
  OwnFrom.and (Own.from (Go.holdsRow_own w0.heap.size w0.heap.size 28 38 16 (fun pre : List Rv => pre.length) (fun pre => pre.flatMap recC) (fun _ _ => True)) _) (ownFrom_below (Nat.le_refl _) hB)
def ApAx (w0 : World) (sv : Value) (x : Rv) (a' : Act) (W : World) : Prop :=
  ∃ Bx, w0.heap.size < Bx ∧ W.heap[Bx]? = some (recO x) ∧ a' = { tmps := #[.slice none 0 0, sv, .pointer (some ⟨w0.heap.size, 0, none⟩), undef, .slice none 0 0, .pointer (some ⟨Bx, 0, none⟩), sv, recV x, undef, undef, undef, undef, undef], defers := [] }
theorem info_rec : (Tryz.prog.info? 38).map (fun i => (i.zero, i.size, i.bytes)) = some (some (recV ⟨⟨0, 0⟩, 0, ⟨0, 0⟩, ⟨0, 0⟩, ⟨0, 0, 0, P.nul, P.nul, 0⟩, [], 0, 0, none, 0⟩), 16, 160) := by kernel_rfl
set_option maxRecDepth 100000 in
set_option maxHeartbeats 4000000 in
theorem appendR_in (n : Nat) (hn : 3 ≤ n) (g : Nat) (lb : Array Value) (eg : ∀ args w, (callFunc g args).run Tryz.prog w = .ok (.enter g args) w) (X : List Rv) (hl : X.length ≤ 1000000) (w : World)
    (hseq : SeqStopsK Fence.wide (n - 1) Tryz.prog g lb (fun x : Rv => #[recV x]) (Below w.heap.size) (fun ys => ys = X) (fun pre => pre <+: X) X.length w) :
    CallsIn Fence.wide n Tryz.prog 103 #[.slice none 0 0, .func (.func g) #[] lb] w fun e w' => ∃ oo oc, e = .returned (.slice oo X.length oc) ∧ (OwnR w' w.heap.size oo oc X ∧ Below w.heap.size w w') := by
  have h1 : 1 ≤ n := by omega
  obtain ⟨i0, hi, hz0, hz1, hz2⟩ := info_parts info_rec
  refine callsIn_of_wp_marks Tryz.func103 rfl trivial ?_ rfl
  simp only [Tryz.ntmps103, List.size_toArray, List.length_cons, List.length_nil, Nat.reduceAdd, Nat.reduceSub, Array.replicate_succ, Array.replicate_zero, List.push_toArray, List.append_toArray, List.nil_append, List.cons_append]
  gi_wp2
  have bB := Go.Boxed.new w 28 (.slice none 0 0)
  have hB0 : Below w.heap.size w (w.alloc (.cells #[.slice none 0 0] 28)) := (Below.refl _ w).alloc (Nat.le_refl _) _
  have hsz : (w.alloc (.cells #[.slice none 0 0] 28)).heap.size = w.heap.size + 1 := by simp
  obtain ⟨W0, hW0⟩ : ∃ W0, w.alloc (.cells #[.slice none 0 0] 28) = W0 := ⟨_, rfl⟩
  rw [hW0] at bB hB0 hsz ⊢
  clear hW0
  have HI := AppI.own w (B := W0.heap.size) (by omega)
  refine wpIn_rangeFunc_ownH rfl h1 (gf := g) (lb := lb) rfl trivial eg hseq belowK_t (belowK_b (by omega)) hB0 (fun _ => rfl) (AppI w) (fun _ _ _ => False) HI (fun _ _ _ _ _ hs _ _ => hs)
    ⟨⟨_, bB, World.ownsRow_nil _ _ _ _, trivial⟩, hB0⟩
    (ApAx w (.func (.func g) #[] lb))
    (fun x a' _ X Y row hs hg hr => by
      obtain ⟨Bx, h1, h2, h3⟩ := hs
      refine ⟨Bx, h1, (hg.block Bx (M.heap_lt h2) (fun e => ?_)).trans h2, h3⟩
      obtain ⟨_, o, ho, hc⟩ := hr Bx e.symm
      rw [h2] at ho
      cases ho
      cases hc)
    ?assign ?body ?done ?stop
  case assign =>
    rintro l pre x W K hI hK
    gi_wp2
    exact hK _ _ ((KeepsOthers.alloc _ _).from _) ((Below.refl _ W).alloc hI.2.size _) (HI.alloc _ hI) ⟨W.heap.size, hI.1.choose_spec.1.lt, heap_alloc_new W _, rfl⟩
  case body =>
    rintro l pre x a' W hlW _ ⟨⟨v, bB1, hrow, _⟩, hB1⟩ ⟨Bx, hBx, bX, rfl⟩ hlt
    have HROW := Lib.hid hrow
    have HB1 := Lib.hid hB1
    have HBB := Lib.hid bB1
    have HBX := Lib.hid bX
    obtain ⟨c0, c1, c2, c3, c4, c5, c6, c7, c8, c9, c10, c11, c12, c13, c14, c15⟩ := box16 bX
    have cB := bB1.cell
    have hsW := hB1.size
    have hpl : pre.length < 1000000 := by omega
    clear hrow hB1 bB1 bX
    gi_wp2_with (refine wpListIn_append_own _ rfl (.tmp 8) (.tmp 10) 28 rfl w.heap.size 38 i0 _ 16 160 Tryz.underlying28 hi hz0 hz1 hz2 rfl (by decide) v pre.length (pre.flatMap recC) rfl (HROW.out.alloc _) ⟨W.heap.size, 0, none⟩ 1 1 (recC x) rfl rfl (World.news_of_block (cs := recA x) (fr := (0, 0)) (heap_alloc_new W _)) (recC_one x) (by unfold maxLen; omega) (by omega) (by simp; omega) ?_
                 intro v' w3 hown' hg3 _
                 have HOWN := Lib.hid hown'
                 have HG3 := Lib.hid hg3
                 clear hown' hg3
                 obtain ⟨b1, b2, b3, b4, b5⟩ := HBB.out.appended (by decide) HROW.out hsW (Nat.le_refl _) HOWN.out HG3.out
                 obtain ⟨g3, cap3, rfl⟩ := ownsRow_succ HOWN.out
                 have cB3 := b1.cell
                 have fB3 := b1.frozen
                 have HE := Lib.hid (show KeepsOthers W (w3.setCell ⟨w.heap.size, 0, none⟩ (.slice (some ⟨g3, 0, none⟩) (pre.length + 1) cap3)) ∧ Below w.heap.size W (w3.setCell ⟨w.heap.size, 0, none⟩ (.slice (some ⟨g3, 0, none⟩) (pre.length + 1) cap3)) ∧ AppI w (pre ++ [x]) (w3.setCell ⟨w.heap.size, 0, none⟩ (.slice (some ⟨g3, 0, none⟩) (pre.length + 1) cap3)) from
                   ⟨b4, b5, ⟨_, b2, by simpa using b3, trivial⟩, HB1.out.trans b5⟩)
                 clear b1 b2 b3 b4 b5)
    exact ⟨HE.out.1.from _, HE.out.2.1, HE.out.2.2⟩
  case done =>
    rintro D ys W hD rfl ⟨⟨v, bB1, hrow, _⟩, hB1⟩ hK
    have cB := bB1.cell
    obtain ⟨oo, oc, rfl⟩ : ∃ oo oc, v = .slice oo ys.length oc := by
      rcases hrow.2 with ⟨rfl, h0⟩ | ⟨g2, cap2, _, rfl, _⟩
      · exact ⟨none, 0, by rw [h0]⟩
      · exact ⟨_, _, rfl⟩
    have HF := Lib.hid (show OwnR (W.putObj D (.deferred none)) w.heap.size oo oc ys ∧ Below w.heap.size w (W.putObj D (.deferred none)) from ⟨ownsRow_putObj hrow _ hK rfl, hB1.trans (belowK_b (w := w) (Nat.le_refl _) W D _ _ (by omega) hK rfl rfl)⟩)
    clear hrow hB1
    gi_wp2
    refine ⟨by simp, .inl ⟨_, _, rfl, run_takeDeferred hK, ?_⟩⟩
    exact ⟨_, results_tmp rfl _ _ _, oo, oc, rfl, HF.out⟩
  case stop =>
    rintro D c pre W _ _ h _
    exact h.elim
set_option maxRecDepth 100000 in
set_option maxHeartbeats 4000000 in
theorem collectR_in (n : Nat) (hn : 4 ≤ n) (g : Nat) (lb : Array Value) (eg : ∀ args w, (callFunc g args).run Tryz.prog w = .ok (.enter g args) w) (X : List Rv) (hl : X.length ≤ 1000000) (w : World)
    (hseq : SeqStopsK Fence.wide (n - 1 - 1) Tryz.prog g lb (fun x : Rv => #[recV x]) (Below w.heap.size) (fun ys => ys = X) (fun pre => pre <+: X) X.length w) :
    CallsIn Fence.wide n Tryz.prog 66 #[.func (.func g) #[] lb] w fun e w' => ∃ oo oc, e = .returned (.slice oo X.length oc) ∧ (OwnR w' w.heap.size oo oc X ∧ Below w.heap.size w w') := by
  refine callsIn_of_wp Tryz.func66 rfl trivial ?_ rfl
  simp only [Tryz.ntmps66, List.size_toArray, List.length_cons, List.length_nil, Nat.reduceAdd, Nat.reduceSub, Array.replicate_succ, Array.replicate_zero, List.push_toArray, List.append_toArray, List.nil_append, List.cons_append]
  gi_wp2
  refine ⟨trivial, fun _ => by omega, (appendR_in (n - 1) (by omega) g lb eg X hl _ hseq).mono ?_⟩
  rintro e w' ⟨oo, oc, rfl, hF⟩
  have HF := Lib.hid hF
  clear hF
  gi_wp2
  go_ret
  exact ⟨oo, oc, rfl, HF.out⟩
/-- slices.Collect of slices.Values: a copy of the row -/
theorem collectR_any (Bs : Nat) (ao : Option Addr) (cap : Nat) (X : List Rv) (w : World) (hl : X.length ≤ 1000000) (hBs : Bs < w.heap.size) (hc : w.cell? ⟨Bs, 0, none⟩ = some (.slice ao X.length cap)) (h : RecsV w ao cap X) :
    Calls Tryz.prog 66 #[.func (.func 68) #[] #[.pointer (some ⟨Bs, 0, none⟩)]] w fun e w' => ∃ oo oc, e = .returned (.slice oo X.length oc) ∧ (OwnR w' w.heap.size oo oc X ∧ Below w.heap.size w w') :=
  callsIn_wide.1 (collectR_in 5 (by omega) _ _ (enters_of Tryz.func68 (by kernel_rfl) rfl) X hl w (valuesR_stops 3 (by omega) Bs w.heap.size ao cap X hl w w hBs (Nat.le_refl _) hc h (Nat.le_refl _) (Below.refl _ _)))
theorem valuesR_any (ao : Option Addr) (len cap : Nat) (w : World) :
    Calls Tryz.prog 45 #[.slice ao len cap] w fun e w' => e = .returned (.func (.func 68) #[] #[.pointer (some ⟨w.heap.size, 0, none⟩)]) ∧ w' = w.alloc (.cells #[.slice ao len cap] 28) :=
  callsIn_wide.1 (valuesR_in 1 ao len cap w)
/-- the value that slices.Values hands back -/
abbrev valC (Bs : Nat) : Value := .func (.func 68) #[] #[.pointer (some ⟨Bs, 0, none⟩)]
set_option maxRecDepth 100000 in
set_option maxHeartbeats 4000000 in
theorem sortedR_any (Bs : Nat) (ao : Option Addr) (cap : Nat) (X : List Rv) (w : World) (hl : X.length ≤ 1000000) (hBs : Bs < w.heap.size) (hc : w.cell? ⟨Bs, 0, none⟩ = some (.slice ao X.length cap)) (h : RecsV w ao cap X) :
    Calls Tryz.prog 44 #[valC Bs, .func (.func 46) #[] #[]] w fun e w' => ∃ oo oc m, e = .returned (.slice oo X.length oc) ∧ (m.Perm X ∧ m.Pairwise (fun a b => ilt b.id a.id = false) ∧ m.length = X.length ∧ OwnR w' w.heap.size oo oc m ∧ Below w.heap.size w w') := by
  have HC := Lib.hid (collectR_any Bs ao cap X w (by omega) hBs hc h)
  clear hBs hc h
  go_enter Tryz.func44, Tryz.ntmps44
  go_wp2_with fail
  refine HC.out.mono ?_
  rintro e w1 ⟨oo, oc, rfl, ho, hb⟩
  have HO := Lib.hid ho
  have HB := Lib.hid hb
  clear ho hb HC
  go_wp2_with fail
  refine (sortR_any w.heap.size w1 oo oc X HO.out hl).mono ?_
  rintro e w2 ⟨rfl, m, h1, h2, h3, h4, h5⟩
  have HF := Lib.hid (show m.Perm X ∧ m.Pairwise (fun a b => ilt b.id a.id = false) ∧ m.length = X.length ∧ OwnR w2 w.heap.size oo oc m ∧ Below w.heap.size w w2 from ⟨h1, h2, h3, h4, HB.out.trans (h5.below (fun j ⟨a, e1, e2⟩ => by
    subst e1
    rw [e2]
    exact (HO.out.lt a.block rfl).1) HB.out.size)⟩)
  clear h1 h2 h3 h4 h5 HO HB
  go_wp2_with fail
  go_ret
  exact ⟨oo, oc, m, rfl, HF.out⟩
set_option maxRecDepth 100000 in
set_option maxHeartbeats 4000000 in
theorem sortedStable_any (Bs : Nat) (ao : Option Addr) (cap : Nat) (X : List Rv) (w : World) (hl : X.length ≤ 20) (hBs : Bs < w.heap.size) (hc : w.cell? ⟨Bs, 0, none⟩ = some (.slice ao X.length cap)) (h : RecsV w ao cap X) :
    Calls Tryz.prog 59 #[valC Bs, .func (.func 60) #[] #[]] w fun e w' => ∃ oo oc m, e = .returned (.slice oo X.length oc) ∧ (m.Perm X ∧ m.Pairwise (fun a b => wlt b.nd a.nd = false) ∧ m.length = X.length ∧ OwnR w' w.heap.size oo oc m ∧ Below w.heap.size w w') := by
  have HC := Lib.hid (collectR_any Bs ao cap X w (by omega) hBs hc h)
  clear hBs hc h
  go_enter Tryz.func59, Tryz.ntmps59
  go_wp2_with fail
  refine HC.out.mono ?_
  rintro e w1 ⟨oo, oc, rfl, ho, hb⟩
  have HO := Lib.hid ho
  have HB := Lib.hid hb
  clear ho hb HC
  go_wp2_with fail
  refine (sortStable_any w.heap.size w1 oo oc X HO.out hl).mono ?_
  rintro e w2 ⟨rfl, m, h1, h2, h3, h4, h5⟩
  have HF := Lib.hid (show m.Perm X ∧ m.Pairwise (fun a b => wlt b.nd a.nd = false) ∧ m.length = X.length ∧ OwnR w2 w.heap.size oo oc m ∧ Below w.heap.size w w2 from ⟨h1, h2, h3, h4, HB.out.trans (h5.below (fun j ⟨a, e1, e2⟩ => by
    subst e1
    rw [e2]
    exact (HO.out.lt a.block rfl).1) HB.out.size)⟩)
  clear h1 h2 h3 h4 h5 HO HB
  go_wp2_with fail
  go_ret
  exact ⟨oo, oc, m, rfl, HF.out⟩
end Go.Proofs.YtndfhejfhfhbdaaGreatDoor.O

/- order.names, order.Within. -/
namespace Go.Proofs.YtndfhejfhfhbdaaGreatDoor.O
open Go.RowKit Go.Proofs.YtndfhejfhfhbdaaGreatDoor.M Go.BigFrame
set_option linter.unusedVariables false
set_option linter.unusedSimpArgs false

set_option maxRecDepth 100000 in
set_option maxHeartbeats 4000000 in
theorem names_any (X : List Rv) (ao : Option Addr) (cap : Nat) (w : World) (h : RecsV w ao cap X) (hl : X.length ≤ 1000000) :
    Calls Tryz.prog 58 #[.slice ao X.length cap] w fun e w' => ∃ oo oc, e = .returned (.slice oo X.length oc) ∧ (OwnL w' w.heap.size oo oc (X.map Rv.id) ∧ Below w.heap.size w w') := by
  obtain ⟨hl1, hl2⟩ := h.le
  unfold maxLen at hl2
  obtain ⟨i0, hi, hz0, hz1, hz2⟩ := info_parts info_id
  have H := Lib.hid h
  clear h
  go_enter Tryz.func58, Tryz.ntmps58
  go_wp2_with fail
  go_loopw [3, 8] (fun ov kv wr => ∃ (k : Nat) (M : List Id) (oo : Option Addr) (oc : Nat), ov = .slice oo M.length oc ∧ kv = .int .i64 k ∧ k ≤ X.length ∧ M = (X.take k).map Rv.id ∧ OwnL wr w.heap.size oo oc M ∧ Below w.heap.size w wr) (fun _ kv _ => X.length - (intOf kv).toNat)
  case atStart => exact ⟨0, [], none, 0, rfl, rfl, Nat.zero_le _, by simp, World.ownsRow_nil _ _ _ _, Below.refl _ _⟩
  case round =>
    obtain ⟨k, M, oo, oc, rfl, rfl, hk, hM, hown, hb⟩ := hrel
    have HM := Lib.hid hM
    have HOW := Lib.hid hown
    have HBR := Lib.hid hb
    have hMl : M.length = k := by rw [hM, List.length_map, List.length_take]; omega
    have hMl2 : M.length ≤ 1000000 := by omega
    clear hM hown hb
    have hWr := HBR.out.size
    by_cases hkl : k < X.length
    · have hii : (k : Int) < (X.length : Int) := by omega
      obtain ⟨x, hx⟩ : ∃ x, X[k]? = some x := ⟨_, List.getElem?_eq_getElem hkl⟩
      have HX := Lib.hid hx
      obtain ⟨b, off, e0, hbl, hrec⟩ := H.out.row k x hx
      subst e0
      obtain ⟨c0, c1, c2, c3, c4, c5, c6, c7, c8, c9, c10, c11, c12, c13, c14, c15⟩ := hrec.below HBR.out hbl
      have HL := Lib.hid hMl
      have HN := Lib.hid (show M ++ [x.id] = (X.take (k + 1)).map Rv.id by rw [HM.out, List.take_add_one, hx]; simp)
      clear hx hMl hrec
      go_upto_region 5 with fail
      obtain ⟨w1, hw1⟩ : ∃ w1, w1 = wr.alloc (recO x) := ⟨_, rfl⟩
      have HB1 := Lib.hid (show Below w.heap.size w w1 by rw [hw1]; exact HBR.out.alloc hWr _)
      have HO1 := Lib.hid (show OwnL w1 w.heap.size oo oc M by rw [hw1]; exact HOW.out.alloc _)
      have hba : w1.heap[wr.heap.size]? = some (recO x) := by rw [hw1]; exact heap_alloc_new wr _
      rw [← hw1]
      clear hw1 c0 c1 c2 c3 c4 c5 c6 c7 c8 c9 c10 c11 c12 c13 c14 c15
      obtain ⟨c0, c1, _⟩ := box16 hba
      have hs1 := HB1.out.size
      go_wp2_with (refine wpList_app idC 2 (fun _ => rfl) (by decide) idC_one (by rfl) (.tmp 12) (.tmp 15) 25 (by rfl) w.heap.size 27 i0 _ 16 Tryz.underlying25 hi hz0 hz1 hz2 (by decide) rfl oo oc M x.id #[.int .i64 (x.id).r, .int .i64 (x.id).n] rfl (by rfl) (by exact HO1.out) (by rfl) (by omega) (by omega) ?_; intro oo' oc' w7 hown hmod hbel; have HOW7 := Lib.hid hown; have HBE7 := Lib.hid hbel; clear hown hmod hbel)
      clear c0 c1
      go_roundw
      case rel => exact ⟨k + 1, M ++ [x.id], oo', oc', by simp, by go_num, by omega, HN.out, HOW7.out, HB1.out.trans HBE7.out⟩
      case measure => simp [intOf]; omega
    · obtain rfl : k = X.length := by omega
      have hii : ¬ (X.length : Int) < (X.length : Int) := by omega
      have HE := Lib.hid (show M = X.map Rv.id by rw [HM.out, List.take_length])
      have HFIN := Lib.hid (show OwnL wr w.heap.size oo oc M ∧ Below w.heap.size w wr from ⟨HOW.out, HBR.out⟩)
      have HL := Lib.hid hMl
      clear hMl
      go_wp2_with fail
      go_ret
      refine ⟨oo, oc, ret_val (by rw [← HL.out]; rfl), ?_⟩
      rw [← HE.out]
      exact HFIN.out
set_option maxRecDepth 100000 in
set_option maxHeartbeats 4000000 in
theorem Within_any (X : List Rv) (ao : Option Addr) (cap : Nat) (w : World) (h : RecsV w ao cap X) (hl : X.length ≤ 20) :
    Calls Tryz.prog 23 #[.slice ao X.length cap] w fun e w' => ∃ (oo : Option Addr) (oc : Nat) (m : List Rv), e = .returned (.slice oo X.length oc) ∧ (m.Perm X ∧ m.Pairwise (fun a b => wlt b.nd a.nd = false) ∧ OwnL w' w.heap.size oo oc (m.map Rv.id) ∧ Below w.heap.size w w') := by
  have H := Lib.hid h
  clear h
  go_enter Tryz.func23, Tryz.ntmps23
  go_wp2_with fail
  refine (valuesR_any _ _ _ _).mono ?_
  rintro e w1 ⟨rfl, hw1⟩
  have hB1 : Below w.heap.size w w1 := by rw [hw1]; exact (Below.refl _ _).alloc (Nat.le_refl _) _
  have hb1 : w1.heap[w.heap.size]? = some (.cells #[.slice ao X.length cap] 28 (0, 0)) := by rw [hw1]; exact heap_alloc_new w _
  have hc1 : w1.cell? ⟨w.heap.size, 0, none⟩ = some (.slice ao X.length cap) := by simp [World.cell?, hb1]
  have HB1 := Lib.hid hB1
  have HC := Lib.hid (sortedStable_any w.heap.size ao cap X w1 hl (M.heap_lt hb1) hc1 (H.out.below hB1))
  clear hw1 hB1 hb1 hc1
  go_wp2_with fail
  refine HC.out.mono ?_
  rintro e w2 ⟨oo, oc, m, rfl, h1, h2, h3, h4, h5⟩
  have HB2 := Lib.hid (HB1.out.trans (h5.mono HB1.out.size))
  have HM := Lib.hid (And.intro h1 h2)
  have HML := Lib.hid h3
  have HV := Lib.hid (RecsV.of_own h4 (fun x hx => ((H.out.ok x (h1.mem_iff.1 hx)).below HB1.out).below (h5)))
  have HN := Lib.hid (names_any m oo oc w2 HV.out (by omega))
  rw [h3] at HN
  clear h1 h2 h3 h4 h5 HC
  go_wp2_with fail
  refine HN.out.mono ?_
  rintro e w3 ⟨oo3, oc3, rfl, h6, h7⟩
  have HF := Lib.hid (show OwnL w3 w.heap.size oo3 oc3 (m.map Rv.id) ∧ Below w.heap.size w w3 from ⟨own_base h6 (fun k hk => Nat.le_trans HB2.out.size (h6.lt k hk).1), HB2.out.trans (h7.mono HB2.out.size)⟩)
  clear h6 h7 HN
  go_wp2_with fail
  go_ret
  exact ⟨oo3, oc3, m, rfl, HM.out.1, HM.out.2, HF.out⟩
end Go.Proofs.YtndfhejfhfhbdaaGreatDoor.O

/- order.places: where each record stands. -/
namespace Go.Proofs.YtndfhejfhfhbdaaGreatDoor.O
open Go.RowKit Go.Proofs.YtndfhejfhfhbdaaGreatDoor.M Go.BigFrame
set_option linter.unusedVariables false
set_option linter.unusedSimpArgs false

theorem id_laid : laidOutB Tryz.prog = true := by kernel_rfl
theorem id_law : WideMaps.KeyLaw Tryz.prog 27 := deep_law_laid id_laid (m := 2) (by omega) (of_decide_eq_true (by kernel_rfl)) (by kernel_rfl) (by rw [Tryz.underlying27])
theorem id_keyed : Maps.Keyed Tryz.prog 27 := .of_law id_law
def klI (i : Id) : Lit := .string (keyBytes [.int .i64 i.r, .int .i64 i.n])
theorem wf_of64 {n : Int} (h : -9223372036854775808 ≤ n ∧ n ≤ 9223372036854775807) : (Lit.int .i64 n).wf = true := by
  simp only [Lit.wf, Bool.and_eq_true, decide_eq_true_eq]
  exact h
theorem key_id (i : Id) (hi : IdI i) : keyOf Tryz.prog 27 (idV i) = some (klI i) := by
  obtain ⟨h1, h2⟩ := hi
  unfold P.InI at h1 h2
  simp [keyOf, Tryz.underlying27, Value.formed, Value.cells, klI]
  have w1 : (Lit.int .i64 i.r).wf = true := wf_of64 h1
  have w2 : (Lit.int .i64 i.n).wf = true := wf_of64 h2
  have hc : Tryz.prog.cellsOf 27 = 2 := by kernel_rfl
  have hc3 : Tryz.prog.cellsOf 3 = 1 := by kernel_rfl
  refine ⟨⟨by kernel_rfl, hc.symm⟩, [.int .i64 i.r, .int .i64 i.n], ?_, rfl⟩
  have e0 : ∀ (d : Nat) (x : Int), (Lit.int .i64 x).wf = true → Tryz.prog.keyLits (d + 1) 3 [.int .i64 x] = some [.int .i64 x] := fun d x hx => by
    unfold Program.keyLits
    rw [Tryz.underlying3]
    simp [hx]
  have e1 : ∀ d : Nat, Tryz.prog.keyLits (d + 1 + 1) 27 [.int .i64 i.r, .int .i64 i.n] = some [.int .i64 i.r, .int .i64 i.n] := fun d => by
    unfold Program.keyLits
    rw [Tryz.underlying27]
    simp [hc, hc3, e0 d _ w1, e0 d _ w2]
  exact e1 218
theorem klI_key (i : Id) : WideAt.IsKeyLit (klI i) := trivial
theorem klI_inj {i j : Id} (hi : IdI i) (hj : IdI j) (h : klI i = klI j) : i = j := by
  have := id_keyed.inj (key_id i hi) (h ▸ key_id j hj)
  simp only [Value.agg.injEq, Array.mk.injEq, List.cons.injEq, Value.int.injEq, true_and, and_true] at this
  exact Id.eq_of this.1 this.2
/-- the map of places, when k records have been walked -/
def pmap (ids : List Id) : Nat → DataW Unit
  | 0 => .map []
  | k + 1 => (pmap ids k).put (klI (ids.getD k ⟨0, 0⟩)) (.lit (.int .i64 (k : Int)))
theorem pmap_succ {ids : List Id} {k : Nat} {i : Id} (h : ids[k]? = some i) : pmap ids (k + 1) = (pmap ids k).put (klI i) (.lit (.int .i64 (k : Int))) := by
  show (pmap ids k).put (klI (ids.getD k ⟨0, 0⟩)) _ = _
  rw [List.getD, h]; rfl
theorem pmap_tidy (ids : List Id) : ∀ k, Maps.Tidy (pmap ids k)
  | 0 => Maps.tidy_empty
  | k + 1 => (pmap_tidy ids k).put (klI_key _) _
theorem pmap_has {ids : List Id} (hok : ∀ x ∈ ids, IdI x) {i : Id} (hi : IdI i) : ∀ k, k ≤ ids.length → Maps.has (pmap ids k) (klI i) = decide (i ∈ ids.take k)
  | 0, _ => by simp [pmap, Maps.has]
  | k + 1, hk => by
    obtain ⟨y, hy⟩ : ∃ y, ids[k]? = some y := ⟨_, List.getElem?_eq_getElem (by omega)⟩
    have ih := pmap_has hok hi k (by omega)
    rw [pmap_succ hy, List.take_add_one, hy]
    by_cases e : i = y
    · subst e
      rw [Maps.has_put_same (pmap_tidy ids k).isMap (klI_key _)]
      simp
    · rw [Maps.has_put_other (fun h => e (klI_inj hi (hok y (List.mem_of_getElem? hy)) h)), ih]
      simp [e]
theorem pmap_at {ids : List Id} (hok : ∀ x ∈ ids, IdI x) (hn : ids.Nodup) {i : Id} {j : Nat} (hj : ids[j]? = some i) (z : DataW Unit) : ∀ k, j < k → k ≤ ids.length → (pmap ids k).atKey (klI i) z = .lit (.int .i64 (j : Int))
  | 0, h, _ => by omega
  | k + 1, h, hk => by
    obtain ⟨y, hy⟩ : ∃ y, ids[k]? = some y := ⟨_, List.getElem?_eq_getElem (by omega)⟩
    rw [pmap_succ hy]
    by_cases e : j = k
    · subst e
      rw [hj] at hy
      cases hy
      rw [Maps.atKey_put_same (pmap_tidy ids j).isMap (klI_key _)]
    · rw [Maps.atKey_put_other (fun h2 => e ?_)]
      · exact pmap_at hok hn hj z k (by omega) (by omega)
      · have := klI_inj (hok i (List.mem_of_getElem? hj)) (hok y (List.mem_of_getElem? hy)) h2
        subst this
        exact (List.getElem?_inj (List.getElem?_eq_some_iff.1 hj).1 hn).1 (hj.trans hy.symm)
theorem pmap_size {ids : List Id} (hok : ∀ x ∈ ids, IdI x) : ∀ k, k ≤ ids.length → Maps.size (pmap ids k) ≤ k ∧ (Maps.size (pmap ids k) = k ↔ (ids.take k).Nodup)
  | 0, _ => by simp [pmap, Maps.size]
  | k + 1, hk => by
    obtain ⟨y, hy⟩ : ∃ y, ids[k]? = some y := ⟨_, List.getElem?_eq_getElem (by omega)⟩
    obtain ⟨h1, h2⟩ := pmap_size hok k (by omega)
    rw [pmap_succ hy, Maps.size_put (pmap_tidy ids k), pmap_has hok (hok y (List.mem_of_getElem? hy)) k (by omega), List.take_add_one, hy]
    by_cases e : y ∈ ids.take k
    · rw [if_pos (by simpa using e)]
      refine ⟨by omega, fun h => by omega, fun h => ?_⟩
      exact absurd rfl ((List.nodup_append.1 h).2.2 y e y (by simp))
    · rw [if_neg (by simpa using e)]
      refine ⟨by omega, fun h => ?_, fun h => ?_⟩
      · refine List.nodup_append.2 ⟨h2.1 (by omega), by simp, fun a ha b hb => ?_⟩
        simp at hb
        subst hb
        exact fun e2 => e (e2 ▸ ha)
      · have := h2.2 (List.nodup_append.1 h).1
        omega
abbrev idsX (X : List Rv) : List Id := X.map Rv.id
/-- block b is the map of places of these records -/
abbrev PMap (w : World) (b : Nat) (ids : List Id) (k : Nat) : Prop := w.ownsMap Tryz.prog 27 (plainElem (H := Unit) Tryz.prog 3) b k (pmap ids k)
set_option maxRecDepth 100000 in
set_option maxHeartbeats 4000000 in
theorem places_any (X : List Rv) (ao : Option Addr) (cap : Nat) (w : World) (h : RecsV w ao cap X) (hl : X.length ≤ 1000000) :
    Calls Tryz.prog 53 #[.slice ao X.length cap] w fun e w' => e = .returned (.map (some w.heap.size)) ∧ (PMap w' w.heap.size (idsX X) X.length ∧ Below w.heap.size w w') := by
  obtain ⟨hl1, hl2⟩ := h.le
  unfold maxLen at hl2
  have H := Lib.hid h
  clear h
  go_enter Tryz.func53, Tryz.ntmps53
  have hmk := run_makeMap (P := Tryz.prog) 81 w
  go_upto_region 2 with fail
  clear hmk
  obtain ⟨W, hW⟩ : ∃ W, W = w.alloc (.map #[] 0) := ⟨_, rfl⟩
  have HP := Lib.hid (show PMap W w.heap.size (idsX X) 0 by rw [hW]; exact World.ownsMap_made w _ _ _)
  have HB := Lib.hid (show Below w.heap.size w W by rw [hW]; exact (Below.refl _ _).alloc (Nat.le_refl _) _)
  rw [← hW]
  clear hW
  go_wp2_with fail
  go_loopw [4, 9] (fun _ kv wr => ∃ (k : Nat), kv = .int .i64 k ∧ k ≤ X.length ∧ PMap wr w.heap.size (idsX X) k ∧ Below w.heap.size w wr) (fun _ kv _ => X.length - (intOf kv).toNat)
  case atStart => exact ⟨0, rfl, Nat.zero_le _, HP.out, HB.out⟩
  case round =>
    obtain ⟨k, rfl, hk, hp, hb⟩ := hrel
    have HM := Lib.hid hp
    have HBR := Lib.hid hb
    clear hp hb HP HB
    have hWr := HBR.out.size
    by_cases hkl : k < X.length
    · have hii : (k : Int) < (X.length : Int) := by omega
      obtain ⟨x, hx⟩ : ∃ x, X[k]? = some x := ⟨_, List.getElem?_eq_getElem hkl⟩
      have HX := Lib.hid (show (idsX X)[k]? = some x.id by rw [List.getElem?_map, hx]; rfl)
      obtain ⟨b, off, e0, hbl, hrec⟩ := H.out.row k x hx
      have HI := Lib.hid (H.out.ok x (List.mem_of_getElem? hx)).id
      subst e0
      obtain ⟨c0, c1, c2, c3, c4, c5, c6, c7, c8, c9, c10, c11, c12, c13, c14, c15⟩ := hrec.below HBR.out hbl
      clear hx hrec
      go_upto_region 5 with fail
      obtain ⟨w1, hw1⟩ : ∃ w1, w1 = wr.alloc (recO x) := ⟨_, rfl⟩
      have HB1 := Lib.hid (show Below w.heap.size w w1 by rw [hw1]; exact HBR.out.alloc hWr _)
      have HM1 := Lib.hid (show PMap w1 w.heap.size (idsX X) k by rw [hw1]; exact HM.out.alloc _)
      have hba : w1.heap[wr.heap.size]? = some (recO x) := by rw [hw1]; exact heap_alloc_new wr _
      rw [← hw1]
      clear hw1 c0 c1 c2 c3 c4 c5 c6 c7 c8 c9 c10 c11 c12 c13 c14 c15
      obtain ⟨c0, c1, _⟩ := box16 hba
      have hs1 := HB1.out.size
      have HV := Lib.hid (plainElem_int (H := Unit) Tryz.underlying3 (wf_of64 (n := (k : Int)) ⟨by omega, by omega⟩))
      go_wp2_with (at_mapUpdate; refine wpList_mapUpdate_own _ rfl (.tmp 14) (.tmp 16) (.tmp 17) 81 rfl 27 3 id_keyed Tryz.underlying81 _ w.heap.size k (pmap (idsX X) k) rfl HM1.out (by unfold maxLen; omega) (idV x.id) (.int .i64 k) (klI x.id) rfl rfl (key_id x.id HI.out) (.lit (.int .i64 k)) [] HV.out ?_
                   intro w2 hown2 hgrow2
                   have HM2 := Lib.hid (show PMap w2 w.heap.size (idsX X) (k + 1) by unfold PMap; rw [pmap_succ HX.out]; exact hown2)
                   have HB2 := Lib.hid (HB1.out.grown hgrow2 hs1 (fun j e => by cases e; exact Nat.le_refl _))
                   clear hown2 hgrow2)
      clear c0 c1
      go_roundw
      case rel => exact ⟨k + 1, by go_num, by omega, HM2.out, HB2.out⟩
      case measure => simp [intOf]; omega
    · obtain rfl : k = X.length := by omega
      have hii : ¬ (X.length : Int) < (X.length : Int) := by omega
      go_wp2_with fail
      go_ret
      exact ⟨rfl, HM.out, HBR.out⟩
end Go.Proofs.YtndfhejfhfhbdaaGreatDoor.O
