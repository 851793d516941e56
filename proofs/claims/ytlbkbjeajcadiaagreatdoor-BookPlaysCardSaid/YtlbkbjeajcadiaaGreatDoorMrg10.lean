/- Several texts in one. -/
import Derived.Test.YtlbkbjeajcadiaaGreatDoorMrg8
import Derived.StillTail
import Derived.StillTailTactics
import Derived.Sort.Grow
import Derived.Deep.Draws
import Derived.Test.YtlbkbjeajcadiaaGreatDoorMrg9
import Derived.Laws.StructEq

/- Regions that draw their order: a quiet head, in whatever order, over every world that keeps the old memory; behind it a tail in one forced order (a store, an append, a call that writes). -/
namespace Go.Proofs.YtlbkbjeajcadiaaGreatDoor.M
open Go.RowKit
set_option linter.unusedVariables false
section
variable {P : Program} {ops : Array Oper} {md : Region.Mode} {C : World → Prop}
/-- from here on n operations of the head alone come up, each quiet; behind them L -/
def Heads (P : Program) (md : Region.Mode) (ops : Array Oper) (C : World → Prop) (n : Nat) (L : Array Bool → Act → Prop) : Nat → Array Bool → Act → Prop
  | 0, listed, a => L listed a
  | f + 1, listed, a => Region.ready md ops listed ≠ [] ∧ ∀ i ∈ Region.ready md ops listed, i < n ∧ qOp P ops C i (Heads P md ops C n L f (listed.setIfInBounds i true)) a
theorem Heads.any {n g : Nat} {L : Array Bool → Act → Prop} {Q : Exit → Act → World → Prop} (hL : ∀ listed a w, C w → L listed a → wpAny P md ops Q g listed a w) :
    ∀ (f : Nat) (listed : Array Bool) (a : Act) (w : World), C w → Heads P md ops C n L f listed a → wpAny P md ops Q (f + g) listed a w := by
  intro f
  induction f with
  | zero => intro listed a w hw h; rw [Nat.zero_add]; exact hL _ _ _ hw h
  | succ f ih =>
    intro listed a w hw h
    rw [show f + 1 + g = (f + g) + 1 by omega]
    exact ⟨fun h0 => absurd h0 h.1, fun i hi => wpOp_of_qOp hw (fun a' w' hw' h' => ih _ a' w' hw' h') (h.2 i hi).2⟩
/-- what may come up in the head, taken first -/
theorem Heads.first {n i : Nat} {oi : Oper} {v : Value} {L : Array Bool → Act → Prop} (hi : ops[i]? = some oi) (hsel : ∀ (j : Nat) (o : Oper) cs b, ops[j]? = some o → o.op ≠ .select cs b)
    (hs : Region.sinkB md ops n = true) (hc : Region.chainB md ops n = true) (hn : n < ops.size) (hin : i < n) (hdone : ∀ listed a, L listed a → ∀ j ∈ Region.ready md ops listed, n ≤ j) :
    ∀ (f : Nat) (listed : Array Bool) (a : Act), HeadInv md ops n listed →
      (∀ j oj, ops[j]? = some oj → j ≠ i → listed.getD j true = false → (∀ e ∈ oj.after, Region.binds md e = true → e.on ≠ i) → oi.apart ops oj = true) →
      i ∈ Region.ready md ops listed → YieldsIn P ops C oi v a → Heads P md ops C n L f (listed.setIfInBounds i true) (a.put oi.dst v) → Heads P md ops C n L (f + 1) listed a := by
  intro f
  have head : ∀ (listed : Array Bool), HeadInv md ops n listed → i ∈ Region.ready md ops listed → ∀ j ∈ Region.ready md ops listed, j < n := fun listed inv hr j hj => by
    rcases Nat.lt_or_ge j n with h | h
    · exact h
    · exact absurd hj (tail_waits hs hc hn inv _ i rfl hin (mem_ready.1 hr).1 j h)
  induction f with
  | zero =>
    intro listed a inv _ hr hy H
    refine ⟨fun h => (by rw [h] at hr; cases hr), fun j hj => ⟨head listed inv hr j hj, ?_⟩⟩
    by_cases hji : j = i
    · subst hji; exact hy.qOp hi H
    · have h1 := hdone _ _ H j (ready_mono hj hji)
      have h2 := head listed inv hr j hj
      omega
  | succ f ih =>
    intro listed a inv hfree hr hy H
    refine ⟨fun h => (by rw [h] at hr; cases hr), fun j hj => ⟨head listed inv hr j hj, ?_⟩⟩
    by_cases hji : j = i
    · subst hji; exact hy.qOp hi H
    · obtain ⟨hjun, oj, hoj, hall⟩ := mem_ready.1 hj
      have hun := (mem_ready.1 hr).1
      have hnot : ∀ e ∈ oj.after, Region.binds md e = true → e.on ≠ i := fun e he hb heq => by
        have h1 := hall e he hb
        rw [heq, getD_both hun] at h1
        cases h1
      have h2 := qOp_put hoj (hfree j oj hoj hji hjun hnot) (fun cs b => hsel i oi cs b hi) (fun cs b => hsel j oj cs b hoj) hy (H.2 j (ready_mono hj hji)).2
      refine qOp_mono (fun a' h3 => ih (listed.setIfInBounds j true) a' (inv.set hj (head listed inv hr j hj)) (fun k ok hk hki hkun hno => ?_) (ready_mono hr (Ne.symm hji)) h3.1 ?_) h2
      · refine hfree k ok hk hki ?_ hno
        by_cases hjk : j = k
        · subst hjk; exact hjun
        · rw [getD_set_ne true hjk] at hkun; exact hkun
      · rw [Array.setIfInBounds_comm _ _ hji]
        exact h3.2
theorem Heads.lex {n g : Nat} {Lq : Act → Prop} (hsel : Region.noSelect ops = true) (hs : Region.sinkB md ops n = true) (hc : Region.chainB md ops n = true) (hn : n < ops.size) :
    ∀ (l : List Oper) (k : Nat) (listed : Array Bool) (a : Act), (∀ j, j < l.length → l[j]? = ops[k + j]?) → k + l.length = n → HeadInv md ops n listed →
    Region.lexHead md ops g l.length k listed = true → wpQuiet P ops C Lq l a → Heads P md ops C n (fun listed' a' => Region.seqB md ops g n listed' = true ∧ Lq a') l.length listed a := by
  intro l
  induction l with
  | nil =>
    intro k listed a _ hk _ hB h
    obtain rfl : k = n := by simpa using hk
    exact ⟨by simpa [Region.lexHead] using hB, h⟩
  | cons o l ih =>
    intro k listed a hl hk inv hB h
    have h0 : ops[k]? = some o := by simpa using (hl 0 (by simp)).symm
    simp only [List.length_cons, Region.lexHead, Bool.and_eq_true] at hB
    obtain ⟨⟨hr, hf⟩, hB'⟩ := hB
    have hkn : k < n := by simp only [List.length_cons] at hk; omega
    have hr' : k ∈ Region.ready md ops listed := by simpa using hr
    have hst : qOp P ops C k (wpQuiet P ops C Lq l) a := by unfold qOp; simp only [h0]; exact h
    obtain ⟨v, hy, hK⟩ := yieldsIn_of_qOp h0 hst
    exact Heads.first h0 (Region.noSelect_spec hsel) hs hc hn hkn (fun listed' a' hL => seqB_ready hL.1) l.length listed a inv (Region.free_spec h0 hf) hr' hy
      (ih (k + 1) _ _ (fun j hj => by have := hl (j + 1) (by simp; omega); simpa [Nat.add_assoc, Nat.add_comm 1 j] using this) (by simp only [List.length_cons] at hk; omega) (inv.set hr' hkn) hB' hK)
/-- A REGION: n operations that are quiet, then the others in their one order, from every world that keeps the old memory. -/
theorem wp_region_kin_tail (n : Nat) {id : Nat} {Q : Exit → Act → World → Prop} {a : Act} {w : World} {l : List Oper} (hm : P.follows .mixedOrders = true) (hB : Region.lexTailB .any l.toArray n = true)
    (h : wpQuiet P l.toArray (fun w' => ∃ x : Kin w, w' = x.w) (fun a' => ∀ w', (∃ x : Kin w, w' = x.w) → wpList P l.toArray Q (l.drop n) a' w') (l.take n) a) : (Code.region id l.toArray true).wp P Q a w := by
  simp only [Region.lexTailB, Bool.and_eq_true, decide_eq_true_eq] at hB
  obtain ⟨⟨⟨⟨hsel, hn⟩, hs⟩, hc⟩, hlex⟩ := hB
  have hn' : n < l.length := by simpa using hn
  have htl : (l.take n).length = n := by simp; omega
  have hdl : (l.drop n).length = l.toArray.size - n := by simp
  have inv0 : HeadInv .any l.toArray n (Array.replicate l.toArray.size false) :=
    ⟨by simp, fun j oj _ hl => (by rw [getD_replicate_false] at hl; cases hl), fun t _ ht => getD_in (by simpa using ht) (getD_replicate_false _ _)⟩
  have H := Heads.lex (md := .any) (C := fun w' => ∃ x : Kin w, w' = x.w) (g := l.toArray.size - n) hsel hs hc hn (l.take n) 0 _ a (fun j hj => by
    have hj' : j < n := by rw [htl] at hj; exact hj
    simp [hj']) (by simpa using htl) inv0 (by rw [htl]; exact hlex) h
  refine wp_region_any hm ?_
  have := Heads.any (Q := Q) (g := l.toArray.size - n) (fun listed a' w' hw' hL => by
    have := wpAny_of_seq (md := .any) (Q' := Q) (l.drop n) n listed a' w' (fun j => by simp [List.getElem?_drop]) (by rw [hdl]; exact hL.1) (hL.2 w' hw')
    rwa [hdl] at this) _ _ _ { w with drawn := w.drawn + 1 } ⟨⟨_, below_drawn w⟩, rfl⟩ H
  rw [htl, show n + (l.toArray.size - n) = l.toArray.size by omega] at this
  exact this
end
end Go.Proofs.YtlbkbjeajcadiaaGreatDoor.M

/- Worlds that only drew and laid new blocks: what a comparing function handed to a sort must leave; regions that draw their order, over such worlds. -/
namespace Go.Proofs.YtlbkbjeajcadiaaGreatDoor.M
open Go.RowKit Go.Sort
set_option linter.unusedVariables false
def Grew (w w' : World) : Prop := ∃ (q : Nat) (os : Array Obj), w' = grow (w.drewN q) os
theorem Grew.refl (w : World) : Grew w w := ⟨0, #[], by simp [grow, World.drewN]⟩
theorem Grew.trans {a b c : World} (h1 : Grew a b) (h2 : Grew b c) : Grew a c := by
  obtain ⟨q1, o1, rfl⟩ := h1
  obtain ⟨q2, o2, rfl⟩ := h2
  refine ⟨q1 + q2, o1 ++ o2, ?_⟩
  simp [grow, World.drewN, Array.append_assoc, Nat.add_assoc]
theorem Grew.alloc (w : World) (o : Obj) : Grew w (w.alloc o) := ⟨0, #[o], by rw [alloc_eq_grow]; rfl⟩
theorem Grew.drew (w : World) : Grew w w.drew := ⟨1, #[], by unfold grow World.drewN; simp only [Array.append_empty]; rfl⟩
theorem Grew.drawn (w : World) : Grew w { w with drawn := w.drawn + 1 } := Grew.drew w
theorem Grew.below {w w' : World} (h : Grew w w') : Below w.heap.size w w' := by
  obtain ⟨q, os, rfl⟩ := h
  refine ⟨rfl, rfl, rfl, by simp [grow, World.drewN], fun k hk => ?_⟩
  show (w.heap ++ os)[k]? = w.heap[k]?
  rw [Array.getElem?_append_left hk]
theorem Grew.same {w w' : World} (h : w = w') : Grew w w' := h ▸ Grew.refl w
/-- a world grown out of W -/
structure Gro (W : World) where
  w : World
  h : Grew W w
instance (W : World) : Nonempty (Gro W) := ⟨⟨W, .refl _⟩⟩
instance (W : World) : Inhabited (Gro W) := ⟨⟨W, .refl _⟩⟩
theorem wp_region_gro {P : Program} {id : Nat} {Q : Exit → Act → World → Prop} {a : Act} {w : World} {l : List Oper} (hm : P.follows .mixedOrders = true) (hB : Region.lexB .any l.toArray = true)
    (h : wpQuiet P l.toArray (fun w' => ∃ x : Gro w, w' = x.w) (fun a' => ∀ w', (∃ x : Gro w, w' = x.w) → Q .normal a' w') l a) : (Code.region id l.toArray true).wp P Q a w :=
  wp_region_quiet (C := fun w' => ∃ x : Gro w, w' = x.w) hm hB ⟨⟨_, .drawn w⟩, rfl⟩ (by simpa using h)
theorem Gro.cell {W : World} {p : Addr} {v : Value} (hc : W.cell? p = some v) : ∀ x : Gro W, x.w.cell? p = some v := fun x => (x.h.below.cell (World.block_lt_of_cell? W _ hc)).trans hc
theorem Gro.call {P : Program} {f : FuncId} {args : Array Value} {W : World} {v : Value} (x : Gro W) (h : Calls P f args x.w fun e w' => e = .returned v ∧ Grew x.w w') : Calls P f args x.w fun e w'' => e = .returned v ∧ ∃ y : Gro W, w'' = y.w :=
  h.mono fun e w' ⟨he, hb⟩ => ⟨he, ⟨w', x.h.trans hb⟩, rfl⟩
theorem Gro.same {P : Program} {f : FuncId} {args : Array Value} {W : World} {v : Value} (x : Gro W) (h : Calls P f args x.w fun e w' => e = .returned v ∧ x.w = w') : Calls P f args x.w fun e w'' => e = .returned v ∧ ∃ y : Gro W, w'' = y.w :=
  h.mono fun e w' ⟨he, hb⟩ => ⟨he, x, hb.symm⟩
/-- a region: n quiet operations, then the others in their one order -/
theorem wp_region_gro_tail (n : Nat) {P : Program} {id : Nat} {Q : Exit → Act → World → Prop} {a : Act} {w : World} {l : List Oper} (hm : P.follows .mixedOrders = true) (hB : Region.lexTailB .any l.toArray n = true)
    (h : wpQuiet P l.toArray (fun w' => ∃ x : Gro w, w' = x.w) (fun a' => ∀ w', (∃ x : Gro w, w' = x.w) → wpList P l.toArray Q (l.drop n) a' w') (l.take n) a) : (Code.region id l.toArray true).wp P Q a w := by
  simp only [Region.lexTailB, Bool.and_eq_true, decide_eq_true_eq] at hB
  obtain ⟨⟨⟨⟨hsel, hn⟩, hs⟩, hc⟩, hlex⟩ := hB
  have hn' : n < l.length := by simpa using hn
  have htl : (l.take n).length = n := by simp; omega
  have hdl : (l.drop n).length = l.toArray.size - n := by simp
  have inv0 : HeadInv .any l.toArray n (Array.replicate l.toArray.size false) :=
    ⟨by simp, fun j oj _ hl => (by rw [getD_replicate_false] at hl; cases hl), fun t _ ht => getD_in (by simpa using ht) (getD_replicate_false _ _)⟩
  have H := Heads.lex (md := .any) (C := fun w' => ∃ x : Gro w, w' = x.w) (g := l.toArray.size - n) hsel hs hc hn (l.take n) 0 _ a (fun j hj => by
    have hj' : j < n := by rw [htl] at hj; exact hj
    simp [hj']) (by simpa using htl) inv0 (by rw [htl]; exact hlex) h
  refine wp_region_any hm ?_
  have := Heads.any (Q := Q) (g := l.toArray.size - n) (fun listed a' w' hw' hL => by
    have := wpAny_of_seq (md := .any) (Q' := Q) (l.drop n) n listed a' w' (fun j => by simp [List.getElem?_drop]) (by rw [hdl]; exact hL.1) (hL.2 w' hw')
    rwa [hdl] at this) _ _ _ { w with drawn := w.drawn + 1 } ⟨⟨_, .drawn w⟩, rfl⟩ H
  rw [htl, show n + (l.toArray.size - n) = l.toArray.size by omega] at this
  exact this
end Go.Proofs.YtlbkbjeajcadiaaGreatDoor.M

/- ids: comparing; the contracts of cmp.Compare, cmp.Or, ids.order, ids.Less, ids.Right and of the document's. -/
namespace Go.Proofs.YtlbkbjeajcadiaaGreatDoor.O
open Go.RowKit Go.Proofs.YtlbkbjeajcadiaaGreatDoor.M Go.BigFrame
set_option linter.unusedVariables false
set_option linter.unusedSimpArgs false

def cmpI (a b : Int) : Int := if a < b then -1 else if b < a then 1 else 0
def orI (a b : Int) : Int := if a = 0 then b else a
theorem cmpI_lt {a b : Int} (h : a < b) : cmpI a b = -1 := by unfold cmpI; rw [if_pos h]
theorem cmpI_gt {a b : Int} (h : b < a) : cmpI a b = 1 := by unfold cmpI; rw [if_neg (by omega), if_pos h]
theorem cmpI_eq {a b : Int} (h : a = b) : cmpI a b = 0 := by unfold cmpI; rw [if_neg (by omega), if_neg (by omega)]
theorem ico_or (a b : Id) (h : a ≠ b) : orI (cmpI a.n b.n) (cmpI a.r b.r) = ico a b := by
  have h2 : ¬ (a.r = b.r ∧ a.n = b.n) := fun e => h (Id.eq_of e.1 e.2)
  unfold ico orI
  rw [if_neg h]
  cases e : ilt a b with
  | true =>
    rw [ilt_iff] at e
    rcases e with e | ⟨e1, e2⟩
    · rw [cmpI_lt e]; rfl
    · rw [cmpI_eq e1, cmpI_lt e2]; rfl
  | false =>
    rw [ilt_no] at e
    by_cases e1 : b.n < a.n
    · rw [cmpI_gt e1]; rfl
    · rw [cmpI_eq (by omega), cmpI_gt (show b.r < a.r by omega)]; rfl
theorem isnan_any (a : Int) (w : World) :
    Calls Tryz.prog 142 #[.int .i64 a] w fun e w' => e = .returned (.bool false) ∧ w = w' := by
  have e1 : (a != a) = false := by simp
  go_enter Tryz.func142, Tryz.ntmps142
  go_wp2_with fail
  go_ret
  exact ⟨rfl, rfl⟩
theorem compare_any (a b : Int) (w : World) (v : Int) (hv : cmpI a b = v) :
    Calls Tryz.prog 106 #[.int .i64 a, .int .i64 b] w fun e w' => e = .returned (.int .i64 v) ∧ w = w' := by
  subst hv
  have HV := Lib.hid (show cmpI a b = if a < b then -1 else if b < a then 1 else 0 from rfl)
  by_cases h1 : a < b
  · have HE := Lib.hid (show cmpI a b = -1 by rw [HV.out, if_pos h1])
    go_enter Tryz.func106, Tryz.ntmps106
    go_wp2_with fail
    refine (isnan_any a w).mono ?_
    rintro e w1 ⟨rfl, rfl⟩
    go_wp2_with fail
    refine (isnan_any b w).mono ?_
    rintro e w1 ⟨rfl, rfl⟩
    go_wp2_with fail
    go_ret
    exact ⟨by rw [HE.out]; rfl, rfl⟩
  · by_cases h2 : b < a
    · have HE := Lib.hid (show cmpI a b = 1 by rw [HV.out, if_neg h1, if_pos h2])
      go_enter Tryz.func106, Tryz.ntmps106
      go_wp2_with fail
      refine (isnan_any a w).mono ?_
      rintro e w1 ⟨rfl, rfl⟩
      go_wp2_with fail
      refine (isnan_any b w).mono ?_
      rintro e w1 ⟨rfl, rfl⟩
      go_wp2_with fail
      go_ret
      exact ⟨by rw [HE.out]; rfl, rfl⟩
    · have HE := Lib.hid (show cmpI a b = 0 by rw [HV.out, if_neg h1, if_neg h2])
      go_enter Tryz.func106, Tryz.ntmps106
      go_wp2_with fail
      refine (isnan_any a w).mono ?_
      rintro e w1 ⟨rfl, rfl⟩
      go_wp2_with fail
      refine (isnan_any b w).mono ?_
      rintro e w1 ⟨rfl, rfl⟩
      go_wp2_with fail
      go_ret
      exact ⟨by rw [HE.out]; rfl, rfl⟩
theorem or2_any (g : Nat) (a b : Int) (w : World) (h0 : w.cell? ⟨g, 0, none⟩ = some (.int .i64 a)) (h1 : w.cell? ⟨g, 1, none⟩ = some (.int .i64 b)) (v : Int) (hv : orI a b = v) :
    Calls Tryz.prog 105 #[.slice (some ⟨g, 0, none⟩) 2 2] w fun e w' => e = .returned (.int .i64 v) ∧ w = w' := by
  subst hv
  have HV := Lib.hid (show orI a b = if a = 0 then b else a from rfl)
  go_enter Tryz.func105, Tryz.ntmps105
  go_wp2_with fail
  go_loopw [8] (fun iv wr => ∃ k : Nat, iv = .int .i64 k ∧ k ≤ 2 ∧ w = wr ∧ (0 < k → a = 0) ∧ (1 < k → b = 0)) (fun iv _ => 2 - (intOf iv).toNat)
  case atStart => exact ⟨0, rfl, by omega, rfl, by omega, by omega⟩
  case round =>
    obtain ⟨k, rfl, hk, rfl, ha, hb⟩ := hrel
    rcases (by omega : k = 0 ∨ k = 1 ∨ k = 2) with rfl | rfl | rfl
    · clear ha hb
      by_cases e : a = 0
      · subst e
        go_wp2_with fail
        go_roundw
        case rel => exact ⟨1, by trivial, by omega, by trivial, fun _ => by trivial, by omega⟩
        case measure => simp [intOf]
      · have e2 : (a != 0) = true := by rw [bne_iff_ne]; exact e
        have HE := Lib.hid (show orI a b = a by rw [HV.out, if_neg e])
        clear e
        go_wp2_with fail
        go_ret
        exact ⟨by rw [HE.out]; rfl, rfl⟩
    · have ha := ha (by omega)
      subst ha
      clear hb
      by_cases e : b = 0
      · subst e
        go_wp2_with fail
        go_roundw
        case rel => exact ⟨2, by trivial, by omega, by trivial, fun _ => by trivial, fun _ => by trivial⟩
        case measure => simp [intOf]
      · have e2 : (b != 0) = true := by rw [bne_iff_ne]; exact e
        have HE := Lib.hid (show orI 0 b = b from rfl)
        clear e
        go_wp2_with fail
        go_ret
        exact ⟨by rw [HE.out]; rfl, rfl⟩
    · have ha := ha (by omega)
      have hb := hb (by omega)
      subst ha hb
      have HE := Lib.hid (show orI 0 0 = 0 from rfl)
      go_wp2_with fail
      go_ret
      exact ⟨by rw [HE.out]; rfl, rfl⟩
def idEq (a b : Id) : Bool := (a.r == b.r) && (a.n == b.n)
theorem idEq_iff (a b : Id) : idEq a b = decide (a = b) := by
  unfold idEq
  rw [Bool.eq_iff_iff, Bool.and_eq_true, beq_iff_eq, beq_iff_eq, decide_eq_true_eq]
  exact ⟨fun h => Id.eq_of h.1 h.2, fun h => by rw [h]; exact ⟨rfl, rfl⟩⟩
set_option maxHeartbeats 2000000 in
theorem run_id_neq (a b : Id) (w : World) : (binOp .neq 31 (idV a) (idV b)).run Tryz.prog w = .ok (.bool (!decide (a = b))) w := by
  have h1 : Tryz.prog.underlying 31 = some (.struct (Tryz.prog.fieldsOf 31)) := by kernel_rfl
  have h2 : Tryz.prog.stoodInHeld 31 = false := by kernel_rfl
  rw [← idEq_iff]
  unfold idEq
  rw [run_neq_struct, show (10000 : Nat) = 9999 + 1 from rfl, run_equalIn_struct _ _ _ _ _ h1 h2]
  cases e1 : (a.r == b.r)
  · simp [go_sem, e1, Result.andThen]
  cases e2 : (a.n == b.n)
  · simp [go_sem, e1, e2, Result.andThen]
  simp [go_sem, e1, e2, Result.andThen]
set_option maxHeartbeats 2000000 in
theorem run_id_eql (a b : Id) (w : World) : (binOp .eql 31 (idV a) (idV b)).run Tryz.prog w = .ok (.bool (decide (a = b))) w := by
  have h1 : Tryz.prog.underlying 31 = some (.struct (Tryz.prog.fieldsOf 31)) := by kernel_rfl
  have h2 : Tryz.prog.stoodInHeld 31 = false := by kernel_rfl
  rw [← idEq_iff]
  unfold idEq
  rw [run_eql_struct, show (10000 : Nat) = 9999 + 1 from rfl, run_equalIn_struct _ _ _ _ _ h1 h2]
  cases e1 : (a.r == b.r)
  · simp [go_sem, e1, Result.andThen]
  cases e2 : (a.n == b.n)
  · simp [go_sem, e1, e2, Result.andThen]
  simp [go_sem, e1, e2, Result.andThen]
abbrev idO (i : Id) : Obj := .cells #[.int .i64 i.r, .int .i64 i.n] 31
/-- two ids in their boxes -/
theorem two_boxes (a b : Id) (w : World) : (((w.alloc (idO a)).alloc (idO b)).heap[w.heap.size]? = some (idO a)) ∧ (((w.alloc (idO a)).alloc (idO b)).heap[w.heap.size + 1]? = some (idO b)) ∧ Grew w ((w.alloc (idO a)).alloc (idO b)) :=
  ⟨by rw [heap_al, if_neg (by simp), heap_alloc_new], by rw [heap_al, if_pos (by simp)], (Grew.alloc _ _).trans (Grew.alloc _ _)⟩
set_option maxRecDepth 100000 in
set_option maxHeartbeats 2000000 in
theorem order_any (a b : Id) (w : World) (v : Int) (hv : ico a b = v) :
    Calls Tryz.prog 73 #[idV a, idV b] w fun e w' => e = .returned (.int .i64 v) ∧ Grew w w' := by
  go_enter Tryz.func73, Tryz.ntmps73
  go_upto_region 1 with fail
  obtain ⟨hba, hbb, hg⟩ := two_boxes a b w
  obtain ⟨W, hW⟩ : ∃ W, W = (w.alloc (idO a)).alloc (idO b) := ⟨_, rfl⟩
  rw [← hW] at hba hbb hg ⊢
  have HG := Lib.hid hg
  obtain ⟨⟨c0, c1⟩, _⟩ := box2 hba
  obtain ⟨⟨d0, d1⟩, _⟩ := box2 hbb
  clear hW hg hba hbb
  by_cases h : a = b
  · have HV := Lib.hid (show v = 0 by rw [← hv, ico_zero]; exact h)
    subst h
    clear hv
    go_wp2_with fail
    go_ret
    exact ⟨by rw [HV.out]; rfl, HG.out⟩
  · have HV := Lib.hid ((ico_or a b h).trans hv)
    obtain ⟨n1, h1⟩ : ∃ x, cmpI a.n b.n = x := ⟨_, rfl⟩
    obtain ⟨n2, h2⟩ : ∃ x, cmpI a.r b.r = x := ⟨_, rfl⟩
    have H1 := Lib.hid h1
    have H2 := Lib.hid h2
    rw [h1, h2] at HV
    have HC := Lib.hid (show ∀ x : Gro W, x.w.cell? ⟨w.heap.size, 0, none⟩ = some (.int .i64 a.r) ∧ x.w.cell? ⟨w.heap.size, 1, none⟩ = some (.int .i64 a.n) ∧ x.w.cell? ⟨w.heap.size + 1, 0, none⟩ = some (.int .i64 b.r) ∧ x.w.cell? ⟨w.heap.size + 1, 1, none⟩ = some (.int .i64 b.n) from fun x => ⟨Gro.cell c0 x, Gro.cell c1 x, Gro.cell d0 x, Gro.cell d1 x⟩)
    have h0 : (a.r == b.r) = true → (a.n == b.n) = false := fun e => by rw [beq_eq_false_iff_ne]; exact fun e2 => h (Id.eq_of (by simpa using e) e2)
    clear h1 h2 hv
    go_cut [7] (fun bv wx => bv = .bool false ∧ W = wx)
    case first =>
      clear h HC
      cases e1 : (a.r == b.r) with
      | true =>
        have e2 := h0 e1
        clear h0
        go_wp2_with fail
        go_meet
        case rel => exact ⟨rfl, by trivial⟩
      | false =>
        clear h0
        go_wp2_with fail
        go_meet
        case rel => exact ⟨rfl, by trivial⟩
    case rest =>
      obtain ⟨rfl, rfl⟩ := hcut
      clear h0 h c0 c1 d0 d1
      go_upto_region 3 with fail
      have k0 := fun x => (HC.out x).1
      have k1 := fun x => (HC.out x).2.1
      have k2 := fun x => (HC.out x).2.2.1
      have k3 := fun x => (HC.out x).2.2.2
      refine wp_region_gro_tail 10 (by kernel_rfl) (by kernel_rfl) ?_
      simp only [List.take_succ_cons, List.take_zero, List.drop_succ_cons, List.drop_zero]
      repeat (go_big_quiet_step ((first | (go_at_call 106; with_reducible exact Gro.same _ (compare_any _ _ _ _ H1.out)) | (go_at_call 106; with_reducible exact Gro.same _ (compare_any _ _ _ _ H2.out)))))
      refine wpQuiet_nil ?_
      intro _ hx
      obtain ⟨xk, rfl⟩ := hx
      obtain ⟨W2, hW2⟩ : ∃ W2, W2 = xk.w := ⟨_, rfl⟩
      have HG2 : Hid (Grew w W2) := Lib.hid (by rw [hW2]; exact HG.out.trans xk.h)
      rw [← hW2]
      clear hW2 k0 k1 k2 k3
      go_wp2_with fail
      obtain ⟨W3, hW3⟩ : ∃ x, x = W2.alloc (.cells #[.int .i64 n1, .int .i64 n2] 3) := ⟨_, rfl⟩
      obtain ⟨⟨c0, c1⟩, _⟩ := box2 (heap_alloc_new W2 (.cells #[.int .i64 n1, .int .i64 n2] 3))
      have HG3 : Hid (Grew w W3) := Lib.hid (by rw [hW3]; exact HG2.out.trans (.alloc _ _))
      rw [← hW3] at c0 c1 ⊢
      clear hW3
      refine (or2_any W2.heap.size n1 n2 W3 c0 c1 v HV.out).mono ?_
      rintro e w4 ⟨rfl, rfl⟩
      clear c0 c1
      go_wp2_with fail
      go_ret
      exact ⟨rfl, HG3.out⟩
set_option maxRecDepth 100000 in
set_option maxHeartbeats 2000000 in
theorem less_any (a b : Id) (w : World) (v : Bool) (hv : ilt a b = v) :
    Calls Tryz.prog 109 #[idV a, idV b] w fun e w' => e = .returned (.bool v) ∧ Grew w w' := by
  obtain ⟨k, hk⟩ : ∃ k, ico a b = k := ⟨_, rfl⟩
  have HK := Lib.hid hk
  have hd : decide (k < 0) = v := by
    rw [← hk, ← hv, Bool.eq_iff_iff, decide_eq_true_eq]
    exact ico_neg
  clear hk hv
  go_enter Tryz.func109, Tryz.ntmps109
  go_upto_region 1 with fail
  obtain ⟨hba, hbb, hg⟩ := two_boxes a b w
  obtain ⟨W, hW⟩ : ∃ W, W = (w.alloc (idO a)).alloc (idO b) := ⟨_, rfl⟩
  rw [← hW] at hba hbb hg ⊢
  have HG := Lib.hid hg
  obtain ⟨⟨c0, c1⟩, _⟩ := box2 hba
  obtain ⟨⟨d0, d1⟩, _⟩ := box2 hbb
  clear hW hg hba hbb
  go_wp2_with fail
  refine (order_any a b W k HK.out).mono ?_
  rintro e w1 ⟨rfl, hg1⟩
  have HG1 := Lib.hid (HG.out.trans hg1)
  clear hg1 c0 c1 d0 d1
  go_wp2_with fail
  go_ret
  exact ⟨by rw [← hd]; rfl, HG1.out⟩
def idOk (i : Id) : Bool := decide (0 ≤ i.r) && decide (i.r < 7) && decide (0 ≤ i.n) && decide (i.n ≤ 1099511627776)
theorem idOk_iff {i : Id} : idOk i = true ↔ 0 ≤ i.r ∧ i.r < 7 ∧ 0 ≤ i.n ∧ i.n ≤ 1099511627776 := by
  unfold idOk
  simp only [Bool.and_eq_true, decide_eq_true_eq]
  omega
theorem id_box (i : Id) (w : World) : ((w.alloc (idO i)).heap[w.heap.size]? = some (idO i)) ∧ Grew w (w.alloc (idO i)) := ⟨heap_alloc_new w _, .alloc _ _⟩
set_option maxRecDepth 100000 in
set_option maxHeartbeats 2000000 in
theorem right_any (i : Id) (w : World) (v : Bool) (hv : idOk i = v) :
    Calls Tryz.prog 47 #[idV i] w fun e w' => e = .returned (.bool v) ∧ Grew w w' := by
  have HV := Lib.hid hv
  clear hv
  go_enter Tryz.func47, Tryz.ntmps47
  go_upto_region 1 with fail
  obtain ⟨hb, hg⟩ := id_box i w
  obtain ⟨W, hW⟩ : ∃ W, W = w.alloc (idO i) := ⟨_, rfl⟩
  rw [← hW] at hb hg ⊢
  have HG := Lib.hid hg
  obtain ⟨⟨c0, c1⟩, _⟩ := box2 hb
  clear hW hg hb
  cases h1 : decide (0 ≤ i.r) <;> cases h2 : decide (i.r < 7) <;> cases h3 : decide (0 ≤ i.n) <;> cases h4 : decide (i.n ≤ 1099511627776)
  all_goals
    have HE := Lib.hid (show v = (decide (0 ≤ i.r) && decide (i.r < 7) && decide (0 ≤ i.n) && decide (i.n ≤ 1099511627776)) from HV.out.symm)
    rw [h1, h2, h3, h4] at HE
    go_wp2_with fail
    go_ret
    exact ⟨by rw [HE.out]; rfl, HG.out⟩
set_option maxRecDepth 100000 in
set_option maxHeartbeats 2000000 in
theorem refright_any (i : Id) (w : World) (v : Bool) (hv : idOk i = v) :
    Calls Tryz.prog 65 #[idV i] w fun e w' => e = .returned (.bool v) ∧ Grew w w' := by
  have HV := Lib.hid hv
  clear hv
  go_enter Tryz.func65, Tryz.ntmps65
  go_upto_region 1 with fail
  obtain ⟨hb, hg⟩ := id_box i w
  obtain ⟨W, hW⟩ : ∃ W, W = w.alloc (idO i) := ⟨_, rfl⟩
  rw [← hW] at hb hg ⊢
  have HG := Lib.hid hg
  obtain ⟨⟨c0, c1⟩, _⟩ := box2 hb
  clear hW hg hb
  cases h1 : decide (0 ≤ i.r) <;> cases h2 : decide (i.r ≤ 6) <;> cases h3 : decide (0 ≤ i.n) <;> cases h4 : decide (i.n ≤ 1099511627776)
  all_goals
    have HE := Lib.hid (show v = (decide (0 ≤ i.r) && decide (i.r ≤ 6) && decide (0 ≤ i.n) && decide (i.n ≤ 1099511627776)) by
      rw [← HV.out]; unfold idOk; rw [show decide (i.r < 7) = decide (i.r ≤ 6) from decide_eq_decide.2 (by omega)])
    rw [h1, h2, h3, h4] at HE
    go_wp2_with fail
    go_ret
    exact ⟨by rw [HE.out]; rfl, HG.out⟩
set_option maxRecDepth 100000 in
set_option maxHeartbeats 2000000 in
theorem refless_any (a b : Id) (w : World) (v : Bool) (hv : ilt a b = v) :
    Calls Tryz.prog 71 #[idV a, idV b] w fun e w' => e = .returned (.bool v) ∧ Grew w w' := by
  have HV := Lib.hid hv
  clear hv
  go_enter Tryz.func71, Tryz.ntmps71
  go_upto_region 1 with fail
  obtain ⟨hba, hbb, hg⟩ := two_boxes a b w
  obtain ⟨W, hW⟩ : ∃ W, W = (w.alloc (idO a)).alloc (idO b) := ⟨_, rfl⟩
  rw [← hW] at hba hbb hg ⊢
  have HG := Lib.hid hg
  obtain ⟨⟨c0, c1⟩, _⟩ := box2 hba
  obtain ⟨⟨d0, d1⟩, _⟩ := box2 hbb
  clear hW hg hba hbb
  by_cases h1 : a.n < b.n
  · have HE := Lib.hid (show v = true by rw [← HV.out, ilt_iff]; exact .inl h1)
    go_wp2_with fail
    go_ret
    exact ⟨by rw [HE.out]; rfl, HG.out⟩
  · cases e : (a.n == b.n) with
    | false =>
      have HE := Lib.hid (show v = false by rw [← HV.out, ilt_no]; have := beq_eq_false_iff_ne.1 e; omega)
      go_wp2_with fail
      go_ret
      exact ⟨by rw [HE.out]; rfl, HG.out⟩
    | true =>
      by_cases h2 : a.r < b.r
      · have HE := Lib.hid (show v = true by rw [← HV.out, ilt_iff]; exact .inr ⟨by simpa using e, h2⟩)
        go_wp2_with fail
        go_ret
        exact ⟨by rw [HE.out]; rfl, HG.out⟩
      · have HE := Lib.hid (show v = false by rw [← HV.out, ilt_no]; omega)
        go_wp2_with fail
        go_ret
        exact ⟨by rw [HE.out]; rfl, HG.out⟩
end Go.Proofs.YtlbkbjeajcadiaaGreatDoor.O
