/- Several texts in one. -/
import Derived.Test.YtlbkbjeajcadiaaGreatDoorMrg10
import Derived.Test.YtlbkbjeajcadiaaGreatDoorMrg19
import Derived.Lib.AppendIntMem
import Derived.Shelf.Unicode.PredsPay
import Derived.Deep.DeepCutAuto
import Derived.Test.YtlbkbjeajcadiaaGreatDoorMrg14
import Derived.Laws.EntriesVeiled
import Derived.Deep.WholeRow

/- Regions that draw their order: one pure operation first (a copy that only the tail needs), then a quiet head, then a tail in one forced order. -/
namespace Go.Proofs.YtlbkbjeajcadiaaGreatDoor.M
open Go.RowKit
set_option linter.unusedVariables false
section
variable {P : Program} {ops : Array Oper} {md : Region.Mode} {C : World → Prop}
/-- each of the head from m on is waited for by a later one up to n -/
def sinkFromB (md : Region.Mode) (ops : Array Oper) (m n : Nat) : Bool :=
  (List.range n).all fun i => decide (i < m) || (List.range (n + 1)).any fun j => decide (i < j) && Region.waitsFor md ops j i
theorem tail_waits_from {m n : Nat} {listed : Array Bool} (hs : sinkFromB md ops m n = true) (hc : Region.chainB md ops n = true) (hn : n < ops.size) (inv : HeadInv md ops n listed) :
    ∀ (d i : Nat), n - i = d → m ≤ i → i < n → listed.getD i true = false → ∀ t, n ≤ t → t ∉ Region.ready md ops listed := by
  intro d
  induction d using Nat.strongRecOn with
  | _ d ih =>
    intro i hd hm hi hun t ht hr
    obtain ⟨_, ot, hot, hall⟩ := mem_ready.1 hr
    have htlt : t < ops.size := (Array.getElem?_eq_some_iff.1 hot).1
    by_cases htn : t = n
    · subst htn
      have h1 := List.all_eq_true.1 hs i (List.mem_range.2 hi)
      rw [Bool.or_eq_true, decide_eq_true_eq] at h1
      rcases h1 with h1 | h1
      · omega
      obtain ⟨j, hj, hj2⟩ := List.any_eq_true.1 h1
      simp only [Bool.and_eq_true, decide_eq_true_eq] at hj2
      obtain ⟨oj, hoj, e, he, hb, hon⟩ := Region.waitsFor_spec hj2.2
      have hjle : j ≤ t := by have := List.mem_range.1 hj; omega
      by_cases hjt : j = t
      · subst hjt
        have : oj = ot := Option.some.inj (hoj.symm.trans hot)
        subst this
        have h2 := hall e he hb
        rw [hon, getD_both hun] at h2
        cases h2
      · cases hl : listed.getD j false with
        | true =>
          have h2 := inv.closed j oj hoj hl e he hb
          rw [hon, getD_both hun] at h2
          cases h2
        | false =>
          have hjs : j < listed.size := by rw [inv.size]; omega
          exact ih (t - j) (by omega) j rfl (by omega) (by omega) (getD_in hjs hl) t (Nat.le_refl _) hr
    · have h1 := List.all_eq_true.1 hc t (List.mem_range.2 htlt)
      simp only [Bool.or_eq_true, decide_eq_true_eq] at h1
      rcases h1 with h1 | h1
      · omega
      · obtain ⟨o', ho', e, he, hb, hon⟩ := Region.waitsFor_spec h1
        have : o' = ot := Option.some.inj (ho'.symm.trans hot)
        subst this
        have h2 := hall e he hb
        rw [hon, getD_both (inv.tail (t - 1) (by omega) (by omega))] at h2
        cases h2
theorem Heads.first_from {m n i : Nat} {oi : Oper} {v : Value} {L : Array Bool → Act → Prop} (hi : ops[i]? = some oi) (hsel : ∀ (j : Nat) (o : Oper) cs b, ops[j]? = some o → o.op ≠ .select cs b)
    (hs : sinkFromB md ops m n = true) (hc : Region.chainB md ops n = true) (hn : n < ops.size) (hin : m ≤ i ∧ i < n) (hdone : ∀ listed a, L listed a → ∀ j ∈ Region.ready md ops listed, n ≤ j) :
    ∀ (f : Nat) (listed : Array Bool) (a : Act), HeadInv md ops n listed →
      (∀ j oj, ops[j]? = some oj → j ≠ i → listed.getD j true = false → (∀ e ∈ oj.after, Region.binds md e = true → e.on ≠ i) → oi.apart ops oj = true) →
      i ∈ Region.ready md ops listed → YieldsIn P ops C oi v a → Heads P md ops C n L f (listed.setIfInBounds i true) (a.put oi.dst v) → Heads P md ops C n L (f + 1) listed a := by
  intro f
  have head : ∀ (listed : Array Bool), HeadInv md ops n listed → i ∈ Region.ready md ops listed → ∀ j ∈ Region.ready md ops listed, j < n := fun listed inv hr j hj => by
    rcases Nat.lt_or_ge j n with h | h
    · exact h
    · exact absurd hj (tail_waits_from hs hc hn inv _ i rfl hin.1 hin.2 (mem_ready.1 hr).1 j h)
  induction f with
  | zero =>
    intro listed a inv _ hr hy H
    refine ⟨fun h => (by rw [h] at hr; cases hr), fun j hj => ⟨head listed inv hr j hj, ?_⟩⟩
    by_cases hji : j = i
    · subst hji; exact hy.qOp hi H
    · have h1 := hdone _ _ H j (ready_mono hj hji)
      have h2 := head listed inv hr j hj
      omega
  | succ f ih =>
    intro listed a inv hfree hr hy H
    refine ⟨fun h => (by rw [h] at hr; cases hr), fun j hj => ⟨head listed inv hr j hj, ?_⟩⟩
    by_cases hji : j = i
    · subst hji; exact hy.qOp hi H
    · obtain ⟨hjun, oj, hoj, hall⟩ := mem_ready.1 hj
      have hun := (mem_ready.1 hr).1
      have hnot : ∀ e ∈ oj.after, Region.binds md e = true → e.on ≠ i := fun e he hb heq => by
        have h1 := hall e he hb
        rw [heq, getD_both hun] at h1
        cases h1
      have h2 := qOp_put hoj (hfree j oj hoj hji hjun hnot) (fun cs b => hsel i oi cs b hi) (fun cs b => hsel j oj cs b hoj) hy (H.2 j (ready_mono hj hji)).2
      refine qOp_mono (fun a' h3 => ih (listed.setIfInBounds j true) a' (inv.set hj (head listed inv hr j hj)) (fun k ok hk hki hkun hno => ?_) (ready_mono hr (Ne.symm hji)) h3.1 ?_) h2
      · refine hfree k ok hk hki ?_ hno
        by_cases hjk : j = k
        · subst hjk; exact hjun
        · rw [getD_set_ne true hjk] at hkun; exact hkun
      · rw [Array.setIfInBounds_comm _ _ hji]
        exact h3.2
theorem Heads.lex_from {m n g : Nat} {Lq : Act → Prop} (hsel : Region.noSelect ops = true) (hs : sinkFromB md ops m n = true) (hc : Region.chainB md ops n = true) (hn : n < ops.size) :
    ∀ (l : List Oper) (k : Nat) (listed : Array Bool) (a : Act), m ≤ k → (∀ j, j < l.length → l[j]? = ops[k + j]?) → k + l.length = n → HeadInv md ops n listed →
    Region.lexHead md ops g l.length k listed = true → wpQuiet P ops C Lq l a → Heads P md ops C n (fun listed' a' => Region.seqB md ops g n listed' = true ∧ Lq a') l.length listed a := by
  intro l
  induction l with
  | nil =>
    intro k listed a _ _ hk _ hB h
    obtain rfl : k = n := by simpa using hk
    exact ⟨by simpa [Region.lexHead] using hB, h⟩
  | cons o l ih =>
    intro k listed a hmk hl hk inv hB h
    have h0 : ops[k]? = some o := by simpa using (hl 0 (by simp)).symm
    simp only [List.length_cons, Region.lexHead, Bool.and_eq_true] at hB
    obtain ⟨⟨hr, hf⟩, hB'⟩ := hB
    have hkn : k < n := by simp only [List.length_cons] at hk; omega
    have hr' : k ∈ Region.ready md ops listed := by simpa using hr
    have hst : qOp P ops C k (wpQuiet P ops C Lq l) a := by unfold qOp; simp only [h0]; exact h
    obtain ⟨v, hy, hK⟩ := yieldsIn_of_qOp h0 hst
    exact Heads.first_from h0 (Region.noSelect_spec hsel) hs hc hn ⟨hmk, hkn⟩ (fun listed' a' hL => seqB_ready hL.1) l.length listed a inv (Region.free_spec h0 hf) hr' hy
      (ih (k + 1) _ _ (by omega) (fun j hj => by have := hl (j + 1) (by simp; omega); simpa [Nat.add_assoc, Nat.add_comm 1 j] using this) (by simp only [List.length_cons] at hk; omega) (inv.set hr' hkn) hB' hK)
/-- the first operation is free and pure; those of 1 to n are a head, the others a tail in their one order -/
def lexTail1B (md : Region.Mode) (ops : Array Oper) (n : Nat) : Bool :=
  Region.noSelect ops && decide (n < ops.size) && decide (1 ≤ n) && sinkFromB md ops 1 n && Region.chainB md ops n && (Region.ready md ops (Array.replicate ops.size false)).contains 0 && Region.free md ops (Array.replicate ops.size false) 0 &&
    Region.lexHead md ops (ops.size - n) (n - 1) 1 ((Array.replicate ops.size false).setIfInBounds 0 true)
/-- A REGION: one pure operation, then n - 1 quiet ones, then the others in their one order, from every world that keeps the old memory. -/
theorem wp_region_kin_tail1 (n : Nat) {id : Nat} {Q : Exit → Act → World → Prop} {a : Act} {w : World} {o : Oper} {l : List Oper} (v : Value) (hm : P.follows .mixedOrders = true) (hB : lexTail1B .any (o :: l).toArray n = true)
    (hQ : ∀ c a w, Q (.panic c) (a.put o.dst v) w → Q (.panic c) a w) (hy : Yields P (o :: l).toArray o v a)
    (h : wpQuiet P (o :: l).toArray (fun w' => ∃ x : Kin w, w' = x.w) (fun a' => ∀ w', (∃ x : Kin w, w' = x.w) → wpList P (o :: l).toArray Q (l.drop (n - 1)) a' w') (l.take (n - 1)) (a.put o.dst v)) : (Code.region id (o :: l).toArray true).wp P Q a w := by
  simp only [lexTail1B, Bool.and_eq_true, decide_eq_true_eq] at hB
  obtain ⟨⟨⟨⟨⟨⟨⟨hsel, hn⟩, h1⟩, hs⟩, hc⟩, hr⟩, hf⟩, hlex⟩ := hB
  have hn' : n < l.length + 1 := by simpa using hn
  have htl : (l.take (n - 1)).length = n - 1 := by simp; omega
  have hdl : (l.drop (n - 1)).length = (o :: l).toArray.size - n := by simp; omega
  have h0 : (o :: l).toArray[0]? = some o := by simp
  have hr' : 0 ∈ Region.ready .any (o :: l).toArray (Array.replicate (o :: l).toArray.size false) := by simpa using hr
  have inv0 : HeadInv .any (o :: l).toArray n (Array.replicate (o :: l).toArray.size false) :=
    ⟨by simp, fun j oj _ hl => (by rw [getD_replicate_false] at hl; cases hl), fun t _ ht => getD_in (by simpa using ht) (getD_replicate_false _ _)⟩
  have inv1 := inv0.set hr' (by omega)
  have H := Heads.lex_from (md := .any) (m := 1) (C := fun w' => ∃ x : Kin w, w' = x.w) (g := (o :: l).toArray.size - n) hsel hs hc hn (l.take (n - 1)) 1 _ (a.put o.dst v) (Nat.le_refl _) (fun j hj => by
    have hj' : j < n - 1 := by rw [htl] at hj; exact hj
    rw [List.getElem?_take_of_lt hj', Nat.add_comm 1 j]
    simp) (by rw [htl]; omega) inv1 (by rw [htl]; exact hlex) h
  refine wp_region_any hm ?_
  have h2 := Heads.any (Q := Q) (g := (o :: l).toArray.size - n) (fun listed a' w' hw' hL => by
    have := wpAny_of_seq (md := .any) (Q' := Q) (l.drop (n - 1)) n listed a' w' (fun j => by
      rw [List.getElem?_drop, show n - 1 + j = (n + j) - 1 by omega]
      have : n + j = (n + j - 1) + 1 := by omega
      rw [this]
      simp) (by rw [hdl]; exact hL.1) (hL.2 w' hw')
    rwa [hdl] at this) _ _ _ { w with drawn := w.drawn + 1 } ⟨⟨_, below_drawn w⟩, rfl⟩ H
  have h3 := wpAny_first (md := .any) (Q := Q) h0 (Region.noSelect_spec hsel) hQ _ _ a _ (Region.free_spec h0 hf) hr' hy h2
  rw [htl, show n - 1 + ((o :: l).toArray.size - n) + 1 = (o :: l).toArray.size by simp; omega] at h3
  exact h3
end
end Go.Proofs.YtlbkbjeajcadiaaGreatDoor.M

/- The program's settings: find. -/
namespace Go.Proofs.YtlbkbjeajcadiaaGreatDoor.P
open Go.RowKit Go.Proofs.YtlbkbjeajcadiaaGreatDoor.R Go.Proofs.YtlbkbjeajcadiaaGreatDoor.M Go.BigFrame Go.Maps
set_option linter.unusedVariables false
set_option linter.unusedSimpArgs false

/-- the tables, that of Itoa among them -/
structure TabsI (w : World) : Prop where
  t : Tabs w
  p : Lib.TabIs Tryz.prog w "internal/strconv.uint64pow10" .u64 Lib.pow10Tab
theorem info_str : (Tryz.prog.info? tStr).map (fun i => (i.zero, i.size, i.bytes)) = some (some (.string ⟨#[]⟩), 1, 16) := by kernel_rfl
/-- lines that come out, while they do -/
structure LS (W w : World) (oo : Option Addr) (oc : Nat) (L : List ByteArray) : Prop where
  bel : Below W.heap.size W w
  own : w.ownsRow W.heap.size tStr 1 (.slice oo L.length oc) L.length (L.map Value.string)
theorem LS.below {W w w2 : World} {oo : Option Addr} {oc : Nat} {L : List ByteArray} (h : LS W w oo oc L) (hb : Below w.heap.size w w2) : LS W w2 oo oc L :=
  ⟨h.bel.trans (hb.mono h.bel.size), own_kept h.own (S := fun _ => False) (Mods.of_below hb) (fun _ _ h => h)⟩
theorem LS.more {W w w2 : World} {oo : Option Addr} {oc gg cg : Nat} {L : List ByteArray} {y : ByteArray} {bx : Obj} (h : LS W w oo oc L)
    (ho : w2.ownsRow W.heap.size tStr 1 (.slice (some ⟨gg, 0, none⟩) (L.length + 1) cg) (L.length + 1) (L.map Value.string ++ [.string y]))
    (hg : (w.alloc bx).grownBy w2 (Value.slice oo L.length oc).ownBlock) : LS W w2 (some ⟨gg, 0, none⟩) cg (L ++ [y]) := by
  have hM : Mods (fun k => ∃ a, oo = some a ∧ k = a.block) w w2 := ((Mods.refl _ w).alloc bx).grown hg (fun k hk _ => by
    cases oo with
    | none => cases hk
    | some a => exact ⟨a, rfl, (Option.some.inj hk).symm⟩)
  refine ⟨h.bel.trans (hM.below (fun k ⟨a, ha, e⟩ => ?_) h.bel.size), by rw [List.length_append, List.map_append]; exact ho⟩
  obtain ⟨_, _, hb⟩ := own_heap h.own a ha
  omega
theorem strV_key (k : ByteArray) : strV k.data.toList = .string k := by
  unfold strV
  congr 1
end Go.Proofs.YtlbkbjeajcadiaaGreatDoor.P

/- The program's settings: Do. -/
namespace Go.Proofs.YtlbkbjeajcadiaaGreatDoor.P
open Go.RowKit Go.Proofs.YtlbkbjeajcadiaaGreatDoor.R Go.Proofs.YtlbkbjeajcadiaaGreatDoor.M Go.BigFrame Go.Maps
set_option linter.unusedVariables false
set_option linter.unusedSimpArgs false

theorem check_v (c : Cmd) (w : World) (hT : Tabs w) (hs : c.key.size ≤ 1000000) (v : Int) (hv : chk c = v) :
    Calls Tryz.prog 51 #[cmdV c] w fun e w' => e = .returned (.int .i64 v) ∧ Below w.heap.size w w' := by subst hv; exact check_any c w hT hs
theorem box7 {w : World} {b : Nat} {v0 v1 v2 v3 v4 v5 v6 : Value} {T : TypeId} (h : w.heap[b]? = some (.cells #[v0, v1, v2, v3, v4, v5, v6] T (0, 0))) :
    w.cell? ⟨b, 0, none⟩ = some v0 ∧ w.cell? ⟨b, 1, none⟩ = some v1 ∧ w.cell? ⟨b, 2, none⟩ = some v2 ∧ w.cell? ⟨b, 3, none⟩ = some v3 ∧ w.cell? ⟨b, 4, none⟩ = some v4 ∧ w.cell? ⟨b, 5, none⟩ = some v5 ∧ w.cell? ⟨b, 6, none⟩ = some v6 :=
  ⟨cell_of_row w b 0 _ _ _ h, cell_of_row w b 1 _ _ _ h, cell_of_row w b 2 _ _ _ h, cell_of_row w b 3 _ _ _ h, cell_of_row w b 4 _ _ _ h, cell_of_row w b 5 _ _ _ h, cell_of_row w b 6 _ _ _ h⟩
theorem call_enter {f : FuncId} {fn : Func} (hf : Tryz.prog.funcs[f]? = some fn) (h1 : (fn.name == "runtime.NumGoroutine") = false) (h2 : fn.body.isNone = false) (args : Array Value) (w : World) :
    (callFunc f args).run Tryz.prog w = .ok (.enter f args) w := by
  unfold callFunc
  simp only [Sem.run_bind, Result.andThen]
  rw [show Sem.run Tryz.prog program w = .ok Tryz.prog w from rfl]
  simp only [hf, h1, h2, Bool.false_eq_true, if_false, Sem.run_pure]
end Go.Proofs.YtlbkbjeajcadiaaGreatDoor.P
