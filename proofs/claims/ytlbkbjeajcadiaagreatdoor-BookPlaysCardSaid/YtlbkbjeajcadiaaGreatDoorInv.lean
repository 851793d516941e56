/- A region that draws its order, by an invariant over what is done: each operation shown once. -/
import Derived.Test.YtlbkbjeajcadiaaGreatDoorMrg8
namespace Go.Proofs.YtlbkbjeajcadiaaGreatDoor.M
open Go.RowKit
set_option linter.unusedVariables false
section
variable {P : Program} {ops : Array Oper} {Q : Exit → Act → World → Prop}
/-- each operation waits for earlier ones alone -/
def fwdB (ops : Array Oper) : Bool := (List.range ops.size).all fun i => ((ops[i]?).map fun o => o.after.all fun e => !Region.binds .any e || decide (e.on < i)).getD true
theorem fwd_of (h : fwdB ops = true) {i : Nat} {o : Oper} (hi : ops[i]? = some o) : ∀ e ∈ o.after, Region.binds .any e = true → e.on < i := by
  intro e he hb
  have hil : i < ops.size := (Array.getElem?_eq_some_iff.1 hi).1
  have h1 := List.all_eq_true.1 h i (List.mem_range.2 hil)
  rw [hi] at h1
  simp only [Option.map_some, Option.getD_some] at h1
  have h2 := Array.all_eq_true_iff_forall_mem.1 h1 e he
  rw [hb] at h2
  simpa using h2
theorem getD_true_false {l : Array Bool} {i : Nat} (hi : i < l.size) : l.getD i true = l.getD i false := by
  simp [Array.getD, hi]
theorem ready_some (hf : fwdB ops = true) {listed : Array Bool} (hs : listed.size = ops.size) : ∀ i, i < ops.size → listed.getD i true = false → Region.ready .any ops listed ≠ [] := by
  intro i
  induction i using Nat.strongRecOn with
  | _ i ih =>
    intro hi hn hr
    have ho : ops[i]? = some (ops[i]'hi) := Array.getElem?_eq_getElem hi
    by_cases hall : ∀ e ∈ (ops[i]'hi).after, Region.binds .any e = true → listed.getD e.on false = true
    · have : i ∈ Region.ready .any ops listed := mem_ready.2 ⟨hn, _, ho, hall⟩
      rw [hr] at this
      cases this
    · have : ∃ e, e ∈ (ops[i]'hi).after ∧ Region.binds .any e = true ∧ listed.getD e.on false = false := by
        refine Classical.byContradiction fun hc => hall fun e he hb => ?_
        cases hl : listed.getD e.on false with
        | true => rfl
        | false => exact absurd ⟨e, he, hb, hl⟩ hc
      obtain ⟨e, he, hb, hl⟩ := this
      have hlt := fwd_of hf ho e he hb
      exact ih e.on hlt (by omega) (by rw [getD_true_false (by omega)]; exact hl) hr
def openN (l : Array Bool) : Nat := l.toList.count false
theorem openN_set {l : Array Bool} {i : Nat} (hi : i < l.size) (hn : l.getD i true = false) : openN l = openN (l.setIfInBounds i true) + 1 := by
  unfold openN
  rw [Array.toList_setIfInBounds]
  have hil : i < l.toList.length := by simpa using hi
  have hg : l.toList[i]'hil = false := by
    have : l.getD i true = l[i] := by simp [Array.getD, hi]
    rw [this] at hn
    simpa using hn
  have hpos : 0 < l.toList.count false := List.count_pos_iff.2 (by rw [← hg]; exact List.getElem_mem hil)
  rw [List.count_set hil, hg]
  simp only [BEq.rfl, if_true, show (true == false) = false from rfl, Bool.false_eq_true, if_false]
  omega
theorem openN_zero {l : Array Bool} (h : openN l = 0) {i : Nat} (hi : i < l.size) : l.getD i true = true := by
  unfold openN at h
  have hg : l.getD i true = l[i] := by simp [Array.getD, hi]
  rw [hg]
  cases hl : l[i] with
  | true => rfl
  | false =>
    have := List.count_eq_zero.1 h
    exact absurd (by rw [← hl]; exact Array.mem_toList_iff.2 (Array.getElem_mem hi)) this
/-- A REGION that draws its order: what holds is kept by each operation that may come up. -/
theorem wp_region_inv {id : Nat} {arr : Array Value} {w : World} (I : Array Value → Array Bool → Act → World → Prop) (hm : P.follows .mixedOrders = true) (hf : fwdB ops = true)
    (h0 : I arr (Array.replicate ops.size false) ⟨arr, []⟩ { w with drawn := w.drawn + 1 })
    (hstep : ∀ (listed : Array Bool) (a : Act) (w : World) (i : Nat) (o : Oper), I arr listed a w → i < ops.size → ops[i]? = some o → listed.getD i true = false → (∀ e ∈ o.after, Region.binds .any e = true → listed.getD e.on false = true) →
      wpOp P ops Q i (I arr (listed.setIfInBounds i true)) a w)
    (hdone : ∀ (listed : Array Bool) (a : Act) (w : World), I arr listed a w → (∀ i, i < ops.size → listed.getD i true = true) → Q .normal a w) : (Code.region id ops true).wp P Q ⟨arr, []⟩ w := by
  refine wp_region_any hm ?_
  have key : ∀ (f : Nat) (listed : Array Bool) (a : Act) (w : World), listed.size = ops.size → openN listed = f → I arr listed a w → wpAny P .any ops Q f listed a w := by
    intro f
    induction f with
    | zero =>
      intro listed a w hs hc hI
      have hall : ∀ i, i < ops.size → listed.getD i true = true := fun i hi => openN_zero hc (by omega)
      refine ⟨List.eq_nil_iff_forall_not_mem.2 fun i hi => ?_, hdone listed a w hI hall⟩
      obtain ⟨hn, o, ho, _⟩ := mem_ready.1 hi
      rw [hall i (Array.getElem?_eq_some_iff.1 ho).1] at hn
      cases hn
    | succ f ih =>
      intro listed a w hs hc hI
      refine ⟨fun hr => ?_, fun i hi => ?_⟩
      · have : ∃ i, i < ops.size ∧ listed.getD i true = false := by
          have hpos : 0 < listed.toList.count false := by unfold openN at hc; omega
          obtain ⟨i, hi, he⟩ := List.mem_iff_getElem.1 (List.count_pos_iff.1 hpos)
          have hi2 : i < listed.size := by simpa using hi
          refine ⟨i, by omega, ?_⟩
          have hg : listed.getD i true = listed[i] := by simp [Array.getD, hi2]
          rw [hg]
          simpa using he
        obtain ⟨i, hi, hn⟩ := this
        exact absurd hr (ready_some hf hs i hi hn)
      · obtain ⟨hn, o, ho, hall⟩ := mem_ready.1 hi
        have hil := (Array.getElem?_eq_some_iff.1 ho).1
        have hcc := openN_set (l := listed) (i := i) (by omega) hn
        exact wpOp_mono (fun a' w' h => ih _ a' w' (by simpa using hs) (by omega) h) (hstep listed a w i o hI hil ho hn hall)
  refine key _ _ _ _ (by simp) ?_ h0
  unfold openN
  simp
/-- one operation, what follows behind a variable -/
theorem wpOp_hid {K : Act → World → Prop} {i : Nat} {o : Oper} {a : Act} {w : World} (hi : ops[i]? = some o)
    (h : ∀ K' : Act → World → Prop, Hid (∀ a w, K a w → K' a w) → if Region.wanted o (yielded ops a.tmps) = true then Oper.wp P o a w K' Q else K' (a.put o.dst undef) w) : wpOp P ops Q i K a w := by
  unfold wpOp
  rw [hi]
  simp only
  have := h K (Lib.hid fun _ _ h => h)
  split
  · rename_i hw
    rw [if_pos hw] at this
    exact .inl this
  · rename_i hw
    rw [if_neg hw] at this
    exact this
end
end Go.Proofs.YtlbkbjeajcadiaaGreatDoor.M
