/- Several texts in one. -/
import Derived.Test.YtpeiamllkddhiaaGreatDoorMrg3
import Derived.Test.YtpeiamllkddhiaaGreatDoorSesR

/- A region that draws its order, by an invariant over what is done: each operation shown once. -/
namespace Go.Proofs.YtpeiamllkddhiaaGreatDoor.M
open Go.RowKit
set_option linter.unusedVariables false
section
variable {P : Program} {ops : Array Oper} {Q : Exit → Act → World → Prop}
/-- each operation waits for earlier ones alone -/
def fwdB (ops : Array Oper) : Bool := (List.range ops.size).all fun i => ((ops[i]?).map fun o => o.after.all fun e => !Region.binds .any e || decide (e.on < i)).getD true
theorem fwd_of (h : fwdB ops = true) {i : Nat} {o : Oper} (hi : ops[i]? = some o) : ∀ e ∈ o.after, Region.binds .any e = true → e.on < i := by
  intro e he hb
  have hil : i < ops.size := (Array.getElem?_eq_some_iff.1 hi).1
  have h1 := List.all_eq_true.1 h i (List.mem_range.2 hil)
  rw [hi] at h1
  simp only [Option.map_some, Option.getD_some] at h1
  have h2 := Array.all_eq_true_iff_forall_mem.1 h1 e he
  rw [hb] at h2
  simpa using h2
theorem getD_true_false {l : Array Bool} {i : Nat} (hi : i < l.size) : l.getD i true = l.getD i false := by
  simp [Array.getD, hi]
theorem ready_some (hf : fwdB ops = true) {listed : Array Bool} (hs : listed.size = ops.size) : ∀ i, i < ops.size → listed.getD i true = false → Region.ready .any ops listed ≠ [] := by
  intro i
  induction i using Nat.strongRecOn with
  | _ i ih =>
    intro hi hn hr
    have ho : ops[i]? = some (ops[i]'hi) := Array.getElem?_eq_getElem hi
    by_cases hall : ∀ e ∈ (ops[i]'hi).after, Region.binds .any e = true → listed.getD e.on false = true
    · have : i ∈ Region.ready .any ops listed := mem_ready.2 ⟨hn, _, ho, hall⟩
      rw [hr] at this
      cases this
    · have : ∃ e, e ∈ (ops[i]'hi).after ∧ Region.binds .any e = true ∧ listed.getD e.on false = false := by
        refine Classical.byContradiction fun hc => hall fun e he hb => ?_
        cases hl : listed.getD e.on false with
        | true => rfl
        | false => exact absurd ⟨e, he, hb, hl⟩ hc
      obtain ⟨e, he, hb, hl⟩ := this
      have hlt := fwd_of hf ho e he hb
      exact ih e.on hlt (by omega) (by rw [getD_true_false (by omega)]; exact hl) hr
def openN (l : Array Bool) : Nat := l.toList.count false
theorem openN_set {l : Array Bool} {i : Nat} (hi : i < l.size) (hn : l.getD i true = false) : openN l = openN (l.setIfInBounds i true) + 1 := by
  unfold openN
  rw [Array.toList_setIfInBounds]
  have hil : i < l.toList.length := by simpa using hi
  have hg : l.toList[i]'hil = false := by
    have : l.getD i true = l[i] := by simp [Array.getD, hi]
    rw [this] at hn
    simpa using hn
  have hpos : 0 < l.toList.count false := List.count_pos_iff.2 (by rw [← hg]; exact List.getElem_mem hil)
  rw [List.count_set hil, hg]
  simp only [BEq.rfl, if_true, show (true == false) = false from rfl, Bool.false_eq_true, if_false]
  omega
theorem openN_zero {l : Array Bool} (h : openN l = 0) {i : Nat} (hi : i < l.size) : l.getD i true = true := by
  unfold openN at h
  have hg : l.getD i true = l[i] := by simp [Array.getD, hi]
  rw [hg]
  cases hl : l[i] with
  | true => rfl
  | false =>
    have := List.count_eq_zero.1 h
    exact absurd (by rw [← hl]; exact Array.mem_toList_iff.2 (Array.getElem_mem hi)) this
/-- A REGION that draws its order: what holds is kept by each operation that may come up. -/
theorem wp_region_inv {id : Nat} {arr : Array Value} {w : World} (I : Array Value → Array Bool → Act → World → Prop) (hm : P.follows .mixedOrders = true) (hf : fwdB ops = true)
    (h0 : I arr (Array.replicate ops.size false) ⟨arr, []⟩ { w with drawn := w.drawn + 1 })
    (hstep : ∀ (listed : Array Bool) (a : Act) (w : World) (i : Nat) (o : Oper), I arr listed a w → i < ops.size → ops[i]? = some o → listed.getD i true = false → (∀ e ∈ o.after, Region.binds .any e = true → listed.getD e.on false = true) →
      wpOp P ops Q i (I arr (listed.setIfInBounds i true)) a w)
    (hdone : ∀ (listed : Array Bool) (a : Act) (w : World), I arr listed a w → (∀ i, i < ops.size → listed.getD i true = true) → Q .normal a w) : (Code.region id ops true).wp P Q ⟨arr, []⟩ w := by
  refine wp_region_any hm ?_
  have key : ∀ (f : Nat) (listed : Array Bool) (a : Act) (w : World), listed.size = ops.size → openN listed = f → I arr listed a w → wpAny P .any ops Q f listed a w := by
    intro f
    induction f with
    | zero =>
      intro listed a w hs hc hI
      have hall : ∀ i, i < ops.size → listed.getD i true = true := fun i hi => openN_zero hc (by omega)
      refine ⟨List.eq_nil_iff_forall_not_mem.2 fun i hi => ?_, hdone listed a w hI hall⟩
      obtain ⟨hn, o, ho, _⟩ := mem_ready.1 hi
      rw [hall i (Array.getElem?_eq_some_iff.1 ho).1] at hn
      cases hn
    | succ f ih =>
      intro listed a w hs hc hI
      refine ⟨fun hr => ?_, fun i hi => ?_⟩
      · have : ∃ i, i < ops.size ∧ listed.getD i true = false := by
          have hpos : 0 < listed.toList.count false := by unfold openN at hc; omega
          obtain ⟨i, hi, he⟩ := List.mem_iff_getElem.1 (List.count_pos_iff.1 hpos)
          have hi2 : i < listed.size := by simpa using hi
          refine ⟨i, by omega, ?_⟩
          have hg : listed.getD i true = listed[i] := by simp [Array.getD, hi2]
          rw [hg]
          simpa using he
        obtain ⟨i, hi, hn⟩ := this
        exact absurd hr (ready_some hf hs i hi hn)
      · obtain ⟨hn, o, ho, hall⟩ := mem_ready.1 hi
        have hil := (Array.getElem?_eq_some_iff.1 ho).1
        have hcc := openN_set (l := listed) (i := i) (by omega) hn
        exact wpOp_mono (fun a' w' h => ih _ a' w' (by simpa using hs) (by omega) h) (hstep listed a w i o hI hil ho hn hall)
  refine key _ _ _ _ (by simp) ?_ h0
  unfold openN
  simp
/-- one operation, what follows behind a variable -/
theorem wpOp_hid {K : Act → World → Prop} {i : Nat} {o : Oper} {a : Act} {w : World} (hi : ops[i]? = some o)
    (h : ∀ K' : Act → World → Prop, Hid (∀ a w, K a w → K' a w) → if Region.wanted o (yielded ops a.tmps) = true then Oper.wp P o a w K' Q else K' (a.put o.dst undef) w) : wpOp P ops Q i K a w := by
  unfold wpOp
  rw [hi]
  simp only
  have := h K (Lib.hid fun _ _ h => h)
  split
  · rename_i hw
    rw [if_pos hw] at this
    exact .inl this
  · rename_i hw
    rw [if_neg hw] at this
    exact this
end
end Go.Proofs.YtpeiamllkddhiaaGreatDoor.M

/- The document's sessions: what holds in the two drawn regions that append a client. -/
namespace Go.Proofs.YtpeiamllkddhiaaGreatDoor.P
open Go.RowKit Go.Proofs.YtpeiamllkddhiaaGreatDoor.R Go.Proofs.YtpeiamllkddhiaaGreatDoor.M Go.BigFrame
set_option linter.unusedVariables false
set_option linter.unusedSimpArgs false

/-- the block of a slice's own row -/
def Owned (oo : Option Addr) (j : Nat) : Prop := ∃ a, oo = some a ∧ j = a.block
theorem owned_of {oo : Option Addr} {n c j : Nat} (h : (Value.slice oo n c).ownBlock = some j) : Owned oo j := by
  cases oo with
  | none => cases h
  | some a => exact ⟨a, rfl, (Option.some.inj h).symm⟩
theorem own_ge {w : World} {B n cap size j : Nat} {e : TypeId} {ao : Option Addr} {xs : List Value} (h : w.ownsRow B e size (.slice ao n cap) n xs) (hj : (Value.slice ao n cap).ownBlock = some j) : B ≤ j := by
  obtain ⟨a, rfl, rfl⟩ := owned_of hj
  exact (own_heap h a rfl).choose_spec.2
theorem last_cell {w : World} {g j : Nat} {x : Lst} {v : Value} {T : TypeId} (h : w.heap[g]? = some (.cells (lastC x).toArray T (0, 0))) (hv : (lastC x)[j]? = some v) : w.cell? ((⟨g, 0, none⟩ : Addr).add j) = some v := by
  rw [show (⟨g, 0, none⟩ : Addr).add j = ⟨g, 0 + j, none⟩ from Go.WideShapes.add_plain _ _ _]
  rw [cell_of_row w g (0 + j) _ _ _ h, Nat.zero_add]
  simpa using hv
theorem set_self (arr : Array Value) (j : Nat) : arr.setIfInBounds j (arr.getD j undef) = arr := by
  apply Array.ext_getElem?
  intro i
  rw [Array.getElem?_setIfInBounds]
  by_cases h : j = i
  · subst h
    by_cases hj : j < arr.size
    · simp [Array.getD, hj]
    · simp [hj]
  · simp [h]
structure R17S (u : World) (B g2 g9 : Nat) (oy : Option Addr) (ly cy : Nat) (oo : Option Addr) (D : List Lst) (cc2 : Nat) (oc : Option Addr) (lc cc k pb po : Nat) (x : Lst) (b0 b1 b2 b3 b4 b5 b6 b7 b8 b9 b10 : Bool) (x89 x90 x91 x92 x93 x94 x95 x96 x97 x98 : Value) (w : World) : Prop where
  k0 : b0 = true → x89 = .pointer (some ⟨g9, 1, none⟩)
  k1 : b1 = true → x90 = .slice oo D.length cc2
  k2 : b2 = true → x91 = .pointer (some ⟨g2, 1, none⟩)
  k3 : b3 = true → x92 = .slice oc lc cc
  k4 : b4 = true → x93 = .int .i64 (k : Int)
  k5 : b5 = true → x94 = .pointer (some ⟨pb, po + k * 5, none⟩)
  k6 : b6 = true → x95 = .agg #[.int .i64 x.client, .int .i64 x.seq, .int .i64 x.rep.code, .string x.rep.val, .int .i64 x.rep.rev]
  k9 : b9 = true → x98 = .pointer (some ⟨g9, 1, none⟩)
  kin : b8 = false → Below u.heap.size u w
  kb : b7 = true → b8 = false → ∃ g, x96 = .slice (some ⟨g, 0, none⟩) 1 1 ∧ w.heap[g]? = some (.cells (lastC x).toArray 45 (0, 0))
  ka : b8 = true → b10 = false → ∃ ao cap, x97 = .slice ao (D.length + 1) cap ∧ w.ownsRow B 45 5 (.slice ao (D.length + 1) cap) (D.length + 1) (cellsC D ++ lastC x) ∧ Mods (Owned oo) u w
  ks : b10 = true → ∃ ao cap, w.ownsRow B 45 5 (.slice ao (D.length + 1) cap) (D.length + 1) (cellsC D ++ lastC x) ∧ Mods (fun j => Owned oo j ∨ j = g9) u w ∧ w.heap[g9]? = some (.cells #[.slice oy ly cy, .slice ao (D.length + 1) cap] 30 (0, 0))
  c1_0 : b1 = true → b0 = true
  c3_2 : b3 = true → b2 = true
  c5_3 : b5 = true → b3 = true
  c5_4 : b5 = true → b4 = true
  c6_5 : b6 = true → b5 = true
  c7_6 : b7 = true → b6 = true
  c8_1 : b8 = true → b1 = true
  c8_7 : b8 = true → b7 = true
  c10_9 : b10 = true → b9 = true
  c10_8 : b10 = true → b8 = true
def R17I (u : World) (B g2 g9 : Nat) (oy : Option Addr) (ly cy : Nat) (oo : Option Addr) (D : List Lst) (cc2 : Nat) (oc : Option Addr) (lc cc k pb po : Nat) (x : Lst) (arr : Array Value) (listed : Array Bool) (a : Act) (w : World) : Prop :=
  ∃ (b0 b1 b2 b3 b4 b5 b6 b7 b8 b9 b10 : Bool) (x89 x90 x91 x92 x93 x94 x95 x96 x97 x98 : Value), listed = #[b0, b1, b2, b3, b4, b5, b6, b7, b8, b9, b10] ∧ a = ⟨((((((((((arr.setIfInBounds 89 x89).setIfInBounds 90 x90).setIfInBounds 91 x91).setIfInBounds 92 x92).setIfInBounds 93 x93).setIfInBounds 94 x94).setIfInBounds 95 x95).setIfInBounds 96 x96).setIfInBounds 97 x97).setIfInBounds 98 x98), []⟩ ∧ R17S u B g2 g9 oy ly cy oo D cc2 oc lc cc k pb po x b0 b1 b2 b3 b4 b5 b6 b7 b8 b9 b10 x89 x90 x91 x92 x93 x94 x95 x96 x97 x98 w
theorem R17_start (u : World) (B g2 g9 : Nat) (oy : Option Addr) (ly cy : Nat) (oo : Option Addr) (D : List Lst) (cc2 : Nat) (oc : Option Addr) (lc cc k pb po : Nat) (x : Lst) (arr : Array Value) (w : World) (h : ∀ x89 x90 x91 x92 x93 x94 x95 x96 x97 x98, R17S u B g2 g9 oy ly cy oo D cc2 oc lc cc k pb po x false false false false false false false false false false false x89 x90 x91 x92 x93 x94 x95 x96 x97 x98 w) : R17I u B g2 g9 oy ly cy oo D cc2 oc lc cc k pb po x arr (Array.replicate 11 false) ⟨arr, []⟩ w :=
  ⟨false, false, false, false, false, false, false, false, false, false, false, arr.getD 89 undef, arr.getD 90 undef, arr.getD 91 undef, arr.getD 92 undef, arr.getD 93 undef, arr.getD 94 undef, arr.getD 95 undef, arr.getD 96 undef, arr.getD 97 undef, arr.getD 98 undef, rfl, by simp only [set_self], h _ _ _ _ _ _ _ _ _ _⟩
structure R18S (u : World) (B g3 g8 g9 : Nat) (oy : Option Addr) (ly cy : Nat) (oo : Option Addr) (D : List Lst) (cc2 : Nat) (x : Lst) (b0 b1 b2 b3 b4 b5 b6 b7 b8 b9 b10 b11 : Bool) (x99 x100 x101 x102 x103 x104 x105 x106 x107 x108 x109 : Value) (w : World) : Prop where
  k0 : b0 = true → x99 = .pointer (some ⟨g9, 1, none⟩)
  k1 : b1 = true → x100 = .slice oo D.length cc2
  k2 : b2 = true → x101 = .pointer (some ⟨g3, 1, none⟩)
  k3 : b3 = true → x102 = .int .i64 x.client
  k4 : b4 = true → x103 = .pointer (some ⟨g3, 2, none⟩)
  k5 : b5 = true → x104 = .int .i64 x.seq
  k6 : b6 = true → x105 = .agg #[.int .i64 x.rep.code, .string x.rep.val, .int .i64 x.rep.rev]
  k7 : b7 = true → x106 = .agg #[.int .i64 x.client, .int .i64 x.seq, .int .i64 x.rep.code, .string x.rep.val, .int .i64 x.rep.rev]
  k10 : b10 = true → x109 = .pointer (some ⟨g9, 1, none⟩)
  kin : b9 = false → Below u.heap.size u w
  kb : b8 = true → b9 = false → ∃ g, x107 = .slice (some ⟨g, 0, none⟩) 1 1 ∧ w.heap[g]? = some (.cells (lastC x).toArray 45 (0, 0))
  ka : b9 = true → b11 = false → ∃ ao cap, x108 = .slice ao (D.length + 1) cap ∧ w.ownsRow B 45 5 (.slice ao (D.length + 1) cap) (D.length + 1) (cellsC D ++ lastC x) ∧ Mods (Owned oo) u w
  ks : b11 = true → ∃ ao cap, w.ownsRow B 45 5 (.slice ao (D.length + 1) cap) (D.length + 1) (cellsC D ++ lastC x) ∧ Mods (fun j => Owned oo j ∨ j = g9) u w ∧ w.heap[g9]? = some (.cells #[.slice oy ly cy, .slice ao (D.length + 1) cap] 30 (0, 0))
  c1_0 : b1 = true → b0 = true
  c3_2 : b3 = true → b2 = true
  c5_4 : b5 = true → b4 = true
  c7_3 : b7 = true → b3 = true
  c7_5 : b7 = true → b5 = true
  c7_6 : b7 = true → b6 = true
  c8_7 : b8 = true → b7 = true
  c9_1 : b9 = true → b1 = true
  c9_8 : b9 = true → b8 = true
  c11_10 : b11 = true → b10 = true
  c11_9 : b11 = true → b9 = true
def R18I (u : World) (B g3 g8 g9 : Nat) (oy : Option Addr) (ly cy : Nat) (oo : Option Addr) (D : List Lst) (cc2 : Nat) (x : Lst) (arr : Array Value) (listed : Array Bool) (a : Act) (w : World) : Prop :=
  ∃ (b0 b1 b2 b3 b4 b5 b6 b7 b8 b9 b10 b11 : Bool) (x99 x100 x101 x102 x103 x104 x105 x106 x107 x108 x109 : Value), listed = #[b0, b1, b2, b3, b4, b5, b6, b7, b8, b9, b10, b11] ∧ a = ⟨(((((((((((arr.setIfInBounds 99 x99).setIfInBounds 100 x100).setIfInBounds 101 x101).setIfInBounds 102 x102).setIfInBounds 103 x103).setIfInBounds 104 x104).setIfInBounds 105 x105).setIfInBounds 106 x106).setIfInBounds 107 x107).setIfInBounds 108 x108).setIfInBounds 109 x109), []⟩ ∧ R18S u B g3 g8 g9 oy ly cy oo D cc2 x b0 b1 b2 b3 b4 b5 b6 b7 b8 b9 b10 b11 x99 x100 x101 x102 x103 x104 x105 x106 x107 x108 x109 w
theorem R18_start (u : World) (B g3 g8 g9 : Nat) (oy : Option Addr) (ly cy : Nat) (oo : Option Addr) (D : List Lst) (cc2 : Nat) (x : Lst) (arr : Array Value) (w : World) (h : ∀ x99 x100 x101 x102 x103 x104 x105 x106 x107 x108 x109, R18S u B g3 g8 g9 oy ly cy oo D cc2 x false false false false false false false false false false false false x99 x100 x101 x102 x103 x104 x105 x106 x107 x108 x109 w) : R18I u B g3 g8 g9 oy ly cy oo D cc2 x arr (Array.replicate 12 false) ⟨arr, []⟩ w :=
  ⟨false, false, false, false, false, false, false, false, false, false, false, false, arr.getD 99 undef, arr.getD 100 undef, arr.getD 101 undef, arr.getD 102 undef, arr.getD 103 undef, arr.getD 104 undef, arr.getD 105 undef, arr.getD 106 undef, arr.getD 107 undef, arr.getD 108 undef, arr.getD 109 undef, rfl, by simp only [set_self], h _ _ _ _ _ _ _ _ _ _ _⟩
end Go.Proofs.YtpeiamllkddhiaaGreatDoor.P
