/- Several texts in one. -/
import Derived.Test.YtkgjfagejnppbaaGreatDoorMrg13
import Derived.RangeFuncBox
import Derived.RangeFuncLeaves
import Derived.RangeFuncNested
import Derived.Shelf.Abstract
import Derived.WalkKit
import Derived.OwnWalkIn
import Derived.TacticsInMore
import Derived.LoopNIn
import Derived.LoopIn

/- Records sorted by their ids (slices.SortFunc), and within a component (slices.SortStableFunc). -/
namespace Go.Proofs.YtkgjfagejnppbaaGreatDoor.O
open Go.RowKit Go.Proofs.YtkgjfagejnppbaaGreatDoor.M Go.BigFrame Go.Sort
set_option linter.unusedVariables false
set_option linter.unusedSimpArgs false

set_option maxRecDepth 100000 in
set_option maxHeartbeats 1000000 in
theorem sortR_ins (p : Option Addr) (cap : Nat) (fv : Value) (w : World) :
    Calls Tryz.prog 162 #[.slice p 0 cap, .int .i64 0, .int .i64 0, fv] w fun e w' => e = .returned (.tuple #[]) ∧ w = w' := by
  go_enter Tryz.func162, Tryz.ntmps162
  go_wp2_with fail
  refine wp_loop_rounds 1 ?_
  rw [rounds_succ]
  go_wp2_with fail
  go_end0
  exact ⟨rfl, rfl⟩
set_option maxRecDepth 100000 in
set_option maxHeartbeats 1000000 in
theorem sortR_pdq (p : Option Addr) (cap : Nat) (lim : Int) (fv : Value) (w : World) :
    Calls Tryz.prog 138 #[.slice p 0 cap, .int .i64 0, .int .i64 0, .int .i64 lim, fv] w fun e w' => e = .returned (.tuple #[]) ∧ w = w' := by
  have hi := Lib.hid (fun W => sortR_ins p cap fv W)
  go_enter Tryz.func138, Tryz.ntmps138
  go_wp2_with fail
  refine wp_loop_rounds 1 ?_
  rw [rounds_succ]
  go_wp2_with (go_at_call 162; refine (hi.out _).mono ?_; rintro e w' ⟨rfl, rfl⟩)
  (try simp only [Exit.inBlock, Exit.then])
  refine bodyPost_ret (v := .tuple #[]) (results_none rfl _ _ _) rfl ?_
  exact ⟨rfl, rfl⟩
set_option maxRecDepth 100000 in
set_option maxHeartbeats 1000000 in
theorem sortR_zero (p : Option Addr) (cap : Nat) (fv : Value) (w : World) :
    Calls Tryz.prog 103 #[.slice p 0 cap, fv] w fun e w' => e = .returned (.tuple #[]) ∧ w = w' := by
  have hp := Lib.hid (fun lim W => sortR_pdq p cap lim fv W)
  have hl := Lib.hid K.len_zero
  go_enter Tryz.func103, Tryz.ntmps103
  go_wp2_with (first | (go_at_call 87; refine (hl.out _).mono ?_; rintro e w' ⟨⟨l, rfl⟩, rfl⟩) | (go_at_call 138; refine (hp.out _ _).mono ?_; rintro e w' ⟨rfl, rfl⟩))
  go_end0
  exact ⟨rfl, rfl⟩
theorem recC_one (x : Rv) : ∀ v ∈ recC x, v.oneCell' = true := by
  intro v hv
  simp only [recC, recA, List.mem_cons, List.not_mem_nil, or_false] at hv
  rcases hv with rfl | rfl | rfl | rfl | rfl | rfl | rfl | rfl | rfl | rfl | rfl | rfl | rfl | rfl | rfl | rfl <;> rfl
/-- by ids -/
def bco (x y : Rv) : Int := ico x.id y.id
theorem bco_lt (a b : Rv) : ltOf bco a b = ilt a.id b.id := ico_lt a.id b.id
theorem bco_swo : SWO (ltOf bco) where
  irrefl x := by rw [bco_lt]; exact ilt_irr _
  trans x y z h1 h2 := by rw [bco_lt] at *; exact ilt_trans h1 h2
  ntrans x y z h1 h2 := by
    rw [bco_lt] at *
    rw [ilt_no] at *
    omega
theorem wco_lt (a b : Rv) : ltOf wco a b = wlt a.nd b.nd := by
  unfold ltOf
  rw [Bool.eq_iff_iff, decide_eq_true_eq]
  exact wco_neg
theorem wlt_ints {a b : Nd} : wlt a b = true ↔ a.tag < b.tag ∨ (a.tag = b.tag ∧ ((a.tag = 1 ∧ a.seq < b.seq) ∨ ((a.tag ≠ 1 ∨ a.seq = b.seq) ∧ (a.id.n < b.id.n ∨ (a.id.n = b.id.n ∧ a.id.r < b.id.r))))) := by
  rw [wlt_iff, ilt_iff]
theorem wlt_ntrans {a b c : Nd} (h1 : wlt a b = false) (h2 : wlt b c = false) : wlt a c = false := by
  rw [← Bool.not_eq_true, wlt_ints] at *
  omega
theorem wco_swo : SWO (ltOf wco) where
  irrefl x := by rw [wco_lt]; exact wlt_irr _
  trans x y z h1 h2 := by rw [wco_lt] at *; exact wlt_trans h1 h2
  ntrans x y z h1 h2 := by rw [wco_lt] at *; exact wlt_ntrans h1 h2
abbrev OwnR (w : World) (B : Nat) (oo : Option Addr) (oc : Nat) (X : List Rv) : Prop := w.ownsRow B 43 16 (.slice oo X.length oc) X.length (X.flatMap recC)
theorem eg_byid : ∀ args w, (callFunc 79 args).run Tryz.prog w = .ok (.enter 79 args) w := enters_of Tryz.func79 (by kernel_rfl) rfl
theorem eg_within : ∀ args w, (callFunc 108 args).run Tryz.prog w = .ok (.enter 108 args) w := enters_of Tryz.func108 (by kernel_rfl) rfl
/-- a row of records, sorted by their ids -/
theorem sortR_any (B : Nat) (w : World) (ao : Option Addr) (cap : Nat) (X : List Rv) (h : OwnR w B ao cap X) (hl : X.length ≤ 1000000) :
    Calls Tryz.prog 103 #[.slice ao X.length cap, .func (.func 79) #[] #[]] w fun e w' => e = .returned (.tuple #[]) ∧
      ∃ m : List Rv, (m.Perm X ∧ m.Pairwise (fun a b => ilt b.id a.id = false) ∧ m.length = X.length ∧ OwnR w' B ao cap m ∧ Mods (fun j => ∃ a, ao = some a ∧ j = a.block) w w') := by
  obtain ⟨ao', cap', e0, h1, h2, h3, h4⟩ := own_view h
  cases e0
  cases ao with
  | none =>
    have h0 := (h3 rfl).1
    have hl0 : X = [] := List.length_eq_zero_iff.1 h0
    subst hl0
    exact (sortR_zero _ _ _ _).mono fun e w' ⟨he, hw⟩ => ⟨he, [], .refl _, .nil, rfl, hw ▸ h, hw ▸ Mods.refl _ _⟩
  | some a =>
    obtain ⟨g, cur, rfl, hB, hg, _, _⟩ := h4 a rfl
    have hd : X.toArray.size = X.length := by simp
    have hown : w.ownsRow B 43 16 (.slice (some ⟨g, 0, none⟩) X.length cap) X.length (X.toArray.toList.flatMap recC) := h
    have hH := own_holdsK recC 16 (fun _ => rfl) (by decide) hown hd
    have hcmp : CmpLays Tryz.prog 79 #[] recC 16 bco g 0 X.toArray.size w := by
      intro m os dk hs x y
      exact (byid_any x y _ _ rfl).mono fun e w' ⟨he, q, os', hw⟩ => ⟨he, q, os', hw⟩
    have hc := AnyQ.slices_SortFunc Tryz.sortC103 16 Tryz.isAgg43 Tryz.sizeOf43 recC (fun _ => rfl) recC_one bco bco_swo 79 #[] g 0 cap X.toArray w eg_byid hcmp hH (heap_lt hg) (by rw [hd]; omega)
    rw [hd] at hc
    refine hc.mono ?_
    rintro e w' ⟨rfl, d', m, os, ⟨hp1, _, hp3⟩, hs, rfl⟩
    rw [hd] at hp1
    rw [K.extract_all d' _ hp1, K.extract_all X.toArray _ hd] at hp3
    obtain ⟨ho, hm⟩ := own_sorted recC 16 (fun _ => rfl) (by decide) (m := m) (os := os) hown hp1
    have hdl : d'.toList.length = X.length := by simpa using hp1
    refine ⟨rfl, d'.toList, hp3, ?_, hdl, ?_, hm.mono fun k _ h => ⟨_, rfl, h⟩⟩
    · rw [List.pairwise_iff_getElem]
      intro i j hi hj hij
      have hi' : i < d'.size := by simpa using hi
      have hj' : j < d'.size := by simpa using hj
      have := hs i j (Nat.zero_le _) hij (by omega)
      rw [bco_lt] at this
      simpa [hi', hj'] using this
    · unfold OwnR
      rw [hdl]
      exact ho
/-- a part of a row of records, sorted in place -/
theorem insR_any (B : Nat) (w : World) (g cap : Nat) (X : List Rv) (a b : Nat) (h : OwnR w B (some ⟨g, 0, none⟩) cap X) (hab : a ≤ b) (hb : b ≤ X.length) (hl : X.length ≤ 1000000) :
    Calls Tryz.prog 162 #[.slice (some ⟨g, 0, none⟩) X.length cap, .int .i64 a, .int .i64 b, .func (.func 108) #[] #[]] w fun e w' => e = .returned (.tuple #[]) ∧
      ∃ m : List Rv, (m.toArray = Sort.insertionSort (ltOf wco) X.toArray a b ∧ m.length = X.length ∧ OwnR w' B (some ⟨g, 0, none⟩) cap m ∧ Mods (fun j => j = g) w w') := by
  have hd : X.toArray.size = X.length := by simp
  have hown : w.ownsRow B 43 16 (.slice (some ⟨g, 0, none⟩) X.length cap) X.length (X.toArray.toList.flatMap recC) := h
  have hH := own_holdsK recC 16 (fun _ => rfl) (by decide) hown hd
  have hg := (h.lt g rfl).2
  have hcmp : CmpLays Tryz.prog 108 #[] recC 16 wco g 0 X.toArray.size w := by
    intro m os dk hs x y
    exact (within_any x y _ _ rfl).mono fun e w' ⟨he, q, os', hw⟩ => ⟨he, q, os', hw⟩
  have hc := AnyQ.insertionSortCmpFunc (P := Tryz.prog) (ρ := Tryz.sortC103_ren) { Tryz.sortC103 with } 16 Tryz.isAgg43 Tryz.sizeOf43 recC (fun _ => rfl) recC_one wco 108 #[] g 0 cap a b X.toArray w eg_within hcmp hH hg hab (by rw [hd]; exact hb) (by rw [hd]; omega)
  rw [hd] at hc
  refine hc.mono ?_
  rintro e w' ⟨rfl, m, os, rfl⟩
  have hp := (insertionSort_holds wco_swo X.toArray a b hab (by rw [hd]; exact hb)).1.1
  rw [hd] at hp
  obtain ⟨ho, hm⟩ := own_sorted recC 16 (fun _ => rfl) (by decide) (m := m) (os := os) hown hp
  have hdl : (Sort.insertionSort (ltOf wco) X.toArray a b).toList.length = X.length := by simpa using hp
  refine ⟨rfl, (Sort.insertionSort (ltOf wco) X.toArray a b).toList, by simp, hdl, ?_, hm⟩
  unfold OwnR
  rw [hdl]
  exact ho
set_option maxRecDepth 100000 in
set_option maxHeartbeats 400000 in
theorem stableR_any (B : Nat) (w : World) (ao : Option Addr) (cap : Nat) (X : List Rv) (h : OwnR w B ao cap X) (hl : X.length ≤ 20) :
    Calls Tryz.prog 170 #[.slice ao X.length cap, .int .i64 X.length, .func (.func 108) #[] #[]] w fun e w' => e = .returned (.tuple #[]) ∧
      ∃ m : List Rv, (m.Perm X ∧ m.Pairwise (fun a b => wlt b.nd a.nd = false) ∧ m.length = X.length ∧ OwnR w' B ao cap m ∧ Mods (fun j => ∃ a, ao = some a ∧ j = a.block) w w') := by
  have HO := Lib.hid h
  obtain ⟨ao', cap', e0, h1, h2, h3, h4⟩ := own_view h
  cases e0
  unfold maxLen at h2
  cases ao with
  | none =>
    have h0 := (h3 rfl).1
    have hl0 : X = [] := List.length_eq_zero_iff.1 h0
    subst hl0
    clear h h3 h4 h1 h2 hl h0
    have hz := Lib.hid (fun W => sortR_ins none cap (.func (.func 108) #[] #[]) W)
    show Calls Tryz.prog 170 #[.slice none 0 cap, .int .i64 0, .func (.func 108) #[] #[]] w _
    go_enter Tryz.func170, Tryz.ntmps170
    go_wp2_with fail
    refine wp_loop_rounds 1 ?_
    rw [rounds_succ]
    go_wp2_with (go_at_call 162; refine (hz.out _).mono ?_; rintro e w' ⟨rfl, rfl⟩)
    refine wp_loop_rounds 1 ?_
    rw [rounds_succ]
    go_wp2_with fail
    go_end0
    exact ⟨rfl, [], .refl _, .nil, rfl, HO.out, Mods.refl _ _⟩
  | some a =>
    obtain ⟨g, cur, rfl, hB, hg, _, _⟩ := h4 a rfl
    clear h3 h4 hg
    have hd : X.toArray.size = X.length := by simp
    have HPW := Lib.hid (show ∀ m : List Rv, m.toArray = Sort.insertionSort (ltOf wco) X.toArray 0 X.length → m.Perm X ∧ m.Pairwise (fun a b => wlt b.nd a.nd = false) from fun m hm => by
      obtain ⟨⟨p1, _, p3⟩, hs⟩ := insertionSort_holds wco_swo X.toArray 0 X.length (Nat.zero_le _) (by rw [hd]; exact Nat.le_refl _)
      rw [← hm] at p1 p3 hs
      rw [K.extract_all m.toArray X.length (by rw [p1, hd]), K.extract_all X.toArray _ hd] at p3
      refine ⟨p3, ?_⟩
      rw [List.pairwise_iff_getElem]
      intro i j hi hj hij
      have := hs i j (Nat.zero_le _) hij (by rw [← hd, ← p1]; simpa using hj)
      rw [wco_lt] at this
      simpa [hi, hj] using this)
    by_cases h20 : X.length = 20
    · have hc := insR_any B w g cap X 0 20 h (by omega) (by omega) (by omega)
      rw [show ((20 : Nat) : Int) = (20 : Int) from rfl, show ((0 : Nat) : Int) = (0 : Int) from rfl] at hc
      have HC := Lib.hid hc
      clear hc
      have hle : (20 : Int) ≤ (X.length : Int) := by omega
      have hle2 : ¬ (40 : Int) ≤ (X.length : Int) := by omega
      have hlt2 : ¬ (20 : Int) < (X.length : Int) := by omega
      have H20 := Lib.hid h20
      clear h h20 hl hd
      go_enter Tryz.func170, Tryz.ntmps170
      go_wp2_with fail
      refine wp_loop_rounds 2 ?_
      rw [rounds_succ]
      go_wp2_with fail
      refine HC.out.mono ?_
      rintro e w1 ⟨rfl, m, hm, hml, hom, hmod⟩
      have HM := Lib.hid (HPW.out m (by rw [H20.out]; exact hm))
      have HOM := Lib.hid hom
      have HMD := Lib.hid hmod
      clear hm hom hmod HC HPW
      go_wp2_with fail
      rw [rounds_succ]
      have hc2 := insR_any B w1 g cap m 20 m.length HOM.out (by have := H20.out; omega) (Nat.le_refl _) (by have := H20.out; omega)
      rw [hml, show ((20 : Nat) : Int) = (20 : Int) from rfl] at hc2
      have HC2 := Lib.hid hc2
      clear hc2
      go_wp2_with fail
      refine HC2.out.mono ?_
      rintro e w2 ⟨rfl, m2, hm2, hml2, hom2, hmod2⟩
      have hid2 : m2 = m := by
        rw [H20.out] at hm2
        unfold Sort.insertionSort at hm2
        rw [Sort.insOuter, if_neg (by omega)] at hm2
        exact List.toArray_inj hm2
      have HOM2 := Lib.hid (show OwnR w2 B (some ⟨g, 0, none⟩) cap m by rw [← hid2]; exact hom2)
      have HMD2 := Lib.hid (HMD.out.trans hmod2)
      clear hm2 hid2 hom2 hmod2 HC2
      go_wp2_with fail
      refine wp_loop_rounds 1 ?_
      rw [rounds_succ]
      go_wp2_with fail
      go_end0
      exact ⟨rfl, m, HM.out.1, HM.out.2, hml, HOM2.out, HMD2.out.mono fun k _ h => ⟨_, rfl, h⟩⟩
    · have hlt : ¬ (20 : Int) ≤ (X.length : Int) := by omega
      have hlt2 : ¬ (20 : Int) < (X.length : Int) := by omega
      have hc := insR_any B w g cap X 0 X.length h (Nat.zero_le _) (Nat.le_refl _) (by omega)
      rw [show ((0 : Nat) : Int) = (0 : Int) from rfl] at hc
      have HC := Lib.hid hc
      clear hc
      clear h
      go_enter Tryz.func170, Tryz.ntmps170
      go_wp2_with fail
      refine wp_loop_rounds 1 ?_
      rw [rounds_succ]
      go_wp2_with fail
      refine HC.out.mono ?_
      rintro e w1 ⟨rfl, m, hm, hml, hom, hmod⟩
      have HM := Lib.hid (HPW.out m hm)
      have HOM := Lib.hid hom
      have HMD := Lib.hid hmod
      clear hm hom hmod HC HPW
      go_wp2_with fail
      refine wp_loop_rounds 1 ?_
      rw [rounds_succ]
      go_wp2_with fail
      go_end0
      exact ⟨rfl, m, HM.out.1, HM.out.2, hml, HOM.out, HMD.out.mono fun k _ h => ⟨_, rfl, h⟩⟩
set_option maxRecDepth 100000 in
set_option maxHeartbeats 400000 in
theorem sortStable_any (B : Nat) (w : World) (ao : Option Addr) (cap : Nat) (X : List Rv) (h : OwnR w B ao cap X) (hl : X.length ≤ 20) :
    Calls Tryz.prog 139 #[.slice ao X.length cap, .func (.func 108) #[] #[]] w fun e w' => e = .returned (.tuple #[]) ∧
      ∃ m : List Rv, (m.Perm X ∧ m.Pairwise (fun a b => wlt b.nd a.nd = false) ∧ m.length = X.length ∧ OwnR w' B ao cap m ∧ Mods (fun j => ∃ a, ao = some a ∧ j = a.block) w w') := by
  have HC := Lib.hid (stableR_any B w ao cap X h hl)
  clear h hl
  go_enter Tryz.func139, Tryz.ntmps139
  go_wp2_with fail
  refine HC.out.mono ?_
  rintro e w1 ⟨rfl, m, hp, hs, hml, hom, hmod⟩
  have HM := Lib.hid (And.intro hp (And.intro hs (And.intro hml (And.intro hom hmod))))
  clear hp hs hml hom hmod HC
  go_wp2_with fail
  go_end0
  exact ⟨rfl, m, HM.out⟩
end Go.Proofs.YtkgjfagejnppbaaGreatDoor.O

/- slices.Values, slices.AppendSeq and slices.Collect at records. -/
namespace Go.Proofs.YtkgjfagejnppbaaGreatDoor.O
open Go.RowKit Go.Proofs.YtkgjfagejnppbaaGreatDoor.M Go.BigFrame Go.Sort Go.Shelf
set_option linter.unusedVariables false
set_option linter.unusedSimpArgs false
attribute [local go_sem] Oper.semAt_some

set_option maxRecDepth 100000 in
set_option maxHeartbeats 4000000 in
theorem valuesR1_in (n : Nat) (hn : 1 ≤ n) (l Bs n₀ b off cap : Nat) (X : List Rv) (hl : X.length ≤ 1000000) (hb : b < n₀) (J Jx : List Rv → World → Prop) (W : World) (hJ : AbidesFrom W.heap.size J) (hn0 : n₀ ≤ W.heap.size)
    (hY : ∀ pre x W1, J pre W1 → pre.length < X.length → YieldAt Fence.wide (n - 1) Tryz.prog l #[recV x] W1 fun e W' => (e = .returned (.bool true) ∧ J (pre ++ [x]) W' ∧ Below n₀ W1 W') ∨ (e = .returned (.bool false) ∧ Jx (pre ++ [x]) W'))
    (hBs : W.cell? ⟨Bs, 0, none⟩ = some (.slice (some ⟨b, off, none⟩) X.length cap)) (hc : ∀ j x, X[j]? = some x → RecAt W b (off + j * 16) x) (h0 : J [] W) :
    CallsIn Fence.wide n Tryz.prog 104 #[.func (.yield l) #[] #[], .pointer (some ⟨Bs, 0, none⟩)] W fun e W' => (∃ v, e = .returned v) ∧
      ((∃ ys, ys = X ∧ J ys W') ∨ (∃ pre, pre <+: X ∧ Jx pre W')) := by
  refine callsIn_of_wp Tryz.func104 rfl trivial ?_ rfl
  simp only [Tryz.ntmps104, List.size_toArray, List.length_cons, List.length_nil, Nat.reduceAdd, Nat.reduceSub, Array.replicate_succ, Array.replicate_zero, List.push_toArray, List.append_toArray, List.nil_append, List.cons_append]
  gi_wp2
  gi_loopw [7] (fun i wr => ∃ k : Nat, k ≤ X.length ∧ i = .int .i64 k ∧ J (X.take k) wr ∧ Below n₀ W wr)
    (fun i _ => X.length - (intOf i).toNat)
  case atStart => exact ⟨0, Nat.zero_le _, rfl, h0, Below.refl _ _⟩
  case round =>
    obtain ⟨k, hk, rfl, hJs, hnx⟩ := hrel
    have HNX := Lib.hid hnx
    have HJ := Lib.hid hJs
    have HY := Lib.hid hY
    have HC := Lib.hid hc
    have HJA := Lib.hid hJ
    clear hnx hJs hY hc h0 hJ
    by_cases hlt : k < X.length
    · obtain ⟨x, hx⟩ : ∃ x, X[k]? = some x := ⟨_, List.getElem?_eq_getElem hlt⟩
      obtain ⟨c0, c1, c2, c3, c4, c5, c6, c7, c8, c9, c10, c11, c12, c13, c14, c15⟩ := RecAt.of (fun j hj => (HNX.out.cell (p := ⟨b, _, none⟩) hb).trans ((HC.out k x hx).get j hj))
      have HX := Lib.hid hx
      clear hx
      have HA : J (X.take k) (wr.alloc (recO x)) := HJA.out _ wr _ none HJ.out (World.grownBy_alloc wr _ none) (fun r e => by cases e)
      obtain ⟨fn, tmps, assign, body, hy, hR⟩ := HY.out _ x _ HA (by rw [List.length_take]; omega)
      have HR := Lib.hid hR
      have HXT := Lib.hid (show X.take k ++ [x] = X.take (k + 1) by rw [List.take_add_one, HX.out]; rfl)
      have HB2 := Lib.hid (HNX.out.alloc (Nat.le_trans hn0 HNX.out.size) (recO x))
      clear hR HA
      gi_wp2
      refine HR.out.mono ?_
      rintro e W3 (⟨rfl, hJ3, hk3⟩ | ⟨rfl, hJx3⟩)
      · have HJ3 := Lib.hid hJ3
        have HB3 := Lib.hid (HB2.out.trans hk3)
        clear hJ3 hk3
        gi_wp2
        go_roundw
        case rel => exact ⟨k + 1, by omega, by simp, by rw [← HXT.out]; exact HJ3.out, HB3.out⟩
        case measure => simp [intOf]; omega
      · gi_wp2
        refine bodyPost_ret (results_none rfl _ _ _) rfl ?_
        exact ⟨⟨_, rfl⟩, .inr ⟨_, by rw [HXT.out]; exact List.take_prefix _ _, hJx3⟩⟩
    · obtain rfl : k = X.length := by omega
      have HJE := Lib.hid (show J X wr from by have := HJ.out; rwa [List.take_length] at this)
      gi_wp2
      go_end0
      exact ⟨⟨_, rfl⟩, .inl ⟨_, rfl, HJE.out⟩⟩
set_option maxRecDepth 100000 in
set_option maxHeartbeats 4000000 in
theorem valuesR1_nil_in (n : Nat) (l Bs : Nat) (ao : Option Addr) (cap : Nat) (J : List Rv → World → Prop) (W : World) (hBs : W.cell? ⟨Bs, 0, none⟩ = some (.slice ao 0 cap)) (h0 : J [] W) :
    CallsIn Fence.wide n Tryz.prog 104 #[.func (.yield l) #[] #[], .pointer (some ⟨Bs, 0, none⟩)] W fun e W' => (∃ v, e = .returned v) ∧ J [] W' := by
  refine callsIn_of_wp Tryz.func104 rfl trivial ?_ rfl
  simp only [Tryz.ntmps104, List.size_toArray, List.length_cons, List.length_nil, Nat.reduceAdd, Nat.reduceSub, Array.replicate_succ, Array.replicate_zero, List.push_toArray, List.append_toArray, List.nil_append, List.cons_append]
  gi_wp2
  gi_loopw [7] (fun i wr => i = .int .i64 0 ∧ J [] wr) (fun _ _ => 0)
  case atStart => exact ⟨rfl, h0⟩
  case round =>
    obtain ⟨rfl, hJs⟩ := hrel
    gi_wp2
    go_end0
    exact ⟨⟨_, rfl⟩, hJs⟩
set_option maxRecDepth 100000 in
set_option maxHeartbeats 4000000 in
theorem valuesR_in (n : Nat) (a : Option Addr) (len cap : Nat) (w : World) :
    CallsIn Fence.wide n Tryz.prog 78 #[.slice a len cap] w fun e w' => e = .returned (.func (.func 104) #[] #[.pointer (some ⟨w.heap.size, 0, none⟩)]) ∧ w' = w.alloc (.cells #[.slice a len cap] 26) := by
  refine callsIn_of_wp Tryz.func78 rfl trivial ?_ rfl
  simp only [Tryz.ntmps78, List.size_toArray, List.length_cons, List.length_nil, Nat.reduceAdd, Nat.reduceSub, Array.replicate_succ, Array.replicate_zero, List.push_toArray, List.append_toArray, List.nil_append, List.cons_append]
  gi_wp2
  go_ret
  exact ⟨rfl, rfl⟩
/-- what slices.Values hands back: all of them, in order -/
theorem valuesR_stops (n : Nat) (hn : 1 ≤ n) (Bs n₀ : Nat) (ao : Option Addr) (cap : Nat) (X : List Rv) (hl : X.length ≤ 1000000) (w w1 : World) (hBs : Bs < w.heap.size) (hn₀ : n₀ ≤ w.heap.size) (hc : w.cell? ⟨Bs, 0, none⟩ = some (.slice ao X.length cap)) (h : RecsV w1 ao cap X) (h1 : w1.heap.size ≤ n₀) (hb : Below n₀ w1 w) :
    SeqStopsK Fence.wide n Tryz.prog 104 #[.pointer (some ⟨Bs, 0, none⟩)] (fun x : Rv => #[recV x]) (Below n₀) (fun ys => ys = X) (fun pre => pre <+: X) X.length w := fun l J Jx W hW hJ _ hY h0 => by
  have hc' := (hW.cell (p := ⟨Bs, 0, none⟩) hBs).trans hc
  have hb2 : Below n₀ w1 W := hb.trans (hW.mono hn₀)
  cases X with
  | nil => exact (valuesR1_nil_in n l Bs ao cap J W hc' h0).mono fun e W' ⟨he, hj⟩ => ⟨he, .inl ⟨_, rfl, hj⟩⟩
  | cons x X =>
    obtain ⟨b, off, e, hbl, _⟩ := h.row 0 x rfl
    subst e
    exact valuesR1_in n hn l Bs n₀ b off cap (x :: X) hl (Nat.lt_of_lt_of_le hbl h1) J Jx W hJ (Nat.le_trans hn₀ hW.size) hY hc' (fun j y hj => by
      obtain ⟨b', off', e', hbl', hr⟩ := h.row j y hj
      cases e'
      exact hr.below (hb2.mono h1) hbl') h0
def AppI (w0 : World) (pre : List Rv) (W : World) : Prop :=
  (∃ v, Go.Boxed W w0.heap.size 26 v ∧ W.ownsRow w0.heap.size 43 16 v pre.length (pre.flatMap recC) ∧ True) ∧ Below w0.heap.size w0 W
theorem AppI.own (w0 : World) {B : Nat} (hB : w0.heap.size ≤ B) : OwnFrom B (AppI w0) :=
  OwnFrom.and (Own.from (Go.holdsRow_own w0.heap.size w0.heap.size 26 43 16 (fun pre : List Rv => pre.length) (fun pre => pre.flatMap recC) (fun _ _ => True)) _) (ownFrom_below (Nat.le_refl _) hB)
def ApAx (w0 : World) (sv : Value) (x : Rv) (a' : Act) (W : World) : Prop :=
  ∃ Bx, w0.heap.size < Bx ∧ W.heap[Bx]? = some (recO x) ∧ a' = { tmps := #[.slice none 0 0, sv, .pointer (some ⟨w0.heap.size, 0, none⟩), undef, .slice none 0 0, .pointer (some ⟨Bx, 0, none⟩), sv, recV x, undef, undef, undef, undef, undef], defers := [] }
theorem info_rec : (Tryz.prog.info? 43).map (fun i => (i.zero, i.size, i.bytes)) = some (some (recV ⟨⟨0, 0⟩, 0, ⟨0, 0⟩, ⟨0, 0⟩, ⟨0, 0, 0, P.nul, P.nul, 0⟩, [], 0, 0, none, 0⟩), 16, 160) := by kernel_rfl
set_option maxRecDepth 100000 in
set_option maxHeartbeats 4000000 in
theorem appendR_in (n : Nat) (hn : 3 ≤ n) (g : Nat) (lb : Array Value) (eg : ∀ args w, (callFunc g args).run Tryz.prog w = .ok (.enter g args) w) (X : List Rv) (hl : X.length ≤ 1000000) (w : World)
    (hseq : SeqStopsK Fence.wide (n - 1) Tryz.prog g lb (fun x : Rv => #[recV x]) (Below w.heap.size) (fun ys => ys = X) (fun pre => pre <+: X) X.length w) :
    CallsIn Fence.wide n Tryz.prog 137 #[.slice none 0 0, .func (.func g) #[] lb] w fun e w' => ∃ oo oc, e = .returned (.slice oo X.length oc) ∧ (OwnR w' w.heap.size oo oc X ∧ Below w.heap.size w w') := by
  have h1 : 1 ≤ n := by omega
  obtain ⟨i0, hi, hz0, hz1, hz2⟩ := info_parts info_rec
  refine callsIn_of_wp_marks Tryz.func137 rfl trivial ?_ rfl
  simp only [Tryz.ntmps137, List.size_toArray, List.length_cons, List.length_nil, Nat.reduceAdd, Nat.reduceSub, Array.replicate_succ, Array.replicate_zero, List.push_toArray, List.append_toArray, List.nil_append, List.cons_append]
  gi_wp2
  have bB := Go.Boxed.new w 26 (.slice none 0 0)
  have hB0 : Below w.heap.size w (w.alloc (.cells #[.slice none 0 0] 26)) := (Below.refl _ w).alloc (Nat.le_refl _) _
  have hsz : (w.alloc (.cells #[.slice none 0 0] 26)).heap.size = w.heap.size + 1 := by simp
  obtain ⟨W0, hW0⟩ : ∃ W0, w.alloc (.cells #[.slice none 0 0] 26) = W0 := ⟨_, rfl⟩
  rw [hW0] at bB hB0 hsz ⊢
  clear hW0
  have HI := AppI.own w (B := W0.heap.size) (by omega)
  refine wpIn_rangeFunc_ownH rfl h1 (gf := g) (lb := lb) rfl trivial eg hseq belowK_t (belowK_b (by omega)) hB0 (fun _ => rfl) (AppI w) (fun _ _ _ => False) HI (fun _ _ _ _ _ hs _ _ => hs)
    ⟨⟨_, bB, World.ownsRow_nil _ _ _ _, trivial⟩, hB0⟩
    (ApAx w (.func (.func g) #[] lb))
    (fun x a' _ X Y row hs hg hr => by
      obtain ⟨Bx, h1, h2, h3⟩ := hs
      refine ⟨Bx, h1, (hg.block Bx (M.heap_lt h2) (fun e => ?_)).trans h2, h3⟩
      obtain ⟨_, o, ho, hc⟩ := hr Bx e.symm
      rw [h2] at ho
      cases ho
      cases hc)
    ?assign ?body ?done ?stop
  case assign =>
    rintro l pre x W K hI hK
    gi_wp2
    exact hK _ _ ((KeepsOthers.alloc _ _).from _) ((Below.refl _ W).alloc hI.2.size _) (HI.alloc _ hI) ⟨W.heap.size, hI.1.choose_spec.1.lt, heap_alloc_new W _, rfl⟩
  case body =>
    rintro l pre x a' W hlW _ ⟨⟨v, bB1, hrow, _⟩, hB1⟩ ⟨Bx, hBx, bX, rfl⟩ hlt
    have HROW := Lib.hid hrow
    have HB1 := Lib.hid hB1
    have HBB := Lib.hid bB1
    have HBX := Lib.hid bX
    obtain ⟨c0, c1, c2, c3, c4, c5, c6, c7, c8, c9, c10, c11, c12, c13, c14, c15⟩ := box16 bX
    have cB := bB1.cell
    have hsW := hB1.size
    have hpl : pre.length < 1000000 := by omega
    clear hrow hB1 bB1 bX
    gi_wp2_with (refine wpListIn_append_own _ rfl (.tmp 8) (.tmp 10) 26 rfl w.heap.size 43 i0 _ 16 160 Tryz.underlying26 hi hz0 hz1 hz2 rfl (by decide) v pre.length (pre.flatMap recC) rfl (HROW.out.alloc _) ⟨W.heap.size, 0, none⟩ 1 1 (recC x) rfl rfl (World.news_of_block (cs := recA x) (fr := (0, 0)) (heap_alloc_new W _)) (recC_one x) (by unfold maxLen; omega) (by omega) (by simp; omega) ?_
                 intro v' w3 hown' hg3 _
                 have HOWN := Lib.hid hown'
                 have HG3 := Lib.hid hg3
                 clear hown' hg3
                 obtain ⟨b1, b2, b3, b4, b5⟩ := HBB.out.appended (by decide) HROW.out hsW (Nat.le_refl _) HOWN.out HG3.out
                 obtain ⟨g3, cap3, rfl⟩ := ownsRow_succ HOWN.out
                 have cB3 := b1.cell
                 have fB3 := b1.frozen
                 have HE := Lib.hid (show KeepsOthers W (w3.setCell ⟨w.heap.size, 0, none⟩ (.slice (some ⟨g3, 0, none⟩) (pre.length + 1) cap3)) ∧ Below w.heap.size W (w3.setCell ⟨w.heap.size, 0, none⟩ (.slice (some ⟨g3, 0, none⟩) (pre.length + 1) cap3)) ∧ AppI w (pre ++ [x]) (w3.setCell ⟨w.heap.size, 0, none⟩ (.slice (some ⟨g3, 0, none⟩) (pre.length + 1) cap3)) from
                   ⟨b4, b5, ⟨_, b2, by simpa using b3, trivial⟩, HB1.out.trans b5⟩)
                 clear b1 b2 b3 b4 b5)
    exact ⟨HE.out.1.from _, HE.out.2.1, HE.out.2.2⟩
  case done =>
    rintro D ys W hD rfl ⟨⟨v, bB1, hrow, _⟩, hB1⟩ hK
    have cB := bB1.cell
    obtain ⟨oo, oc, rfl⟩ : ∃ oo oc, v = .slice oo ys.length oc := by
      rcases hrow.2 with ⟨rfl, h0⟩ | ⟨g2, cap2, _, rfl, _⟩
      · exact ⟨none, 0, by rw [h0]⟩
      · exact ⟨_, _, rfl⟩
    have HF := Lib.hid (show OwnR (W.putObj D (.deferred none)) w.heap.size oo oc ys ∧ Below w.heap.size w (W.putObj D (.deferred none)) from ⟨ownsRow_putObj hrow _ hK rfl, hB1.trans (belowK_b (w := w) (Nat.le_refl _) W D _ _ (by omega) hK rfl rfl)⟩)
    clear hrow hB1
    gi_wp2
    refine ⟨by simp, .inl ⟨_, _, rfl, run_takeDeferred hK, ?_⟩⟩
    exact ⟨_, results_tmp rfl _ _ _, oo, oc, rfl, HF.out⟩
  case stop =>
    rintro D c pre W _ _ h _
    exact h.elim
set_option maxRecDepth 100000 in
set_option maxHeartbeats 4000000 in
theorem collectR_in (n : Nat) (hn : 4 ≤ n) (g : Nat) (lb : Array Value) (eg : ∀ args w, (callFunc g args).run Tryz.prog w = .ok (.enter g args) w) (X : List Rv) (hl : X.length ≤ 1000000) (w : World)
    (hseq : SeqStopsK Fence.wide (n - 1 - 1) Tryz.prog g lb (fun x : Rv => #[recV x]) (Below w.heap.size) (fun ys => ys = X) (fun pre => pre <+: X) X.length w) :
    CallsIn Fence.wide n Tryz.prog 102 #[.func (.func g) #[] lb] w fun e w' => ∃ oo oc, e = .returned (.slice oo X.length oc) ∧ (OwnR w' w.heap.size oo oc X ∧ Below w.heap.size w w') := by
  refine callsIn_of_wp Tryz.func102 rfl trivial ?_ rfl
  simp only [Tryz.ntmps102, List.size_toArray, List.length_cons, List.length_nil, Nat.reduceAdd, Nat.reduceSub, Array.replicate_succ, Array.replicate_zero, List.push_toArray, List.append_toArray, List.nil_append, List.cons_append]
  gi_wp2
  refine ⟨trivial, fun _ => by omega, (appendR_in (n - 1) (by omega) g lb eg X hl _ hseq).mono ?_⟩
  rintro e w' ⟨oo, oc, rfl, hF⟩
  have HF := Lib.hid hF
  clear hF
  gi_wp2
  go_ret
  exact ⟨oo, oc, rfl, HF.out⟩
/-- slices.Collect of slices.Values: a copy of the row -/
theorem collectR_any (Bs : Nat) (ao : Option Addr) (cap : Nat) (X : List Rv) (w : World) (hl : X.length ≤ 1000000) (hBs : Bs < w.heap.size) (hc : w.cell? ⟨Bs, 0, none⟩ = some (.slice ao X.length cap)) (h : RecsV w ao cap X) :
    Calls Tryz.prog 102 #[.func (.func 104) #[] #[.pointer (some ⟨Bs, 0, none⟩)]] w fun e w' => ∃ oo oc, e = .returned (.slice oo X.length oc) ∧ (OwnR w' w.heap.size oo oc X ∧ Below w.heap.size w w') :=
  callsIn_wide.1 (collectR_in 5 (by omega) _ _ (enters_of Tryz.func104 (by kernel_rfl) rfl) X hl w (valuesR_stops 3 (by omega) Bs w.heap.size ao cap X hl w w hBs (Nat.le_refl _) hc h (Nat.le_refl _) (Below.refl _ _)))
theorem valuesR_any (ao : Option Addr) (len cap : Nat) (w : World) :
    Calls Tryz.prog 78 #[.slice ao len cap] w fun e w' => e = .returned (.func (.func 104) #[] #[.pointer (some ⟨w.heap.size, 0, none⟩)]) ∧ w' = w.alloc (.cells #[.slice ao len cap] 26) :=
  callsIn_wide.1 (valuesR_in 1 ao len cap w)
/-- the value that slices.Values hands back -/
abbrev valC (Bs : Nat) : Value := .func (.func 104) #[] #[.pointer (some ⟨Bs, 0, none⟩)]
set_option maxRecDepth 100000 in
set_option maxHeartbeats 4000000 in
theorem sortedR_any (Bs : Nat) (ao : Option Addr) (cap : Nat) (X : List Rv) (w : World) (hl : X.length ≤ 1000000) (hBs : Bs < w.heap.size) (hc : w.cell? ⟨Bs, 0, none⟩ = some (.slice ao X.length cap)) (h : RecsV w ao cap X) :
    Calls Tryz.prog 77 #[valC Bs, .func (.func 79) #[] #[]] w fun e w' => ∃ oo oc m, e = .returned (.slice oo X.length oc) ∧ (m.Perm X ∧ m.Pairwise (fun a b => ilt b.id a.id = false) ∧ m.length = X.length ∧ OwnR w' w.heap.size oo oc m ∧ Below w.heap.size w w') := by
  have HC := Lib.hid (collectR_any Bs ao cap X w (by omega) hBs hc h)
  clear hBs hc h
  go_enter Tryz.func77, Tryz.ntmps77
  go_wp2_with fail
  refine HC.out.mono ?_
  rintro e w1 ⟨oo, oc, rfl, ho, hb⟩
  have HO := Lib.hid ho
  have HB := Lib.hid hb
  clear ho hb HC
  go_wp2_with fail
  refine (sortR_any w.heap.size w1 oo oc X HO.out hl).mono ?_
  rintro e w2 ⟨rfl, m, h1, h2, h3, h4, h5⟩
  have HF := Lib.hid (show m.Perm X ∧ m.Pairwise (fun a b => ilt b.id a.id = false) ∧ m.length = X.length ∧ OwnR w2 w.heap.size oo oc m ∧ Below w.heap.size w w2 from ⟨h1, h2, h3, h4, HB.out.trans (h5.below (fun j ⟨a, e1, e2⟩ => by
    subst e1
    rw [e2]
    exact (HO.out.lt a.block rfl).1) HB.out.size)⟩)
  clear h1 h2 h3 h4 h5 HO HB
  go_wp2_with fail
  go_ret
  exact ⟨oo, oc, m, rfl, HF.out⟩
set_option maxRecDepth 100000 in
set_option maxHeartbeats 4000000 in
theorem sortedStable_any (Bs : Nat) (ao : Option Addr) (cap : Nat) (X : List Rv) (w : World) (hl : X.length ≤ 20) (hBs : Bs < w.heap.size) (hc : w.cell? ⟨Bs, 0, none⟩ = some (.slice ao X.length cap)) (h : RecsV w ao cap X) :
    Calls Tryz.prog 107 #[valC Bs, .func (.func 108) #[] #[]] w fun e w' => ∃ oo oc m, e = .returned (.slice oo X.length oc) ∧ (m.Perm X ∧ m.Pairwise (fun a b => wlt b.nd a.nd = false) ∧ m.length = X.length ∧ OwnR w' w.heap.size oo oc m ∧ Below w.heap.size w w') := by
  have HC := Lib.hid (collectR_any Bs ao cap X w (by omega) hBs hc h)
  clear hBs hc h
  go_enter Tryz.func107, Tryz.ntmps107
  go_wp2_with fail
  refine HC.out.mono ?_
  rintro e w1 ⟨oo, oc, rfl, ho, hb⟩
  have HO := Lib.hid ho
  have HB := Lib.hid hb
  clear ho hb HC
  go_wp2_with fail
  refine (sortStable_any w.heap.size w1 oo oc X HO.out hl).mono ?_
  rintro e w2 ⟨rfl, m, h1, h2, h3, h4, h5⟩
  have HF := Lib.hid (show m.Perm X ∧ m.Pairwise (fun a b => wlt b.nd a.nd = false) ∧ m.length = X.length ∧ OwnR w2 w.heap.size oo oc m ∧ Below w.heap.size w w2 from ⟨h1, h2, h3, h4, HB.out.trans (h5.below (fun j ⟨a, e1, e2⟩ => by
    subst e1
    rw [e2]
    exact (HO.out.lt a.block rfl).1) HB.out.size)⟩)
  clear h1 h2 h3 h4 h5 HO HB
  go_wp2_with fail
  go_ret
  exact ⟨oo, oc, m, rfl, HF.out⟩
end Go.Proofs.YtkgjfagejnppbaaGreatDoor.O
