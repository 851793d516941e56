/- The components sorted by their heads: the contract of slices.SortFunc there. -/
import Derived.Test.YtmmggeaaheegmaaCompL
import Derived.Sort.OwnSortedInts
namespace Go.Proofs.Ytmmggeaaheegmaa.K
open Go.RowKit M T Go.Sort
set_option linter.unusedVariables false
set_option linter.unusedSimpArgs false

section
variable {α : Type} [Inhabited α]
theorem sorted_heap (enc : α → Value) {w : World} {g n : Nat} {os : Array Obj} {cur : Array Value} {e : TypeId} {fr : Nat × Nat} (d : Array α) (hb : w.heap[g]? = some (.cells cur e fr)) :
    (sortWorld enc w g 0 n d os).heap[g]? = some (.cells (putCells enc 0 d cur) e fr) := by
  have hg : g < w.heap.size := heap_lt hb
  unfold sortWorld
  rw [heap_grow_old _ _ (by simpa using hg)]
  simp [putRow, mapBlock, Sort.ahead, Array.getElem?_modify, hb, onCells]
theorem sorted_grown (enc : α → Value) {w : World} {g n : Nat} {os : Array Obj} (d : Array α) : w.grownBy (sortWorld enc w g 0 n d os) (some g) := by
  unfold sortWorld
  refine ⟨rfl, rfl, rfl, by simp, fun k hk hne => ?_⟩
  rw [heap_grow_old _ _ (by simpa using hk)]
  have : g ≠ k := fun e => hne (by rw [e])
  simp [putRow, mapBlock, Sort.ahead, Array.getElem?_modify, this]
theorem sorted_take (enc : α → Value) (cur : Array Value) (d : Array α) (h : d.size ≤ cur.size) : (putCells enc 0 d cur).toList.take d.size = d.toList.map enc := by
  apply List.ext_getElem?
  intro j
  by_cases hj : j < d.size
  · rw [List.getElem?_take_of_lt hj, Array.getElem?_toList]
    simp [putCells, hj, show j < cur.size by omega]
  · rw [List.getElem?_take_eq_none (by omega), List.getElem?_eq_none (by simp; omega)]
end
def encF {k : Nat} (x : Fin (k + 1)) : Value := .int .i64 (x.val : Int)
def cfH (C : List (List Nat)) {k : Nat} (x y : Fin (k + 1)) : Int := (headOf C x.val : Int) - headOf C y.val
theorem cfH_lt (C : List (List Nat)) {k : Nat} (x y : Fin (k + 1)) : ltOf (cfH C) x y = decide (headOf C x.val < headOf C y.val) := by
  unfold ltOf cfH
  by_cases h : headOf C x.val < headOf C y.val
  · rw [decide_eq_true h, decide_eq_true (by omega)]
  · rw [decide_eq_false h, decide_eq_false (by omega)]
theorem cfH_swo (C : List (List Nat)) (k : Nat) : SWO (ltOf (cfH C (k := k))) where
  irrefl x := by rw [cfH_lt]; simp
  trans x y z h1 h2 := by rw [cfH_lt] at *; simp at *; omega
  ntrans x y z h1 h2 := by rw [cfH_lt] at *; simp at *; omega

theorem len_zero (W : World) : Calls Try.prog 27 #[.int .u64 0] W fun e w' => (∃ l : Int, e = .returned (.int .i64 l)) ∧ W = w' := by
  have h := Any.bits_Len (SlLaysF0.n15.bits (P := Try.prog) (ρ := Try.sortC_ren) { Try.sortC with }) 0 W (by omega) (by omega)
  exact h.mono fun _ _ ⟨he, hw⟩ => ⟨⟨_, he⟩, hw.symm⟩
set_option maxRecDepth 100000 in
set_option maxHeartbeats 1000000 in
theorem insertion_zero (p : Option Addr) (cap : Nat) (fv : Value) (w : World) :
    Calls Try.prog 31 #[.slice p 0 cap, .int .i64 0, .int .i64 0, fv] w fun e w' => e = .returned (.tuple #[]) ∧ w = w' := by
  go_enter Try.func31, Try.ntmps31
  go_wp2_with fail
  refine wp_loop_rounds 1 ?_
  rw [rounds_succ]
  go_wp2_with fail
  go_end0
  exact ⟨rfl, rfl⟩
set_option maxRecDepth 100000 in
set_option maxHeartbeats 1000000 in
theorem pdq_zero (p : Option Addr) (cap : Nat) (lim : Int) (fv : Value) (w : World) :
    Calls Try.prog 26 #[.slice p 0 cap, .int .i64 0, .int .i64 0, .int .i64 lim, fv] w fun e w' => e = .returned (.tuple #[]) ∧ w = w' := by
  have hi := Lib.hid (fun W => insertion_zero p cap fv W)
  go_enter Try.func26, Try.ntmps26
  go_wp2_with fail
  refine wp_loop_rounds 1 ?_
  rw [rounds_succ]
  go_wp2_with (go_at_call 31; refine (hi.out _).mono ?_; rintro e w' ⟨rfl, rfl⟩)
  (try simp only [Exit.inBlock, Exit.then])
  refine bodyPost_ret (v := .tuple #[]) (results_none rfl _ _ _) rfl ?_
  exact ⟨rfl, rfl⟩
set_option maxRecDepth 100000 in
set_option maxHeartbeats 1000000 in
theorem sort_zero (p : Option Addr) (cap : Nat) (fv : Value) (w : World) :
    Calls Try.prog 16 #[.slice p 0 cap, fv] w fun e w' => e = .returned (.tuple #[]) ∧ w = w' := by
  have hp := Lib.hid (fun lim W => pdq_zero p cap lim fv W)
  have hl := Lib.hid len_zero
  go_enter Try.func16, Try.ntmps16
  go_wp2_with (first | (go_at_call 27; refine (hl.out _).mono ?_; rintro e w' ⟨⟨l, rfl⟩, rfl⟩) | (go_at_call 26; refine (hp.out _ _).mono ?_; rintro e w' ⟨rfl, rfl⟩))
  go_end0
  exact ⟨rfl, rfl⟩

theorem extract_all {β : Type} (a : Array β) (m : Nat) (h : a.size = m) : a.extract 0 m = a := by subst h; simp
theorem map_val {k : Nat} (l : List (Fin (k + 1))) : l.map (encF (k := k)) = iv (l.map Fin.val) := by simp [iv, encF]
theorem range_map (k : Nat) : ((List.range (k + 1)).map (Fin.ofNat (k + 1))).map Fin.val = List.range (k + 1) := by
  rw [List.map_map]
  refine (List.map_congr_left fun x hx => ?_).trans (List.map_id _)
  have := List.mem_range.1 hx
  simp [Fin.ofNat, Nat.mod_eq_of_lt this]

set_option maxHeartbeats 1000000 in
theorem sort_heads (E : Nat → List Int) (n : Nat) (w1 w : World) (b bf : Nat) (C : List (List Nat)) (q : Nat → Nat) (eo : Option Addr) (ec : Nat) (hC : Comp E n C q) (h : RD E n w1 b C q eo ec) (hf : w1.cell? ⟨bf, 0, none⟩ = some (.pointer (some ⟨b, 0, none⟩))) (hn : n ≤ 10000) (hCl : C.length ≤ 10000)
    (hb : Below w1.heap.size w1 w) (B g cap : Nat) (hg : w1.heap.size ≤ g) (hown : w.ownsRow B 3 1 (.slice (some ⟨g, 0, none⟩) C.length cap) C.length (iv (List.range C.length))) :
    Calls Try.prog 16 #[.slice (some ⟨g, 0, none⟩) C.length cap, .func (.func 17) #[] #[.pointer (some ⟨bf, 0, none⟩)]] w fun e w' => e = .returned (.tuple #[]) ∧
      ∃ l, (l.Perm (List.range C.length) ∧ l.Pairwise (fun x y => headOf C x ≤ headOf C y) ∧ w'.ownsRow B 3 1 (.slice (some ⟨g, 0, none⟩) C.length cap) C.length (iv l) ∧ Mods (fun k => k = g) w w') := by
  cases hk : C.length with
  | zero =>
    rw [hk] at hown
    exact (sort_zero _ _ _ _).mono fun e w' ⟨he, hw⟩ => ⟨he, List.range 0, .refl _, .nil, hw ▸ hown, hw ▸ Mods.refl _ _⟩
  | succ k =>
    rw [hk] at hown
    obtain ⟨hx, h2⟩ := hown
    rcases h2 with ⟨h0, _⟩ | ⟨g', c', cur, e0, hB, hgh, hnc, hm, hcs, htk⟩
    · cases h0
    cases e0
    obtain ⟨d, hd⟩ : ∃ d : Array (Fin (k + 1)), d = ((List.range (k + 1)).map (Fin.ofNat (k + 1))).toArray := ⟨_, rfl⟩
    have hds : d.size = k + 1 := by rw [hd]; simp
    have hdm : d.toList.map (encF (k := k)) = iv (List.range (k + 1)) := by rw [map_val, hd]; show iv (List.map Fin.val _) = _; rw [range_map]
    have hH : Holds (encF (k := k)) w g 0 d := by
      intro j hj
      refine ⟨?_, by simp [World.frozen?, hgh]⟩
      have h1 : (cur.toList.take ((k + 1) * 1))[j]? = (d.toList.map (encF (k := k)))[j]? := by rw [htk, hdm]
      rw [Nat.mul_one, List.getElem?_take_of_lt (by omega)] at h1
      rw [cell_of_row w g (0 + j) _ _ _ hgh, Nat.zero_add, ← Array.getElem?_toList, h1]
      simp [hj]
    have eg : ∀ args w, (callFunc 17 args).run Try.prog w = .ok (.enter 17 args) w := enters_of Try.func17 (by kernel_rfl) rfl
    have hcmp : CmpReads Try.prog 17 #[.pointer (some ⟨bf, 0, none⟩)] (encF (k := k)) (cfH C) g 0 d.size w := by
      intro m os dk hs x y
      have hgb := sorted_grown encF (w := w) (g := g) (n := m) (os := os) dk
      have hb2 : Below w1.heap.size w1 (sortWorld encF w g 0 m dk os) := hb.grown hgb hb.size (fun k' e => by cases e; exact hg)
      exact compare_any E n _ b bf C q eo ec hC (h.below hb2) (cell_below hb2 hf) x.val y.val (by have := x.isLt; omega) (by have := y.isLt; omega) hn
    have hc := Any.slices_SortFunc Try.sortC (encF (k := k)) (fun _ => rfl) (cfH C) (cfH_swo C k) 17 #[.pointer (some ⟨bf, 0, none⟩)] g 0 cap d w eg hcmp.lays hH (heap_lt hgh) (by omega)
    rw [hds] at hc
    refine hc.mono ?_
    rintro e w' ⟨rfl, d', m, os, ⟨hp1, _, hp3⟩, hs, rfl⟩
    rw [hds] at hp1
    
    rw [extract_all d' _ hp1, extract_all d _ hds] at hp3
    have hdl : d.toList.map Fin.val = List.range (k + 1) := by rw [hd]; exact range_map k
    refine ⟨rfl, d'.toList.map Fin.val, ?_, ?_, ?_, (Mods.of_grown (sorted_grown _ _)).mono (fun k _ h => (Option.some.inj h).symm)⟩
    · have := hp3.map Fin.val
      rwa [hdl] at this
    · rw [List.pairwise_map, List.pairwise_iff_getElem]
      intro i j hi hj hij
      have hi' : i < d'.size := by simpa using hi
      have hj' : j < d'.size := by simpa using hj
      have := hs i j (Nat.zero_le _) hij (by omega)
      rw [cfH_lt] at this
      simp only [decide_eq_false_iff_not, Nat.not_lt] at this
      simpa [hi', hj'] using this
    · refine ⟨by simp [iv, hp1], .inr ⟨g, cap, _, rfl, hB, sorted_heap encF d' hgh, hnc, hm, by simp [putCells, hcs], ?_⟩⟩
      have ht := sorted_take (encF (k := k)) cur d' (by omega)
      rw [hp1, map_val] at ht
      rw [Nat.mul_one]
      exact ht
end Go.Proofs.Ytmmggeaaheegmaa.K
