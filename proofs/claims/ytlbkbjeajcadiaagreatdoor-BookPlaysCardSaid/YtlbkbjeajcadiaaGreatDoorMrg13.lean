/- Several texts in one. -/
import Derived.Test.YtlbkbjeajcadiaaGreatDoorMrg12
import Derived.Shelf.SlSortCmp.WholeK
import Derived.Test.YtlbkbjeajcadiaaGreatDoorProg
import Derived.Deep.Quiet
import Derived.Sort.OwnSortedInts
import Derived.Test.YtlbkbjeajcadiaaGreatDoorMrg11

/- The closure that asks ready; slices.IndexFunc with it. -/
namespace Go.Proofs.YtlbkbjeajcadiaaGreatDoor.K
open Go.RowKit M T
set_option linter.unusedVariables false
set_option linter.unusedSimpArgs false

/-- all that the closure reads -/
structure RB (E : Nat → List Int) (n B : Nat) (w : World) (b bf bc gB : Nat) (C : List (List Nat)) (q : Nat → Nat) (eo : Option Addr) (ec : Nat) (come : Nat → Bool) : Prop where
  ed : EdAt B w eo n ec E
  rd : RD E n w b C q eo ec
  cf : w.cell? ⟨bf, 0, none⟩ = some (.pointer (some ⟨b, 0, none⟩))
  cc : w.cell? ⟨bc, 0, none⟩ = some (.slice (some ⟨gB, 0, none⟩) C.length C.length)
  cb : ∀ i, i < C.length → w.cell? ⟨gB, i, none⟩ = some (.bool (come i))
end Go.Proofs.YtlbkbjeajcadiaaGreatDoor.K

/- slices.SortFunc at this dump, in plain words, as the kit's lay-plain.mjs prints it. -/
namespace Go.Proofs
open Go.Shelf
def Tryz.sortC72_ren : Go.Shelf.Ren := ⟨fun | 6 => 72 | 15 => 104 | 14 => 103 | 28 => 140 | 29 => 141 | 20 => 132 | 21 => 133 | 22 => 134 | 23 => 135 | 24 => 136 | 25 => 137 | 26 => 138 | 27 => 139 | 46 => 166 | 47 => 167 | 48 => 168 | 49 => 169 | 50 => 170 | 57 => 183 | n => n, fun | 22 => 36 | 24 => 31 | 25 => 117 | 3 => 3 | 39 => 145 | 0 => 0 | 53 => 162 | 55 => 129 | 4 => 4 | 46 => 179 | 45 => 178 | 50 => 124 | 5 => 5 | 9 => 9 | 66 => 217 | 70 => 156 | 76 => 237 | 77 => 238 | n => n, fun | n => n⟩
theorem Tryz.sortC72 : Go.Proofs.SlLaysF0.n6 Tryz.prog Tryz.sortC72_ren := {
  mixed := by kernel_rfl
  f6 := ⟨Tryz.f72.name, by decide, Tryz.func72.trans (congrArg some (by kernel_rfl))⟩
  f14 := ⟨Tryz.f103.name, by decide, Tryz.func103.trans (congrArg some (by kernel_rfl))⟩
  f15 := Tryz.func104.trans (congrArg some (by kernel_rfl))
  f20 := ⟨Tryz.f132.name, by decide, Tryz.func132.trans (congrArg some (by kernel_rfl))⟩
  f21 := ⟨Tryz.f133.name, by decide, Tryz.func133.trans (congrArg some (by kernel_rfl))⟩
  f22 := ⟨Tryz.f134.name, by decide, Tryz.func134.trans (congrArg some (by kernel_rfl))⟩
  f23 := ⟨Tryz.f135.name, by decide, Tryz.func135.trans (congrArg some (by kernel_rfl))⟩
  f24 := ⟨Tryz.f136.name, by decide, Tryz.func136.trans (congrArg some (by kernel_rfl))⟩
  f25 := ⟨Tryz.f137.name, by decide, Tryz.func137.trans (congrArg some (by kernel_rfl))⟩
  f26 := ⟨Tryz.f138.name, by decide, Tryz.func138.trans (congrArg some (by kernel_rfl))⟩
  f27 := ⟨Tryz.f139.name, by decide, Tryz.func139.trans (congrArg some (by kernel_rfl))⟩
  f28 := Tryz.func140.trans (congrArg some (by kernel_rfl))
  f29 := Tryz.func141.trans (congrArg some (by kernel_rfl))
  f46 := ⟨Tryz.f166.name, by decide, Tryz.func166.trans (congrArg some (by kernel_rfl))⟩
  f47 := Tryz.func167.trans (congrArg some (by kernel_rfl))
  f48 := Tryz.func168.trans (congrArg some (by kernel_rfl))
  f49 := ⟨Tryz.f169.name, by decide, Tryz.func169.trans (congrArg some (by kernel_rfl))⟩
  f50 := ⟨Tryz.f170.name, by decide, Tryz.func170.trans (congrArg some (by kernel_rfl))⟩
  f57 := ⟨Tryz.f183.name, by decide, Tryz.func183.trans (congrArg some (by kernel_rfl))⟩
  t0 := Tryz.underlying0
  a0 := Tryz.isAgg0
  z0 := Tryz.sizeOf0
  v0 := Tryz.zeroValue0
  t3 := Tryz.underlying3
  a3 := Tryz.isAgg3
  z3 := Tryz.sizeOf3
  v3 := Tryz.zeroValue3
  t4 := Tryz.underlying4
  a4 := Tryz.isAgg4
  z4 := Tryz.sizeOf4
  v4 := Tryz.zeroValue4
  t5 := Tryz.underlying5
  a5 := Tryz.isAgg5
  z5 := Tryz.sizeOf5
  v5 := Tryz.zeroValue5
  t9 := Tryz.underlying9
  a9 := Tryz.isAgg9
  z9 := Tryz.sizeOf9
  v9 := Tryz.zeroValue9
  t22 := Tryz.underlying36
  a22 := Tryz.isAgg36
  z22 := Tryz.sizeOf36
  v22 := Tryz.zeroValue36
  t25 := Tryz.underlying117
  a25 := Tryz.isAgg117
  z25 := Tryz.sizeOf117
  v25 := Tryz.zeroValue117
  t39 := Tryz.underlying145
  a39 := Tryz.isAgg145
  z39 := Tryz.sizeOf145
  v39 := Tryz.zeroValue145
  t45 := Tryz.underlying178
  a45 := Tryz.isAgg178
  z45 := Tryz.sizeOf178
  v45 := Tryz.zeroValue178
  t46 := Tryz.underlying179
  a46 := Tryz.isAgg179
  z46 := Tryz.sizeOf179
  v46 := Tryz.zeroValue179
  t50 := Tryz.underlying124
  a50 := Tryz.isAgg124
  z50 := Tryz.sizeOf124
  v50 := Tryz.zeroValue124
  t53 := Tryz.underlying162
  a53 := Tryz.isAgg162
  z53 := Tryz.sizeOf162
  v53 := Tryz.zeroValue162
  t55 := Tryz.underlying129
  a55 := Tryz.isAgg129
  z55 := Tryz.sizeOf129
  v55 := Tryz.zeroValue129
  t66 := Tryz.underlying217
  a66 := Tryz.isAgg217
  z66 := Tryz.sizeOf217
  v66 := Tryz.zeroValue217
  t70 := Tryz.underlying156
  a70 := Tryz.isAgg156
  z70 := Tryz.sizeOf156
  v70 := Tryz.zeroValue156
  t76 := Tryz.underlying237
  a76 := Tryz.isAgg237
  z76 := Tryz.sizeOf237
  v76 := Tryz.zeroValue237
  t77 := Tryz.underlying238
  a77 := Tryz.isAgg238
  z77 := Tryz.sizeOf238
  v77 := Tryz.zeroValue238 }
end Go.Proofs

/- slices.SortFunc with the closure that compares components' heads. -/
namespace Go.Proofs.YtlbkbjeajcadiaaGreatDoor.K
open Go.RowKit M T
set_option linter.unusedVariables false
set_option linter.unusedSimpArgs false

theorem cell_lt {w : World} {p : Addr} {v : Value} (h : w.cell? p = some v) : p.block < w.heap.size := by
  unfold World.cell? at h
  cases hg : w.heap[p.block]? with
  | none => simp [hg] at h
  | some o => exact heap_lt hg
theorem cell_below {w w1 : World} {p : Addr} {v : Value} (hb : Below w.heap.size w w1) (h : w.cell? p = some v) : w1.cell? p = some v := (hb.cell (cell_lt h)).trans h
theorem RD.below {E : Nat → List Int} {n : Nat} {w w1 : World} {b : Nat} {C : List (List Nat)} {q : Nat → Nat} {eo : Option Addr} {ec : Nat} (h : RD E n w b C q eo ec) (hb : Below w.heap.size w w1) : RD E n w1 b C q eo ec := by
  obtain ⟨go, co, cc, c0, c3, c6, h1, h2, h3, h4⟩ := h.hd
  refine ⟨go, co, cc, cell_below hb c0, cell_below hb c3, cell_below hb c6, h1, h2, fun v hv => cell_below hb (h3 v hv), fun i c hc => ?_⟩
  obtain ⟨gc, gr, cr, e, ch, hl, hm, hx⟩ := h4 i c hc
  exact ⟨gc, gr, cr, e, cell_below hb ch, hl, hm, fun j v hj => cell_below hb (hx j v hj)⟩
/-- the least node of a component -/
def headOf (C : List (List Nat)) (i : Nat) : Nat := (C.getD i []).headD 0
theorem head_get {E : Nat → List Int} {n : Nat} {C : List (List Nat)} {q : Nat → Nat} (hC : Comp E n C q) {i : Nat} (hi : i < C.length) : ∃ c, C[i]? = some c ∧ 0 < c.length ∧ c[0]? = some (headOf C i) ∧ headOf C i ∈ c ∧ headOf C i < n := by
  obtain ⟨c, hc⟩ : ∃ c, C[i]? = some c := ⟨_, List.getElem?_eq_getElem hi⟩
  have hne := (hC.d3 c (List.mem_of_getElem? hc)).2
  have e : headOf C i = c.headD 0 := by simp [headOf, List.getD, hc]
  cases c with
  | nil => exact absurd rfl hne
  | cons a t =>
    have e2 : headOf C i = a := e
    exact ⟨_, hc, by simp, by simp [e2], by rw [e2]; exact List.mem_cons_self, by rw [e2]; exact (hC.d2 i _ a hc List.mem_cons_self).1⟩

end Go.Proofs.YtlbkbjeajcadiaaGreatDoor.K

/- The components sorted by their heads: the contract of slices.SortFunc there. -/
namespace Go.Proofs.YtlbkbjeajcadiaaGreatDoor.K
open Go.RowKit M T Go.Sort
set_option linter.unusedVariables false
set_option linter.unusedSimpArgs false

section
variable {α : Type} [Inhabited α]
theorem sorted_heap (enc : α → Value) {w : World} {g n : Nat} {os : Array Obj} {cur : Array Value} {e : TypeId} {fr : Nat × Nat} (d : Array α) (hb : w.heap[g]? = some (.cells cur e fr)) :
    (sortWorld enc w g 0 n d os).heap[g]? = some (.cells (putCells enc 0 d cur) e fr) := by
  have hg : g < w.heap.size := heap_lt hb
  unfold sortWorld
  rw [heap_grow_old _ _ (by simpa using hg)]
  simp [putRow, mapBlock, Sort.ahead, Array.getElem?_modify, hb, onCells]
theorem sorted_grown (enc : α → Value) {w : World} {g n : Nat} {os : Array Obj} (d : Array α) : w.grownBy (sortWorld enc w g 0 n d os) (some g) := by
  unfold sortWorld
  refine ⟨rfl, rfl, rfl, by simp, fun k hk hne => ?_⟩
  rw [heap_grow_old _ _ (by simpa using hk)]
  have : g ≠ k := fun e => hne (by rw [e])
  simp [putRow, mapBlock, Sort.ahead, Array.getElem?_modify, this]
theorem sorted_take (enc : α → Value) (cur : Array Value) (d : Array α) (h : d.size ≤ cur.size) : (putCells enc 0 d cur).toList.take d.size = d.toList.map enc := by
  apply List.ext_getElem?
  intro j
  by_cases hj : j < d.size
  · rw [List.getElem?_take_of_lt hj, Array.getElem?_toList]
    simp [putCells, hj, show j < cur.size by omega]
  · rw [List.getElem?_take_eq_none (by omega), List.getElem?_eq_none (by simp; omega)]
end
def encF {k : Nat} (x : Fin (k + 1)) : Value := .int .i64 (x.val : Int)
def cfH (C : List (List Nat)) {k : Nat} (x y : Fin (k + 1)) : Int := (headOf C x.val : Int) - headOf C y.val
theorem cfH_lt (C : List (List Nat)) {k : Nat} (x y : Fin (k + 1)) : ltOf (cfH C) x y = decide (headOf C x.val < headOf C y.val) := by
  unfold ltOf cfH
  by_cases h : headOf C x.val < headOf C y.val
  · rw [decide_eq_true h, decide_eq_true (by omega)]
  · rw [decide_eq_false h, decide_eq_false (by omega)]
theorem cfH_swo (C : List (List Nat)) (k : Nat) : SWO (ltOf (cfH C (k := k))) where
  irrefl x := by rw [cfH_lt]; simp
  trans x y z h1 h2 := by rw [cfH_lt] at *; simp at *; omega
  ntrans x y z h1 h2 := by rw [cfH_lt] at *; simp at *; omega

theorem extract_all {β : Type} (a : Array β) (m : Nat) (h : a.size = m) : a.extract 0 m = a := by subst h; simp
theorem map_val {k : Nat} (l : List (Fin (k + 1))) : l.map (encF (k := k)) = iv (l.map Fin.val) := by simp [iv, encF]
theorem range_map (k : Nat) : ((List.range (k + 1)).map (Fin.ofNat (k + 1))).map Fin.val = List.range (k + 1) := by
  rw [List.map_map]
  refine (List.map_congr_left fun x hx => ?_).trans (List.map_id _)
  have := List.mem_range.1 hx
  simp [Fin.ofNat, Nat.mod_eq_of_lt this]

theorem len_zero (W : World) : Calls Tryz.prog 104 #[.int .u64 0] W fun e w' => (∃ l : Int, e = .returned (.int .i64 l)) ∧ W = w' := by
  have h := Any.bits_Len (SlLaysF0.n15.bits (P := Tryz.prog) (ρ := Tryz.sortC72_ren) { Tryz.sortC72 with }) 0 W (by omega) (by omega)
  exact h.mono fun _ _ ⟨he, hw⟩ => ⟨⟨_, he⟩, hw.symm⟩
end Go.Proofs.YtlbkbjeajcadiaaGreatDoor.K

/- Rows of structs, sorted: the contracts of slices.SortFunc at ids (ids.order). -/
namespace Go.Proofs.YtlbkbjeajcadiaaGreatDoor.O
open Go.RowKit Go.Proofs.YtlbkbjeajcadiaaGreatDoor.M Go.BigFrame Go.Sort
set_option linter.unusedVariables false
set_option linter.unusedSimpArgs false

section
variable {α : Type}
theorem flat_get (enc : α → List Value) (k : Nat) (hk : ∀ x, (enc x).length = k) : ∀ (l : List α) (i : Nat) (x : α), l[i]? = some x → ∀ j, j < k → (l.flatMap enc)[i * k + j]? = (enc x)[j]?
  | [], i, x, h, j, hj => by simp at h
  | a :: t, 0, x, h, j, hj => by
    cases h
    rw [List.flatMap_cons, Nat.zero_mul, Nat.zero_add, List.getElem?_append_left (by rw [hk]; exact hj)]
  | a :: t, i + 1, x, h, j, hj => by
    have ih := flat_get enc k hk t i x (by simpa using h) j hj
    rw [List.flatMap_cons, List.getElem?_append_right (by rw [hk, Nat.add_mul, Nat.one_mul]; omega), ← ih, hk]
    congr 1
    rw [Nat.add_mul, Nat.one_mul]
    omega
theorem flat_len (enc : α → List Value) (k : Nat) (hk : ∀ x, (enc x).length = k) (l : List α) : (l.flatMap enc).length = l.length * k := by
  induction l with
  | nil => simp
  | cons a t ih => rw [List.flatMap_cons, List.length_append, ih, hk, List.length_cons, Nat.add_mul, Nat.one_mul]; omega
variable [Inhabited α]
theorem flatK_list (enc : α → List Value) (k : Nat) (hk : ∀ x, (enc x).length = k) (h0 : 0 < k) (d : Array α) : (flatK enc k d).toList = d.toList.flatMap enc := by
  apply List.ext_getElem?
  intro t
  by_cases ht : t < d.size * k
  · have hq : t / k < d.size := (Nat.div_lt_iff_lt_mul h0).2 ht
    have hr : t % k < k := Nat.mod_lt _ h0
    have h1 := flat_get enc k hk d.toList (t / k) d[t / k]! (by rw [Array.getElem?_toList, getElem!_pos d (t / k) hq, Array.getElem?_eq_getElem hq]) (t % k) hr
    rw [Nat.div_add_mod' t k] at h1
    rw [h1, Array.getElem?_toList, Array.getElem?_eq_getElem (by simpa using ht)]
    have h2 := get_flatK enc k d t ht
    rw [getElem!_pos (flatK enc k d) t (by simpa using ht)] at h2
    rw [h2, getElem!_pos (enc d[t / k]!) (t % k) (by rw [hk]; exact hr), List.getElem?_eq_getElem]
  · rw [List.getElem?_eq_none (by simp; omega), List.getElem?_eq_none (by rw [flat_len enc k hk]; simp; omega)]
theorem own_holdsK (enc : α → List Value) (k : Nat) (hk : ∀ x, (enc x).length = k) (h0 : 0 < k) {w : World} {B g cap n : Nat} {e : TypeId} {d : Array α} (h : w.ownsRow B e k (.slice (some ⟨g, 0, none⟩) n cap) n (d.toList.flatMap enc)) (hd : d.size = n) : HoldsK enc k w g 0 d := by
  obtain ⟨hx, h2⟩ := h
  rcases h2 with ⟨h0', _⟩ | ⟨g', c', cur, e0, hB, hgh, hnc, hm, hcs, htk⟩
  · cases h0'
  cases e0
  intro j hj
  have hj' : j < n * k := by rw [← hd]; simpa using hj
  refine ⟨?_, by simp [World.frozen?, hgh]⟩
  have h1 : (cur.toList.take (n * k))[j]? = ((flatK enc k d).toList)[j]? := by rw [htk, flatK_list enc k hk h0]
  rw [List.getElem?_take_of_lt hj'] at h1
  rw [cell_of_row w g (0 + j) _ _ _ hgh, Nat.zero_add, ← Array.getElem?_toList, h1, Array.getElem?_toList, Array.getElem?_eq_getElem hj]
  show some _ = some ((flatK enc k d)[j]!)
  rw [getElem!_pos (flatK enc k d) j hj]
theorem own_sorted (enc : α → List Value) (k : Nat) (hk : ∀ x, (enc x).length = k) (h0 : 0 < k) {w : World} {B g cap n m : Nat} {os : Array Obj} {e : TypeId} {d d' : Array α} (h : w.ownsRow B e k (.slice (some ⟨g, 0, none⟩) n cap) n (d.toList.flatMap enc)) (hd : d'.size = n) :
    (sortWorldK enc k w g 0 m d' os).ownsRow B e k (.slice (some ⟨g, 0, none⟩) n cap) n (d'.toList.flatMap enc) ∧ Mods (fun j => j = g) w (sortWorldK enc k w g 0 m d' os) := by
  obtain ⟨hx, h2⟩ := h
  rcases h2 with ⟨h0', _⟩ | ⟨g', c', cur, e0, hB, hgh, hnc, hm, hcs, htk⟩
  · cases h0'
  cases e0
  have hE : sortWorldK enc k w g 0 m d' os = sortWorld (fun x => x) w g 0 m (flatK enc k d') os := rfl
  rw [hE]
  refine ⟨⟨by rw [flat_len enc k hk]; simp [hd], .inr ⟨g, cap, _, rfl, hB, K.sorted_heap _ (flatK enc k d') hgh, hnc, hm, by simp [putCells, hcs], ?_⟩⟩, (Mods.of_grown (K.sorted_grown _ _)).mono (fun k _ h => (Option.some.inj h).symm)⟩
  have ht := K.sorted_take (fun x => x) cur (flatK enc k d') (by rw [hcs]; simp [hd]; exact Nat.mul_le_mul_right _ hnc)
  simp only [size_flatK, hd, List.map_id'] at ht
  rw [ht, flatK_list enc k hk h0]
end
set_option maxRecDepth 100000 in
set_option maxHeartbeats 1000000 in
theorem sortI_ins (p : Option Addr) (cap : Nat) (fv : Value) (w : World) :
    Calls Tryz.prog 132 #[.slice p 0 cap, .int .i64 0, .int .i64 0, fv] w fun e w' => e = .returned (.tuple #[]) ∧ w = w' := by
  go_enter Tryz.func132, Tryz.ntmps132
  go_wp2_with fail
  refine wp_loop_rounds 1 ?_
  rw [rounds_succ]
  go_wp2_with fail
  go_end0
  exact ⟨rfl, rfl⟩
set_option maxRecDepth 100000 in
set_option maxHeartbeats 1000000 in
theorem sortI_pdq (p : Option Addr) (cap : Nat) (lim : Int) (fv : Value) (w : World) :
    Calls Tryz.prog 103 #[.slice p 0 cap, .int .i64 0, .int .i64 0, .int .i64 lim, fv] w fun e w' => e = .returned (.tuple #[]) ∧ w = w' := by
  have hi := Lib.hid (fun W => sortI_ins p cap fv W)
  go_enter Tryz.func103, Tryz.ntmps103
  go_wp2_with fail
  refine wp_loop_rounds 1 ?_
  rw [rounds_succ]
  go_wp2_with (go_at_call 132; refine (hi.out _).mono ?_; rintro e w' ⟨rfl, rfl⟩)
  (try simp only [Exit.inBlock, Exit.then])
  refine bodyPost_ret (v := .tuple #[]) (results_none rfl _ _ _) rfl ?_
  exact ⟨rfl, rfl⟩
set_option maxRecDepth 100000 in
set_option maxHeartbeats 1000000 in
theorem sortI_zero (p : Option Addr) (cap : Nat) (fv : Value) (w : World) :
    Calls Tryz.prog 72 #[.slice p 0 cap, fv] w fun e w' => e = .returned (.tuple #[]) ∧ w = w' := by
  have hp := Lib.hid (fun lim W => sortI_pdq p cap lim fv W)
  have hl := Lib.hid K.len_zero
  go_enter Tryz.func72, Tryz.ntmps72
  go_wp2_with (first | (go_at_call 104; refine (hl.out _).mono ?_; rintro e w' ⟨⟨l, rfl⟩, rfl⟩) | (go_at_call 103; refine (hp.out _ _).mono ?_; rintro e w' ⟨rfl, rfl⟩))
  go_end0
  exact ⟨rfl, rfl⟩
theorem ico_lt (a b : Id) : ltOf ico a b = ilt a b := by
  unfold ltOf
  rw [Bool.eq_iff_iff, decide_eq_true_eq]
  exact ico_neg
theorem ico_swo : SWO (ltOf ico) where
  irrefl x := by rw [ico_lt]; exact ilt_irr x
  trans x y z h1 h2 := by rw [ico_lt] at *; exact ilt_trans h1 h2
  ntrans x y z h1 h2 := by
    rw [ico_lt] at *
    rw [ilt_no] at *
    omega
/-- a row of ids, sorted -/
theorem sortI_any (B : Nat) (w : World) (ao : Option Addr) (cap : Nat) (l : List Id) (h : w.ownsRow B 31 2 (.slice ao l.length cap) l.length (cellsI l)) (hl : l.length ≤ 1000000) :
    Calls Tryz.prog 72 #[.slice ao l.length cap, .func (.func 73) #[] #[]] w fun e w' => e = .returned (.tuple #[]) ∧
      ∃ m, (m.Perm l ∧ m.Pairwise ile ∧ m.length = l.length ∧ w'.ownsRow B 31 2 (.slice ao l.length cap) l.length (cellsI m) ∧ Mods (fun j => ∃ a, ao = some a ∧ j = a.block) w w') := by
  obtain ⟨ao', cap', e0, h1, h2, h3, h4⟩ := own_view h
  cases e0
  cases ao with
  | none =>
    have h0 := (h3 rfl).1
    have hl0 : l = [] := List.length_eq_zero_iff.1 h0
    subst hl0
    exact (sortI_zero _ _ _ _).mono fun e w' ⟨he, hw⟩ => ⟨he, [], .refl _, .nil, rfl, hw ▸ h, hw ▸ Mods.refl _ _⟩
  | some a =>
    obtain ⟨g, cur, rfl, hB, hg, _, _⟩ := h4 a rfl
    have hd : l.toArray.size = l.length := by simp
    have hown : w.ownsRow B 31 2 (.slice (some ⟨g, 0, none⟩) l.length cap) l.length (l.toArray.toList.flatMap idC) := h
    have hH := own_holdsK idC 2 (fun _ => rfl) (by decide) hown hd
    have eg : ∀ args w, (callFunc 73 args).run Tryz.prog w = .ok (.enter 73 args) w := enters_of Tryz.func73 (by kernel_rfl) rfl
    have hcmp : CmpLays Tryz.prog 73 #[] idC 2 ico g 0 l.toArray.size w := by
      intro m os dk hs x y
      exact (order_any x y _ _ rfl).mono fun e w' ⟨he, q, os', hw⟩ => ⟨he, q, os', hw⟩
    have hc := AnyQ.slices_SortFunc Tryz.sortC72 2 Tryz.isAgg31 Tryz.sizeOf31 idC (fun _ => rfl) (fun x v hv => by
      rcases List.mem_cons.1 hv with rfl | hv
      · rfl
      · rw [List.mem_singleton.1 hv]; rfl) ico ico_swo 73 #[] g 0 cap l.toArray w eg hcmp hH (heap_lt hg) (by rw [hd]; omega)
    rw [hd] at hc
    refine hc.mono ?_
    rintro e w' ⟨rfl, d', m, os, ⟨hp1, _, hp3⟩, hs, rfl⟩
    rw [hd] at hp1
    rw [K.extract_all d' _ hp1, K.extract_all l.toArray _ hd] at hp3
    obtain ⟨ho, hm⟩ := own_sorted idC 2 (fun _ => rfl) (by decide) (m := m) (os := os) hown hp1
    refine ⟨rfl, d'.toList, hp3, ?_, by simpa using hp1, ho, hm.mono fun k _ h => ⟨_, rfl, h⟩⟩
    rw [List.pairwise_iff_getElem]
    intro i j hi hj hij
    have hi' : i < d'.size := by simpa using hi
    have hj' : j < d'.size := by simpa using hj
    have := hs i j (Nat.zero_le _) hij (by omega)
    rw [ico_lt] at this
    unfold ile
    simpa [hi', hj'] using this
end Go.Proofs.YtlbkbjeajcadiaaGreatDoor.O
