/- Several texts in one. -/
import Derived.Test.YtkgjfagejnppbaaGreatDoorMrg10
import Derived.Test.YtkgjfagejnppbaaGreatDoorMrg15

/- What Comps has in memory while it goes on. -/
namespace Go.Proofs.YtkgjfagejnppbaaGreatDoor.K
open Go.RowKit M T Go.Sort
set_option linter.unusedVariables false
set_option linter.unusedSimpArgs false

/-- rows of numbers that came out -/
structure OutAt (B : Nat) (w : World) (oo : Option Addr) (oc : Nat) (R : List (Option Addr × Nat)) (L : List (List Nat)) : Prop where
  top : w.ownsRow B 87 1 (.slice oo L.length oc) L.length (hdrs R L)
  rl : R.length = L.length
  row : ∀ (i : Nat) c r, L[i]? = some c → R[i]? = some r → w.ownsRow B 3 1 (.slice r.1 c.length r.2) c.length (iv c)
theorem OutAt.nil (B : Nat) (w : World) : OutAt B w none 0 [] [] := ⟨World.ownsRow_nil _ _ _ _, rfl, fun i c r h => by simp at h⟩
theorem OutAt.lt {B : Nat} {w : World} {oo : Option Addr} {oc : Nat} {R : List (Option Addr × Nat)} {L : List (List Nat)} (h : OutAt B w oo oc R L) : (∀ a, oo = some a → ∃ cur, w.heap[a.block]? = some (.cells cur 87 (0, 0)) ∧ B ≤ a.block) ∧ ∀ r ∈ R, ∀ a, r.1 = some a → ∃ cur, w.heap[a.block]? = some (.cells cur 3 (0, 0)) ∧ B ≤ a.block := by
  refine ⟨own_heap h.top, fun r hr a ha => ?_⟩
  obtain ⟨i, hi⟩ := List.mem_iff_getElem?.1 hr
  have hil := (List.getElem?_eq_some_iff.1 hi).1
  obtain ⟨c, hc⟩ : ∃ c, L[i]? = some c := ⟨_, List.getElem?_eq_getElem (by rw [← h.rl]; exact hil)⟩
  exact own_heap (h.row i c r hc hi) a ha
theorem OutAt.keep {B : Nat} {w w1 : World} {oo : Option Addr} {oc : Nat} {R : List (Option Addr × Nat)} {L : List (List Nat)} {S : Nat → Prop} (h : OutAt B w oo oc R L) (hm : Mods S w w1) (h1 : ∀ a, oo = some a → ¬ S a.block) (h2 : ∀ r ∈ R, ∀ a, r.1 = some a → ¬ S a.block) : OutAt B w1 oo oc R L := by
  refine ⟨own_kept h.top hm (fun k hk => ?_), h.rl, fun i c r hc hr => own_kept (h.row i c r hc hr) hm (fun k hk => ?_)⟩
  · cases oo with
    | none => cases hk
    | some a => obtain rfl := Option.some.inj hk; exact h1 a rfl
  · obtain ⟨r1, r2⟩ := r
    cases r1 with
    | none => cases hk
    | some a => obtain rfl := Option.some.inj hk; exact h2 _ (List.mem_of_getElem? hr) a rfl
theorem OutAt.below {B : Nat} {w w1 : World} {oo : Option Addr} {oc : Nat} {R : List (Option Addr × Nat)} {L : List (List Nat)} (h : OutAt B w oo oc R L) (hb : Below w.heap.size w w1) : OutAt B w1 oo oc R L :=
  h.keep (Mods.of_below (S := fun _ => False) hb) (fun _ _ h => h.elim) (fun _ _ _ _ h => h.elim)
/-- one more row -/
theorem OutAt.more {B : Nat} {w w2 : World} {oo : Option Addr} {oc : Nat} {R : List (Option Addr × Nat)} {L : List (List Nat)} (h : OutAt B w oo oc R L) {gg cg gc cc : Nat} {c : List Nat} {bx : Obj}
    (hrow : w.ownsRow B 3 1 (.slice (some ⟨gc, 0, none⟩) c.length cc) c.length (iv c))
    (ho : w2.ownsRow B 87 1 (.slice (some ⟨gg, 0, none⟩) (L.length + 1) cg) (L.length + 1) (hdrs R L ++ [.slice (some ⟨gc, 0, none⟩) c.length cc]))
    (hg : (w.alloc bx).grownBy w2 (Value.slice oo L.length oc).ownBlock) :
    OutAt B w2 (some ⟨gg, 0, none⟩) cg (R ++ [(some ⟨gc, 0, none⟩, cc)]) (L ++ [c]) ∧ Mods (fun k => ∃ a, oo = some a ∧ k = a.block) w w2 := by
  have hM : Mods (fun k => ∃ a, oo = some a ∧ k = a.block) w w2 := ((Mods.refl _ w).alloc bx).grown hg (fun k hk _ => by
    cases oo with
    | none => cases hk
    | some a => exact ⟨a, rfl, (Option.some.inj hk).symm⟩)
  have hne : ∀ k cur, w.heap[k]? = some (.cells cur 3 (0, 0)) → ¬ ∃ a, oo = some a ∧ k = a.block := by
    rintro k cur hk ⟨a, ha, rfl⟩
    obtain ⟨cur', hh, _⟩ := h.lt.1 a ha
    rw [hk] at hh
    simp at hh
  refine ⟨⟨?_, by simp [h.rl], fun i c' r hc hr => ?_⟩, hM⟩
  · rw [List.length_append, hdrs_append h.rl]
    exact ho
  · rcases Nat.lt_or_ge i L.length with h1 | h1
    · rw [List.getElem?_append_left h1] at hc
      rw [List.getElem?_append_left (by rw [h.rl]; exact h1)] at hr
      refine own_kept (h.row i c' r hc hr) hM (fun k hk => ?_)
      obtain ⟨r1, r2⟩ := r
      cases r1 with
      | none => cases hk
      | some a =>
        obtain rfl := Option.some.inj hk
        obtain ⟨cur, hh, _⟩ := h.lt.2 _ (List.mem_of_getElem? hr) a rfl
        exact hne _ _ hh
    · rw [List.getElem?_append_right h1] at hc
      rw [List.getElem?_append_right (by rw [h.rl]; exact h1), h.rl] at hr
      have hi0 : i - L.length = 0 := by have := (List.getElem?_eq_some_iff.1 hc).1; simp at this; omega
      rw [hi0] at hc hr
      obtain rfl : c = c' := by simpa using hc
      obtain rfl : (some ⟨gc, 0, none⟩, cc) = r := by simpa using hr
      refine own_kept hrow hM (fun k hk => ?_)
      obtain rfl : gc = k := Option.some.inj hk
      obtain ⟨cur, hh, _⟩ := own_heap hrow _ rfl
      exact hne _ _ hh

structure CS (w1 : World) (k : Nat) (w : World) (g cap gB bc : Nat) (l : List Nat) (oo : Option Addr) (oc : Nat) (R : List (Option Addr × Nat)) (L : List (List Nat)) (cm : Nat → Bool) : Prop where
  bel : Below w1.heap.size w1 w
  lo : w1.heap.size ≤ g ∧ w1.heap.size ≤ gB ∧ w1.heap.size ≤ bc
  left : w.ownsRow w1.heap.size 3 1 (.slice (some ⟨g, 0, none⟩) l.length cap) l.length (iv l)
  come : w.heap[gB]? = some (.cells (tabB k cm) 4 (0, 0))
  cbox : w.heap[bc]? = some (.cells #[.slice (some ⟨gB, 0, none⟩) k k] 120 (0, 0))
  out : OutAt w1.heap.size w oo oc R L
  rne : ∀ r ∈ R, ∀ a, r.1 = some a → a.block ≠ g
section
variable {w1 w w2 : World} {k g cap gB bc : Nat} {l : List Nat} {oo : Option Addr} {oc : Nat} {R : List (Option Addr × Nat)} {L : List (List Nat)} {cm : Nat → Bool}
theorem CS.lt (h : CS w1 k w g cap gB bc l oo oc R L cm) : (∃ cur, w.heap[g]? = some (.cells cur 3 (0, 0))) ∧ g < w.heap.size ∧ gB < w.heap.size ∧ bc < w.heap.size := by
  obtain ⟨cur, hg, _⟩ := own_heap h.left _ rfl
  exact ⟨⟨cur, hg⟩, heap_lt hg, heap_lt h.come, heap_lt h.cbox⟩
theorem CS.ne (h : CS w1 k w g cap gB bc l oo oc R L cm) : gB ≠ bc ∧ gB ≠ g ∧ bc ≠ g ∧ (∀ a, oo = some a → a.block ≠ g ∧ a.block ≠ gB ∧ a.block ≠ bc) ∧ ∀ r ∈ R, ∀ a, r.1 = some a → a.block ≠ gB ∧ a.block ≠ bc := by
  obtain ⟨⟨cur, hg⟩, _⟩ := h.lt
  have hB := h.come
  have hb := h.cbox
  refine ⟨fun e => ?_, fun e => ?_, fun e => ?_, fun a ha => ?_, fun r hr a ha => ?_⟩
  · rw [e, hb] at hB; simp at hB
  · rw [e, hg] at hB; simp at hB
  · rw [e, hg] at hb; simp at hb
  · obtain ⟨cur', hh, _⟩ := h.out.lt.1 a ha
    refine ⟨fun e => ?_, fun e => ?_, fun e => ?_⟩
    · rw [e, hg] at hh; simp at hh
    · rw [e, hB] at hh; simp at hh
    · rw [e, hb] at hh; simp at hh
  · obtain ⟨cur', hh, _⟩ := h.out.lt.2 r hr a ha
    refine ⟨fun e => ?_, fun e => ?_⟩
    · rw [e, hB] at hh; simp at hh
    · rw [e, hb] at hh; simp at hh
theorem CS.below (h : CS w1 k w g cap gB bc l oo oc R L cm) (hb : Below w.heap.size w w2) : CS w1 k w2 g cap gB bc l oo oc R L cm := by
  have hm : Mods (fun _ => False) w w2 := Mods.of_below hb
  exact ⟨h.bel.trans (hm.below (fun _ h => h.elim) h.bel.size), h.lo, own_kept h.left hm (fun _ _ h => h), hm.heap h.come (fun h => h), hm.heap h.cbox (fun h => h), h.out.below hb, h.rne⟩
theorem CS.set_come (h : CS w1 k w g cap gB bc l oo oc R L cm) (x : Nat) : CS w1 k (w.setCell ⟨gB, x, none⟩ (.bool true)) g cap gB bc l oo oc R L (upd cm x true) := by
  have hm : Mods (fun k => k = gB) w (w.setCell ⟨gB, x, none⟩ (.bool true)) := (Mods.refl (fun k => k = gB) w).setCell (p := ⟨gB, x, none⟩) (fun _ => rfl) _
  obtain ⟨n1, n2, n3, n4, n5⟩ := h.ne
  refine ⟨h.bel.trans (hm.below (fun k hk => by rw [show k = gB from hk]; exact h.lo.2.1) h.bel.size), h.lo, own_kept h.left hm (fun k hk e => n2 (by rw [← show k = gB from e]; exact (Option.some.inj hk).symm)), ?_, hm.heap h.cbox (fun e => n1 (show bc = gB from e).symm), h.out.keep hm (fun a ha => (n4 a ha).2.1) (fun r hr a ha => (n5 r hr a ha).1), h.rne⟩
  have := heap_set w gB x (.bool true) gB _ _ _ h.come
  rw [if_pos rfl, tabB_set] at this
  exact this
theorem CS.more (h : CS w1 k w g cap gB bc l oo oc R L cm) {gg cg gc cc : Nat} {c : List Nat} {bx : Obj}
    (hrow : w.ownsRow w1.heap.size 3 1 (.slice (some ⟨gc, 0, none⟩) c.length cc) c.length (iv c)) (hgc : gc ≠ g)
    (ho : w2.ownsRow w1.heap.size 87 1 (.slice (some ⟨gg, 0, none⟩) (L.length + 1) cg) (L.length + 1) (hdrs R L ++ [.slice (some ⟨gc, 0, none⟩) c.length cc]))
    (hg : (w.alloc bx).grownBy w2 (Value.slice oo L.length oc).ownBlock) :
    CS w1 k w2 g cap gB bc l (some ⟨gg, 0, none⟩) cg (R ++ [(some ⟨gc, 0, none⟩, cc)]) (L ++ [c]) cm := by
  obtain ⟨h2, hm⟩ := h.out.more hrow ho hg
  obtain ⟨n1, n2, n3, n4, n5⟩ := h.ne
  refine ⟨h.bel.trans (hm.below (fun k hk => ?_) h.bel.size), h.lo, own_kept h.left hm (fun k hk => ?_), hm.heap h.come ?_, hm.heap h.cbox ?_, h2, fun r hr a ha => ?_⟩
  · obtain ⟨a, ha, rfl⟩ := hk
    obtain ⟨_, _, hB⟩ := h.out.lt.1 a ha
    exact hB
  · rintro ⟨a, ha, rfl⟩
    exact (n4 a ha).1 (Option.some.inj hk).symm
  · rintro ⟨a, ha, e⟩
    exact (n4 a ha).2.1 e.symm
  · rintro ⟨a, ha, e⟩
    exact (n4 a ha).2.2 e.symm
  · rcases List.mem_append.1 hr with h1 | h1
    · exact h.rne r h1 a ha
    · obtain rfl := List.mem_singleton.1 h1
      obtain rfl := Option.some.inj ha
      exact hgc
theorem CS.set_left (h : CS w1 k w g cap gB bc l oo oc R L cm) {l' : List Nat} (hm : Mods (fun k => k = g) w w2) (hl : w2.ownsRow w1.heap.size 3 1 (.slice (some ⟨g, 0, none⟩) l'.length cap) l'.length (iv l')) : CS w1 k w2 g cap gB bc l' oo oc R L cm := by
  obtain ⟨n1, n2, n3, n4, n5⟩ := h.ne
  exact ⟨h.bel.trans (hm.below (fun k hk => by rw [show k = g from hk]; exact h.lo.1) h.bel.size), h.lo, hl, hm.heap h.come (fun e => n2 e), hm.heap h.cbox (fun e => n3 e), h.out.keep hm (fun a ha => (n4 a ha).1) (fun r hr a ha => h.rne r hr a ha), h.rne⟩
end
theorem made_tabB (n : Nat) : madeCells (Value.bool false).cells n = tabB n fun _ => false := by
  apply Array.ext_getElem?
  intro j
  by_cases hj : j < n
  · rw [tabB_get n _ j hj]
    simp [madeCells, Value.cells, hj, Nat.mod_one]
  · have h2 : (tabB n fun _ => false)[j]? = none := by rw [Array.getElem?_eq_none_iff, tabB_size]; omega
    rw [h2, Array.getElem?_eq_none_iff]
    simp [madeCells]; omega
theorem info_bool : (Tryz.prog.info? 4).map (fun i => (i.zero, i.size, i.bytes)) = some (some (.bool false), 1, 1) := by kernel_rfl
theorem make_bools (n : Nat) (hn : n ≤ 10000) (w : World) : (Instr.makeSlice 120 (.int .i64 (n : Int)) (.int .i64 (n : Int))).run Tryz.prog w = .ok (.slice (some ⟨w.heap.size, 0, none⟩) n n) (w.alloc (.cells (tabB n fun _ => false) 4)) := by
  obtain ⟨i0, hi, hz0, hz1, hz2⟩ := info_parts info_bool
  have h := run_make (P := Tryz.prog) w 120 4 i0 _ Tryz.underlying120 hi hz0 .i64 .i64 (n : Int) (n : Int) (by omega) (Int.le_refl _) (by rw [hz2]; omega) (by omega)
  simp only [Int.toNat_natCast, hz1, Nat.mul_one] at h
  rw [made_tabB] at h
  exact h
/-- one number taken out -/
theorem delete_own (B : Nat) (w : World) (g cap : Nat) (l : List Nat) (i : Nat) (h : w.ownsRow B 3 1 (.slice (some ⟨g, 0, none⟩) l.length cap) l.length (iv l)) (hi : i < l.length) :
    Calls Tryz.prog 58 #[.slice (some ⟨g, 0, none⟩) l.length cap, .int .i64 i, .int .i64 ((i : Int) + 1)] w fun e w' => e = .returned (.slice (some ⟨g, 0, none⟩) (l.eraseIdx i).length cap) ∧ (w'.ownsRow B 3 1 (.slice (some ⟨g, 0, none⟩) (l.eraseIdx i).length cap) (l.eraseIdx i).length (iv (l.eraseIdx i)) ∧ Mods (fun k => k = g) w w') := by
  obtain ⟨zs, hzs⟩ : ∃ zs : List Int, zs = l.map fun (x : Nat) => (x : Int) := ⟨_, rfl⟩
  have hzl : zs.length = l.length := by rw [hzs, List.length_map]
  obtain ⟨hx, h2⟩ := h
  rcases h2 with ⟨h0, _⟩ | ⟨g', c', cur, e0, hB, hg, hnc, hm, hcs, htk⟩
  · cases h0
  cases e0
  rw [iv_int, ← hzs] at htk
  have hH := holds_of_blockI (ss := zs) hg (by rw [hzl]; rw [Nat.mul_one] at htk; exact htk)
  have hc := Tryz.slices_Delete_int g 0 cap i (i + 1) zs w hH (by omega) (by unfold maxLen at hm; omega) (by omega) (by omega)
  rw [hzl] at hc
  have hel : (l.eraseIdx i).length = l.length - (i + 1 - i) := by rw [List.length_eraseIdx_of_lt hi]; omega
  have harg : (((i + 1 : Nat) : Int)) = (i : Int) + 1 := by omega
  rw [harg] at hc
  refine hc.mono ?_
  rintro e w' ⟨he, n, rfl⟩
  obtain ⟨d, hd⟩ : ∃ d : List Int, d = zs.take i ++ zs.drop (i + 1) ++ List.replicate (i + 1 - i) 0 := ⟨_, rfl⟩
  rw [← hd]
  have hdl : d.length = l.length := by rw [hd]; simp; omega
  have hsw : putRow (Value.int .i64) (Sort.ahead w n) g 0 d.toArray = sortWorld (Value.int .i64) w g 0 n d.toArray #[] := (grow_empty _).symm
  rw [hsw]
  have htake : (d.map (Value.int .i64)).take (l.eraseIdx i).length = iv (l.eraseIdx i) := by
    have e2 : l.eraseIdx i = l.take i ++ l.drop (i + 1) := List.eraseIdx_eq_take_drop_succ ..
    rw [← List.map_take, hd, hzs, List.take_append_of_le_length (by simp; omega), List.take_of_length_le (by simp; omega), e2, iv_int]; simp only [List.map_append, List.map_take, List.map_drop]
  refine ⟨by rw [he, hel], ⟨by simp [iv], .inr ⟨g, cap, _, rfl, hB, sorted_heap _ _ hg, by omega, hm, by simp [putCells, hcs], ?_⟩⟩, (Mods.of_grown (sorted_grown _ _)).mono (fun k _ h => (Option.some.inj h).symm)⟩
  rw [Nat.mul_one, ← htake]
  have ht := sorted_take (Value.int .i64) cur d.toArray (by simp; omega)
  rw [show d.toArray.size = d.length by simp] at ht
  have ht2 : d.map (Value.int .i64) = (putCells (Value.int .i64) 0 d.toArray cur).toList.take d.length := ht.symm
  rw [ht2, List.take_take, Nat.min_eq_left (by omega)]
end Go.Proofs.YtkgjfagejnppbaaGreatDoor.K

/- The contract of Comps. -/
namespace Go.Proofs.YtkgjfagejnppbaaGreatDoor.K
open Go.RowKit M T
set_option linter.unusedVariables false
set_option linter.unusedSimpArgs false

theorem tab_range (k : Nat) (f : Nat → Int) (h : ∀ v, v < k → f v = v) : (tab k f).toList = iv (List.range k) := by
  unfold tab iv
  exact List.map_congr_left fun v hv => by rw [h v (List.mem_range.1 hv)]
theorem own_tab {w : World} {B g k : Nat} {f : Nat → Int} (hg : w.heap[g]? = some (.cells (tab k f) 3 (0, 0))) (hB : B ≤ g) (hk : k ≤ 10000) (h : ∀ v, v < k → f v = v) : w.ownsRow B 3 1 (.slice (some ⟨g, 0, none⟩) k k) k (iv (List.range k)) :=
  ⟨by simp [iv], .inr ⟨g, k, _, rfl, hB, hg, Nat.le_refl _, by unfold maxLen; omega, by rw [tab_size, Nat.mul_one], by rw [tab_range k f h, Nat.mul_one]; exact List.take_of_length_le (by simp [iv])⟩⟩

def lenV : Value → Nat
  | .slice _ n _ => n
  | _ => 0
theorem OutAt.base {B B' : Nat} {w : World} {oo : Option Addr} {oc : Nat} {R : List (Option Addr × Nat)} {L : List (List Nat)} (h : OutAt B w oo oc R L) (hB : B' ≤ B) : OutAt B' w oo oc R L := by
  refine ⟨own_base h.top (fun k hk => ?_), h.rl, fun i c r hc hr => own_base (h.row i c r hc hr) (fun k hk => ?_)⟩
  · cases oo with
    | none => cases hk
    | some a => obtain rfl := Option.some.inj hk; obtain ⟨_, _, h2⟩ := h.lt.1 a rfl; omega
  · obtain ⟨r1, r2⟩ := r
    cases r1 with
    | none => cases hk
    | some a => obtain rfl := Option.some.inj hk; obtain ⟨_, _, h2⟩ := h.lt.2 _ (List.mem_of_getElem? hr) a rfl; omega
theorem pw_len : ∀ (c : List Nat) (lo n : Nat), c.Pairwise (· < ·) → (∀ x ∈ c, lo ≤ x ∧ x < n) → c.length ≤ n - lo := by
  intro c
  induction c with
  | nil => intro lo n _ _; exact Nat.zero_le _
  | cons a t ih =>
    intro lo n hp hb
    have h1 := hb a List.mem_cons_self
    have h2 := ih (a + 1) n (List.pairwise_cons.1 hp).2 (fun x hx => ⟨(List.pairwise_cons.1 hp).1 x hx, (hb x (List.mem_cons_of_mem _ hx)).2⟩)
    rw [List.length_cons]
    omega
theorem Comp.row_len {E : Nat → List Int} {n : Nat} {C : List (List Nat)} {q : Nat → Nat} (hC : Comp E n C q) {i : Nat} {c : List Nat} (hc : C[i]? = some c) : c.length ≤ n :=
  pw_len c 0 n (hC.d3 c (List.mem_of_getElem? hc)).1 (fun x hx => ⟨Nat.zero_le _, (hC.d2 i c x hc hx).1⟩)
theorem upd_mem (ems : List Nat) (x : Nat) : upd (fun i => decide (i ∈ ems)) x true = fun i => decide (i ∈ ems ++ [x]) := by
  funext y
  unfold upd
  by_cases e : y = x <;> simp [e]
set_option maxRecDepth 100000 in
set_option maxHeartbeats 4000000 in
theorem comps_any (E : Nat → List Int) (n : Nat) (eo : Option Addr) (ec : Nat) (w : World) (hEd : EdAt w.heap.size w eo n ec E) (hn : n ≤ 10000) :
    Calls Tryz.prog 36 #[.slice eo n ec] w fun e w' => ∃ oo oc R L q, e = .returned (.slice oo L.length oc) ∧ (InOrder E n L q ∧ OutAt w.heap.size w' oo oc R L ∧ Below w.heap.size w w') := by
  obtain ⟨i0, hii, hz0, hz1, hz2⟩ := info_parts info_ints
  have HED := Lib.hid hEd
  clear hEd
  go_enter Tryz.func36, Tryz.ntmps36
  go_wp2_with fail
  refine (find_any E n eo ec w HED.out hn).mono ?_
  rintro e wf ⟨b, rfl, m, s, hfd, hall⟩
  have hC := (comp_of hfd.inv hall).1
  have hRD := RD.of hfd hall
  have hEf := HED.out.below hfd.bel
  have hCk : s.comps.length ≤ 10000 := by have := hfd.cnt; omega
  have HBF := Lib.hid hfd.bel
  obtain ⟨C, hCe⟩ : ∃ C, C = s.comps := ⟨_, rfl⟩
  obtain ⟨q, hqe⟩ : ∃ q, q = qOf s := ⟨_, rfl⟩
  rw [← hCe, ← hqe] at hC hRD
  rw [← hCe] at hCk
  clear hall hfd hCe hqe s m HED
  obtain ⟨k, hk⟩ : ∃ k, k = C.length := ⟨_, rfl⟩
  rw [← hk] at hCk
  have HC := Lib.hid hC
  have HRD := Lib.hid hRD
  have HEF := Lib.hid hEf
  have HK := Lib.hid hk
  clear hC hRD hEf hk
  go_upto_region 2 with fail
  obtain ⟨w1, hw1⟩ : ∃ w1, w1 = wf.alloc (.cells #[.pointer (some ⟨b, 0, none⟩)] 114) := ⟨_, rfl⟩
  obtain ⟨bf, hbf⟩ : ∃ bf, bf = wf.heap.size := ⟨_, rfl⟩
  have hb1 : Below wf.heap.size wf w1 := by rw [hw1]; exact (Below.refl _ _).alloc (Nat.le_refl _) _
  have hx1 : w1.heap[bf]? = some (.cells #[.pointer (some ⟨b, 0, none⟩)] 114 (0, 0)) := by rw [hw1, hbf]; exact heap_alloc_new wf _
  have f0 : w1.cell? ⟨bf, 0, none⟩ = some (.pointer (some ⟨b, 0, none⟩)) := cell_of_row w1 bf 0 _ _ _ hx1
  have hrd := HRD.out.below hb1
  have hBF1 : Below w.heap.size w w1 := HBF.out.trans (by
    have := HBF.out.size
    rw [hw1]; exact (Below.refl _ _).alloc this _)
  have hEf1 := HEF.out.below (show Below w.heap.size wf w1 by
    have := HBF.out.size
    rw [hw1]; exact (Below.refl _ _).alloc this _)
  rw [← hw1, ← hbf]
  have HF0 := Lib.hid f0
  clear hw1 hbf hx1 hb1 HRD HEF HBF
  obtain ⟨go, co, cc, c0, c3, c6', hle, hmx, hq, hrows⟩ := hrd.hd
  have c6 : w1.cell? ⟨b, 6, none⟩ = some (.slice co k cc) := by rw [HK.out]; exact c6'
  have C6 := Lib.hid c6
  have HRD := Lib.hid hrd
  have HE := Lib.hid hEf1
  have HB1 := Lib.hid hBF1
  have hmk := make_ints k hCk
  have hmb := make_bools k hCk
  clear hrd hEf1 hBF1 c0 c3 c6' hle hmx hq hrows
  go_wp2_with fail
  have HT0 := Lib.hid (heap_alloc_new w1 (.cells (tab k fun _ => 0) 3))
  obtain ⟨g, hg⟩ : ∃ g, g = w1.heap.size := ⟨_, rfl⟩
  have HG := Lib.hid hg
  rw [← hg] at HT0 ⊢
  obtain ⟨w2, hw2⟩ : ∃ w2, w2 = w1.alloc (.cells (tab k fun _ => 0) 3) := ⟨_, rfl⟩
  have HB2 : Hid (Below w1.heap.size w1 w2) := by rw [hw2]; exact Lib.hid ((Below.refl _ _).alloc (Nat.le_refl _) _)
  rw [← hw2] at HT0 ⊢
  clear hw2 hg f0 c6
  go_loopw [20] (fun iv wr => ∃ j : Nat, iv = .int .i64 j ∧ j ≤ k ∧ wr.heap[g]? = some (.cells (tab k fun y => if y < j then (y : Int) else 0) 3 (0, 0)) ∧ Below w1.heap.size w1 wr) (fun iv _ => k - (intOf iv).toNat)
  case atStart => exact ⟨0, rfl, Nat.zero_le _, by simpa using HT0.out, HB2.out⟩
  case round =>
    obtain ⟨j, rfl, hj, hh, hb⟩ := hrel
    have HH := Lib.hid hh
    have HB := Lib.hid hb
    by_cases hlt : j < k
    · obtain ⟨ko, fo⟩ := row_cell hh j hlt
      have hjk : (j : Int) < (k : Int) := by omega
      clear hh hb
      go_wp2_with fail
      go_roundw
      case rel =>
        refine ⟨j + 1, by go_num, by omega, ?_, HB.out.setCell (p := ⟨g, j, none⟩) (by rw [HG.out]; exact Nat.le_refl _) _⟩
        have := heap_set wr g j (.int .i64 (j : Int)) g _ _ _ HH.out
        rw [if_pos rfl, tab_set] at this
        rw [this]
        congr 2
        refine tab_congr _ _ _ fun v hv => ?_
        simp only [upd]
        by_cases e1 : v = j
        · simp [e1]
        · rw [if_neg e1]
          by_cases e2 : v < j
          · rw [if_pos e2, if_pos (by omega)]
          · rw [if_neg e2, if_neg (by omega)]
      case measure => simp [intOf]; omega
    · obtain rfl : j = k := by omega
      have hjk : ¬ ((j : Nat) : Int) < (j : Int) := by omega
      have hown := own_tab (B := w1.heap.size) hh (by rw [HG.out]; exact Nat.le_refl _) hCk (fun v hv => by rw [if_pos hv])
      rw [HK.out] at hown
      have hsort := sort_heads E n w1 wr b bf C q eo ec HC.out HRD.out HF0.out hn (by rw [← HK.out]; exact hCk) hb w1.heap.size g C.length (by rw [HG.out]; exact Nat.le_refl _) hown
      rw [← HK.out] at hsort
      clear hh hown
      go_wp2_with fail
      refine hsort.mono ?_
      rintro e w3 ⟨rfl, l, hl, hpw, hown3, hm3⟩
      have hb3 : Below w1.heap.size w1 w3 := HB.out.trans (hm3.below (fun k hk => by rw [show k = g from hk, HG.out]; exact Nat.le_refl _) HB.out.size)
      have HO3 := Lib.hid hown3
      have HP3 := Lib.hid (And.intro hl hpw)
      have HB3 := Lib.hid hb3
      have c6 := cell_below hb3 C6.out
      have f0 := cell_below hb3 HF0.out
      clear hl hpw hown3 hm3 hb3 hb HB HH HB2 HT0 hmk
      go_upto_region 10 with fail
      obtain ⟨w4, hw4⟩ : ∃ w4, w4 = (w3.alloc (.cells (tabB j fun _ => false) 4)).alloc (.cells #[.slice (some ⟨w3.heap.size, 0, none⟩) j j] 120) := ⟨_, rfl⟩
      obtain ⟨gB, hgB⟩ : ∃ gB, gB = w3.heap.size := ⟨_, rfl⟩
      obtain ⟨bc, hbc⟩ : ∃ bc, bc = w3.heap.size + 1 := ⟨_, rfl⟩
      rw [← hw4, ← hbc, ← hgB]
      have HCS4 : Hid (CS w1 j w4 g j gB bc l none 0 [] [] (fun _ => false)) := by
        have hb4 : Below w3.heap.size w3 w4 := by rw [hw4]; exact ((Below.refl _ _).alloc (Nat.le_refl _) _).alloc (by simp) _
        have hll : l.length = j := by rw [HP3.out.1.length_eq, HK.out]; simp
        have hs3 := HB3.out.size
        refine Lib.hid ⟨HB3.out.trans (hb4.mono hs3), ⟨by rw [HG.out]; exact Nat.le_refl _, by omega, by omega⟩, ?_, ?_, ?_, OutAt.nil _ _, fun r hr => by simp at hr⟩
        · rw [hll]
          exact own_kept HO3.out (Mods.of_below (S := fun _ => False) hb4) (fun _ _ h => h)
        · rw [hw4, hgB, heap_al, if_neg (by simp), heap_alloc_new]
        · rw [hw4, hbc, heap_al, if_pos (by simp), hgB]
      have HEM0 := Lib.hid (Em.start (E := E) (n := n) (C := C) (q := q) (by rw [← HK.out]; exact HP3.out.1) HP3.out.2)
      have HLL : Hid (l.length = j) := Lib.hid (by rw [HP3.out.1.length_eq, HK.out]; simp)
      clear hw4 hgB hbc c6 f0 HO3 HB3 hmb
      go_wp2_with fail
      have HLEN := Lib.hid (show (Value.slice (some ⟨g, 0, none⟩) j j) = .slice (some ⟨g, 0, none⟩) l.length j by rw [HLL.out])
      go_loopw [4, 7] (fun lv ov wr => ∃ (l ems : List Nat) (oo : Option Addr) (oc : Nat) (R : List (Option Addr × Nat)), lv = .slice (some ⟨g, 0, none⟩) l.length j ∧ ov = .slice oo ems.length oc ∧ CS w1 j wr g j gB bc l oo oc R (ems.map fun i => C.getD i []) (fun i => decide (i ∈ ems)) ∧ Em E n C q l ems) (fun lv _ _ => lenV lv)
      case atStart => exact ⟨l, [], none, 0, [], HLEN.out, rfl, by simpa using HCS4.out, HEM0.out⟩
      case round =>
        clear HCS4 HEM0 HLL HLEN HP3
        obtain ⟨l, ems, oo, oc, R, rfl, rfl, hcs, hem⟩ := hrel
        have HCS := Lib.hid hcs
        have HEM := Lib.hid hem
        by_cases hl0 : l.length = 0
        · obtain rfl : l = [] := List.length_eq_zero_iff.1 hl0
          have e0 : (([] : List Nat).length : Int) = 0 := rfl
          clear hcs hem
          go_wp2_with fail
          go_ret
          refine ⟨oo, oc, R, ems.map fun i => C.getD i [], _, by rw [List.length_map]; rfl, Em.done HC.out HEM.out, HCS.out.out.base HB1.out.size, HB1.out.trans (HCS.out.bel.mono HB1.out.size)⟩
        · have hgt : (0 : Int) < (l.length : Int) := by omega
          obtain ⟨i, x, hx, hr, hno⟩ := hem.next HC.out (fun e => hl0 (by rw [e]; rfl))
          have hil := (List.getElem?_eq_some_iff.1 hx).1
          have hili : (i : Int) < (l.length : Int) := by omega
          have hxC : x < C.length := hem.lt (.inl (List.mem_of_getElem? hx))
          have hxj : (x : Int) < (j : Int) := by have := HK.out; omega
          obtain ⟨g', eg, _, hlc, hlm, hlx⟩ := rowcell hcs.left (by omega)
          obtain rfl : g = g' := by simpa using eg
          have hlen : l.length ≤ j := hlc
          have l0 := (hlx i _ (iv_get l i x hx)).1
          have hRB : RB E n w.heap.size _ b bf bc gB C q eo ec (fun i => decide (i ∈ ems)) :=
            ⟨HE.out.below (hcs.bel.mono HB1.out.size), HRD.out.below hcs.bel, cell_below hcs.bel HF0.out, by rw [← HK.out]; exact cell_of_row _ _ _ _ _ _ hcs.cbox, fun i hi => (rowB_cell hcs.come i (by rw [HK.out]; exact hi)).1⟩
          have hfind := find_ready E n w.heap.size _ b bf bc gB C q eo ec _ hRB HC.out hn (by rw [← HK.out]; exact hCk) g j l (fun a y hy => (hlx a _ (iv_get l a y hy)).1) (by omega) (fun y hy => hem.lt (.inl hy)) i x hx hr hno
          have HX := Lib.hid hx
          have HR := Lib.hid hr
          have HNO := Lib.hid hno
          have hbc := hRB.cc
          rw [← HK.out] at hbc
          obtain ⟨y0, z0⟩ := rowB_cell hcs.come x (by rw [HK.out]; exact hxC)
          clear hcs hem hx hr hno hRB hlx eg
          go_wp2_with fail
          refine hfind.mono ?_
          rintro e w5 ⟨rfl, rfl⟩
          go_upto_region 15 with fail
          obtain ⟨w5, hw5⟩ : ∃ w5, w5 = wr.setCell ⟨gB, x, none⟩ (.bool true) := ⟨_, rfl⟩
          have hcs5 := HCS.out.set_come x
          rw [← hw5] at hcs5 ⊢
          rw [upd_mem] at hcs5
          have f5 := cell_below hcs5.bel HF0.out
          have c5 := cell_below hcs5.bel C6.out
          obtain ⟨c, hc, hcl, _, _, _⟩ := head_get HC.out hxC
          obtain ⟨_, co', cc', _, _, c6', hle, hmx, _, hrows⟩ := (HRD.out.below hcs5.bel).hd
          have e6 := c5.symm.trans c6'
          simp only [Option.some.injEq, Value.slice.injEq] at e6
          obtain ⟨rfl, hjj, rfl⟩ := e6
          clear hjj
          obtain ⟨gc, gr, cr, rfl, ch, hcr1, hcr2, hcell⟩ := hrows x c hc
          have hcn : c.length ≤ 10000 := Nat.le_trans (HC.out.row_len hc) hn
          have hcln := clone_own w1.heap.size w5 gr 0 cr c (fun a y hy => by rw [Nat.zero_add]; exact hcell a y hy) (by omega) hcl
          have hgd : C.getD x [] = c := by simp [List.getD, hc]
          have HGD := Lib.hid hgd
          have HCS5 := Lib.hid hcs5
          have hsum : ems.length + l.length = C.length := by have := HEM.out.pm.length_eq; simpa using this
          have heml : ems.length ≤ 10000 := by have := HK.out; omega
          clear hw5 hcs5 hc hrows hcell c6' hgd hbc y0 z0 l0 hfind hsum
          go_wp2_with fail
          refine hcln.mono ?_
          rintro e w6 ⟨gn, cn, rfl, hgn, hown6, hb6⟩
          have hcs6 := HCS5.out.below hb6
          have hs5 := HCS5.out.bel.size
          have hown6' : w6.ownsRow w1.heap.size 3 1 (.slice (some ⟨gn, 0, none⟩) c.length cn) c.length (iv c) := own_base hown6 (fun k hk => by have := Option.some.inj hk; simp only at this; omega)
          have hgng : gn ≠ g := by have := HCS5.out.lt.2.1; omega
          have HOW := Lib.hid hown6'
          have HCS6 := Lib.hid hcs6
          have htop := hcs6.out.top
          rw [List.length_map] at htop
          have HTOP := Lib.hid htop
          have hs6 := hcs6.bel.size
          clear hcs6 hown6 hown6' hb6 htop hcln
          go_wp2_with (refine wpList_append_lies _ (by rfl) (.tmp 50) (.tmp 59) 90 (by rfl) w1.heap.size 87 i0 _ 1 24 Tryz.underlying90 hii hz0 hz1 hz2 rfl (by decide) (.slice oo ems.length oc) ems.length (hdrs R (ems.map fun i => C.getD i [])) (by rfl) (by exact HTOP.out.alloc _) ⟨w6.heap.size, 0, none⟩ 1 1 [.slice (some ⟨gn, 0, none⟩) c.length cn] (by rfl) (by rfl) (World.news_of_block (cs := #[.slice (some ⟨gn, 0, none⟩) c.length cn]) (t := 87) (fr := (0, 0)) (heap_alloc_new w6 _)) (by simp [Value.oneCell']) (by omega) (by unfold maxLen; omega) (by omega) (by simp; omega) (w6.heap.size + 1) (by simp) ?_; intro gg cg w7 hown hgrow hat hlt7; have HG7 := Lib.hid (And.intro hown (And.intro hgrow hat)); clear hown hgrow hat)
          have hcs7 := HCS6.out.more HOW.out hgng (by rw [List.length_map]; exact HG7.out.1) (by rw [List.length_map]; exact HG7.out.2.1)
          have hdel := delete_own w1.heap.size w7 g j l i hcs7.left hil
          have HCS7 := Lib.hid hcs7
          clear hcs7
          refine hdel.mono ?_
          rintro e w8 ⟨rfl, hown8, hm8⟩
          have hcs8 := HCS7.out.set_left hm8 hown8
          have HCS8 := Lib.hid hcs8
          clear hcs8 hown8 hm8 hdel
          go_wp2_with fail
          go_roundw
          case rel =>
            refine ⟨l.eraseIdx i, ems ++ [x], some ⟨gg, 0, none⟩, cg, R ++ [(some ⟨gn, 0, none⟩, cn)], rfl, by rw [List.length_append]; rfl, ?_, HEM.out.step HX.out HR.out HNO.out⟩
            have := HCS8.out
            rw [List.map_append, List.map_singleton, HGD.out]
            exact this
          case measure =>
            show (l.eraseIdx i).length < l.length
            rw [List.length_eraseIdx_of_lt hil]; omega
end Go.Proofs.YtkgjfagejnppbaaGreatDoor.K
