/- The contract of the reference's Comps. -/
import Derived.Test.YtmmggeaaheegmaaCompV
namespace Go.Proofs.Ytmmggeaaheegmaa.K
open Go.RowKit M T
set_option linter.unusedVariables false
set_option linter.unusedSimpArgs false

/-- what the reference's Comps has in memory -/
structure RS (B : Nat) (W0 w : World) (n : Nat) (ao : Option Addr) (cap : Nat) (G : List Nat) (r : Nat → Nat → Bool) (gc : Nat) (q : Nat → Nat) (p : Nat) (oo : Option Addr) (oc : Nat) (R : List (Option Addr × Nat)) (L : List (List Nat)) : Prop where
  rm : RM B W0 w n ao cap G r
  gcB : B ≤ gc
  come : w.heap[gc]? = some (.cells (tabB n (comeP q p)) 4 (0, 0))
  gcG : gc ∉ G
  out : OutAt B w oo oc R L
section
variable {B n cap gc p oc : Nat} {W0 w w4 w7 : World} {ao oo : Option Addr} {G : List Nat} {r : Nat → Nat → Bool} {q : Nat → Nat} {R : List (Option Addr × Nat)} {L : List (List Nat)}
theorem RS.next (h : RS B W0 w n ao cap G r gc q p oo oc R L) (hm : Mods (fun k => k = gc) w w4) (hc4 : w4.heap[gc]? = some (.cells (tabB n (comeP q (p + 1))) 4 (0, 0))) {gcc cc gg cg : Nat} {c : List Nat} {bx : Obj}
    (hrow : w4.ownsRow w.heap.size 3 1 (.slice (some ⟨gcc, 0, none⟩) c.length cc) c.length (iv c))
    (ho : w7.ownsRow B 26 1 (.slice (some ⟨gg, 0, none⟩) (L.length + 1) cg) (L.length + 1) (hdrs R L ++ [.slice (some ⟨gcc, 0, none⟩) c.length cc]))
    (hg : (w4.alloc bx).grownBy w7 (Value.slice oo L.length oc).ownBlock) :
    RS B W0 w7 n ao cap G r gc q (p + 1) (some ⟨gg, 0, none⟩) cg (R ++ [(some ⟨gcc, 0, none⟩, cc)]) (L ++ [c]) := by
  have hB := h.rm.hB
  have hgc : ∀ a, oo = some a → a.block ≠ gc := fun a ha e => by
    obtain ⟨cur, hh, _⟩ := h.out.lt.1 a ha
    rw [e, h.come] at hh
    simp at hh
  have hrc : ∀ x ∈ R, ∀ a, x.1 = some a → a.block ≠ gc := fun x hx a ha e => by
    obtain ⟨cur, hh, _⟩ := h.out.lt.2 x hx a ha
    rw [e, h.come] at hh
    simp at hh
  have hao : ∀ a, ao = some a → a.block ≠ gc := fun a ha e => by
    obtain ⟨⟨cur, hh, _⟩, _⟩ := h.rm.topne a ha
    rw [e, h.come] at hh
    simp at hh
  have ho4 := h.out.keep hm hgc hrc
  have hrow' : w4.ownsRow B 3 1 (.slice (some ⟨gcc, 0, none⟩) c.length cc) c.length (iv c) := own_base hrow (fun k hk => by
    obtain ⟨_, _, hb⟩ := own_heap hrow _ rfl
    obtain rfl := Option.some.inj hk
    exact Nat.le_trans hB hb)
  obtain ⟨h7, hm7⟩ := ho4.more hrow' ho hg
  have hrm4 := h.rm.keep hm (fun k hk => by rw [show k = gc from hk]; exact h.gcB) hao (fun g hg e => h.gcG (by rw [← show g = gc from e]; exact hg))
  refine ⟨hrm4.keep hm7 (fun k ⟨a, ha, e⟩ => ?_) (fun a ha ⟨b, hb, e⟩ => ?_) (fun g hg ⟨b, hb, e⟩ => ?_), h.gcB, hm7.heap hc4 (fun ⟨b, hb, e⟩ => hgc b hb e.symm), h.gcG, h7⟩
  · obtain ⟨_, _, hb⟩ := ho4.lt.1 a ha
    omega
  · obtain ⟨⟨cur, hh, _⟩, _⟩ := hrm4.topne a ha
    obtain ⟨cur2, hh2, _⟩ := ho4.lt.1 b hb
    rw [e, hh2] at hh
    simp at hh
  · obtain ⟨i, hi⟩ := List.mem_iff_getElem?.1 hg
    have hh := (hrm4.row i g hi).2
    obtain ⟨cur2, hh2, _⟩ := ho4.lt.1 b hb
    rw [e, hh2] at hh
    simp at hh
end
theorem RS.at4 {B n cap gc p oc : Nat} {W0 w w4 : World} {ao oo : Option Addr} {G : List Nat} {r : Nat → Nat → Bool} {q : Nat → Nat} {R : List (Option Addr × Nat)} {L : List (List Nat)} (h : RS B W0 w n ao cap G r gc q p oo oc R L) (hm : Mods (fun k => k = gc) w w4) : RM B W0 w4 n ao cap G r ∧ OutAt B w4 oo oc R L := by
  refine ⟨h.rm.keep hm (fun k hk => by rw [show k = gc from hk]; exact h.gcB) (fun a ha e => ?_) (fun g hg e => h.gcG (by rw [← show g = gc from e]; exact hg)), h.out.keep hm (fun a ha e => ?_) (fun x hx a ha e => ?_)⟩
  · have e : a.block = gc := e
    obtain ⟨⟨cur, hh, _⟩, _⟩ := h.rm.topne a ha
    rw [e, h.come] at hh
    simp at hh
  · have e : a.block = gc := e
    obtain ⟨cur, hh, _⟩ := h.out.lt.1 a ha
    rw [e, h.come] at hh
    simp at hh
  · have e : a.block = gc := e
    obtain ⟨cur, hh, _⟩ := h.out.lt.2 x hx a ha
    rw [e, h.come] at hh
    simp at hh
theorem drop_sum_le (L : List (List Nat)) (p : Nat) : (L.drop p).flatten.length ≤ L.flatten.length := by
  have e : L.flatten = (L.take p).flatten ++ (L.drop p).flatten := by rw [← List.flatten_append, List.take_append_drop]
  rw [e, List.length_append]
  omega
theorem okV_of {E : Nat → List Int} {n : Nat} {r : Nat → Nat → Bool} {come : Nat → Bool} {v : Nat} (hr : ∀ a b, a < n → b < n → (r a b = true ↔ Path E n a b)) (hv : v < n) (hc : come v = false) (h : ∀ w, w < n → (!r v w || come w || r w v) = true) : okV E n come v :=
  ⟨hc, fun w hw hp => by
    have h1 := h w hw
    rw [(hr v w hv hw).2 hp] at h1
    rw [Bool.not_true, Bool.false_or, Bool.or_eq_true] at h1
    exact h1.imp id (fun h2 => (hr w v hw hv).1 h2)⟩
theorem okV_no {E : Nat → List Int} {n : Nat} {r : Nat → Nat → Bool} {come : Nat → Bool} {v w : Nat} (hr : ∀ a b, a < n → b < n → (r a b = true ↔ Path E n a b)) (hv : v < n) (hw : w < n) (h : (!r v w || come w || r w v) = false) : ¬ okV E n come v := by
  rintro ⟨_, h2⟩
  simp only [Bool.or_eq_false_iff, Bool.not_eq_false'] at h
  rcases h2 w hw ((hr v w hv hw).1 h.1.1) with h3 | h3
  · rw [h.1.2] at h3; cases h3
  · have := (hr w v hw hv).2 h3
    rw [h.2] at this; cases this
theorem flat_count : ∀ (L : List (List Nat)), (∀ c ∈ L, c ≠ []) → L.length ≤ L.flatten.length
  | [], _ => Nat.le_refl _
  | c :: L, h => by
    have h1 := flat_count L fun d hd => h d (List.mem_cons_of_mem _ hd)
    have h2 := List.length_pos_iff.2 (h c List.mem_cons_self)
    rw [List.flatten_cons, List.length_append, List.length_cons]
    omega
theorem Comp.count {E : Nat → List Int} {n : Nat} {L : List (List Nat)} {q : Nat → Nat} (h : Comp E n L q) : L.length ≤ n := by
  have := flat_count L (fun c hc => (h.d3 c hc).2)
  rw [h.sum] at this
  exact this
def gdB (r : Nat → Nat → Bool) (come : Nat → Bool) (v k : Nat) : Bool := !r v k || come k || r k v
structure GD (E : Nat → List Int) (n : Nat) (r : Nat → Nat → Bool) (come : Nat → Bool) (v : Nat) (b : Bool) (k : Nat) : Prop where
  yes : b = true → come v = false ∧ ∀ w, w < k → gdB r come v w = true
  no : b = false → ¬ okV E n come v
theorem GD.start {E : Nat → List Int} {n : Nat} {r : Nat → Nat → Bool} {come : Nat → Bool} {v : Nat} : GD E n r come v (!come v) 0 :=
  ⟨fun h => ⟨by simpa using h, fun w hw => by omega⟩, fun h hok => by rw [hok.1] at h; cases h⟩
theorem GD.next {E : Nat → List Int} {n : Nat} {r : Nat → Nat → Bool} {come : Nat → Bool} {v k : Nat} (h : GD E n r come v true k) (hr : ∀ a b, a < n → b < n → (r a b = true ↔ Path E n a b)) (hv : v < n) (hk : k < n) : GD E n r come v (gdB r come v k) (k + 1) :=
  ⟨fun hb => ⟨(h.yes rfl).1, fun w hw => by
    by_cases e : w = k
    · subst e; exact hb
    · exact (h.yes rfl).2 w (by omega)⟩, fun hb => okV_no hr hv hk hb⟩
theorem GD.done {E : Nat → List Int} {n : Nat} {r : Nat → Nat → Bool} {come : Nat → Bool} {v : Nat} (h : GD E n r come v true n) (hr : ∀ a b, a < n → b < n → (r a b = true ↔ Path E n a b)) (hv : v < n) : okV E n come v :=
  okV_of hr hv (h.yes rfl).1 (h.yes rfl).2
/-- one component, as it is collected -/
structure CL (n gc : Nat) (wa w : World) (q : Nat → Nat) (p : Nat) (co : Option Addr) (cc : Nat) (l : List Nat) : Prop where
  mo : Mods (fun k => k = gc) wa w
  come : w.heap[gc]? = some (.cells (tabB n fun v => comeP q p v || decide (v ∈ l)) 4 (0, 0))
  row : w.ownsRow wa.heap.size 3 1 (.slice co l.length cc) l.length (iv l)
theorem CL.step {n gc p cc gg cg x : Nat} {wa w w7 : World} {q : Nat → Nat} {co : Option Addr} {l : List Nat} {bx : Obj} (h : CL n gc wa w q p co cc l) (hgc : gc < wa.heap.size)
    (ho : w7.ownsRow wa.heap.size 3 1 (.slice (some ⟨gg, 0, none⟩) (l.length + 1) cg) (l.length + 1) (iv l ++ [.int .i64 x]))
    (hg : (w.alloc bx).grownBy w7 (Value.slice co l.length cc).ownBlock) : CL n gc wa (w7.setCell ⟨gc, x, none⟩ (.bool true)) q p (some ⟨gg, 0, none⟩) cg (l ++ [x]) ∧ w7.heap[gc]? = some (.cells (tabB n fun v => comeP q p v || decide (v ∈ l)) 4 (0, 0)) := by
  have hs := h.mo.size
  obtain ⟨⟨ho7, _⟩, hM⟩ := own_more h.row hs ho hg
  have hc7 := hM.heap h.come (fun ⟨a, ha, e⟩ => by
    obtain ⟨_, _, hb⟩ := own_heap h.row a ha
    omega)
  have hgg : wa.heap.size ≤ gg := by obtain ⟨_, _, hb⟩ := own_heap ho7 _ rfl; exact hb
  have hset : Mods (fun k => k = gc) w7 (w7.setCell ⟨gc, x, none⟩ (.bool true)) := (Mods.refl (fun k => k = gc) w7).setCell (p := ⟨gc, x, none⟩) (fun _ => rfl) _
  refine ⟨⟨(h.mo.then hM (fun k hk ⟨a, ha, e⟩ => ?_)).then hset (fun k hk e => e), ?_, own_kept ho7 hset (fun k hk e => ?_)⟩, hc7⟩
  · obtain ⟨_, _, hb⟩ := own_heap h.row a ha
    omega
  · have := heap_set w7 gc x (.bool true) gc _ _ _ hc7
    rw [if_pos rfl, tabB_set] at this
    rw [this]
    congr 2
    refine tabB_congr n _ _ fun v hv => ?_
    unfold upd
    by_cases e : v = x <;> simp [e]
  · have := Option.some.inj hk
    have e : k = gc := e
    simp only at this
    omega
/-- the class of a component's head, read off the table -/
theorem cls_row {E : Nat → List Int} {n p : Nat} {q : Nat → Nat} {L : List (List Nat)} {c : List Nat} {r : Nat → Nat → Bool} (h : InOrder E n L q) (hc : L[p]? = some c) (hr : ∀ a b, a < n → b < n → (r a b = true ↔ Path E n a b)) : upTo (fun w => r (c.headD 0) w && r w (c.headD 0)) n = c := by
  have hh := comp_head h.co hc
  refine sorted_ext (upTo_srt _ _) (h.co.d3 c (List.mem_of_getElem? hc)).1 fun v => ?_
  rw [upTo_mem, h.cls hc, Bool.and_eq_true]
  constructor
  · rintro ⟨a, b, d⟩; exact ⟨a, (hr _ _ hh.1 a).1 b, (hr _ _ a hh.1).1 d⟩
  · rintro ⟨a, b, d⟩; exact ⟨a, (hr _ _ hh.1 a).2 b, (hr _ _ a hh.1).2 d⟩
end Go.Proofs.Ytmmggeaaheegmaa.K
