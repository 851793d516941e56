/- Several texts in one. -/
import Derived.Test.YtkgjfagejnppbaaGreatDoorTar
import Derived.Test.YtkgjfagejnppbaaGreatDoorMrg3
import Derived.Deep.AppendLies
import Derived.Deep.RegionLaw
import Derived.Deep.RegionHeld3
import Derived.Deep.DeepCutAuto
import Derived.StillTailTactics
import Derived.BigCall
import Derived.BigGuard
import Derived.Test.YtkgjfagejnppbaaGreatDoorShelf
import Derived.Sort.OwnSortedInts

/- What a finder of components is in memory; the first contracts. -/
namespace Go.Proofs.YtkgjfagejnppbaaGreatDoor.K
open Go.RowKit M T
set_option linter.unusedVariables false
set_option linter.unusedSimpArgs false

def iv (l : List Nat) : List Value := l.map fun (x : Nat) => .int .i64 (x : Int)
theorem iv_append (l m : List Nat) : iv (l ++ m) = iv l ++ iv m := by simp [iv]
theorem iv_get (l : List Nat) (i x : Nat) (h : l[i]? = some x) : (iv l)[i]? = some (.int .i64 (x : Int)) := by simp [iv, h]
/-- a row of n numbers -/
def tab (n : Nat) (f : Nat → Int) : Array Value := ((List.range n).map fun v => Value.int .i64 (f v)).toArray
theorem tab_size (n : Nat) (f : Nat → Int) : (tab n f).size = n := by simp [tab]
theorem tab_get (n : Nat) (f : Nat → Int) (v : Nat) (h : v < n) : (tab n f)[v]? = some (.int .i64 (f v)) := by simp [tab, h]
theorem tab_set (n : Nat) (f : Nat → Int) (v : Nat) (x : Int) : (tab n f).setIfInBounds v (.int .i64 x) = tab n (upd f v x) := by
  apply Array.ext_getElem?
  intro j
  rw [Array.getElem?_setIfInBounds]
  by_cases hj : j < n
  · rw [tab_get n _ j hj, tab_get n _ j hj, tab_size]
    by_cases e : v = j
    · subst e; simp [upd_same, hj]
    · rw [if_neg e, upd_other f x (fun e2 => e e2.symm)]
  · have h1 : (tab n f)[j]? = none := by rw [Array.getElem?_eq_none_iff, tab_size]; omega
    have h2 : (tab n (upd f v x))[j]? = none := by rw [Array.getElem?_eq_none_iff, tab_size]; omega
    rw [h1, h2, tab_size]
    by_cases e : v = j
    · subst e; simp [hj]
    · rw [if_neg e]
theorem tab_congr (n : Nat) (f g : Nat → Int) (h : ∀ v, v < n → f v = g v) : tab n f = tab n g := by
  unfold tab
  congr 1
  exact List.map_congr_left fun v hv => by rw [h v (List.mem_range.1 hv)]
/-- rows behind a row -/
def hdrs (R : List (Option Addr × Nat)) (C : List (List Nat)) : List Value := List.zipWith (fun r c => Value.slice r.1 c.length r.2) R C

/-- where a finder's things lie -/
structure Lay where
  eo : Option Addr
  ec : Nat
  gN : Nat
  gL : Nat
  gO : Nat
  so : Option Addr
  sc : Nat
  co : Option Addr
  cc : Nat
  R : List (Option Addr × Nat)
def Foot (m : Lay) (b : Nat) (k : Nat) : Prop := k = b ∨ k = m.gN ∨ k = m.gL ∨ k = m.gO ∨ (∃ a, m.so = some a ∧ k = a.block) ∨ ∃ a, m.co = some a ∧ k = a.block
structure FM (B n : Nat) (w : World) (b : Nat) (m : Lay) (s : St) (o : Nat → Int) : Prop where
  lo : B ≤ b ∧ B ≤ m.gN ∧ B ≤ m.gL ∧ B ≤ m.gO
  blk : w.heap[b]? = some (.cells #[.slice m.eo n m.ec, .slice (some ⟨m.gN, 0, none⟩) n n, .slice (some ⟨m.gL, 0, none⟩) n n, .slice (some ⟨m.gO, 0, none⟩) n n, .slice m.so s.stack.length m.sc, .int .i64 s.next, .slice m.co s.comps.length m.cc] 117 (0, 0))
  hn : w.heap[m.gN]? = some (.cells (tab n fun v => (s.num v : Int)) 3 (0, 0))
  hl : w.heap[m.gL]? = some (.cells (tab n fun v => (s.low v : Int)) 3 (0, 0))
  ho : w.heap[m.gO]? = some (.cells (tab n o) 3 (0, 0))
  stk : w.ownsRow B 3 1 (.slice m.so s.stack.length m.sc) s.stack.length (iv s.stack)
  cmp : w.ownsRow B 87 1 (.slice m.co s.comps.length m.cc) s.comps.length (hdrs m.R s.comps)
  rl : m.R.length = s.comps.length
  row : ∀ (i : Nat) c r, s.comps[i]? = some c → m.R[i]? = some r → w.ownsRow B 3 1 (.slice r.1 c.length r.2) c.length (iv c)
  ne : m.gN ≠ m.gL ∧ m.gN ≠ m.gO ∧ m.gL ≠ m.gO
  sne : ∀ a, m.so = some a → a.block ≠ m.gN ∧ a.block ≠ m.gL ∧ a.block ≠ m.gO
  rne : ∀ r ∈ m.R, ∀ a, r.1 = some a → a.block ≠ m.gN ∧ a.block ≠ m.gL ∧ a.block ≠ m.gO ∧ ∀ a', m.so = some a' → a.block ≠ a'.block
theorem own_heap {w : World} {B n cap size : Nat} {e : TypeId} {ao : Option Addr} {xs : List Value} (h : w.ownsRow B e size (.slice ao n cap) n xs) : ∀ a, ao = some a → ∃ cur, w.heap[a.block]? = some (.cells cur e (0, 0)) ∧ B ≤ a.block := by
  intro a ha
  obtain ⟨ao', cap', e', _, _, _, h4⟩ := own_view h
  cases e'
  obtain ⟨g, cur, rfl, hB, hg, _⟩ := h4 a ha
  exact ⟨cur, hg, hB⟩
section
variable {B n : Nat} {w w1 : World} {b : Nat} {m : Lay} {s : St} {o : Nat → Int}
theorem FM.lt (h : FM B n w b m s o) : ∀ k, Foot m b k → B ≤ k ∧ k < w.heap.size := by
  rintro k (rfl | rfl | rfl | rfl | ⟨a, ha, rfl⟩ | ⟨a, ha, rfl⟩)
  · exact ⟨h.lo.1, heap_lt h.blk⟩
  · exact ⟨h.lo.2.1, heap_lt h.hn⟩
  · exact ⟨h.lo.2.2.1, heap_lt h.hl⟩
  · exact ⟨h.lo.2.2.2, heap_lt h.ho⟩
  · obtain ⟨cur, hg, hB⟩ := own_heap h.stk a ha; exact ⟨hB, heap_lt hg⟩
  · obtain ⟨cur, hg, hB⟩ := own_heap h.cmp a ha; exact ⟨hB, heap_lt hg⟩
/-- all but the components' own rows -/
def Rows (m : Lay) (k : Nat) : Prop := ∃ r ∈ m.R, ∃ a, r.1 = some a ∧ k = a.block
theorem FM.keep {S : Nat → Prop} (h : FM B n w b m s o) (hm : Mods S w w1) (h1 : ∀ k, S k → ¬ Foot m b k) (h2 : ∀ k, S k → ¬ Rows m k) : FM B n w1 b m s o := by
  have hs : ∀ {k}, Foot m b k → ¬ S k := fun hf hS => h1 _ hS hf
  refine ⟨h.lo, hm.heap h.blk (hs (.inl rfl)), hm.heap h.hn (hs (.inr (.inl rfl))), hm.heap h.hl (hs (.inr (.inr (.inl rfl)))), hm.heap h.ho (hs (.inr (.inr (.inr (.inl rfl))))), own_kept h.stk hm (fun k hk => ?_), own_kept h.cmp hm (fun k hk => ?_), h.rl, fun i c r hc hr => own_kept (h.row i c r hc hr) hm (fun k hk hS => ?_), h.ne, h.sne, h.rne⟩
  · cases hso : m.so with
    | none => rw [hso] at hk; cases hk
    | some a => rw [hso] at hk; exact hs (.inr (.inr (.inr (.inr (.inl ⟨a, hso, (Option.some.inj hk).symm⟩)))))
  · cases hco : m.co with
    | none => rw [hco] at hk; cases hk
    | some a => rw [hco] at hk; exact hs (.inr (.inr (.inr (.inr (.inr ⟨a, hco, (Option.some.inj hk).symm⟩)))))
  · obtain ⟨r1, r2⟩ := r
    cases r1 with
    | none => cases hk
    | some a => exact h2 k hS ⟨_, List.mem_of_getElem? hr, a, rfl, (Option.some.inj hk).symm⟩
theorem FM.below (h : FM B n w b m s o) (hb : Below w.heap.size w w1) : FM B n w1 b m s o :=
  h.keep (Mods.of_below (S := fun _ => False) hb) (fun _ h => h.elim) (fun _ h => h.elim)
/-- the finder's struct, cell by cell -/
theorem FM.cells (h : FM B n w b m s o) : w.cell? ⟨b, 0, none⟩ = some (.slice m.eo n m.ec) ∧ w.cell? ⟨b, 1, none⟩ = some (.slice (some ⟨m.gN, 0, none⟩) n n) ∧ w.cell? ⟨b, 2, none⟩ = some (.slice (some ⟨m.gL, 0, none⟩) n n) ∧ w.cell? ⟨b, 3, none⟩ = some (.slice (some ⟨m.gO, 0, none⟩) n n) ∧ w.cell? ⟨b, 4, none⟩ = some (.slice m.so s.stack.length m.sc) ∧ w.cell? ⟨b, 5, none⟩ = some (.int .i64 s.next) ∧ w.cell? ⟨b, 6, none⟩ = some (.slice m.co s.comps.length m.cc) ∧ ∀ k, w.frozen? ⟨b, k, none⟩ = false := by
  have hc := fun j => cell_of_row w b j _ _ (0, 0) h.blk
  exact ⟨hc 0, hc 1, hc 2, hc 3, hc 4, hc 5, hc 6, fun k => by simp [World.frozen?, h.blk]⟩
theorem row_cell {w : World} {g n : Nat} {f : Nat → Int} {T : TypeId} (h : w.heap[g]? = some (.cells (tab n f) T (0, 0))) (v : Nat) (hv : v < n) : w.cell? ⟨g, v, none⟩ = some (.int .i64 (f v)) ∧ w.frozen? ⟨g, v, none⟩ = false :=
  ⟨(cell_of_row w g v _ _ (0, 0) h).trans (tab_get n f v hv), by simp [World.frozen?, h]⟩
/-- blocks of different kinds -/
theorem FM.bne (h : FM B n w b m s o) : b ≠ m.gN ∧ b ≠ m.gL ∧ b ≠ m.gO ∧ (∀ a, m.so = some a → a.block ≠ b) ∧ (∀ a, m.co = some a → a.block ≠ b ∧ a.block ≠ m.gN ∧ a.block ≠ m.gL ∧ a.block ≠ m.gO ∧ ∀ a', m.so = some a' → a.block ≠ a'.block) := by
  have hb := h.blk
  refine ⟨fun e => ?_, fun e => ?_, fun e => ?_, fun a ha e => ?_, fun a ha => ?_⟩
  · rw [e, h.hn] at hb; simp at hb
  · rw [e, h.hl] at hb; simp at hb
  · rw [e, h.ho] at hb; simp at hb
  · obtain ⟨cur, hg, _⟩ := own_heap h.stk a ha; rw [e, hb] at hg; simp at hg
  · obtain ⟨cur, hg, _⟩ := own_heap h.cmp a ha
    refine ⟨fun e => ?_, fun e => ?_, fun e => ?_, fun e => ?_, fun a' ha' e => ?_⟩
    · rw [e, hb] at hg; simp at hg
    · rw [e, h.hn] at hg; simp at hg
    · rw [e, h.hl] at hg; simp at hg
    · rw [e, h.ho] at hg; simp at hg
    · obtain ⟨cur', hg', _⟩ := own_heap h.stk a' ha'; rw [e, hg'] at hg; simp at hg
end
end Go.Proofs.YtkgjfagejnppbaaGreatDoor.K

/- A finder under single stores; the contract of enter. -/
namespace Go.Proofs.YtkgjfagejnppbaaGreatDoor.K
open Go.RowKit M T
set_option linter.unusedVariables false
set_option linter.unusedSimpArgs false

section
variable {B n : Nat} {w w1 : World} {b : Nat} {m : Lay} {s : St} {o : Nat → Int}
theorem FM.other (h : FM B n w b m s o) {S : Nat → Prop} (hm : Mods S w w1) (hr : ∀ k, S k → ¬ Rows m k) : (∀ (i : Nat) c r, s.comps[i]? = some c → m.R[i]? = some r → w1.ownsRow B 3 1 (.slice r.1 c.length r.2) c.length (iv c)) := fun i c r hc hrr =>
  own_kept (h.row i c r hc hrr) hm (fun k hk hS => by
    obtain ⟨r1, r2⟩ := r
    cases r1 with
    | none => cases hk
    | some a => exact hr k hS ⟨_, List.mem_of_getElem? hrr, a, rfl, (Option.some.inj hk).symm⟩)
theorem FM.stk_kept (h : FM B n w b m s o) {S : Nat → Prop} (hm : Mods S w w1) (hs : ∀ a, m.so = some a → ¬ S a.block) : w1.ownsRow B 3 1 (.slice m.so s.stack.length m.sc) s.stack.length (iv s.stack) :=
  own_kept h.stk hm (fun k hk => by
    cases hso : m.so with
    | none => rw [hso] at hk; cases hk
    | some a => rw [hso] at hk; have := hs a hso; rwa [Option.some.inj hk] at this)
theorem FM.cmp_kept (h : FM B n w b m s o) {S : Nat → Prop} (hm : Mods S w w1) (hs : ∀ a, m.co = some a → ¬ S a.block) : w1.ownsRow B 87 1 (.slice m.co s.comps.length m.cc) s.comps.length (hdrs m.R s.comps) :=
  own_kept h.cmp hm (fun k hk => by
    cases hco : m.co with
    | none => rw [hco] at hk; cases hk
    | some a => rw [hco] at hk; have := hs a hco; rwa [Option.some.inj hk] at this)
theorem FM.rows_ne (h : FM B n w b m s o) : ∀ k, Rows m k → k ≠ b ∧ k ≠ m.gN ∧ k ≠ m.gL ∧ k ≠ m.gO ∧ (∀ a, m.so = some a → k ≠ a.block) ∧ ∀ a, m.co = some a → k ≠ a.block := by
  rintro k ⟨r, hr, a, ha, rfl⟩
  obtain ⟨h1, h2, h3, h4⟩ := h.rne r hr a ha
  obtain ⟨i, hi⟩ := List.mem_iff_getElem?.1 hr
  have hil : i < s.comps.length := by have := (List.getElem?_eq_some_iff.1 hi).1; rw [← h.rl]; exact this
  obtain ⟨c, hc⟩ : ∃ c, s.comps[i]? = some c := ⟨_, List.getElem?_eq_getElem hil⟩
  obtain ⟨cur, hg, _⟩ := own_heap (h.row i c r hc hi) a ha
  refine ⟨fun e => ?_, h1, h2, h3, h4, fun a' ha' e => ?_⟩
  · rw [e, h.blk] at hg; simp at hg
  · obtain ⟨cur', hg', _⟩ := own_heap h.cmp a' ha'; rw [e, hg'] at hg; simp at hg
theorem FM.rows_lt (h : FM B n w b m s o) : ∀ k, Rows m k → k < w.heap.size := by
  rintro k ⟨r, hr, a, ha, rfl⟩
  obtain ⟨i, hi⟩ := List.mem_iff_getElem?.1 hr
  have hil : i < s.comps.length := by have := (List.getElem?_eq_some_iff.1 hi).1; rw [← h.rl]; exact this
  obtain ⟨c, hc⟩ : ∃ c, s.comps[i]? = some c := ⟨_, List.getElem?_eq_getElem hil⟩
  obtain ⟨cur, hg, _⟩ := own_heap (h.row i c r hc hi) a ha
  exact heap_lt hg
theorem FM.set_next (h : FM B n w b m s o) (k : Nat) : FM B n (w.setCell ⟨b, 5, none⟩ (.int .i64 (k : Int))) b m { s with next := k } o := by
  have hm : Mods (fun k => k = b) w (w.setCell ⟨b, 5, none⟩ (.int .i64 (k : Int))) := (Mods.refl (fun k => k = b) w).setCell (p := ⟨b, 5, none⟩) (fun _ => rfl) _
  obtain ⟨n1, n2, n3, n4, n5⟩ := h.bne
  refine ⟨h.lo, ?_, hm.heap h.hn (fun e => n1 e.symm), hm.heap h.hl (fun e => n2 e.symm), hm.heap h.ho (fun e => n3 e.symm), h.stk_kept hm (fun a ha e => n4 a ha e), h.cmp_kept hm (fun a ha e => (n5 a ha).1 e), h.rl, h.other hm (fun k hk hr => (h.rows_ne k hr).1 hk), h.ne, h.sne, h.rne⟩
  have := heap_set w b 5 (.int .i64 (k : Int)) b _ _ _ h.blk
  rw [if_pos rfl] at this
  rw [this]; rfl
theorem FM.set_num (h : FM B n w b m s o) (v x : Nat) : FM B n (w.setCell ⟨m.gN, v, none⟩ (.int .i64 (x : Int))) b m { s with num := upd s.num v x } o := by
  have hm : Mods (fun k => k = m.gN) w (w.setCell ⟨m.gN, v, none⟩ (.int .i64 (x : Int))) := (Mods.refl (fun k => k = m.gN) w).setCell (p := ⟨m.gN, v, none⟩) (fun _ => rfl) _
  obtain ⟨n1, n2, n3, n4, n5⟩ := h.bne
  refine ⟨h.lo, hm.heap h.blk n1, ?_, hm.heap h.hl (fun e => h.ne.1 e.symm), hm.heap h.ho (fun e => h.ne.2.1 e.symm), h.stk_kept hm (fun a ha e => (h.sne a ha).1 e), h.cmp_kept hm (fun a ha e => (n5 a ha).2.1 e), h.rl, h.other hm (fun k hk hr => (h.rows_ne k hr).2.1 hk), h.ne, h.sne, h.rne⟩
  have := heap_set w m.gN v (.int .i64 (x : Int)) m.gN _ _ _ h.hn
  rw [if_pos rfl, tab_set] at this
  rw [this, tab_congr n _ (fun y => ((upd s.num v x y : Nat) : Int)) (fun y _ => by simp only [upd]; split <;> rfl)]
theorem FM.set_low (h : FM B n w b m s o) (v x : Nat) : FM B n (w.setCell ⟨m.gL, v, none⟩ (.int .i64 (x : Int))) b m { s with low := upd s.low v x } o := by
  have hm : Mods (fun k => k = m.gL) w (w.setCell ⟨m.gL, v, none⟩ (.int .i64 (x : Int))) := (Mods.refl (fun k => k = m.gL) w).setCell (p := ⟨m.gL, v, none⟩) (fun _ => rfl) _
  obtain ⟨n1, n2, n3, n4, n5⟩ := h.bne
  refine ⟨h.lo, hm.heap h.blk n2, hm.heap h.hn h.ne.1, ?_, hm.heap h.ho (fun e => h.ne.2.2 e.symm), h.stk_kept hm (fun a ha e => (h.sne a ha).2.1 e), h.cmp_kept hm (fun a ha e => (n5 a ha).2.2.1 e), h.rl, h.other hm (fun k hk hr => (h.rows_ne k hr).2.2.1 hk), h.ne, h.sne, h.rne⟩
  have := heap_set w m.gL v (.int .i64 (x : Int)) m.gL _ _ _ h.hl
  rw [if_pos rfl, tab_set] at this
  rw [this, tab_congr n _ (fun y => ((upd s.low v x y : Nat) : Int)) (fun y _ => by simp only [upd]; split <;> rfl)]
theorem FM.set_of (h : FM B n w b m s o) (v : Nat) (x : Int) : FM B n (w.setCell ⟨m.gO, v, none⟩ (.int .i64 x)) b m s (upd o v x) := by
  have hm : Mods (fun k => k = m.gO) w (w.setCell ⟨m.gO, v, none⟩ (.int .i64 x)) := (Mods.refl (fun k => k = m.gO) w).setCell (p := ⟨m.gO, v, none⟩) (fun _ => rfl) _
  obtain ⟨n1, n2, n3, n4, n5⟩ := h.bne
  refine ⟨h.lo, hm.heap h.blk n3, hm.heap h.hn h.ne.2.1, hm.heap h.hl h.ne.2.2, ?_, h.stk_kept hm (fun a ha e => (h.sne a ha).2.2 e), h.cmp_kept hm (fun a ha e => (n5 a ha).2.2.2.1 e), h.rl, h.other hm (fun k hk hr => (h.rows_ne k hr).2.2.2.1 hk), h.ne, h.sne, h.rne⟩
  have := heap_set w m.gO v (.int .i64 x) m.gO _ _ _ h.ho
  rw [if_pos rfl, tab_set] at this
  rw [this]
/-- the stack, a number longer: behind append, and the store of what it hands back -/
theorem FM.set_stack (h : FM B n w b m s o) {w2 : World} {gg cg v : Nat} {bx : Obj} (ho : w2.ownsRow B 3 1 (.slice (some ⟨gg, 0, none⟩) (s.stack.length + 1) cg) (s.stack.length + 1) (iv s.stack ++ [.int .i64 (v : Int)]))
    (hg : (w.alloc bx).grownBy w2 (Value.slice m.so s.stack.length m.sc).ownBlock) (hat : (Value.slice m.so s.stack.length m.sc).ownBlock = some gg ∨ gg = w.heap.size + 1) (hB : B ≤ w.heap.size) :
    FM B n (w2.setCell ⟨b, 4, none⟩ (.slice (some ⟨gg, 0, none⟩) (s.stack.length + 1) cg)) b { m with so := some ⟨gg, 0, none⟩, sc := cg } { s with stack := s.stack ++ [v] } o ∧
      ((∃ a, m.so = some a ∧ gg = a.block) ∨ w.heap.size ≤ gg) ∧ Mods (Foot m b) w (w2.setCell ⟨b, 4, none⟩ (.slice (some ⟨gg, 0, none⟩) (s.stack.length + 1) cg)) := by
  have hM : Mods (fun k => ∃ a, m.so = some a ∧ k = a.block) w w2 := ((Mods.refl _ w).alloc bx).grown hg (fun k hk _ => by
    cases hso : m.so with
    | none => rw [hso] at hk; cases hk
    | some a => rw [hso] at hk; exact ⟨a, rfl, (Option.some.inj hk).symm⟩)
  have hgg : (∃ a, m.so = some a ∧ gg = a.block) ∨ gg = w.heap.size + 1 := by
    rcases hat with h1 | h1
    · cases hso : m.so with
      | none => rw [hso] at h1; cases h1
      | some a => rw [hso] at h1; exact .inl ⟨a, rfl, (Option.some.inj h1).symm⟩
    · exact .inr h1
  obtain ⟨n1, n2, n3, n4, n5⟩ := h.bne
  have hblk2 := hM.heap h.blk (fun ⟨a, ha, e⟩ => n4 a ha e.symm)
  have hm2 : Mods (fun k => k = b) w2 (w2.setCell ⟨b, 4, none⟩ (.slice (some ⟨gg, 0, none⟩) (s.stack.length + 1) cg)) := (Mods.refl (fun k => k = b) w2).setCell (p := ⟨b, 4, none⟩) (fun _ => rfl) _
  have hMM : Mods (fun k => k = b ∨ ∃ a, m.so = some a ∧ k = a.block) w (w2.setCell ⟨b, 4, none⟩ (.slice (some ⟨gg, 0, none⟩) (s.stack.length + 1) cg)) := (hM.mono (fun _ _ h => .inr h)).then hm2 (fun _ _ h => .inl h)
  have hbl := heap_lt h.blk
  have hlt := h.lt
  have hggne : gg ≠ b ∧ gg ≠ m.gN ∧ gg ≠ m.gL ∧ gg ≠ m.gO := by
    rcases hgg with ⟨a, ha, e⟩ | e
    · rw [e]; exact ⟨n4 a ha, h.sne a ha⟩
    · have h1 := (hlt b (.inl rfl)).2
      have h2 := (hlt m.gN (.inr (.inl rfl))).2
      have h3 := (hlt m.gL (.inr (.inr (.inl rfl)))).2
      have h4 := (hlt m.gO (.inr (.inr (.inr (.inl rfl))))).2
      omega
  refine ⟨⟨h.lo, ?_, hMM.heap h.hn ?_, hMM.heap h.hl ?_, hMM.heap h.ho ?_, ?_, h.cmp_kept hMM (fun a ha => ?_), h.rl, h.other hMM (fun k hk hr => ?_), h.ne, fun a ha => ?_, fun r hr a ha => ?_⟩, ?_, hMM.mono (fun k _ hk => ?_)⟩
  · have := heap_set w2 b 4 (.slice (some ⟨gg, 0, none⟩) (s.stack.length + 1) cg) b _ _ _ hblk2
    rw [if_pos rfl] at this
    rw [this]
    simp
  · rintro (e | ⟨a, ha, e⟩)
    · exact n1 e.symm
    · exact (h.sne a ha).1 e.symm
  · rintro (e | ⟨a, ha, e⟩)
    · exact n2 e.symm
    · exact (h.sne a ha).2.1 e.symm
  · rintro (e | ⟨a, ha, e⟩)
    · exact n3 e.symm
    · exact (h.sne a ha).2.2 e.symm
  · show World.ownsRow _ B _ 1 (.slice (some ⟨gg, 0, none⟩) (s.stack ++ [v]).length cg) (s.stack ++ [v]).length (iv (s.stack ++ [v]))
    rw [List.length_append, iv_append]
    exact own_kept ho hm2 (fun k hk e => hggne.1 ((Option.some.inj hk).trans e))
  · rintro (e | ⟨a', ha', e⟩)
    · exact (n5 a ha).1 e
    · exact (n5 a ha).2.2.2.2 a' ha' e
  · obtain ⟨h1, _, _, _, h5, _⟩ := h.rows_ne k hr
    rcases hk with e | ⟨a', ha', e⟩
    · exact h1 e
    · exact h5 a' ha' e
  · obtain rfl := Option.some.inj ha
    exact hggne.2
  · obtain ⟨h1, h2, h3, h4⟩ := h.rne r hr a ha
    refine ⟨h1, h2, h3, fun a' ha' e => ?_⟩
    obtain rfl := Option.some.inj ha'
    rcases hgg with ⟨a2, ha2, e2⟩ | e2
    · exact h4 a2 ha2 (e.trans e2)
    · obtain ⟨i, hi⟩ := List.mem_iff_getElem?.1 hr
      have hil : i < s.comps.length := by have := (List.getElem?_eq_some_iff.1 hi).1; rw [← h.rl]; exact this
      obtain ⟨c, hc⟩ : ∃ c, s.comps[i]? = some c := ⟨_, List.getElem?_eq_getElem hil⟩
      obtain ⟨cur, hgc, _⟩ := own_heap (h.row i c r hc hi) a ha
      have := heap_lt hgc
      simp only at e
      omega
  · rcases hgg with h1 | h1
    · exact .inl h1
    · exact .inr (by omega)
  · rcases hk with e | e
    · exact .inl e
    · exact .inr (.inr (.inr (.inr (.inl e))))
end
end Go.Proofs.YtkgjfagejnppbaaGreatDoor.K

/- Contracts of the library, at rows of numbers of one's own: Sort, Clone, Index. -/
namespace Go.Proofs.YtkgjfagejnppbaaGreatDoor.K
open Go.RowKit M T
set_option linter.unusedVariables false
set_option linter.unusedSimpArgs false

theorem iv_int (l : List Nat) : iv l = (l.map fun (x : Nat) => (x : Int)).map (Value.int .i64) := by simp [iv]
/-- sorted -/
theorem sort_own (B : Nat) (w : World) (g cap : Nat) (l : List Nat) (h : w.ownsRow B 3 1 (.slice (some ⟨g, 0, none⟩) l.length cap) l.length (iv l)) (hl : l.length ≤ 1000000) :
    Calls Tryz.prog 141 #[.slice (some ⟨g, 0, none⟩) l.length cap] w fun e w' => e = .returned (.tuple #[]) ∧ ∃ l', (l'.Perm l ∧ l'.Pairwise (· ≤ ·) ∧ l'.length = l.length ∧ w'.ownsRow B 3 1 (.slice (some ⟨g, 0, none⟩) l.length cap) l.length (iv l') ∧ Mods (fun k => k = g) w w') := by
  obtain ⟨zs, hzs⟩ : ∃ zs : List Int, zs = l.map fun (x : Nat) => (x : Int) := ⟨_, rfl⟩
  have hzl : zs.length = l.length := by rw [hzs, List.length_map]
  obtain ⟨hx, h2⟩ := h
  rcases h2 with ⟨h0, _⟩ | ⟨g', c', cur, e0, hB, hg, hnc, hm, hcs, htk⟩
  · cases h0
  cases e0
  rw [iv_int, ← hzs] at htk
  have hH := holds_of_blockI (ss := zs) hg (by rw [hzl]; rw [Nat.mul_one] at htk; exact htk)
  have hc := Tryz.slices_Sort_int g 0 cap zs w hH (heap_lt hg) (by omega)
  rw [hzl] at hc
  refine hc.mono ?_
  rintro e w' ⟨he, n, os, rfl⟩
  refine ⟨he, (zs.mergeSort fun x y => decide (x ≤ y)).map Int.toNat, ?_⟩
  have hperm : (zs.mergeSort fun x y => decide (x ≤ y)).Perm zs := List.mergeSort_perm _ _
  have hpw : (zs.mergeSort fun x y => decide (x ≤ y)).Pairwise (fun x y => x ≤ y) := by
    have := List.pairwise_mergeSort (le := fun x y : Int => decide (x ≤ y)) (fun a b c h1 h2 => by simp at *; omega) (fun a b => by simp; omega) zs
    exact this.imp (fun h => by simpa using h)
  have hback : ((zs.mergeSort fun x y => decide (x ≤ y)).map Int.toNat).map (fun (x : Nat) => (x : Int)) = zs.mergeSort fun x y => decide (x ≤ y) := by
    rw [List.map_map]
    refine (List.map_congr_left fun x hx => ?_).trans (List.map_id _)
    have hx2 := hperm.mem_iff.1 hx
    rw [hzs] at hx2
    obtain ⟨y, _, rfl⟩ := List.mem_map.1 hx2
    simp
  have hlen : (zs.mergeSort fun x y => decide (x ≤ y)).length = zs.length := hperm.length_eq
  refine ⟨?_, ?_, by rw [List.length_map, hlen, hzl], ?_, Mods.of_grown (grownBy_sortedI _) |>.mono (fun k _ h => (Option.some.inj h).symm)⟩
  · have := hperm.map Int.toNat
    rw [hzs, List.map_map] at this
    rw [hzs]
    refine this.trans (List.Perm.of_eq ?_)
    exact (List.map_congr_left fun x hx => by simp).trans (List.map_id _)
  · exact List.Pairwise.map _ (fun a b hab => by omega) hpw
  · rw [iv_int, hback]
    have := ownsRow_sortedI (n := n) (os := os) (ts := zs.mergeSort fun x y => decide (x ≤ y)) hlen hB hg (by omega) hm hcs
    rwa [hzl] at this
/-- a copy -/
theorem clone_own (B : Nat) (w : World) (g off cap : Nat) (l : List Nat) (hc : ∀ (j x : Nat), l[j]? = some x → w.cell? ⟨g, off + j, none⟩ = some (.int .i64 (x : Int))) (hl : l.length ≤ 1000000) (hl0 : 0 < l.length) :
    Calls Tryz.prog 57 #[.slice (some ⟨g, off, none⟩) l.length cap] w fun e w' => ∃ g' cap', e = .returned (.slice (some ⟨g', 0, none⟩) l.length cap') ∧ (w.heap.size ≤ g' ∧ w'.ownsRow w.heap.size 3 1 (.slice (some ⟨g', 0, none⟩) l.length cap') l.length (iv l) ∧ Below w.heap.size w w') := by
  have hzl : (l.map fun (x : Nat) => (x : Int)).length = l.length := by simp
  refine (Tryz.slices_Clone_int g off l.length cap (l.map fun (x : Nat) => (x : Int)) w (by omega) (by omega) (fun j hj => ?_)).mono ?_
  · rw [hzl] at hj
    obtain ⟨x, hx⟩ : ∃ x, l[j]? = some x := ⟨_, List.getElem?_eq_getElem hj⟩
    rw [hc j x hx]
    simp [List.getD, hx]
  · rintro e w' ⟨v', he, hown, _, hb⟩
    obtain ⟨ao, cap', rfl, _, _, h3, h4⟩ := own_view hown
    cases ao with
    | none => have := (h3 rfl).1; omega
    | some a =>
      obtain ⟨g', cur, rfl, hB, _⟩ := h4 a rfl
      refine ⟨g', cap', he, hB, ?_, hb⟩
      rw [iv_int]
      have e2 : (l.map fun (x : Nat) => (x : Int)).take l.length = l.map fun (x : Nat) => (x : Int) := List.take_of_length_le (by omega)
      rwa [e2] at hown

set_option maxRecDepth 100000 in
set_option maxHeartbeats 400000 in
/-- where a number stands first -/
theorem index_own (w : World) (g cap : Nat) (l : List Nat) (v i : Nat) (hc : ∀ (j x : Nat), l[j]? = some x → w.cell? ⟨g, j, none⟩ = some (.int .i64 (x : Int))) (hl : l.length ≤ 1000000) (hi : l[i]? = some v) (hno : ∀ (j x : Nat), j < i → l[j]? = some x → x ≠ v) :
    Calls Tryz.prog 140 #[.slice (some ⟨g, 0, none⟩) l.length cap, .int .i64 v] w fun e w' => e = .returned (.int .i64 i) ∧ w = w' := by
  have hil : i < l.length := (List.getElem?_eq_some_iff.1 hi).1
  have HC := Lib.hid hc
  have HI := Lib.hid hi
  have HNO := Lib.hid hno
  clear hc hi hno
  go_enter Tryz.func140, Tryz.ntmps140
  go_wp2_with fail
  go_loopw [8] (fun iv wr => ∃ k : Nat, iv = .int .i64 k ∧ k ≤ i ∧ wr = w) (fun iv _ => i - (intOf iv).toNat)
  case atStart => exact ⟨0, rfl, Nat.zero_le _, rfl⟩
  case round =>
    obtain ⟨k, rfl, hk, rfl⟩ := hrel
    by_cases hlt : k < i
    · obtain ⟨x, hx⟩ : ∃ x, l[k]? = some x := ⟨_, List.getElem?_eq_getElem (by omega)⟩
      have c0 := HC.out k x hx
      have hkl : (k : Int) < (l.length : Int) := by omega
      have e1 : ((v : Int) == (x : Int)) = false := by rw [beq_eq_false_iff_ne]; have := HNO.out k x hlt hx; omega
      clear hx
      go_wp2_with fail
      go_roundw
      case rel => exact ⟨k + 1, by go_num, by omega, by trivial⟩
      case measure => simp [intOf]; omega
    · obtain rfl : k = i := by omega
      have c0 := HC.out k v HI.out
      have hkl : (k : Int) < (l.length : Int) := by omega
      have e1 : ((v : Int) == (v : Int)) = true := by simp
      go_wp2_with fail
      go_ret
      exact ⟨rfl, rfl⟩
end Go.Proofs.YtkgjfagejnppbaaGreatDoor.K

/- The contract of enter. -/
namespace Go.Proofs.YtkgjfagejnppbaaGreatDoor.K
open Go.RowKit M T
set_option linter.unusedVariables false
set_option linter.unusedSimpArgs false

theorem info_int : (Tryz.prog.info? 3).map (fun i => (i.zero, i.size, i.bytes)) = some (some (.int .i64 0), 1, 8) := by kernel_rfl

theorem build_frame (x y : Int) (w : World) : (Instr.build 179 #[(0, .int .i64 x), (1, .int .i64 y)]).run Tryz.prog w = .ok (.agg #[.int .i64 x, .int .i64 y]) w := by kernel_rfl

set_option maxRecDepth 100000 in
set_option maxHeartbeats 1000000 in
theorem enter_any (B n : Nat) (w : World) (b : Nat) (m : Lay) (s : St) (o : Nat → Int) (h : FM B n w b m s o) (v : Nat) (hv : v < n) (hB : B ≤ w.heap.size) (hn : s.next ≤ 1000000) (hs : s.stack.length ≤ 1000000) :
    Calls Tryz.prog 112 #[.pointer (some ⟨b, 0, none⟩), .int .i64 v] w fun e w' => e = .returned (.agg #[.int .i64 v, .int .i64 0]) ∧ ∃ gg cg, (FM B n w' b { m with so := some ⟨gg, 0, none⟩, sc := cg } (s.enter v) o ∧ ((∃ a, m.so = some a ∧ gg = a.block) ∨ w.heap.size ≤ gg) ∧ Mods (Foot m b) w w') := by
  obtain ⟨i0, hi, hz0, hz1, hz2⟩ := info_parts info_int
  obtain ⟨c0, c1, c2, c3, c4, c5, c6, cf⟩ := h.cells
  have hbd := build_frame
  have hb := heap_lt h.blk
  have HF := Lib.hid h
  have HL := Lib.hid h.lt
  clear h
  go_enter Tryz.func112, Tryz.ntmps112
  go_wp2_with fail
  obtain ⟨W1, hW1⟩ : ∃ W1, W1 = (w.setCell ⟨b, 5, none⟩ (.int .i64 ((s.next : Int) + 1))).alloc (.cells #[.int .i64 0, .int .i64 0] 179) := ⟨_, rfl⟩
  have h1 : FM B n W1 b m { s with next := s.next + 1 } o := by
    rw [hW1]
    have h := HF.out.set_next (s.next + 1)
    rw [show (((s.next + 1 : Nat)) : Int) = (s.next : Int) + 1 by omega] at h
    exact h.below ((Below.refl _ _).alloc (Nat.le_refl _) _)
  have hM1 : Mods (Foot m b) w W1 := by rw [hW1]; exact ((Mods.refl (Foot m b) w).setCell (p := ⟨b, 5, none⟩) (fun _ => .inl rfl) _).alloc _
  have hbx : W1.heap[w.heap.size]? = some (.cells #[.int .i64 0, .int .i64 0] 179 (0, 0)) := by
    rw [hW1]
    have := heap_alloc_new (w.setCell ⟨b, 5, none⟩ (.int .i64 ((s.next : Int) + 1))) (.cells #[.int .i64 0, .int .i64 0] 179)
    simpa [World.setCell] using this
  rw [← hW1]
  clear hW1 c0 c1 c2 c3 c4 c5 c6 cf
  have hN : w.heap.size ≠ m.gN ∧ w.heap.size ≠ m.gL ∧ w.heap.size ≠ b := by
    have a1 := (HL.out m.gN (.inr (.inl rfl))).2
    have a2 := (HL.out m.gL (.inr (.inr (.inl rfl)))).2
    omega
  have HA : Hid (FM B n (((W1.setCell ⟨m.gN, v, none⟩ (.int .i64 ((s.next : Int) + 1))).setCell ⟨m.gL, v, none⟩ (.int .i64 ((s.next : Int) + 1))).drew) b m { s with num := upd s.num v (s.next + 1), low := upd s.low v (s.next + 1), next := s.next + 1 } o ∧ Mods (Foot m b) w (((W1.setCell ⟨m.gN, v, none⟩ (.int .i64 ((s.next : Int) + 1))).setCell ⟨m.gL, v, none⟩ (.int .i64 ((s.next : Int) + 1))).drew) ∧ (((W1.setCell ⟨m.gN, v, none⟩ (.int .i64 ((s.next : Int) + 1))).setCell ⟨m.gL, v, none⟩ (.int .i64 ((s.next : Int) + 1))).drew).heap[w.heap.size]? = some (.cells #[.int .i64 0, .int .i64 0] 179 (0, 0))) := by
    refine Lib.hid ⟨?_, ((hM1.setCell (p := ⟨m.gN, v, none⟩) (fun _ => .inr (.inl rfl)) _).setCell (p := ⟨m.gL, v, none⟩) (fun _ => .inr (.inr (.inl rfl))) _).drew, ?_⟩
    · have h := (h1.set_num v (s.next + 1)).set_low v (s.next + 1)
      rw [show (((s.next + 1 : Nat)) : Int) = (s.next : Int) + 1 by omega] at h
      exact h.below (Below.refl _ _).drew
    · show ((W1.setCell _ _).setCell _ _).heap[_]? = _
      rw [Below.heap_setCell _ _ _ _ hN.2.1, Below.heap_setCell _ _ _ _ hN.1]
      exact hbx
  have HB : Hid (FM B n (((W1.setCell ⟨m.gL, v, none⟩ (.int .i64 ((s.next : Int) + 1))).setCell ⟨m.gN, v, none⟩ (.int .i64 ((s.next : Int) + 1))).drew) b m { s with num := upd s.num v (s.next + 1), low := upd s.low v (s.next + 1), next := s.next + 1 } o ∧ Mods (Foot m b) w (((W1.setCell ⟨m.gL, v, none⟩ (.int .i64 ((s.next : Int) + 1))).setCell ⟨m.gN, v, none⟩ (.int .i64 ((s.next : Int) + 1))).drew) ∧ (((W1.setCell ⟨m.gL, v, none⟩ (.int .i64 ((s.next : Int) + 1))).setCell ⟨m.gN, v, none⟩ (.int .i64 ((s.next : Int) + 1))).drew).heap[w.heap.size]? = some (.cells #[.int .i64 0, .int .i64 0] 179 (0, 0))) := by
    refine Lib.hid ⟨?_, ((hM1.setCell (p := ⟨m.gL, v, none⟩) (fun _ => .inr (.inr (.inl rfl))) _).setCell (p := ⟨m.gN, v, none⟩) (fun _ => .inr (.inl rfl)) _).drew, ?_⟩
    · have h := (h1.set_low v (s.next + 1)).set_num v (s.next + 1)
      rw [show (((s.next + 1 : Nat)) : Int) = (s.next : Int) + 1 by omega] at h
      exact h.below (Below.refl _ _).drew
    · show ((W1.setCell _ _).setCell _ _).heap[_]? = _
      rw [Below.heap_setCell _ _ _ _ hN.1, Below.heap_setCell _ _ _ _ hN.2.1]
      exact hbx
  obtain ⟨d0, d1, d2, d3, d4, d5, d6, df⟩ := h1.cells
  have d5 : W1.cell? ⟨b, 5, none⟩ = some (.int .i64 ((s.next : Int) + 1)) := d5
  obtain ⟨k0, f0⟩ := row_cell h1.hn v hv
  obtain ⟨k1, f1⟩ := row_cell h1.hl v hv
  have hne := h1.ne.1
  have hne' : ¬ m.gL = m.gN := fun e => hne e.symm
  have hvn : (v : Int) < (n : Int) := by omega
  clear h1 hM1 hbx
  go_upto_region 2 with fail
  go_cut [12] (fun _ wx => FM B n wx b m { s with num := upd s.num v (s.next + 1), low := upd s.low v (s.next + 1), next := s.next + 1 } o ∧ Mods (Foot m b) w wx ∧ wx.heap[w.heap.size]? = some (.cells #[.int .i64 0, .int .i64 0] 179 (0, 0)))
  case first =>
    go_region
    all_goals
      (first | go_meet | (go_wp2_with fail; go_meet))
    all_goals (first | exact HA.out | exact HB.out)
  case rest =>
    clear HA HB d0 d1 d2 d3 d4 d5 d6 df k0 k1 f0 f1
    obtain ⟨h2, hM2, hbx2⟩ := hcut
    revert h2 hM2 hbx2
    obtain ⟨w2, hw2⟩ : ∃ w2, w2 = wc := ⟨_, rfl⟩
    rw [← hw2]
    intro h2 hM2 hbx2
    clear hw2
    have x4 := h2.cells.2.2.2.2.1
    have H2 := Lib.hid h2
    have HM2 := Lib.hid hM2
    have HBX2 := Lib.hid hbx2
    have HO2 := Lib.hid h2.stk
    have hsz2 : w.heap.size < w2.heap.size := heap_lt hbx2
    have hb2 : b < w2.heap.size := heap_lt h2.blk
    have HSO := Lib.hid (show some b ≠ (Value.slice m.so s.stack.length m.sc).ownBlock from fun e => by
      cases hso : m.so with
      | none => rw [hso] at e; cases e
      | some a => rw [hso] at e; exact h2.bne.2.2.2.1 a hso (Option.some.inj e).symm)
    have HSX := Lib.hid (show some w.heap.size ≠ (Value.slice m.so s.stack.length m.sc).ownBlock from fun e => by
      cases hso : m.so with
      | none => rw [hso] at e; cases e
      | some a => rw [hso] at e; have := (HL.out a.block (.inr (.inr (.inr (.inr (.inl ⟨a, hso, rfl⟩)))))).2; have e2 := Option.some.inj e; omega)
    clear h2 hM2 hbx2
    go_wp2_with (refine wpList_append_lies _ (by rfl) (.tmp 36) (.tmp 38) 87 (by rfl) B 3 i0 _ 1 8 Tryz.underlying87 hi hz0 hz1 hz2 rfl (by decide) (.slice m.so s.stack.length m.sc) s.stack.length (iv s.stack) (by rfl) (by exact HO2.out.alloc _) ⟨w2.heap.size, 0, none⟩ 1 1 [.int .i64 (v : Int)] (by rfl) (by rfl) (World.news_of_block (cs := #[.int .i64 (v : Int)]) (t := 3) (fr := (0, 0)) (heap_alloc_new w2 _)) (by simp [Value.oneCell']) (by omega) (by unfold maxLen; omega) (by omega) (by simp; omega) (w2.heap.size + 1) (by simp) ?_; intro gg cg w3 hown hgrow hat hlt; have HG := Lib.hid (And.intro hown (And.intro hgrow hat)); have y4 := (hgrow.cell_far ⟨b, 4, none⟩ (by simp; omega) (HSO.out)).trans ((World.cell?_alloc_some _ _ _ (by rw [x4]; rfl)).trans x4); have z4 := (hgrow.frozen_far ⟨b, 4, none⟩ (by simp; omega) (HSO.out)).trans (bcell ((Below.refl _ _).alloc (Nat.le_refl _) _) |>.2 b 4 hb2 |>.trans (H2.out.cells.2.2.2.2.2.2.2 4)); have bx3 : w3.heap[w.heap.size]? = some (.cells #[.int .i64 0, .int .i64 0] 179 (0, 0)) := (hgrow.block _ (by simp; omega) HSX.out).trans ((Below.heap_alloc _ _ _ hsz2).trans HBX2.out); have HB3 := Lib.hid bx3; have q0 := (box2 bx3).1.1; have q1 := (box2 bx3).1.2; have qf := (box2 bx3).2.1; clear hown hgrow hat bx3)
    have hcg := H2.out.set_stack (v := v) HG.out.1 HG.out.2.1 HG.out.2.2 (by omega)
    obtain ⟨h3, hgg, hM3⟩ := hcg
    have hgn : gg ≠ w.heap.size := by
      rcases HG.out.2.2 with e | e
      · intro e2; exact HSX.out (by rw [e, e2])
      · omega
    have hMx : Mods (fun k => k = w.heap.size) (w3.setCell ⟨b, 4, none⟩ (.slice (some ⟨gg, 0, none⟩) (s.stack.length + 1) cg)) (((w3.setCell ⟨b, 4, none⟩ (.slice (some ⟨gg, 0, none⟩) (s.stack.length + 1) cg)).setCell ⟨w.heap.size, 0, none⟩ (.int .i64 v)).setCell ⟨w.heap.size, 1, none⟩ (.int .i64 0)) :=
      ((Mods.refl (fun k => k = w.heap.size) _).setCell (p := ⟨w.heap.size, 0, none⟩) (fun _ => rfl) _).setCell (p := ⟨w.heap.size, 1, none⟩) (fun _ => rfl) _
    have h4 := h3.keep hMx (fun k hk hF => by
      have hk : k = w.heap.size := hk
      subst hk
      rcases hF with e | e | e | e | ⟨a, ha, e⟩ | ⟨a, ha, e⟩
      · exact hN.2.2 e
      · exact hN.1 e
      · exact hN.2.1 e
      · have := (HL.out m.gO (.inr (.inr (.inr (.inl rfl))))).2; exact absurd e (show w.heap.size ≠ m.gO by omega)
      · obtain rfl := Option.some.inj ha
        exact hgn e.symm
      · have := (HL.out a.block (.inr (.inr (.inr (.inr (.inr ⟨a, ha, rfl⟩)))))).2; omega) (fun k hk hR => by
      have hk : k = w.heap.size := hk
      have := HF.out.rows_lt k hR
      omega)
    refine ret_box w.heap.size #[.int .i64 v, .int .i64 0] 179 (.agg #[.int .i64 v, .int .i64 0]) ?_ (fun W' h => ?_) rfl ?_
    · have a1 := (Below.heap_setCell w3 ⟨b, 4, none⟩ (.slice (some ⟨gg, 0, none⟩) (s.stack.length + 1) cg) w.heap.size hN.2.2).trans HB3.out
      have a2 := heap_set _ _ 0 (.int .i64 v) w.heap.size _ _ _ a1
      rw [if_pos rfl] at a2
      have a3 := heap_set _ _ 1 (.int .i64 0) w.heap.size _ _ _ a2
      rw [if_pos rfl] at a3
      exact a3
    · obtain ⟨⟨r0, r1⟩, _, _⟩ := box2 h
      simp [results, Tryz.results112, go_sem, r0, r1]
    · refine ⟨rfl, gg, ⟨cg, h4⟩, ?_, ?_⟩
      · rcases hgg with e | e
        · exact .inl e
        · exact .inr (by omega)
      · exact (HM2.out.then hM3 (fun k hk hF => hF)).then hMx (fun k hk e => by omega)
end Go.Proofs.YtkgjfagejnppbaaGreatDoor.K
