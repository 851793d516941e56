/- Several texts in one. -/
import Derived.Test.YtndfhejfhfhbdaaGreatDoorTar
import Derived.Test.YtndfhejfhfhbdaaGreatDoorMrg8
import Derived.Deep.AppendLies
import Derived.Deep.RegionLaw
import Derived.Deep.RegionHeld3
import Derived.Deep.DeepCutAuto
import Derived.StillTailTactics
import Derived.BigCall
import Derived.BigGuard

/- What a finder of components is in memory; the first contracts. -/
namespace Go.Proofs.YtndfhejfhfhbdaaGreatDoor.K
open Go.RowKit M T
set_option linter.unusedVariables false
set_option linter.unusedSimpArgs false

def iv (l : List Nat) : List Value := l.map fun (x : Nat) => .int .i64 (x : Int)
theorem iv_length (l : List Nat) : (iv l).length = l.length := by simp [iv]
theorem iv_append (l m : List Nat) : iv (l ++ m) = iv l ++ iv m := by simp [iv]
theorem iv_get (l : List Nat) (i x : Nat) (h : l[i]? = some x) : (iv l)[i]? = some (.int .i64 (x : Int)) := by simp [iv, h]
theorem iv_one (l : List Nat) : ∀ u ∈ iv l, u.oneCell' = true := by
  intro u hu
  obtain ⟨x, _, rfl⟩ := List.mem_map.1 hu
  rfl
/-- a row of n numbers -/
def tab (n : Nat) (f : Nat → Int) : Array Value := ((List.range n).map fun v => Value.int .i64 (f v)).toArray
theorem tab_size (n : Nat) (f : Nat → Int) : (tab n f).size = n := by simp [tab]
theorem tab_get (n : Nat) (f : Nat → Int) (v : Nat) (h : v < n) : (tab n f)[v]? = some (.int .i64 (f v)) := by simp [tab, h]
theorem tab_set (n : Nat) (f : Nat → Int) (v : Nat) (x : Int) : (tab n f).setIfInBounds v (.int .i64 x) = tab n (upd f v x) := by
  apply Array.ext_getElem?
  intro j
  rw [Array.getElem?_setIfInBounds]
  by_cases hj : j < n
  · rw [tab_get n _ j hj, tab_get n _ j hj, tab_size]
    by_cases e : v = j
    · subst e; simp [upd_same, hj]
    · rw [if_neg e, upd_other f x (fun e2 => e e2.symm)]
  · have h1 : (tab n f)[j]? = none := by rw [Array.getElem?_eq_none_iff, tab_size]; omega
    have h2 : (tab n (upd f v x))[j]? = none := by rw [Array.getElem?_eq_none_iff, tab_size]; omega
    rw [h1, h2, tab_size]
    by_cases e : v = j
    · subst e; simp [hj]
    · rw [if_neg e]
theorem tab_congr (n : Nat) (f g : Nat → Int) (h : ∀ v, v < n → f v = g v) : tab n f = tab n g := by
  unfold tab
  congr 1
  exact List.map_congr_left fun v hv => by rw [h v (List.mem_range.1 hv)]
/-- rows behind a row -/
def hdrs (R : List (Option Addr × Nat)) (C : List (List Nat)) : List Value := List.zipWith (fun r c => Value.slice r.1 c.length r.2) R C

/-- where a finder's things lie -/
structure Lay where
  eo : Option Addr
  ec : Nat
  gN : Nat
  gL : Nat
  gO : Nat
  so : Option Addr
  sc : Nat
  co : Option Addr
  cc : Nat
  R : List (Option Addr × Nat)
def Foot (m : Lay) (b : Nat) (k : Nat) : Prop := k = b ∨ k = m.gN ∨ k = m.gL ∨ k = m.gO ∨ (∃ a, m.so = some a ∧ k = a.block) ∨ ∃ a, m.co = some a ∧ k = a.block
structure FM (B n : Nat) (w : World) (b : Nat) (m : Lay) (s : St) (o : Nat → Int) : Prop where
  lo : B ≤ b ∧ B ≤ m.gN ∧ B ≤ m.gL ∧ B ≤ m.gO
  blk : w.heap[b]? = some (.cells #[.slice m.eo n m.ec, .slice (some ⟨m.gN, 0, none⟩) n n, .slice (some ⟨m.gL, 0, none⟩) n n, .slice (some ⟨m.gO, 0, none⟩) n n, .slice m.so s.stack.length m.sc, .int .i64 s.next, .slice m.co s.comps.length m.cc] 99 (0, 0))
  hn : w.heap[m.gN]? = some (.cells (tab n fun v => (s.num v : Int)) 3 (0, 0))
  hl : w.heap[m.gL]? = some (.cells (tab n fun v => (s.low v : Int)) 3 (0, 0))
  ho : w.heap[m.gO]? = some (.cells (tab n o) 3 (0, 0))
  stk : w.ownsRow B 3 1 (.slice m.so s.stack.length m.sc) s.stack.length (iv s.stack)
  cmp : w.ownsRow B 79 1 (.slice m.co s.comps.length m.cc) s.comps.length (hdrs m.R s.comps)
  rl : m.R.length = s.comps.length
  row : ∀ (i : Nat) c r, s.comps[i]? = some c → m.R[i]? = some r → w.ownsRow B 3 1 (.slice r.1 c.length r.2) c.length (iv c)
  ne : m.gN ≠ m.gL ∧ m.gN ≠ m.gO ∧ m.gL ≠ m.gO
  sne : ∀ a, m.so = some a → a.block ≠ m.gN ∧ a.block ≠ m.gL ∧ a.block ≠ m.gO
  rne : ∀ r ∈ m.R, ∀ a, r.1 = some a → a.block ≠ m.gN ∧ a.block ≠ m.gL ∧ a.block ≠ m.gO ∧ ∀ a', m.so = some a' → a.block ≠ a'.block
theorem own_heap {w : World} {B n cap size : Nat} {e : TypeId} {ao : Option Addr} {xs : List Value} (h : w.ownsRow B e size (.slice ao n cap) n xs) : ∀ a, ao = some a → ∃ cur, w.heap[a.block]? = some (.cells cur e (0, 0)) ∧ B ≤ a.block := by
  intro a ha
  obtain ⟨ao', cap', e', _, _, _, h4⟩ := own_view h
  cases e'
  obtain ⟨g, cur, rfl, hB, hg, _⟩ := h4 a ha
  exact ⟨cur, hg, hB⟩
section
variable {B n : Nat} {w w1 : World} {b : Nat} {m : Lay} {s : St} {o : Nat → Int}
theorem FM.lt (h : FM B n w b m s o) : ∀ k, Foot m b k → B ≤ k ∧ k < w.heap.size := by
  rintro k (rfl | rfl | rfl | rfl | ⟨a, ha, rfl⟩ | ⟨a, ha, rfl⟩)
  · exact ⟨h.lo.1, heap_lt h.blk⟩
  · exact ⟨h.lo.2.1, heap_lt h.hn⟩
  · exact ⟨h.lo.2.2.1, heap_lt h.hl⟩
  · exact ⟨h.lo.2.2.2, heap_lt h.ho⟩
  · obtain ⟨cur, hg, hB⟩ := own_heap h.stk a ha; exact ⟨hB, heap_lt hg⟩
  · obtain ⟨cur, hg, hB⟩ := own_heap h.cmp a ha; exact ⟨hB, heap_lt hg⟩
/-- all but the components' own rows -/
def Rows (m : Lay) (k : Nat) : Prop := ∃ r ∈ m.R, ∃ a, r.1 = some a ∧ k = a.block
theorem FM.keep {S : Nat → Prop} (h : FM B n w b m s o) (hm : Mods S w w1) (h1 : ∀ k, S k → ¬ Foot m b k) (h2 : ∀ k, S k → ¬ Rows m k) : FM B n w1 b m s o := by
  have hs : ∀ {k}, Foot m b k → ¬ S k := fun hf hS => h1 _ hS hf
  refine ⟨h.lo, hm.heap h.blk (hs (.inl rfl)), hm.heap h.hn (hs (.inr (.inl rfl))), hm.heap h.hl (hs (.inr (.inr (.inl rfl)))), hm.heap h.ho (hs (.inr (.inr (.inr (.inl rfl))))), own_kept h.stk hm (fun k hk => ?_), own_kept h.cmp hm (fun k hk => ?_), h.rl, fun i c r hc hr => own_kept (h.row i c r hc hr) hm (fun k hk hS => ?_), h.ne, h.sne, h.rne⟩
  · cases hso : m.so with
    | none => rw [hso] at hk; cases hk
    | some a => rw [hso] at hk; exact hs (.inr (.inr (.inr (.inr (.inl ⟨a, hso, (Option.some.inj hk).symm⟩)))))
  · cases hco : m.co with
    | none => rw [hco] at hk; cases hk
    | some a => rw [hco] at hk; exact hs (.inr (.inr (.inr (.inr (.inr ⟨a, hco, (Option.some.inj hk).symm⟩)))))
  · obtain ⟨r1, r2⟩ := r
    cases r1 with
    | none => cases hk
    | some a => exact h2 k hS ⟨_, List.mem_of_getElem? hr, a, rfl, (Option.some.inj hk).symm⟩
theorem FM.below (h : FM B n w b m s o) (hb : Below w.heap.size w w1) : FM B n w1 b m s o :=
  h.keep (Mods.of_below (S := fun _ => False) hb) (fun _ h => h.elim) (fun _ h => h.elim)
/-- the finder's struct, cell by cell -/
theorem FM.cells (h : FM B n w b m s o) : w.cell? ⟨b, 0, none⟩ = some (.slice m.eo n m.ec) ∧ w.cell? ⟨b, 1, none⟩ = some (.slice (some ⟨m.gN, 0, none⟩) n n) ∧ w.cell? ⟨b, 2, none⟩ = some (.slice (some ⟨m.gL, 0, none⟩) n n) ∧ w.cell? ⟨b, 3, none⟩ = some (.slice (some ⟨m.gO, 0, none⟩) n n) ∧ w.cell? ⟨b, 4, none⟩ = some (.slice m.so s.stack.length m.sc) ∧ w.cell? ⟨b, 5, none⟩ = some (.int .i64 s.next) ∧ w.cell? ⟨b, 6, none⟩ = some (.slice m.co s.comps.length m.cc) ∧ ∀ k, w.frozen? ⟨b, k, none⟩ = false := by
  have hc := fun j => cell_of_row w b j _ _ (0, 0) h.blk
  exact ⟨hc 0, hc 1, hc 2, hc 3, hc 4, hc 5, hc 6, fun k => by simp [World.frozen?, h.blk]⟩
theorem row_cell {w : World} {g n : Nat} {f : Nat → Int} {T : TypeId} (h : w.heap[g]? = some (.cells (tab n f) T (0, 0))) (v : Nat) (hv : v < n) : w.cell? ⟨g, v, none⟩ = some (.int .i64 (f v)) ∧ w.frozen? ⟨g, v, none⟩ = false :=
  ⟨(cell_of_row w g v _ _ (0, 0) h).trans (tab_get n f v hv), by simp [World.frozen?, h]⟩
/-- blocks of different kinds -/
theorem FM.bne (h : FM B n w b m s o) : b ≠ m.gN ∧ b ≠ m.gL ∧ b ≠ m.gO ∧ (∀ a, m.so = some a → a.block ≠ b) ∧ (∀ a, m.co = some a → a.block ≠ b ∧ a.block ≠ m.gN ∧ a.block ≠ m.gL ∧ a.block ≠ m.gO ∧ ∀ a', m.so = some a' → a.block ≠ a'.block) := by
  have hb := h.blk
  refine ⟨fun e => ?_, fun e => ?_, fun e => ?_, fun a ha e => ?_, fun a ha => ?_⟩
  · rw [e, h.hn] at hb; simp at hb
  · rw [e, h.hl] at hb; simp at hb
  · rw [e, h.ho] at hb; simp at hb
  · obtain ⟨cur, hg, _⟩ := own_heap h.stk a ha; rw [e, hb] at hg; simp at hg
  · obtain ⟨cur, hg, _⟩ := own_heap h.cmp a ha
    refine ⟨fun e => ?_, fun e => ?_, fun e => ?_, fun e => ?_, fun a' ha' e => ?_⟩
    · rw [e, hb] at hg; simp at hg
    · rw [e, h.hn] at hg; simp at hg
    · rw [e, h.hl] at hg; simp at hg
    · rw [e, h.ho] at hg; simp at hg
    · obtain ⟨cur', hg', _⟩ := own_heap h.stk a' ha'; rw [e, hg'] at hg; simp at hg
end
end Go.Proofs.YtndfhejfhfhbdaaGreatDoor.K

/- A finder under single stores; the contract of enter. -/
namespace Go.Proofs.YtndfhejfhfhbdaaGreatDoor.K
open Go.RowKit M T
set_option linter.unusedVariables false
set_option linter.unusedSimpArgs false

section
variable {B n : Nat} {w w1 : World} {b : Nat} {m : Lay} {s : St} {o : Nat → Int}
theorem FM.other (h : FM B n w b m s o) {S : Nat → Prop} (hm : Mods S w w1) (hr : ∀ k, S k → ¬ Rows m k) : (∀ (i : Nat) c r, s.comps[i]? = some c → m.R[i]? = some r → w1.ownsRow B 3 1 (.slice r.1 c.length r.2) c.length (iv c)) := fun i c r hc hrr =>
  own_kept (h.row i c r hc hrr) hm (fun k hk hS => by
    obtain ⟨r1, r2⟩ := r
    cases r1 with
    | none => cases hk
    | some a => exact hr k hS ⟨_, List.mem_of_getElem? hrr, a, rfl, (Option.some.inj hk).symm⟩)
theorem FM.stk_kept (h : FM B n w b m s o) {S : Nat → Prop} (hm : Mods S w w1) (hs : ∀ a, m.so = some a → ¬ S a.block) : w1.ownsRow B 3 1 (.slice m.so s.stack.length m.sc) s.stack.length (iv s.stack) :=
  own_kept h.stk hm (fun k hk => by
    cases hso : m.so with
    | none => rw [hso] at hk; cases hk
    | some a => rw [hso] at hk; have := hs a hso; rwa [Option.some.inj hk] at this)
theorem FM.cmp_kept (h : FM B n w b m s o) {S : Nat → Prop} (hm : Mods S w w1) (hs : ∀ a, m.co = some a → ¬ S a.block) : w1.ownsRow B 79 1 (.slice m.co s.comps.length m.cc) s.comps.length (hdrs m.R s.comps) :=
  own_kept h.cmp hm (fun k hk => by
    cases hco : m.co with
    | none => rw [hco] at hk; cases hk
    | some a => rw [hco] at hk; have := hs a hco; rwa [Option.some.inj hk] at this)
theorem FM.rows_ne (h : FM B n w b m s o) : ∀ k, Rows m k → k ≠ b ∧ k ≠ m.gN ∧ k ≠ m.gL ∧ k ≠ m.gO ∧ (∀ a, m.so = some a → k ≠ a.block) ∧ ∀ a, m.co = some a → k ≠ a.block := by
  rintro k ⟨r, hr, a, ha, rfl⟩
  obtain ⟨h1, h2, h3, h4⟩ := h.rne r hr a ha
  obtain ⟨i, hi⟩ := List.mem_iff_getElem?.1 hr
  have hil : i < s.comps.length := by have := (List.getElem?_eq_some_iff.1 hi).1; rw [← h.rl]; exact this
  obtain ⟨c, hc⟩ : ∃ c, s.comps[i]? = some c := ⟨_, List.getElem?_eq_getElem hil⟩
  obtain ⟨cur, hg, _⟩ := own_heap (h.row i c r hc hi) a ha
  refine ⟨fun e => ?_, h1, h2, h3, h4, fun a' ha' e => ?_⟩
  · rw [e, h.blk] at hg; simp at hg
  · obtain ⟨cur', hg', _⟩ := own_heap h.cmp a' ha'; rw [e, hg'] at hg; simp at hg
theorem FM.rows_lt (h : FM B n w b m s o) : ∀ k, Rows m k → k < w.heap.size := by
  rintro k ⟨r, hr, a, ha, rfl⟩
  obtain ⟨i, hi⟩ := List.mem_iff_getElem?.1 hr
  have hil : i < s.comps.length := by have := (List.getElem?_eq_some_iff.1 hi).1; rw [← h.rl]; exact this
  obtain ⟨c, hc⟩ : ∃ c, s.comps[i]? = some c := ⟨_, List.getElem?_eq_getElem hil⟩
  obtain ⟨cur, hg, _⟩ := own_heap (h.row i c r hc hi) a ha
  exact heap_lt hg
theorem FM.set_next (h : FM B n w b m s o) (k : Nat) : FM B n (w.setCell ⟨b, 5, none⟩ (.int .i64 (k : Int))) b m { s with next := k } o := by
  have hm : Mods (fun k => k = b) w (w.setCell ⟨b, 5, none⟩ (.int .i64 (k : Int))) := (Mods.refl (fun k => k = b) w).setCell (p := ⟨b, 5, none⟩) (fun _ => rfl) _
  obtain ⟨n1, n2, n3, n4, n5⟩ := h.bne
  refine ⟨h.lo, ?_, hm.heap h.hn (fun e => n1 e.symm), hm.heap h.hl (fun e => n2 e.symm), hm.heap h.ho (fun e => n3 e.symm), h.stk_kept hm (fun a ha e => n4 a ha e), h.cmp_kept hm (fun a ha e => (n5 a ha).1 e), h.rl, h.other hm (fun k hk hr => (h.rows_ne k hr).1 hk), h.ne, h.sne, h.rne⟩
  have := heap_set w b 5 (.int .i64 (k : Int)) b _ _ _ h.blk
  rw [if_pos rfl] at this
  rw [this]; rfl
theorem FM.set_num (h : FM B n w b m s o) (v x : Nat) : FM B n (w.setCell ⟨m.gN, v, none⟩ (.int .i64 (x : Int))) b m { s with num := upd s.num v x } o := by
  have hm : Mods (fun k => k = m.gN) w (w.setCell ⟨m.gN, v, none⟩ (.int .i64 (x : Int))) := (Mods.refl (fun k => k = m.gN) w).setCell (p := ⟨m.gN, v, none⟩) (fun _ => rfl) _
  obtain ⟨n1, n2, n3, n4, n5⟩ := h.bne
  refine ⟨h.lo, hm.heap h.blk n1, ?_, hm.heap h.hl (fun e => h.ne.1 e.symm), hm.heap h.ho (fun e => h.ne.2.1 e.symm), h.stk_kept hm (fun a ha e => (h.sne a ha).1 e), h.cmp_kept hm (fun a ha e => (n5 a ha).2.1 e), h.rl, h.other hm (fun k hk hr => (h.rows_ne k hr).2.1 hk), h.ne, h.sne, h.rne⟩
  have := heap_set w m.gN v (.int .i64 (x : Int)) m.gN _ _ _ h.hn
  rw [if_pos rfl, tab_set] at this
  rw [this, tab_congr n _ (fun y => ((upd s.num v x y : Nat) : Int)) (fun y _ => by simp only [upd]; split <;> rfl)]
theorem FM.set_low (h : FM B n w b m s o) (v x : Nat) : FM B n (w.setCell ⟨m.gL, v, none⟩ (.int .i64 (x : Int))) b m { s with low := upd s.low v x } o := by
  have hm : Mods (fun k => k = m.gL) w (w.setCell ⟨m.gL, v, none⟩ (.int .i64 (x : Int))) := (Mods.refl (fun k => k = m.gL) w).setCell (p := ⟨m.gL, v, none⟩) (fun _ => rfl) _
  obtain ⟨n1, n2, n3, n4, n5⟩ := h.bne
  refine ⟨h.lo, hm.heap h.blk n2, hm.heap h.hn h.ne.1, ?_, hm.heap h.ho (fun e => h.ne.2.2 e.symm), h.stk_kept hm (fun a ha e => (h.sne a ha).2.1 e), h.cmp_kept hm (fun a ha e => (n5 a ha).2.2.1 e), h.rl, h.other hm (fun k hk hr => (h.rows_ne k hr).2.2.1 hk), h.ne, h.sne, h.rne⟩
  have := heap_set w m.gL v (.int .i64 (x : Int)) m.gL _ _ _ h.hl
  rw [if_pos rfl, tab_set] at this
  rw [this, tab_congr n _ (fun y => ((upd s.low v x y : Nat) : Int)) (fun y _ => by simp only [upd]; split <;> rfl)]
theorem FM.set_of (h : FM B n w b m s o) (v : Nat) (x : Int) : FM B n (w.setCell ⟨m.gO, v, none⟩ (.int .i64 x)) b m s (upd o v x) := by
  have hm : Mods (fun k => k = m.gO) w (w.setCell ⟨m.gO, v, none⟩ (.int .i64 x)) := (Mods.refl (fun k => k = m.gO) w).setCell (p := ⟨m.gO, v, none⟩) (fun _ => rfl) _
  obtain ⟨n1, n2, n3, n4, n5⟩ := h.bne
  refine ⟨h.lo, hm.heap h.blk n3, hm.heap h.hn h.ne.2.1, hm.heap h.hl h.ne.2.2, ?_, h.stk_kept hm (fun a ha e => (h.sne a ha).2.2 e), h.cmp_kept hm (fun a ha e => (n5 a ha).2.2.2.1 e), h.rl, h.other hm (fun k hk hr => (h.rows_ne k hr).2.2.2.1 hk), h.ne, h.sne, h.rne⟩
  have := heap_set w m.gO v (.int .i64 x) m.gO _ _ _ h.ho
  rw [if_pos rfl, tab_set] at this
  rw [this]
/-- the stack, a number longer: behind append, and the store of what it hands back -/
theorem FM.set_stack (h : FM B n w b m s o) {w2 : World} {gg cg v : Nat} {bx : Obj} (ho : w2.ownsRow B 3 1 (.slice (some ⟨gg, 0, none⟩) (s.stack.length + 1) cg) (s.stack.length + 1) (iv s.stack ++ [.int .i64 (v : Int)]))
    (hg : (w.alloc bx).grownBy w2 (Value.slice m.so s.stack.length m.sc).ownBlock) (hat : (Value.slice m.so s.stack.length m.sc).ownBlock = some gg ∨ gg = w.heap.size + 1) (hB : B ≤ w.heap.size) :
    FM B n (w2.setCell ⟨b, 4, none⟩ (.slice (some ⟨gg, 0, none⟩) (s.stack.length + 1) cg)) b { m with so := some ⟨gg, 0, none⟩, sc := cg } { s with stack := s.stack ++ [v] } o ∧
      ((∃ a, m.so = some a ∧ gg = a.block) ∨ w.heap.size ≤ gg) ∧ Mods (Foot m b) w (w2.setCell ⟨b, 4, none⟩ (.slice (some ⟨gg, 0, none⟩) (s.stack.length + 1) cg)) := by
  have hM : Mods (fun k => ∃ a, m.so = some a ∧ k = a.block) w w2 := ((Mods.refl _ w).alloc bx).grown hg (fun k hk _ => by
    cases hso : m.so with
    | none => rw [hso] at hk; cases hk
    | some a => rw [hso] at hk; exact ⟨a, rfl, (Option.some.inj hk).symm⟩)
  have hgg : (∃ a, m.so = some a ∧ gg = a.block) ∨ gg = w.heap.size + 1 := by
    rcases hat with h1 | h1
    · cases hso : m.so with
      | none => rw [hso] at h1; cases h1
      | some a => rw [hso] at h1; exact .inl ⟨a, rfl, (Option.some.inj h1).symm⟩
    · exact .inr h1
  obtain ⟨n1, n2, n3, n4, n5⟩ := h.bne
  have hblk2 := hM.heap h.blk (fun ⟨a, ha, e⟩ => n4 a ha e.symm)
  have hm2 : Mods (fun k => k = b) w2 (w2.setCell ⟨b, 4, none⟩ (.slice (some ⟨gg, 0, none⟩) (s.stack.length + 1) cg)) := (Mods.refl (fun k => k = b) w2).setCell (p := ⟨b, 4, none⟩) (fun _ => rfl) _
  have hMM : Mods (fun k => k = b ∨ ∃ a, m.so = some a ∧ k = a.block) w (w2.setCell ⟨b, 4, none⟩ (.slice (some ⟨gg, 0, none⟩) (s.stack.length + 1) cg)) := (hM.mono (fun _ _ h => .inr h)).then hm2 (fun _ _ h => .inl h)
  have hbl := heap_lt h.blk
  have hlt := h.lt
  have hggne : gg ≠ b ∧ gg ≠ m.gN ∧ gg ≠ m.gL ∧ gg ≠ m.gO := by
    rcases hgg with ⟨a, ha, e⟩ | e
    · rw [e]; exact ⟨n4 a ha, h.sne a ha⟩
    · have h1 := (hlt b (.inl rfl)).2
      have h2 := (hlt m.gN (.inr (.inl rfl))).2
      have h3 := (hlt m.gL (.inr (.inr (.inl rfl)))).2
      have h4 := (hlt m.gO (.inr (.inr (.inr (.inl rfl))))).2
      omega
  refine ⟨⟨h.lo, ?_, hMM.heap h.hn ?_, hMM.heap h.hl ?_, hMM.heap h.ho ?_, ?_, h.cmp_kept hMM (fun a ha => ?_), h.rl, h.other hMM (fun k hk hr => ?_), h.ne, fun a ha => ?_, fun r hr a ha => ?_⟩, ?_, hMM.mono (fun k _ hk => ?_)⟩
  · have := heap_set w2 b 4 (.slice (some ⟨gg, 0, none⟩) (s.stack.length + 1) cg) b _ _ _ hblk2
    rw [if_pos rfl] at this
    rw [this]
    simp
  · rintro (e | ⟨a, ha, e⟩)
    · exact n1 e.symm
    · exact (h.sne a ha).1 e.symm
  · rintro (e | ⟨a, ha, e⟩)
    · exact n2 e.symm
    · exact (h.sne a ha).2.1 e.symm
  · rintro (e | ⟨a, ha, e⟩)
    · exact n3 e.symm
    · exact (h.sne a ha).2.2 e.symm
  · show World.ownsRow _ B _ 1 (.slice (some ⟨gg, 0, none⟩) (s.stack ++ [v]).length cg) (s.stack ++ [v]).length (iv (s.stack ++ [v]))
    rw [List.length_append, iv_append]
    exact own_kept ho hm2 (fun k hk e => hggne.1 ((Option.some.inj hk).trans e))
  · rintro (e | ⟨a', ha', e⟩)
    · exact (n5 a ha).1 e
    · exact (n5 a ha).2.2.2.2 a' ha' e
  · obtain ⟨h1, _, _, _, h5, _⟩ := h.rows_ne k hr
    rcases hk with e | ⟨a', ha', e⟩
    · exact h1 e
    · exact h5 a' ha' e
  · obtain rfl := Option.some.inj ha
    exact hggne.2
  · obtain ⟨h1, h2, h3, h4⟩ := h.rne r hr a ha
    refine ⟨h1, h2, h3, fun a' ha' e => ?_⟩
    obtain rfl := Option.some.inj ha'
    rcases hgg with ⟨a2, ha2, e2⟩ | e2
    · exact h4 a2 ha2 (e.trans e2)
    · obtain ⟨i, hi⟩ := List.mem_iff_getElem?.1 hr
      have hil : i < s.comps.length := by have := (List.getElem?_eq_some_iff.1 hi).1; rw [← h.rl]; exact this
      obtain ⟨c, hc⟩ : ∃ c, s.comps[i]? = some c := ⟨_, List.getElem?_eq_getElem hil⟩
      obtain ⟨cur, hgc, _⟩ := own_heap (h.row i c r hc hi) a ha
      have := heap_lt hgc
      simp only at e
      omega
  · rcases hgg with h1 | h1
    · exact .inl h1
    · exact .inr (by omega)
  · rcases hk with e | e
    · exact .inl e
    · exact .inr (.inr (.inr (.inr (.inl e))))
end
end Go.Proofs.YtndfhejfhfhbdaaGreatDoor.K
