/- What a finder of components is in memory; the first contracts. -/
import Derived.Test.YtmmggeaaheegmaaTar
import Derived.Test.YtmmggeaaheegmaaMem
import Derived.Deep.AppendLies
import Derived.Deep.RegionLaw
import Derived.Deep.RegionHeld3
import Derived.Deep.DeepCutAuto
import Derived.StillTailTactics
import Derived.BigCall
import Derived.BigGuard
namespace Go.Proofs.Ytmmggeaaheegmaa.K
open Go.RowKit M T
set_option linter.unusedVariables false
set_option linter.unusedSimpArgs false

def iv (l : List Nat) : List Value := l.map fun (x : Nat) => .int .i64 (x : Int)
theorem iv_length (l : List Nat) : (iv l).length = l.length := by simp [iv]
theorem iv_append (l m : List Nat) : iv (l ++ m) = iv l ++ iv m := by simp [iv]
theorem iv_get (l : List Nat) (i x : Nat) (h : l[i]? = some x) : (iv l)[i]? = some (.int .i64 (x : Int)) := by simp [iv, h]
theorem iv_one (l : List Nat) : ∀ u ∈ iv l, u.oneCell' = true := by
  intro u hu
  obtain ⟨x, _, rfl⟩ := List.mem_map.1 hu
  rfl
/-- a row of n numbers -/
def tab (n : Nat) (f : Nat → Int) : Array Value := ((List.range n).map fun v => Value.int .i64 (f v)).toArray
theorem tab_size (n : Nat) (f : Nat → Int) : (tab n f).size = n := by simp [tab]
theorem tab_get (n : Nat) (f : Nat → Int) (v : Nat) (h : v < n) : (tab n f)[v]? = some (.int .i64 (f v)) := by simp [tab, h]
theorem tab_set (n : Nat) (f : Nat → Int) (v : Nat) (x : Int) : (tab n f).setIfInBounds v (.int .i64 x) = tab n (upd f v x) := by
  apply Array.ext_getElem?
  intro j
  rw [Array.getElem?_setIfInBounds]
  by_cases hj : j < n
  · rw [tab_get n _ j hj, tab_get n _ j hj, tab_size]
    by_cases e : v = j
    · subst e; simp [upd_same, hj]
    · rw [if_neg e, upd_other f x (fun e2 => e e2.symm)]
  · have h1 : (tab n f)[j]? = none := by rw [Array.getElem?_eq_none_iff, tab_size]; omega
    have h2 : (tab n (upd f v x))[j]? = none := by rw [Array.getElem?_eq_none_iff, tab_size]; omega
    rw [h1, h2, tab_size]
    by_cases e : v = j
    · subst e; simp [hj]
    · rw [if_neg e]
theorem tab_congr (n : Nat) (f g : Nat → Int) (h : ∀ v, v < n → f v = g v) : tab n f = tab n g := by
  unfold tab
  congr 1
  exact List.map_congr_left fun v hv => by rw [h v (List.mem_range.1 hv)]
/-- rows behind a row -/
def hdrs (R : List (Option Addr × Nat)) (C : List (List Nat)) : List Value := List.zipWith (fun r c => Value.slice r.1 c.length r.2) R C

/-- where a finder's things lie -/
structure Lay where
  eo : Option Addr
  ec : Nat
  gN : Nat
  gL : Nat
  gO : Nat
  so : Option Addr
  sc : Nat
  co : Option Addr
  cc : Nat
  R : List (Option Addr × Nat)
def Foot (m : Lay) (b : Nat) (k : Nat) : Prop := k = b ∨ k = m.gN ∨ k = m.gL ∨ k = m.gO ∨ (∃ a, m.so = some a ∧ k = a.block) ∨ ∃ a, m.co = some a ∧ k = a.block
structure FM (B n : Nat) (w : World) (b : Nat) (m : Lay) (s : St) (o : Nat → Int) : Prop where
  lo : B ≤ b ∧ B ≤ m.gN ∧ B ≤ m.gL ∧ B ≤ m.gO
  blk : w.heap[b]? = some (.cells #[.slice m.eo n m.ec, .slice (some ⟨m.gN, 0, none⟩) n n, .slice (some ⟨m.gL, 0, none⟩) n n, .slice (some ⟨m.gO, 0, none⟩) n n, .slice m.so s.stack.length m.sc, .int .i64 s.next, .slice m.co s.comps.length m.cc] 37 (0, 0))
  hn : w.heap[m.gN]? = some (.cells (tab n fun v => (s.num v : Int)) 3 (0, 0))
  hl : w.heap[m.gL]? = some (.cells (tab n fun v => (s.low v : Int)) 3 (0, 0))
  ho : w.heap[m.gO]? = some (.cells (tab n o) 3 (0, 0))
  stk : w.ownsRow B 3 1 (.slice m.so s.stack.length m.sc) s.stack.length (iv s.stack)
  cmp : w.ownsRow B 26 1 (.slice m.co s.comps.length m.cc) s.comps.length (hdrs m.R s.comps)
  rl : m.R.length = s.comps.length
  row : ∀ (i : Nat) c r, s.comps[i]? = some c → m.R[i]? = some r → w.ownsRow B 3 1 (.slice r.1 c.length r.2) c.length (iv c)
  ne : m.gN ≠ m.gL ∧ m.gN ≠ m.gO ∧ m.gL ≠ m.gO
  sne : ∀ a, m.so = some a → a.block ≠ m.gN ∧ a.block ≠ m.gL ∧ a.block ≠ m.gO
  rne : ∀ r ∈ m.R, ∀ a, r.1 = some a → a.block ≠ m.gN ∧ a.block ≠ m.gL ∧ a.block ≠ m.gO ∧ ∀ a', m.so = some a' → a.block ≠ a'.block
theorem own_heap {w : World} {B n cap size : Nat} {e : TypeId} {ao : Option Addr} {xs : List Value} (h : w.ownsRow B e size (.slice ao n cap) n xs) : ∀ a, ao = some a → ∃ cur, w.heap[a.block]? = some (.cells cur e (0, 0)) ∧ B ≤ a.block := by
  intro a ha
  obtain ⟨ao', cap', e', _, _, _, h4⟩ := own_view h
  cases e'
  obtain ⟨g, cur, rfl, hB, hg, _⟩ := h4 a ha
  exact ⟨cur, hg, hB⟩
section
variable {B n : Nat} {w w1 : World} {b : Nat} {m : Lay} {s : St} {o : Nat → Int}
theorem FM.lt (h : FM B n w b m s o) : ∀ k, Foot m b k → B ≤ k ∧ k < w.heap.size := by
  rintro k (rfl | rfl | rfl | rfl | ⟨a, ha, rfl⟩ | ⟨a, ha, rfl⟩)
  · exact ⟨h.lo.1, heap_lt h.blk⟩
  · exact ⟨h.lo.2.1, heap_lt h.hn⟩
  · exact ⟨h.lo.2.2.1, heap_lt h.hl⟩
  · exact ⟨h.lo.2.2.2, heap_lt h.ho⟩
  · obtain ⟨cur, hg, hB⟩ := own_heap h.stk a ha; exact ⟨hB, heap_lt hg⟩
  · obtain ⟨cur, hg, hB⟩ := own_heap h.cmp a ha; exact ⟨hB, heap_lt hg⟩
/-- all but the components' own rows -/
def Rows (m : Lay) (k : Nat) : Prop := ∃ r ∈ m.R, ∃ a, r.1 = some a ∧ k = a.block
theorem FM.keep {S : Nat → Prop} (h : FM B n w b m s o) (hm : Mods S w w1) (h1 : ∀ k, S k → ¬ Foot m b k) (h2 : ∀ k, S k → ¬ Rows m k) : FM B n w1 b m s o := by
  have hs : ∀ {k}, Foot m b k → ¬ S k := fun hf hS => h1 _ hS hf
  refine ⟨h.lo, hm.heap h.blk (hs (.inl rfl)), hm.heap h.hn (hs (.inr (.inl rfl))), hm.heap h.hl (hs (.inr (.inr (.inl rfl)))), hm.heap h.ho (hs (.inr (.inr (.inr (.inl rfl))))), own_kept h.stk hm (fun k hk => ?_), own_kept h.cmp hm (fun k hk => ?_), h.rl, fun i c r hc hr => own_kept (h.row i c r hc hr) hm (fun k hk hS => ?_), h.ne, h.sne, h.rne⟩
  · cases hso : m.so with
    | none => rw [hso] at hk; cases hk
    | some a => rw [hso] at hk; exact hs (.inr (.inr (.inr (.inr (.inl ⟨a, hso, (Option.some.inj hk).symm⟩)))))
  · cases hco : m.co with
    | none => rw [hco] at hk; cases hk
    | some a => rw [hco] at hk; exact hs (.inr (.inr (.inr (.inr (.inr ⟨a, hco, (Option.some.inj hk).symm⟩)))))
  · obtain ⟨r1, r2⟩ := r
    cases r1 with
    | none => cases hk
    | some a => exact h2 k hS ⟨_, List.mem_of_getElem? hr, a, rfl, (Option.some.inj hk).symm⟩
theorem FM.below (h : FM B n w b m s o) (hb : Below w.heap.size w w1) : FM B n w1 b m s o :=
  h.keep (Mods.of_below (S := fun _ => False) hb) (fun _ h => h.elim) (fun _ h => h.elim)
/-- the finder's struct, cell by cell -/
theorem FM.cells (h : FM B n w b m s o) : w.cell? ⟨b, 0, none⟩ = some (.slice m.eo n m.ec) ∧ w.cell? ⟨b, 1, none⟩ = some (.slice (some ⟨m.gN, 0, none⟩) n n) ∧ w.cell? ⟨b, 2, none⟩ = some (.slice (some ⟨m.gL, 0, none⟩) n n) ∧ w.cell? ⟨b, 3, none⟩ = some (.slice (some ⟨m.gO, 0, none⟩) n n) ∧ w.cell? ⟨b, 4, none⟩ = some (.slice m.so s.stack.length m.sc) ∧ w.cell? ⟨b, 5, none⟩ = some (.int .i64 s.next) ∧ w.cell? ⟨b, 6, none⟩ = some (.slice m.co s.comps.length m.cc) ∧ ∀ k, w.frozen? ⟨b, k, none⟩ = false := by
  have hc := fun j => cell_of_row w b j _ _ (0, 0) h.blk
  exact ⟨hc 0, hc 1, hc 2, hc 3, hc 4, hc 5, hc 6, fun k => by simp [World.frozen?, h.blk]⟩
theorem row_cell {w : World} {g n : Nat} {f : Nat → Int} {T : TypeId} (h : w.heap[g]? = some (.cells (tab n f) T (0, 0))) (v : Nat) (hv : v < n) : w.cell? ⟨g, v, none⟩ = some (.int .i64 (f v)) ∧ w.frozen? ⟨g, v, none⟩ = false :=
  ⟨(cell_of_row w g v _ _ (0, 0) h).trans (tab_get n f v hv), by simp [World.frozen?, h]⟩
/-- blocks of different kinds -/
theorem FM.bne (h : FM B n w b m s o) : b ≠ m.gN ∧ b ≠ m.gL ∧ b ≠ m.gO ∧ (∀ a, m.so = some a → a.block ≠ b) ∧ (∀ a, m.co = some a → a.block ≠ b ∧ a.block ≠ m.gN ∧ a.block ≠ m.gL ∧ a.block ≠ m.gO ∧ ∀ a', m.so = some a' → a.block ≠ a'.block) := by
  have hb := h.blk
  refine ⟨fun e => ?_, fun e => ?_, fun e => ?_, fun a ha e => ?_, fun a ha => ?_⟩
  · rw [e, h.hn] at hb; simp at hb
  · rw [e, h.hl] at hb; simp at hb
  · rw [e, h.ho] at hb; simp at hb
  · obtain ⟨cur, hg, _⟩ := own_heap h.stk a ha; rw [e, hb] at hg; simp at hg
  · obtain ⟨cur, hg, _⟩ := own_heap h.cmp a ha
    refine ⟨fun e => ?_, fun e => ?_, fun e => ?_, fun e => ?_, fun a' ha' e => ?_⟩
    · rw [e, hb] at hg; simp at hg
    · rw [e, h.hn] at hg; simp at hg
    · rw [e, h.hl] at hg; simp at hg
    · rw [e, h.ho] at hg; simp at hg
    · obtain ⟨cur', hg', _⟩ := own_heap h.stk a' ha'; rw [e, hg'] at hg; simp at hg
end
end Go.Proofs.Ytmmggeaaheegmaa.K
