/- slices.SortFunc with the closure that compares components' heads. -/
import Derived.Test.YtmmggeaaheegmaaCompK
import Derived.Test.YtmmggeaaheegmaaShelfS
import Derived.Deep.Quiet
namespace Go.Proofs.Ytmmggeaaheegmaa.K
open Go.RowKit M T
set_option linter.unusedVariables false
set_option linter.unusedSimpArgs false

theorem cell_lt {w : World} {p : Addr} {v : Value} (h : w.cell? p = some v) : p.block < w.heap.size := by
  unfold World.cell? at h
  cases hg : w.heap[p.block]? with
  | none => simp [hg] at h
  | some o => exact heap_lt hg
theorem cell_below {w w1 : World} {p : Addr} {v : Value} (hb : Below w.heap.size w w1) (h : w.cell? p = some v) : w1.cell? p = some v := (hb.cell (cell_lt h)).trans h
theorem RD.below {E : Nat → List Int} {n : Nat} {w w1 : World} {b : Nat} {C : List (List Nat)} {q : Nat → Nat} {eo : Option Addr} {ec : Nat} (h : RD E n w b C q eo ec) (hb : Below w.heap.size w w1) : RD E n w1 b C q eo ec := by
  obtain ⟨go, co, cc, c0, c3, c6, h1, h2, h3, h4⟩ := h.hd
  refine ⟨go, co, cc, cell_below hb c0, cell_below hb c3, cell_below hb c6, h1, h2, fun v hv => cell_below hb (h3 v hv), fun i c hc => ?_⟩
  obtain ⟨gc, gr, cr, e, ch, hl, hm, hx⟩ := h4 i c hc
  exact ⟨gc, gr, cr, e, cell_below hb ch, hl, hm, fun j v hj => cell_below hb (hx j v hj)⟩
/-- the least node of a component -/
def headOf (C : List (List Nat)) (i : Nat) : Nat := (C.getD i []).headD 0
theorem head_get {E : Nat → List Int} {n : Nat} {C : List (List Nat)} {q : Nat → Nat} (hC : Comp E n C q) {i : Nat} (hi : i < C.length) : ∃ c, C[i]? = some c ∧ 0 < c.length ∧ c[0]? = some (headOf C i) ∧ headOf C i ∈ c ∧ headOf C i < n := by
  obtain ⟨c, hc⟩ : ∃ c, C[i]? = some c := ⟨_, List.getElem?_eq_getElem hi⟩
  have hne := (hC.d3 c (List.mem_of_getElem? hc)).2
  have e : headOf C i = c.headD 0 := by simp [headOf, List.getD, hc]
  cases c with
  | nil => exact absurd rfl hne
  | cons a t =>
    have e2 : headOf C i = a := e
    exact ⟨_, hc, by simp, by simp [e2], by rw [e2]; exact List.mem_cons_self, by rw [e2]; exact (hC.d2 i _ a hc List.mem_cons_self).1⟩

set_option maxRecDepth 100000 in
set_option maxHeartbeats 400000 in
theorem compare_any (E : Nat → List Int) (n : Nat) (w : World) (b bf : Nat) (C : List (List Nat)) (q : Nat → Nat) (eo : Option Addr) (ec : Nat) (hC : Comp E n C q) (h : RD E n w b C q eo ec) (hf : w.cell? ⟨bf, 0, none⟩ = some (.pointer (some ⟨b, 0, none⟩))) (x y : Nat) (hx : x < C.length) (hy : y < C.length) (hn : n ≤ 10000) :
    Calls Try.prog 17 #[.int .i64 x, .int .i64 y, .pointer (some ⟨bf, 0, none⟩)] w fun e w' => e = .returned (.int .i64 ((headOf C x : Int) - headOf C y)) ∧ ∃ q, w' = w.drewN q := by
  obtain ⟨go, co, cc, c0, c3, c6, hle, hmx, hq, hrows⟩ := h.hd
  obtain ⟨cx, hcx, hlx, hx0, _, hxn⟩ := head_get hC hx
  obtain ⟨cy, hcy, hly, hy0, _, hyn⟩ := head_get hC hy
  obtain ⟨gc, gx, crx, rfl, chx, hx1, hx2, hxc⟩ := hrows x cx hcx
  obtain ⟨_, gy, cry, e, chy, hy1, hy2, hyc⟩ := hrows y cy hcy
  cases e
  have ax := hxc 0 _ hx0
  have ay := hyc 0 _ hy0
  have hxi : (x : Int) < (C.length : Int) := by omega
  have hyi : (y : Int) < (C.length : Int) := by omega
  have hlxi : (0 : Int) < (cx.length : Int) := by omega
  have hlyi : (0 : Int) < (cy.length : Int) := by omega
  clear hC h hq hrows hcx hcy hxc hyc hx0 hy0
  generalize headOf C x = hdx at *
  generalize headOf C y = hdy at *
  go_enter Try.func17, Try.ntmps17
  go_wp2_with fail
  go_quiet (fail)
  go_wp2_with fail
  go_ret
  exact ⟨by trivial, nq, by trivial⟩
end Go.Proofs.Ytmmggeaaheegmaa.K
