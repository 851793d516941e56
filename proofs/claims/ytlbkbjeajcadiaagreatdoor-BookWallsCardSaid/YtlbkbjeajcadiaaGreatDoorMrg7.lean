/- Several texts in one. -/
import Derived.Test.YtlbkbjeajcadiaaGreatDoorTar
import Derived.Test.YtlbkbjeajcadiaaGreatDoorMrg3
import Derived.Deep.AppendLies
import Derived.Deep.RegionLaw
import Derived.Deep.RegionHeld3
import Derived.Deep.DeepCutAuto
import Derived.StillTailTactics
import Derived.BigCall
import Derived.BigGuard
import Derived.Test.YtlbkbjeajcadiaaGreatDoorShelf
import Derived.Sort.OwnSortedInts
import Derived.Deep.LoopGhost
import Derived.WalkMore

/- What a finder of components is in memory; the first contracts. -/
namespace Go.Proofs.YtlbkbjeajcadiaaGreatDoor.K
open Go.RowKit M T
set_option linter.unusedVariables false
set_option linter.unusedSimpArgs false

def iv (l : List Nat) : List Value := l.map fun (x : Nat) => .int .i64 (x : Int)
/-- a row of n numbers -/
def tab (n : Nat) (f : Nat → Int) : Array Value := ((List.range n).map fun v => Value.int .i64 (f v)).toArray
/-- rows behind a row -/
def hdrs (R : List (Option Addr × Nat)) (C : List (List Nat)) : List Value := List.zipWith (fun r c => Value.slice r.1 c.length r.2) R C

/-- where a finder's things lie -/
structure Lay where
  eo : Option Addr
  ec : Nat
  gN : Nat
  gL : Nat
  gO : Nat
  so : Option Addr
  sc : Nat
  co : Option Addr
  cc : Nat
  R : List (Option Addr × Nat)
def Foot (m : Lay) (b : Nat) (k : Nat) : Prop := k = b ∨ k = m.gN ∨ k = m.gL ∨ k = m.gO ∨ (∃ a, m.so = some a ∧ k = a.block) ∨ ∃ a, m.co = some a ∧ k = a.block
theorem own_heap {w : World} {B n cap size : Nat} {e : TypeId} {ao : Option Addr} {xs : List Value} (h : w.ownsRow B e size (.slice ao n cap) n xs) : ∀ a, ao = some a → ∃ cur, w.heap[a.block]? = some (.cells cur e (0, 0)) ∧ B ≤ a.block := by
  intro a ha
  obtain ⟨ao', cap', e', _, _, _, h4⟩ := own_view h
  cases e'
  obtain ⟨g, cur, rfl, hB, hg, _⟩ := h4 a ha
  exact ⟨cur, hg, hB⟩
section
variable {B n : Nat} {w w1 : World} {b : Nat} {m : Lay} {s : St} {o : Nat → Int}
/-- all but the components' own rows -/
def Rows (m : Lay) (k : Nat) : Prop := ∃ r ∈ m.R, ∃ a, r.1 = some a ∧ k = a.block
end
end Go.Proofs.YtlbkbjeajcadiaaGreatDoor.K

/- A finder under single stores; the contract of enter. -/
namespace Go.Proofs.YtlbkbjeajcadiaaGreatDoor.K
open Go.RowKit M T
set_option linter.unusedVariables false
set_option linter.unusedSimpArgs false

section
variable {B n : Nat} {w w1 : World} {b : Nat} {m : Lay} {s : St} {o : Nat → Int}
end
end Go.Proofs.YtlbkbjeajcadiaaGreatDoor.K

/- Contracts of the library, at rows of numbers of one's own: Sort, Clone, Index. -/
namespace Go.Proofs.YtlbkbjeajcadiaaGreatDoor.K
open Go.RowKit M T
set_option linter.unusedVariables false
set_option linter.unusedSimpArgs false

end Go.Proofs.YtlbkbjeajcadiaaGreatDoor.K

/- The contract of enter. -/
namespace Go.Proofs.YtlbkbjeajcadiaaGreatDoor.K
open Go.RowKit M T
set_option linter.unusedVariables false
set_option linter.unusedSimpArgs false

end Go.Proofs.YtlbkbjeajcadiaaGreatDoor.K

/- A finder whose stack is cut, whose components grow; the contracts of leave. -/
namespace Go.Proofs.YtlbkbjeajcadiaaGreatDoor.K
open Go.RowKit M T
set_option linter.unusedVariables false
set_option linter.unusedSimpArgs false

section
variable {B n : Nat} {w w1 : World} {b : Nat} {m : Lay} {s : St} {o : Nat → Int}
end

end Go.Proofs.YtlbkbjeajcadiaaGreatDoor.K

/- The contract of leave where a component is taken off. -/
namespace Go.Proofs.YtlbkbjeajcadiaaGreatDoor.K
open Go.RowKit M T
set_option linter.unusedVariables false
set_option linter.unusedSimpArgs false

def ofUp (o : Nat → Int) (c : List Nat) (x : Int) : Nat → Int := fun y => if y ∈ c then x else o y
end Go.Proofs.YtlbkbjeajcadiaaGreatDoor.K

/- What holds while a graph is gone through. -/
namespace Go.Proofs.YtlbkbjeajcadiaaGreatDoor.K
open Go.RowKit M T
set_option linter.unusedVariables false
set_option linter.unusedSimpArgs false

/-- how many have no number yet -/
def unv : Nat → (Nat → Nat) → Nat
  | 0, _ => 0
  | n + 1, f => unv n f + if f n = 0 then 1 else 0
/-- edges in memory, below B -/
structure EdAt (B : Nat) (w : World) (eo : Option Addr) (n ec : Nat) (E : Nat → List Int) : Prop where
  le : n ≤ ec ∧ ec ≤ maxLen
  row : ∀ i, i < n → ∃ g off ro rc, eo = some ⟨g, off, none⟩ ∧ g < B ∧ w.cell? ⟨g, off + i, none⟩ = some (.slice ro (E i).length rc) ∧ (E i).length ≤ rc ∧ rc ≤ maxLen ∧
    ∀ j x, (E i)[j]? = some x → ∃ p po, ro = some ⟨p, po, none⟩ ∧ p < B ∧ w.cell? ⟨p, po + j, none⟩ = some (.int .i64 x)
theorem EdAt.below {B : Nat} {w w1 : World} {eo : Option Addr} {n ec : Nat} {E : Nat → List Int} (h : EdAt B w eo n ec E) (hb : Below B w w1) : EdAt B w1 eo n ec E := by
  refine ⟨h.le, fun i hi => ?_⟩
  obtain ⟨g, off, ro, rc, e, hg, hc, h1, h2, hx⟩ := h.row i hi
  refine ⟨g, off, ro, rc, e, hg, (hb.cell (p := ⟨g, off + i, none⟩) hg).trans hc, h1, h2, fun j x hj => ?_⟩
  obtain ⟨p, po, e2, hp, hc2⟩ := hx j x hj
  exact ⟨p, po, e2, hp, (hb.cell (p := ⟨p, po + j, none⟩) hp).trans hc2⟩

def ofI (s : St) : Nat → Int := fun v => match s.ofc v with
  | none => -1
  | some i => (i : Int)
def cellsF (l : List (Nat × Nat)) : List Value := l.flatMap fun f => [.int .i64 (f.1 : Int), .int .i64 (f.2 : Int)]
theorem own_setcell {w : World} {B : Nat} {e : TypeId} {size g n cap : Nat} {xs : List Value} (h : w.ownsRow B e size (.slice (some ⟨g, 0, none⟩) n cap) n xs) (j : Nat) (u : Value) :
    (w.setCell ⟨g, j, none⟩ u).ownsRow B e size (.slice (some ⟨g, 0, none⟩) n cap) n (xs.set j u) := by
  refine ⟨by rw [List.length_set]; exact h.1, ?_⟩
  rcases h.2 with ⟨h0, _⟩ | ⟨g', c, cur, e0, hb, hg, hnc, hm, hs, ht⟩
  · cases h0
  · cases e0
    refine .inr ⟨g, cap, cur.setIfInBounds j u, rfl, hb, ?_, hnc, hm, ?_, ?_⟩
    · have := heap_set w g j u g _ _ _ hg
      rwa [if_pos rfl] at this
    · simpa using hs
    · rw [← ht, Array.toList_setIfInBounds, List.take_set]

section
variable {E : Nat → List Int} {n B : Nat} {W0 w w1 : World} {s0 s : St} {eo : Option Addr} {ec b : Nat} {m : Lay} {fr : List (Nat × Nat)} {fo : Option Addr} {fc : Nat}
end
end Go.Proofs.YtlbkbjeajcadiaaGreatDoor.K

/- The contract of walk. -/
namespace Go.Proofs.YtlbkbjeajcadiaaGreatDoor.K
open Go.RowKit M T
set_option linter.unusedVariables false
set_option linter.unusedSimpArgs false

end Go.Proofs.YtlbkbjeajcadiaaGreatDoor.K

/- The contract of find. -/
namespace Go.Proofs.YtlbkbjeajcadiaaGreatDoor.K
open Go.RowKit M T
set_option linter.unusedVariables false
set_option linter.unusedSimpArgs false

end Go.Proofs.YtlbkbjeajcadiaaGreatDoor.K

/- What a found graph knows; the contract of ready, of the closure about it, of slices.IndexFunc with that. -/
namespace Go.Proofs.YtlbkbjeajcadiaaGreatDoor.K
open Go.RowKit M T
set_option linter.unusedVariables false
set_option linter.unusedSimpArgs false

/-- components, and which one each node is in -/
structure Comp (E : Nat → List Int) (n : Nat) (C : List (List Nat)) (q : Nat → Nat) : Prop where
  d1 : ∀ v, v < n → ∃ c, C[q v]? = some c ∧ v ∈ c
  d2 : ∀ i c v, C[i]? = some c → v ∈ c → v < n ∧ q v = i
  d3 : ∀ c ∈ C, c.Pairwise (· < ·) ∧ c ≠ []
  d4 : ∀ u w, T.Edge E n u w → q w ≤ q u
  d5 : ∀ u w, u < n → w < n → q u = q w → Path E n u w
def qOf (s : St) (v : Nat) : Nat := (s.ofc v).getD 0
/-- an edge that holds nothing up -/
def okEdge (n : Nat) (q : Nat → Nat) (come : Nat → Bool) (ci : Nat) (x : Int) : Bool := !(decide (0 ≤ x ∧ x < (n : Int)) && (decide (q x.toNat ≠ ci) && !come (q x.toNat)))
def okNode (E : Nat → List Int) (n : Nat) (q : Nat → Nat) (come : Nat → Bool) (ci v : Nat) : Bool := (E v).all (okEdge n q come ci)
def rdy (E : Nat → List Int) (n : Nat) (C : List (List Nat)) (q : Nat → Nat) (come : Nat → Bool) (ci : Nat) : Bool := (C.getD ci []).all (okNode E n q come ci)
/-- a row of truths -/
def tabB (n : Nat) (f : Nat → Bool) : Array Value := ((List.range n).map fun v => Value.bool (f v)).toArray
/-- all that is read of a finder -/
structure RD (E : Nat → List Int) (n : Nat) (w : World) (b : Nat) (C : List (List Nat)) (q : Nat → Nat) (eo : Option Addr) (ec : Nat) : Prop where
  hd : ∃ go co cc, w.cell? ⟨b, 0, none⟩ = some (.slice eo n ec) ∧ w.cell? ⟨b, 3, none⟩ = some (.slice (some ⟨go, 0, none⟩) n n) ∧ w.cell? ⟨b, 6, none⟩ = some (.slice co C.length cc) ∧ C.length ≤ cc ∧ cc ≤ maxLen ∧
    (∀ v, v < n → w.cell? ⟨go, v, none⟩ = some (.int .i64 (q v : Int))) ∧
    ∀ i c, C[i]? = some c → ∃ gc gr cr, co = some ⟨gc, 0, none⟩ ∧ w.cell? ⟨gc, i, none⟩ = some (.slice (some ⟨gr, 0, none⟩) c.length cr) ∧ c.length ≤ cr ∧ cr ≤ maxLen ∧ ∀ (j v : Nat), c[j]? = some v → w.cell? ⟨gr, j, none⟩ = some (.int .i64 (v : Int))
end Go.Proofs.YtlbkbjeajcadiaaGreatDoor.K

/- The closure that asks ready; slices.IndexFunc with it. -/
namespace Go.Proofs.YtlbkbjeajcadiaaGreatDoor.K
open Go.RowKit M T
set_option linter.unusedVariables false
set_option linter.unusedSimpArgs false

/-- all that the closure reads -/
structure RB (E : Nat → List Int) (n B : Nat) (w : World) (b bf bc gB : Nat) (C : List (List Nat)) (q : Nat → Nat) (eo : Option Addr) (ec : Nat) (come : Nat → Bool) : Prop where
  ed : EdAt B w eo n ec E
  rd : RD E n w b C q eo ec
  cf : w.cell? ⟨bf, 0, none⟩ = some (.pointer (some ⟨b, 0, none⟩))
  cc : w.cell? ⟨bc, 0, none⟩ = some (.slice (some ⟨gB, 0, none⟩) C.length C.length)
  cb : ∀ i, i < C.length → w.cell? ⟨gB, i, none⟩ = some (.bool (come i))
end Go.Proofs.YtlbkbjeajcadiaaGreatDoor.K
