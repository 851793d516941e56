/- Several texts in one. -/
import Derived.Test.YtlbkbjeajcadiaaGreatDoorMrg10
import Derived.Sort.Walk0
import Derived.Deep.AppendLies
import Derived.Lib.ItoaLen
import Derived.Test.YtlbkbjeajcadiaaGreatDoorAppP
import Derived.Test.YtlbkbjeajcadiaaGreatDoorMrg2
import Derived.Deep.DeepCutAuto
import Derived.Test.YtlbkbjeajcadiaaGreatDoorMrg4
import Derived.Test.YtlbkbjeajcadiaaGreatDoorMrg5
import Derived.Deep.RegionHeld3
import Derived.Test.YtlbkbjeajcadiaaGreatDoorMrg12
import Derived.Test.YtlbkbjeajcadiaaGreatDoorShelf
import Derived.Lib.AppendIntMem
import Derived.Shelf.Unicode.PredsPay
import Derived.Test.YtlbkbjeajcadiaaGreatDoorAppE
import Derived.Laws.EntriesVeiled
import Derived.Deep.WholeRow

/- The reference's settings in memory: at, With, Without. -/
namespace Go.Proofs.YtlbkbjeajcadiaaGreatDoor.P
open Go.RowKit Go.Proofs.YtlbkbjeajcadiaaGreatDoor.R Go.Proofs.YtlbkbjeajcadiaaGreatDoor.M Go.BigFrame
set_option linter.unusedVariables false
set_option linter.unusedSimpArgs false

def cellsE (A : List Ent) : List Value := A.flatMap fun e => [.string e.key, .string e.val, .int .i64 e.rev]
/-- a slice that holds settings -/
structure SetsV (w : World) (ao : Option Addr) (cap : Nat) (A : List Ent) : Prop where
  le : A.length ≤ cap ∧ cap ≤ maxLen
  row : ∀ i e, A[i]? = some e → ∃ b off, ao = some ⟨b, off, none⟩ ∧ b < w.heap.size ∧ w.cell? ⟨b, off + i * 3, none⟩ = some (.string e.key) ∧ w.cell? ⟨b, off + i * 3 + 1, none⟩ = some (.string e.val) ∧ w.cell? ⟨b, off + i * 3 + 2, none⟩ = some (.int .i64 e.rev)
theorem SetsV.below {w w1 : World} {ao : Option Addr} {cap : Nat} {A : List Ent} (h : SetsV w ao cap A) (hb : Below w.heap.size w w1) : SetsV w1 ao cap A :=
  ⟨h.le, fun i e hi => by
    obtain ⟨b, off, e1, hl, c0, c1, c2⟩ := h.row i e hi
    exact ⟨b, off, e1, Nat.lt_of_lt_of_le hl hb.size, (hb.cell (p := ⟨b, _, none⟩) hl).trans c0, (hb.cell (p := ⟨b, _, none⟩) hl).trans c1, (hb.cell (p := ⟨b, _, none⟩) hl).trans c2⟩⟩
theorem SetsV.nil (w : World) : SetsV w none 0 [] := ⟨⟨Nat.le_refl _, Nat.zero_le _⟩, fun i e h => by simp at h⟩
def atI (A : List Ent) (k : ByteArray) : Int := match A.findIdx? fun e => decide (e.key = k) with
  | none => -1
  | some i => (i : Int)
end Go.Proofs.YtlbkbjeajcadiaaGreatDoor.P

/- The reference's With and Without. -/
namespace Go.Proofs.YtlbkbjeajcadiaaGreatDoor.P
open Go.RowKit Go.Proofs.YtlbkbjeajcadiaaGreatDoor.R Go.Proofs.YtlbkbjeajcadiaaGreatDoor.M Go.BigFrame
set_option linter.unusedVariables false
set_option linter.unusedSimpArgs false

/-- With, behind the settings P: has it been laid, and what is out -/
def wDone (P : List Ent) (k : ByteArray) : Bool := P.any fun y => decide (¬ lt y.key k)
def wOut (P : List Ent) (e : Ent) : List Ent := if wDone P e.key then put P e else P
theorem own_heap {w : World} {B n cap size : Nat} {e : TypeId} {ao : Option Addr} {xs : List Value} (h : w.ownsRow B e size (.slice ao n cap) n xs) : ∀ a, ao = some a → ∃ cur, w.heap[a.block]? = some (.cells cur e (0, 0)) ∧ B ≤ a.block := by
  rintro a rfl
  obtain ⟨_, _, e0, _, _, _, h4⟩ := M.own_view h
  cases e0
  obtain ⟨g, cur, rfl, hB, hg, _⟩ := h4 a rfl
  exact ⟨cur, hg, hB⟩
end Go.Proofs.YtlbkbjeajcadiaaGreatDoor.P

/- The reference's Without; a number's digits. -/
namespace Go.Proofs.YtlbkbjeajcadiaaGreatDoor.P
open Go.RowKit Go.Proofs.YtlbkbjeajcadiaaGreatDoor.R Go.Proofs.YtlbkbjeajcadiaaGreatDoor.M Go.BigFrame
set_option linter.unusedVariables false
set_option linter.unusedSimpArgs false

/-- what a number's digits are, its lower ones out -/
def TextAt (N n : Nat) (l : List UInt8) : Prop := (n < 10 → Lib.decDigits N = l) ∧ (¬ n < 10 → Lib.decDigits N = Lib.decDigits (n / 10) ++ l)
theorem TextAt.start (N : Nat) : TextAt N N [UInt8.ofNat (48 + N % 10)] :=
  ⟨fun h => by rw [Lib.decDigits, dif_pos h, Nat.mod_eq_of_lt h], fun h => by rw [Lib.decDigits, dif_neg h]⟩
theorem TextAt.step {N n : Nat} {l : List UInt8} (h : TextAt N n l) (hn : ¬ n < 10) : TextAt N (n / 10) (UInt8.ofNat (48 + n / 10 % 10) :: l) := by
  have h2 := h.2 hn
  refine ⟨fun hl => ?_, fun hl => ?_⟩
  · rw [h2, Lib.decDigits, dif_pos hl, Nat.mod_eq_of_lt hl]; rfl
  · rw [h2, Lib.decDigits, dif_neg hl, List.append_assoc]; rfl
end Go.Proofs.YtlbkbjeajcadiaaGreatDoor.P

/- Plain: settings' lines joined, their sizes. -/
namespace Go.Proofs.YtlbkbjeajcadiaaGreatDoor.P
open Go.Proofs.YtlbkbjeajcadiaaGreatDoor.R Go.PlainAid Go.Lib
set_option linter.unusedVariables false

theorem decN_width4 (n b0 b1 b2 b3 : Nat) : (decodeN n b0 b1 b2 b3).2 ≤ 4 := by
  unfold decodeN
  repeat' split
  all_goals (simp only []; omega)
def sp : ByteArray := ⟨#[32]⟩
/-- lines of the settings that begin so -/
def linesB (A : List Ent) (p : ByteArray) : List ByteArray := (hits A p).map lineB
end Go.Proofs.YtlbkbjeajcadiaaGreatDoor.P

/- The reference's hex and Quote. -/
namespace Go.Proofs.YtlbkbjeajcadiaaGreatDoor.R
open Go.RowKit Go.PlainAid Go.Lib

end Go.Proofs.YtlbkbjeajcadiaaGreatDoor.R

/- The reference's Quote. -/
namespace Go.Proofs.YtlbkbjeajcadiaaGreatDoor.R
open Go.RowKit Go.PlainAid Go.Lib

end Go.Proofs.YtlbkbjeajcadiaaGreatDoor.R

/- The reference's Do. -/
namespace Go.Proofs.YtlbkbjeajcadiaaGreatDoor.P
open Go.RowKit Go.Proofs.YtlbkbjeajcadiaaGreatDoor.R Go.Proofs.YtlbkbjeajcadiaaGreatDoor.M Go.BigFrame
set_option linter.unusedVariables false
set_option linter.unusedSimpArgs false

abbrev repV (r : Rep) : Value := .agg #[.int .i64 r.code, .string r.val, .int .i64 r.rev]
theorem set3 {w : World} {b : Nat} {v0 v1 v2 u0 u1 u2 : Value} {T : TypeId} (h : w.heap[b]? = some (.cells #[v0, v1, v2] T (0, 0))) :
    (((w.setCell ⟨b, 0, none⟩ u0).setCell ⟨b, 1, none⟩ u1).setCell ⟨b, 2, none⟩ u2).heap[b]? = some (.cells #[u0, u1, u2] T (0, 0)) := by
  have s0 := heap_set w b 0 u0 b _ _ _ h
  rw [if_pos rfl] at s0
  have s1 := heap_set _ b 1 u1 b _ _ _ s0
  rw [if_pos rfl] at s1
  have s2 := heap_set _ b 2 u2 b _ _ _ s1
  rw [if_pos rfl] at s2
  exact s2
theorem far3 {W : World} {r B o : Nat} {u0 u1 u2 : Value} (h : B ≠ r) : (((W.setCell ⟨r, 0, none⟩ u0).setCell ⟨r, 1, none⟩ u1).setCell ⟨r, 2, none⟩ u2).cell? ⟨B, o, none⟩ = W.cell? ⟨B, o, none⟩ := by
  have e := fun (X : World) (j : Nat) (v : Value) => World.cell?_of_block (w := X) (w' := X.setCell ⟨r, j, none⟩ v) (a := ⟨B, o, none⟩) (Below.heap_setCell X ⟨r, j, none⟩ v B h)
  exact (e _ _ _).trans ((e _ _ _).trans (e _ _ _))
theorem SetsV.far {W : World} {r : Nat} {oo : Option Addr} {oc : Nat} {A : List Ent} {u0 u1 u2 : Value} (h : SetsV W oo oc A) (hn : ∀ a, oo = some a → r < a.block) :
    SetsV (((W.setCell ⟨r, 0, none⟩ u0).setCell ⟨r, 1, none⟩ u1).setCell ⟨r, 2, none⟩ u2) oo oc A :=
  ⟨h.le, fun i e hi => by
    obtain ⟨b, off, e1, hl, c0, c1, c2⟩ := h.row i e hi
    have hb : b ≠ r := by have := hn _ e1; simp only at this; omega
    exact ⟨b, off, e1, by simpa [World.setCell] using hl, (far3 hb).trans c0, (far3 hb).trans c1, (far3 hb).trans c2⟩⟩
/-- what Do leaves -/
def DoPost (A : List Ent) (c : Cmd) (w : World) (e : Ending) (w' : World) : Prop :=
  ∃ oo oc, e = .returned (.tuple #[.slice oo (act A c).1.length oc, repV (act A c).2]) ∧ SetsV w' oo oc (act A c).1 ∧ Below w.heap.size w w'
theorem DoPost.mk {A B : List Ent} {c : Cmd} {w W : World} {R : Rep} {oo : Option Addr} {oc : Nat} (hv : act A c = (B, R)) (hs : SetsV W oo oc B) (hb : Below w.heap.size w W) :
    DoPost A c w (.returned (.tuple #[.slice oo B.length oc, repV R])) W := ⟨oo, oc, by rw [hv], by rw [hv]; exact hs, hb⟩
end Go.Proofs.YtlbkbjeajcadiaaGreatDoor.P

/- The program's settings: New, none, get, put. -/
namespace Go.Proofs.YtlbkbjeajcadiaaGreatDoor.P
open Go.RowKit Go.Proofs.YtlbkbjeajcadiaaGreatDoor.R Go.Proofs.YtlbkbjeajcadiaaGreatDoor.M Go.BigFrame
set_option linter.unusedVariables false
set_option linter.unusedSimpArgs false

def getO : Option Ent → Rep
  | none => ⟨8, nul, 0⟩
  | some e => ⟨0, e.val, e.rev⟩
def getR (A : List Ent) (k : ByteArray) : Rep := getO (look A k)
end Go.Proofs.YtlbkbjeajcadiaaGreatDoor.P

/- The program's settings: put, remove, cas. -/
namespace Go.Proofs.YtlbkbjeajcadiaaGreatDoor.P
open Go.RowKit Go.Proofs.YtlbkbjeajcadiaaGreatDoor.R Go.Proofs.YtlbkbjeajcadiaaGreatDoor.M Go.BigFrame Go.Maps
set_option linter.unusedVariables false
set_option linter.unusedSimpArgs false

end Go.Proofs.YtlbkbjeajcadiaaGreatDoor.P

/- The program's settings: Keys, Copy. -/
namespace Go.Proofs.YtlbkbjeajcadiaaGreatDoor.P
open Go.RowKit Go.Proofs.YtlbkbjeajcadiaaGreatDoor.R Go.Proofs.YtlbkbjeajcadiaaGreatDoor.M Go.BigFrame Go.Maps
set_option linter.unusedVariables false
set_option linter.unusedSimpArgs false

def strV (k : List UInt8) : Value := .string ⟨k.toArray⟩
/-- a slice that holds texts, in blocks not below B -/
structure StrsV (B : Nat) (w : World) (ao : Option Addr) (cap : Nat) (K : List (List UInt8)) : Prop where
  le : K.length ≤ cap ∧ cap ≤ maxLen
  row : ∀ i k, K[i]? = some k → ∃ b, ao = some ⟨b, 0, none⟩ ∧ B ≤ b ∧ b < w.heap.size ∧ w.cell? ⟨b, i, none⟩ = some (strV k)
theorem StrsV.below {B : Nat} {w w1 : World} {ao : Option Addr} {cap : Nat} {K : List (List UInt8)} (h : StrsV B w ao cap K) (hb : Below w.heap.size w w1) : StrsV B w1 ao cap K :=
  ⟨h.le, fun i e hi => by
    obtain ⟨b, e1, hB, hl, c0⟩ := h.row i e hi
    exact ⟨b, e1, hB, Nat.lt_of_lt_of_le hl hb.size, (hb.cell (p := ⟨b, _, none⟩) hl).trans c0⟩⟩
theorem StrsV.of_own {B : Nat} {w : World} {v : Value} {K : List (List UInt8)} (h : w.ownsRow B tStr 1 v K.length (K.map strV)) : ∃ ao cap, v = .slice ao K.length cap ∧ StrsV B w ao cap K := by
  obtain ⟨ao, cap, rfl, h1, h2, h3, h4⟩ := M.own_view h
  refine ⟨ao, cap, rfl, ⟨h1, h2⟩, fun i k hi => ?_⟩
  have hil := (List.getElem?_eq_some_iff.1 hi).1
  cases ao with
  | none => have := (h3 rfl).1; omega
  | some a =>
    obtain ⟨g, cur, rfl, hB, hg, hsz, htk⟩ := h4 a rfl
    refine ⟨g, rfl, hB, M.heap_lt hg, ?_⟩
    rw [cell_of_row w g i _ _ _ hg, ← Array.getElem?_toList]
    have hv : (K.map strV)[i]? = some (strV k) := by rw [List.getElem?_map, hi]; rfl
    rw [← htk, List.getElem?_take_of_lt (by omega)] at hv
    exact hv
end Go.Proofs.YtlbkbjeajcadiaaGreatDoor.P

/- Regions that draw their order: one pure operation first (a copy that only the tail needs), then a quiet head, then a tail in one forced order. -/
namespace Go.Proofs.YtlbkbjeajcadiaaGreatDoor.M
open Go.RowKit
set_option linter.unusedVariables false
section
variable {P : Program} {ops : Array Oper} {md : Region.Mode} {C : World → Prop}
/-- each of the head from m on is waited for by a later one up to n -/
def sinkFromB (md : Region.Mode) (ops : Array Oper) (m n : Nat) : Bool :=
  (List.range n).all fun i => decide (i < m) || (List.range (n + 1)).any fun j => decide (i < j) && Region.waitsFor md ops j i
/-- the first operation is free and pure; those of 1 to n are a head, the others a tail in their one order -/
def lexTail1B (md : Region.Mode) (ops : Array Oper) (n : Nat) : Bool :=
  Region.noSelect ops && decide (n < ops.size) && decide (1 ≤ n) && sinkFromB md ops 1 n && Region.chainB md ops n && (Region.ready md ops (Array.replicate ops.size false)).contains 0 && Region.free md ops (Array.replicate ops.size false) 0 &&
    Region.lexHead md ops (ops.size - n) (n - 1) 1 ((Array.replicate ops.size false).setIfInBounds 0 true)
end
end Go.Proofs.YtlbkbjeajcadiaaGreatDoor.M

/- The program's settings: find. -/
namespace Go.Proofs.YtlbkbjeajcadiaaGreatDoor.P
open Go.RowKit Go.Proofs.YtlbkbjeajcadiaaGreatDoor.R Go.Proofs.YtlbkbjeajcadiaaGreatDoor.M Go.BigFrame Go.Maps
set_option linter.unusedVariables false
set_option linter.unusedSimpArgs false

/-- the tables, that of Itoa among them -/
structure TabsI (w : World) : Prop where
  t : Tabs w
  p : Lib.TabIs Tryz.prog w "internal/strconv.uint64pow10" .u64 Lib.pow10Tab
/-- lines that come out, while they do -/
structure LS (W w : World) (oo : Option Addr) (oc : Nat) (L : List ByteArray) : Prop where
  bel : Below W.heap.size W w
  own : w.ownsRow W.heap.size tStr 1 (.slice oo L.length oc) L.length (L.map Value.string)
theorem LS.below {W w w2 : World} {oo : Option Addr} {oc : Nat} {L : List ByteArray} (h : LS W w oo oc L) (hb : Below w.heap.size w w2) : LS W w2 oo oc L :=
  ⟨h.bel.trans (hb.mono h.bel.size), own_kept h.own (S := fun _ => False) (Mods.of_below hb) (fun _ _ h => h)⟩
theorem LS.more {W w w2 : World} {oo : Option Addr} {oc gg cg : Nat} {L : List ByteArray} {y : ByteArray} {bx : Obj} (h : LS W w oo oc L)
    (ho : w2.ownsRow W.heap.size tStr 1 (.slice (some ⟨gg, 0, none⟩) (L.length + 1) cg) (L.length + 1) (L.map Value.string ++ [.string y]))
    (hg : (w.alloc bx).grownBy w2 (Value.slice oo L.length oc).ownBlock) : LS W w2 (some ⟨gg, 0, none⟩) cg (L ++ [y]) := by
  have hM : Mods (fun k => ∃ a, oo = some a ∧ k = a.block) w w2 := ((Mods.refl _ w).alloc bx).grown hg (fun k hk _ => by
    cases oo with
    | none => cases hk
    | some a => exact ⟨a, rfl, (Option.some.inj hk).symm⟩)
  refine ⟨h.bel.trans (hM.below (fun k ⟨a, ha, e⟩ => ?_) h.bel.size), by rw [List.length_append, List.map_append]; exact ho⟩
  obtain ⟨_, _, hb⟩ := own_heap h.own a ha
  omega
end Go.Proofs.YtlbkbjeajcadiaaGreatDoor.P

/- The program's settings: Do. -/
namespace Go.Proofs.YtlbkbjeajcadiaaGreatDoor.P
open Go.RowKit Go.Proofs.YtlbkbjeajcadiaaGreatDoor.R Go.Proofs.YtlbkbjeajcadiaaGreatDoor.M Go.BigFrame Go.Maps
set_option linter.unusedVariables false
set_option linter.unusedSimpArgs false

theorem box7 {w : World} {b : Nat} {v0 v1 v2 v3 v4 v5 v6 : Value} {T : TypeId} (h : w.heap[b]? = some (.cells #[v0, v1, v2, v3, v4, v5, v6] T (0, 0))) :
    w.cell? ⟨b, 0, none⟩ = some v0 ∧ w.cell? ⟨b, 1, none⟩ = some v1 ∧ w.cell? ⟨b, 2, none⟩ = some v2 ∧ w.cell? ⟨b, 3, none⟩ = some v3 ∧ w.cell? ⟨b, 4, none⟩ = some v4 ∧ w.cell? ⟨b, 5, none⟩ = some v5 ∧ w.cell? ⟨b, 6, none⟩ = some v6 :=
  ⟨cell_of_row w b 0 _ _ _ h, cell_of_row w b 1 _ _ _ h, cell_of_row w b 2 _ _ _ h, cell_of_row w b 3 _ _ _ h, cell_of_row w b 4 _ _ _ h, cell_of_row w b 5 _ _ _ h, cell_of_row w b 6 _ _ _ h⟩
end Go.Proofs.YtlbkbjeajcadiaaGreatDoor.P
