/- Several texts in one. -/
import Derived.Test.YtlbkbjeajcadiaaGreatDoorAppC
import Derived.Test.YtlbkbjeajcadiaaGreatDoorMem
import Derived.Test.YtlbkbjeajcadiaaGreatDoorCom
import Derived.Test.YtlbkbjeajcadiaaGreatDoorMrg8
import Derived.Test.YtlbkbjeajcadiaaGreatDoorMrg1

/- Commands that came in, opened. -/
namespace Go.Proofs.YtlbkbjeajcadiaaGreatDoor.P
open Go.RowKit Go.Proofs.YtlbkbjeajcadiaaGreatDoor.M Go.WideShapes Go.ChangeShapes
set_option linter.unusedVariables false

def InI (n : Int) : Prop := -9223372036854775808 ≤ n ∧ n ≤ 9223372036854775807
structure CmdOk (c : Cmd) : Prop where
  kind : InI c.kind
  client : InI c.client
  seq : InI c.seq
  rev : InI c.rev
  key : c.key.size ≤ maxLen
  val : c.val.size ≤ maxLen
/-- a command in memory -/
structure CmdAt (w : World) (b o : Nat) (c : Cmd) : Prop where
  c0 : w.cell? ⟨b, o, none⟩ = some (.int .i64 c.kind)
  c1 : w.cell? ⟨b, o + 1, none⟩ = some (.int .i64 c.client)
  c2 : w.cell? ⟨b, o + 2, none⟩ = some (.int .i64 c.seq)
  c3 : w.cell? ⟨b, o + 3, none⟩ = some (.string c.key)
  c4 : w.cell? ⟨b, o + 4, none⟩ = some (.string c.val)
  c5 : w.cell? ⟨b, o + 5, none⟩ = some (.int .i64 c.rev)
theorem CmdAt.below {w w1 : World} {b o : Nat} {c : Cmd} (h : CmdAt w b o c) (hb : Below w.heap.size w w1) (hl : b < w.heap.size) : CmdAt w1 b o c :=
  ⟨(hb.cell (p := ⟨b, _, none⟩) hl).trans h.c0, (hb.cell (p := ⟨b, _, none⟩) hl).trans h.c1, (hb.cell (p := ⟨b, _, none⟩) hl).trans h.c2, (hb.cell (p := ⟨b, _, none⟩) hl).trans h.c3, (hb.cell (p := ⟨b, _, none⟩) hl).trans h.c4, (hb.cell (p := ⟨b, _, none⟩) hl).trans h.c5⟩
/-- a slice that holds commands, in blocks below B -/
structure CmdsV (B : Nat) (w : World) (ao : Option Addr) (cap : Nat) (L : List Cmd) : Prop where
  le : L.length ≤ cap ∧ cap ≤ maxLen
  row : ∀ i c, L[i]? = some c → ∃ b off, ao = some ⟨b, off, none⟩ ∧ b < B ∧ CmdAt w b (off + i * 6) c
  ok : ∀ c ∈ L, CmdOk c
theorem CmdsV.below {B : Nat} {w w1 : World} {ao : Option Addr} {cap : Nat} {L : List Cmd} (h : CmdsV B w ao cap L) (hb : Below B w w1) : CmdsV B w1 ao cap L :=
  ⟨h.le, fun i c hi => by
    obtain ⟨b, off, e1, hl, hc⟩ := h.row i c hi
    exact ⟨b, off, e1, hl, ⟨(hb.cell (p := ⟨b, _, none⟩) hl).trans hc.c0, (hb.cell (p := ⟨b, _, none⟩) hl).trans hc.c1, (hb.cell (p := ⟨b, _, none⟩) hl).trans hc.c2, (hb.cell (p := ⟨b, _, none⟩) hl).trans hc.c3, (hb.cell (p := ⟨b, _, none⟩) hl).trans hc.c4, (hb.cell (p := ⟨b, _, none⟩) hl).trans hc.c5⟩⟩, h.ok⟩
theorem wf_in {n : Int} (h : (Lit.int .i64 n).wf = true) : InI n := by
  simp only [Lit.wf, Bool.and_eq_true, decide_eq_true_eq] at h
  exact h
set_option maxRecDepth 100000 in
theorem cmd_view {H : Type} {enc : TypeId × Value → H} {w : World} {n : Nat} {cs : List Value} {x : DataW H × List MemPlace} (h : DataW.trod enc Tryz.prog w 0 (fun _ => true) true n 24 cs = some x)
    (hlt : ∀ y ∈ x.2, y.block < w.heap.size) : ∃ c : Cmd, cs = [.int .i64 c.kind, .int .i64 c.client, .int .i64 c.seq, .string c.key, .string c.val, .int .i64 c.rev] ∧ CmdOk c := by
  obtain ⟨xs, m, hl, hx, _, hf⟩ := C.field_view Tryz.underlying24 h hlt
  have hl2 : cs.length = 6 := hl.trans (by kernel_rfl)
  match cs, hl2 with
  | [c0, c1, c2, c3, c4, c5], _ =>
    obtain ⟨y0, _, t0, _⟩ := hf 0 _ rfl
    obtain ⟨y1, _, t1, _⟩ := hf 1 _ rfl
    obtain ⟨y2, _, t2, _⟩ := hf 2 _ rfl
    obtain ⟨y3, _, t3, _⟩ := hf 3 _ rfl
    obtain ⟨y4, _, t4, _⟩ := hf 4 _ rfl
    obtain ⟨y5, _, t5, _⟩ := hf 5 _ rfl
    have t0' : DataW.trod enc Tryz.prog w 0 (fun _ => true) true m 3 [c0] = some y0 := t0
    have t1' : DataW.trod enc Tryz.prog w 0 (fun _ => true) true m 3 [c1] = some y1 := t1
    have t2' : DataW.trod enc Tryz.prog w 0 (fun _ => true) true m 3 [c2] = some y2 := t2
    have t3' : DataW.trod enc Tryz.prog w 0 (fun _ => true) true m 9 [c3] = some y3 := t3
    have t4' : DataW.trod enc Tryz.prog w 0 (fun _ => true) true m 9 [c4] = some y4 := t4
    have t5' : DataW.trod enc Tryz.prog w 0 (fun _ => true) true m 3 [c5] = some y5 := t5
    obtain ⟨v0, e0, _, w0⟩ := DataW.trod_int Tryz.underlying3 t0'
    obtain ⟨v1, e1, _, w1⟩ := DataW.trod_int Tryz.underlying3 t1'
    obtain ⟨v2, e2, _, w2⟩ := DataW.trod_int Tryz.underlying3 t2'
    obtain ⟨v3, e3, _, w3⟩ := DataW.trod_string Tryz.underlying9 t3'
    obtain ⟨v4, e4, _, w4⟩ := DataW.trod_string Tryz.underlying9 t4'
    obtain ⟨v5, e5, _, w5⟩ := DataW.trod_int Tryz.underlying3 t5'
    simp only [List.cons.injEq, and_true] at e0 e1 e2 e3 e4 e5
    subst e0 e1 e2 e3 e4 e5
    exact ⟨⟨v0, v1, v2, v3, v4, v5⟩, rfl, wf_in w0, wf_in w1, wf_in w2, wf_in w5, w3, w4⟩
set_option maxRecDepth 100000 in
/-- one command, by value -/
theorem cmd_arg {H : Type} {enc : TypeId × Value → H} {w : World} {v : Value} {d : DataW H} {p : List MemPlace} {r : Reach} {base : Nat} (h : DataW.Trod enc Tryz.prog w 0 (fun _ => true) true 24 v d p)
    (hv : Value.okWide Tryz.prog w r base 24 v) (hlt : ∀ y ∈ p, y.block < w.heap.size) : ∃ c : Cmd, v = cmdV c ∧ CmdOk c := by
  obtain ⟨cs, rfl, _⟩ := okWide_struct Tryz.underlying24 hv
  obtain ⟨fuel, hf⟩ := h
  obtain ⟨c, hc, hok⟩ := cmd_view hf hlt
  have hc : cs.toList = _ := hc
  refine ⟨c, ?_, hok⟩
  have : cs = #[.int .i64 c.kind, .int .i64 c.client, .int .i64 c.seq, .string c.key, .string c.val, .int .i64 c.rev] := Array.toList_inj.1 hc
  rw [this]
end Go.Proofs.YtlbkbjeajcadiaaGreatDoor.P

/- Ids and records in memory. -/
namespace Go.Proofs.YtlbkbjeajcadiaaGreatDoor.O
open Go.RowKit Go.Proofs.YtlbkbjeajcadiaaGreatDoor.M Go.WideShapes Go.ChangeShapes
set_option linter.unusedVariables false
set_option linter.unusedSimpArgs false

abbrev idV (i : Id) : Value := .agg #[.int .i64 i.r, .int .i64 i.n]
abbrev idC (i : Id) : List Value := [.int .i64 i.r, .int .i64 i.n]
def cellsI (l : List Id) : List Value := l.flatMap idC
theorem cellsI_len (l : List Id) : (cellsI l).length = l.length * 2 := by
  induction l with
  | nil => rfl
  | cons a t ih => unfold cellsI at *; rw [List.flatMap_cons, List.length_append, ih, List.length_cons]; simp; omega
theorem cellsI_app (l m : List Id) : cellsI (l ++ m) = cellsI l ++ cellsI m := by simp [cellsI]
theorem cellsI_get : ∀ (l : List Id) (i : Nat) (x : Id), l[i]? = some x → (cellsI l)[i * 2]? = some (.int .i64 x.r) ∧ (cellsI l)[i * 2 + 1]? = some (.int .i64 x.n)
  | [], i, x, h => by simp at h
  | a :: t, 0, x, h => by cases h; exact ⟨rfl, rfl⟩
  | a :: t, i + 1, x, h => by
    have ih := cellsI_get t i x (by simpa using h)
    have hc : cellsI (a :: t) = idC a ++ cellsI t := by simp [cellsI]
    have hs : ∀ j, (cellsI (a :: t))[(i + 1) * 2 + j]? = (cellsI t)[i * 2 + j]? := fun j => by
      rw [hc, List.getElem?_append_right (by simp; omega)]
      congr 1
      simp
      omega
    exact ⟨(hs 0).trans ih.1, (hs 1).trans ih.2⟩
def IdI (i : Id) : Prop := P.InI i.r ∧ P.InI i.n
/-- a slice that holds ids -/
structure IdsV (w : World) (ao : Option Addr) (cap : Nat) (l : List Id) : Prop where
  le : l.length ≤ cap ∧ cap ≤ maxLen
  nz : ao = none → cap = 0
  row : ∀ i x, l[i]? = some x → ∃ b off, ao = some ⟨b, off, none⟩ ∧ b < w.heap.size ∧ w.cell? ⟨b, off + i * 2, none⟩ = some (.int .i64 x.r) ∧ w.cell? ⟨b, off + i * 2 + 1, none⟩ = some (.int .i64 x.n)
  ok : ∀ x ∈ l, IdI x
theorem IdsV.keep {w w1 : World} {S : Nat → Prop} {ao : Option Addr} {cap : Nat} {l : List Id} (h : IdsV w ao cap l) (hm : Mods S w w1) (hn : ∀ a, ao = some a → l ≠ [] → ¬ S a.block) : IdsV w1 ao cap l :=
  ⟨h.le, h.nz, fun i x hi => by
    obtain ⟨b, off, e1, hl, c0, c1⟩ := h.row i x hi
    have hS : ¬ S b := hn _ e1 (by intro e; rw [e] at hi; simp at hi)
    exact ⟨b, off, e1, Nat.lt_of_lt_of_le hl hm.size, (hm.cell (p := ⟨b, _, none⟩) hl hS).trans c0, (hm.cell (p := ⟨b, _, none⟩) hl hS).trans c1⟩, h.ok⟩
theorem IdsV.below {B : Nat} {w w1 : World} {ao : Option Addr} {cap : Nat} {l : List Id} (h : IdsV w ao cap l) (hb : Below w.heap.size w w1) : IdsV w1 ao cap l :=
  ⟨h.le, h.nz, fun i x hi => by
    obtain ⟨b, off, e1, hl, c0, c1⟩ := h.row i x hi
    exact ⟨b, off, e1, Nat.lt_of_lt_of_le hl hb.size, (hb.cell (p := ⟨b, _, none⟩) hl).trans c0, (hb.cell (p := ⟨b, _, none⟩) hl).trans c1⟩, h.ok⟩
theorem IdsV.nil (w : World) : IdsV w none 0 [] := ⟨⟨Nat.le_refl _, Nat.zero_le _⟩, fun _ => rfl, fun i x h => by simp at h, fun x h => by cases h⟩
theorem IdsV.of_own {B : Nat} {w : World} {ao : Option Addr} {cap : Nat} {l : List Id} (h : w.ownsRow B 31 2 (.slice ao l.length cap) l.length (cellsI l)) (hok : ∀ x ∈ l, IdI x) : IdsV w ao cap l := by
  obtain ⟨ao', cap', e, h1, h2, h3, h4⟩ := M.own_view h
  cases e
  refine ⟨⟨h1, h2⟩, fun e => (h3 e).2, fun i x hi => ?_, hok⟩
  have hil := (List.getElem?_eq_some_iff.1 hi).1
  cases ao with
  | none => have := (h3 rfl).1; omega
  | some a =>
    obtain ⟨g, cur, rfl, _, hg, hsz, htk⟩ := h4 a rfl
    obtain ⟨c0, c1⟩ := cellsI_get l i x hi
    have hcell : ∀ j v, j < l.length * 2 → (cellsI l)[j]? = some v → w.cell? ⟨g, 0 + j, none⟩ = some v := fun j v hj hv => by
      rw [cell_of_row w g (0 + j) _ _ _ hg, Nat.zero_add, ← Array.getElem?_toList]
      rw [← htk, List.getElem?_take_of_lt hj] at hv
      exact hv
    exact ⟨g, 0, rfl, M.heap_lt hg, hcell _ _ (by omega) c0, by rw [Nat.add_assoc]; exact hcell _ _ (by omega) c1⟩
/-- a ballot -/
structure Bal where
  round : Int
  by_ : Int
theorem Bal.eq_of {a b : Bal} (h1 : a.round = b.round) (h2 : a.by_ = b.by_) : a = b := by cases a; cases b; cases h1; cases h2; rfl
instance : DecidableEq Bal := fun a b => if h : a.round = b.round ∧ a.by_ = b.by_ then isTrue (Bal.eq_of h.1 h.2) else isFalse (fun e => h (by rw [e]; exact ⟨rfl, rfl⟩))
/-- a record, as it is handed on: with the header of what it hangs on -/
structure Rv where
  id : Id
  st : Int
  bal : Bal
  took : Bal
  cmd : P.Cmd
  deps : List Id
  seq : Int
  tag : Int
  ao : Option Addr
  cap : Nat
instance : Inhabited Rv := ⟨⟨⟨0, 0⟩, 0, ⟨0, 0⟩, ⟨0, 0⟩, ⟨0, 0, 0, P.nul, P.nul, 0⟩, [], 0, 0, none, 0⟩⟩
abbrev attrC (x : Rv) : List Value := [.slice x.ao x.deps.length x.cap, .int .i64 x.seq, .int .i64 x.tag]
abbrev recA (x : Rv) : Array Value := #[.int .i64 x.id.r, .int .i64 x.id.n, .int .i64 x.st, .int .i64 x.bal.round, .int .i64 x.bal.by_, .int .i64 x.took.round, .int .i64 x.took.by_,
  .int .i64 x.cmd.kind, .int .i64 x.cmd.client, .int .i64 x.cmd.seq, .string x.cmd.key, .string x.cmd.val, .int .i64 x.cmd.rev, .slice x.ao x.deps.length x.cap, .int .i64 x.seq, .int .i64 x.tag]
abbrev recV (x : Rv) : Value := .agg (recA x)
abbrev recC (x : Rv) : List Value := (recA x).toList
def Rv.nd (x : Rv) : Nd := ⟨x.id, x.deps, x.seq, x.tag⟩
/-- what a record hangs on lies in memory -/
structure RvOk (w : World) (x : Rv) : Prop where
  cmd : P.CmdOk x.cmd
  deps : IdsV w x.ao x.cap x.deps
  id : IdI x.id
theorem RvOk.below {w w1 : World} {x : Rv} (h : RvOk w x) (hb : Below w.heap.size w w1) : RvOk w1 x := ⟨h.cmd, h.deps.below (B := 0) hb, h.id⟩
/-- a record's cells -/
structure RecAt (w : World) (b o : Nat) (x : Rv) : Prop where
  c0 : w.cell? ⟨b, o, none⟩ = some (.int .i64 x.id.r)
  c1 : w.cell? ⟨b, o + 1, none⟩ = some (.int .i64 x.id.n)
  c2 : w.cell? ⟨b, o + 2, none⟩ = some (.int .i64 x.st)
  c3 : w.cell? ⟨b, o + 3, none⟩ = some (.int .i64 x.bal.round)
  c4 : w.cell? ⟨b, o + 4, none⟩ = some (.int .i64 x.bal.by_)
  c5 : w.cell? ⟨b, o + 5, none⟩ = some (.int .i64 x.took.round)
  c6 : w.cell? ⟨b, o + 6, none⟩ = some (.int .i64 x.took.by_)
  c7 : w.cell? ⟨b, o + 7, none⟩ = some (.int .i64 x.cmd.kind)
  c8 : w.cell? ⟨b, o + 8, none⟩ = some (.int .i64 x.cmd.client)
  c9 : w.cell? ⟨b, o + 9, none⟩ = some (.int .i64 x.cmd.seq)
  c10 : w.cell? ⟨b, o + 10, none⟩ = some (.string x.cmd.key)
  c11 : w.cell? ⟨b, o + 11, none⟩ = some (.string x.cmd.val)
  c12 : w.cell? ⟨b, o + 12, none⟩ = some (.int .i64 x.cmd.rev)
  c13 : w.cell? ⟨b, o + 13, none⟩ = some (.slice x.ao x.deps.length x.cap)
  c14 : w.cell? ⟨b, o + 14, none⟩ = some (.int .i64 x.seq)
  c15 : w.cell? ⟨b, o + 15, none⟩ = some (.int .i64 x.tag)
theorem RecAt.of {w : World} {b o : Nat} {x : Rv} (h : ∀ j, j < 16 → w.cell? ⟨b, o + j, none⟩ = (recC x)[j]?) : RecAt w b o x :=
  ⟨h 0 (by decide), h 1 (by decide), h 2 (by decide), h 3 (by decide), h 4 (by decide), h 5 (by decide), h 6 (by decide), h 7 (by decide), h 8 (by decide), h 9 (by decide), h 10 (by decide), h 11 (by decide), h 12 (by decide), h 13 (by decide), h 14 (by decide), h 15 (by decide)⟩
theorem RecAt.get {w : World} {b o : Nat} {x : Rv} (h : RecAt w b o x) : ∀ j, j < 16 → w.cell? ⟨b, o + j, none⟩ = (recC x)[j]? := by
  intro j hj
  rcases (by omega : j = 0 ∨ j = 1 ∨ j = 2 ∨ j = 3 ∨ j = 4 ∨ j = 5 ∨ j = 6 ∨ j = 7 ∨ j = 8 ∨ j = 9 ∨ j = 10 ∨ j = 11 ∨ j = 12 ∨ j = 13 ∨ j = 14 ∨ j = 15) with rfl | rfl | rfl | rfl | rfl | rfl | rfl | rfl | rfl | rfl | rfl | rfl | rfl | rfl | rfl | rfl
  · exact h.c0
  · exact h.c1
  · exact h.c2
  · exact h.c3
  · exact h.c4
  · exact h.c5
  · exact h.c6
  · exact h.c7
  · exact h.c8
  · exact h.c9
  · exact h.c10
  · exact h.c11
  · exact h.c12
  · exact h.c13
  · exact h.c14
  · exact h.c15
theorem RecAt.keep {w w1 : World} {S : Nat → Prop} {b o : Nat} {x : Rv} (h : RecAt w b o x) (hm : Mods S w w1) (hl : b < w.heap.size) (hn : ¬ S b) : RecAt w1 b o x :=
  .of fun j hj => (hm.cell (p := ⟨b, _, none⟩) hl hn).trans (h.get j hj)
theorem RecAt.below {w w1 : World} {b o : Nat} {x : Rv} (h : RecAt w b o x) (hb : Below w.heap.size w w1) (hl : b < w.heap.size) : RecAt w1 b o x :=
  .of fun j hj => (hb.cell (p := ⟨b, _, none⟩) hl).trans (h.get j hj)
def cellsR (X : List Rv) : List Value := X.flatMap recC
theorem cellsR_len (X : List Rv) : (cellsR X).length = X.length * 16 := by
  induction X with
  | nil => rfl
  | cons a t ih => unfold cellsR at *; rw [List.flatMap_cons, List.length_append, ih, List.length_cons]; simp; omega
theorem cellsR_app (X Y : List Rv) : cellsR (X ++ Y) = cellsR X ++ cellsR Y := by simp [cellsR]
theorem cellsR_get : ∀ (X : List Rv) (i : Nat) (x : Rv), X[i]? = some x → ∀ j, j < 16 → (cellsR X)[i * 16 + j]? = (recC x)[j]?
  | [], i, x, h, j, hj => by simp at h
  | a :: t, 0, x, h, j, hj => by
    cases h
    have hc : cellsR (a :: t) = recC a ++ cellsR t := by simp [cellsR]
    rw [hc, Nat.zero_mul, Nat.zero_add, List.getElem?_append_left (by simpa using hj)]
  | a :: t, i + 1, x, h, j, hj => by
    have ih := cellsR_get t i x (by simpa using h) j hj
    have hc : cellsR (a :: t) = recC a ++ cellsR t := by simp [cellsR]
    rw [hc, List.getElem?_append_right (by simp; omega), ← ih]
    congr 1
    simp
    omega
/-- a slice that holds records -/
structure RecsV (w : World) (ao : Option Addr) (cap : Nat) (X : List Rv) : Prop where
  le : X.length ≤ cap ∧ cap ≤ maxLen
  nz : ao = none → cap = 0
  row : ∀ i x, X[i]? = some x → ∃ b off, ao = some ⟨b, off, none⟩ ∧ b < w.heap.size ∧ RecAt w b (off + i * 16) x
  ok : ∀ x ∈ X, RvOk w x
theorem RecsV.below {w w1 : World} {ao : Option Addr} {cap : Nat} {X : List Rv} (h : RecsV w ao cap X) (hb : Below w.heap.size w w1) : RecsV w1 ao cap X :=
  ⟨h.le, h.nz, fun i x hi => by
    obtain ⟨b, off, e1, hl, hc⟩ := h.row i x hi
    exact ⟨b, off, e1, Nat.lt_of_lt_of_le hl hb.size, hc.below hb hl⟩, fun x hx => (h.ok x hx).below hb⟩
theorem RecsV.nil (w : World) : RecsV w none 0 [] := ⟨⟨Nat.le_refl _, Nat.zero_le _⟩, fun _ => rfl, fun i x h => by simp at h, fun x h => by cases h⟩
theorem RecsV.of_own {B : Nat} {w : World} {ao : Option Addr} {cap : Nat} {X : List Rv} (h : w.ownsRow B 40 16 (.slice ao X.length cap) X.length (cellsR X)) (hok : ∀ x ∈ X, RvOk w x) : RecsV w ao cap X := by
  obtain ⟨ao', cap', e, h1, h2, h3, h4⟩ := M.own_view h
  cases e
  refine ⟨⟨h1, h2⟩, fun e => (h3 e).2, fun i x hi => ?_, hok⟩
  have hil := (List.getElem?_eq_some_iff.1 hi).1
  cases ao with
  | none => have := (h3 rfl).1; omega
  | some a =>
    obtain ⟨g, cur, rfl, _, hg, hsz, htk⟩ := h4 a rfl
    refine ⟨g, 0, rfl, M.heap_lt hg, .of fun j hj => ?_⟩
    have hv := cellsR_get X i x hi j hj
    rw [cell_of_row w g _ _ _ _ hg, Nat.zero_add, ← Array.getElem?_toList]
    rw [← htk, List.getElem?_take_of_lt (by omega)] at hv
    exact hv
set_option maxRecDepth 100000 in
theorem id_view {H : Type} {enc : TypeId × Value → H} {w : World} {n : Nat} {cs : List Value} {x : DataW H × List MemPlace} (h : DataW.trod enc Tryz.prog w 0 (fun _ => true) true n 31 cs = some x)
    (hlt : ∀ y ∈ x.2, y.block < w.heap.size) : ∃ i : Id, cs = idC i ∧ IdI i := by
  obtain ⟨xs, m, hl, hx, _, hf⟩ := C.field_view Tryz.underlying31 h hlt
  have hl2 : cs.length = 2 := hl.trans (by kernel_rfl)
  match cs, hl2 with
  | [c0, c1], _ =>
    obtain ⟨y0, _, t0, _⟩ := hf 0 _ rfl
    obtain ⟨y1, _, t1, _⟩ := hf 1 _ rfl
    have t0' : DataW.trod enc Tryz.prog w 0 (fun _ => true) true m 3 [c0] = some y0 := t0
    have t1' : DataW.trod enc Tryz.prog w 0 (fun _ => true) true m 3 [c1] = some y1 := t1
    obtain ⟨v0, e0, _, w0⟩ := DataW.trod_int Tryz.underlying3 t0'
    obtain ⟨v1, e1, _, w1⟩ := DataW.trod_int Tryz.underlying3 t1'
    simp only [List.cons.injEq, and_true] at e0 e1
    subst e0 e1
    exact ⟨⟨v0, v1⟩, rfl, P.wf_in w0, P.wf_in w1⟩
set_option maxRecDepth 100000 in
theorem bal_view {H : Type} {enc : TypeId × Value → H} {w : World} {n : Nat} {cs : List Value} {x : DataW H × List MemPlace} (h : DataW.trod enc Tryz.prog w 0 (fun _ => true) true n 35 cs = some x)
    (hlt : ∀ y ∈ x.2, y.block < w.heap.size) : ∃ i : Bal, cs = [.int .i64 i.round, .int .i64 i.by_] := by
  obtain ⟨xs, m, hl, hx, _, hf⟩ := C.field_view Tryz.underlying35 h hlt
  have hl2 : cs.length = 2 := hl.trans (by kernel_rfl)
  match cs, hl2 with
  | [c0, c1], _ =>
    obtain ⟨y0, _, t0, _⟩ := hf 0 _ rfl
    obtain ⟨y1, _, t1, _⟩ := hf 1 _ rfl
    have t0' : DataW.trod enc Tryz.prog w 0 (fun _ => true) true m 3 [c0] = some y0 := t0
    have t1' : DataW.trod enc Tryz.prog w 0 (fun _ => true) true m 3 [c1] = some y1 := t1
    obtain ⟨v0, e0, _, w0⟩ := DataW.trod_int Tryz.underlying3 t0'
    obtain ⟨v1, e1, _, w1⟩ := DataW.trod_int Tryz.underlying3 t1'
    simp only [List.cons.injEq, and_true] at e0 e1
    subst e0 e1
    exact ⟨⟨v0, v1⟩, rfl⟩
theorem ids_of {H : Type} {enc : TypeId × Value → H} {w : World} {n : Nat} {cs : List Value} {x : DataW H × List MemPlace} (h : DataW.trod enc Tryz.prog w 0 (fun _ => true) true n 36 cs = some x)
    (hlt : ∀ y ∈ x.2, y.block < w.heap.size) : ∃ ao cap l, cs = [.slice ao (l : List Id).length cap] ∧ IdsV w ao cap l := by
  obtain ⟨ao, b, off, len, cap, n, C, D, hcs, hl, hm, hz, h0, _, hC⟩ := C.slice_view2 Tryz.underlying36 (k := 2) (by kernel_rfl) (by decide) h hlt
  have hE : ∀ i, i < len → ∃ c : Id, C i = idC c ∧ IdI c := fun i hi => by
    obtain ⟨_, _, pi, ht, hp⟩ := hC i hi
    exact id_view ht hp
  obtain ⟨Y, hY⟩ := @Go.Deep.choose_lt Id _ _ _ hE
  have hlen : ((List.range len).map Y).length = len := by simp
  refine ⟨ao, cap, (List.range len).map Y, by rw [hlen]; exact hcs, by rw [hlen]; exact ⟨hl, hm⟩, hz, fun i x hx => ?_, fun x hx => ?_⟩
  · have hi : i < len := by have := (List.getElem?_eq_some_iff.1 hx).1; rwa [hlen] at this
    have e : Y i = x := by simpa [hi] using hx
    have hc := (hC i hi).2.1
    rw [(hY i hi).1, e] at hc
    exact ⟨b, off, (h0 (by omega)).1, (h0 (by omega)).2, hc 0 (by decide), hc 1 (by decide)⟩
  · obtain ⟨i, hi, rfl⟩ := List.mem_map.1 hx
    exact (hY i (List.mem_range.1 hi)).2
set_option maxRecDepth 100000 in
theorem attr_view {H : Type} {enc : TypeId × Value → H} {w : World} {n : Nat} {cs : List Value} {x : DataW H × List MemPlace} (h : DataW.trod enc Tryz.prog w 0 (fun _ => true) true n 38 cs = some x)
    (hlt : ∀ y ∈ x.2, y.block < w.heap.size) : ∃ ao cap l sq tg, cs = [.slice ao (l : List Id).length cap, .int .i64 sq, .int .i64 tg] ∧ IdsV w ao cap l := by
  obtain ⟨xs, m, hl, hx, _, hf⟩ := C.field_view Tryz.underlying38 h hlt
  have hl2 : cs.length = 3 := hl.trans (by kernel_rfl)
  match cs, hl2 with
  | [c0, c1, c2], _ =>
    obtain ⟨y0, _, t0, p0⟩ := hf 0 _ rfl
    obtain ⟨y1, _, t1, _⟩ := hf 1 _ rfl
    obtain ⟨y2, _, t2, _⟩ := hf 2 _ rfl
    have t0' : DataW.trod enc Tryz.prog w 0 (fun _ => true) true m 36 [c0] = some y0 := t0
    have t1' : DataW.trod enc Tryz.prog w 0 (fun _ => true) true m 3 [c1] = some y1 := t1
    have t2' : DataW.trod enc Tryz.prog w 0 (fun _ => true) true m 3 [c2] = some y2 := t2
    obtain ⟨ao, cap, l, e0, hi⟩ := ids_of t0' p0
    obtain ⟨v1, e1, _, w1⟩ := DataW.trod_int Tryz.underlying3 t1'
    obtain ⟨v2, e2, _, w2⟩ := DataW.trod_int Tryz.underlying3 t2'
    simp only [List.cons.injEq, and_true] at e0 e1 e2
    subst e0 e1 e2
    exact ⟨ao, cap, l, v1, v2, rfl, hi⟩
set_option maxRecDepth 100000 in
theorem rec_view {H : Type} {enc : TypeId × Value → H} {w : World} {n : Nat} {cs : List Value} {x : DataW H × List MemPlace} (h : DataW.trod enc Tryz.prog w 0 (fun _ => true) true n 40 cs = some x)
    (hlt : ∀ y ∈ x.2, y.block < w.heap.size) : ∃ r : Rv, cs = recC r ∧ RvOk w r := by
  obtain ⟨xs, m, hl, hx, _, hf⟩ := C.field_view Tryz.underlying40 h hlt
  have hl2 : cs.length = 16 := hl.trans (by kernel_rfl)
  match cs, hl2 with
  | [c0, c1, c2, c3, c4, c5, c6, c7, c8, c9, c10, c11, c12, c13, c14, c15], _ =>
    obtain ⟨y0, _, t0, p0⟩ := hf 0 _ rfl
    obtain ⟨y1, _, t1, _⟩ := hf 1 _ rfl
    obtain ⟨y2, _, t2, p2⟩ := hf 2 _ rfl
    obtain ⟨y3, _, t3, p3⟩ := hf 3 _ rfl
    obtain ⟨y4, _, t4, p4⟩ := hf 4 _ rfl
    obtain ⟨y5, _, t5, p5⟩ := hf 5 _ rfl
    have t0' : DataW.trod enc Tryz.prog w 0 (fun _ => true) true m 31 [c0, c1] = some y0 := t0
    have t1' : DataW.trod enc Tryz.prog w 0 (fun _ => true) true m 3 [c2] = some y1 := t1
    have t2' : DataW.trod enc Tryz.prog w 0 (fun _ => true) true m 35 [c3, c4] = some y2 := t2
    have t3' : DataW.trod enc Tryz.prog w 0 (fun _ => true) true m 35 [c5, c6] = some y3 := t3
    have t4' : DataW.trod enc Tryz.prog w 0 (fun _ => true) true m 24 [c7, c8, c9, c10, c11, c12] = some y4 := t4
    have t5' : DataW.trod enc Tryz.prog w 0 (fun _ => true) true m 38 [c13, c14, c15] = some y5 := t5
    obtain ⟨i, e0, hi⟩ := id_view t0' p0
    obtain ⟨v1, e1, _, w1⟩ := DataW.trod_int Tryz.underlying3 t1'
    obtain ⟨b, e2⟩ := bal_view t2' p2
    obtain ⟨k, e3⟩ := bal_view t3' p3
    obtain ⟨c, e4, hc⟩ := P.cmd_view t4' p4
    obtain ⟨ao, cap, l, sq, tg, e5, hd⟩ := attr_view t5' p5
    simp only [List.cons.injEq, and_true] at e0 e1 e2 e3 e4 e5
    obtain ⟨rfl, rfl⟩ := e0
    obtain rfl := e1
    obtain ⟨rfl, rfl⟩ := e2
    obtain ⟨rfl, rfl⟩ := e3
    obtain ⟨rfl, rfl, rfl, rfl, rfl, rfl⟩ := e4
    obtain ⟨rfl, rfl, rfl⟩ := e5
    exact ⟨⟨i, v1, b, k, c, l, sq, tg, ao, cap⟩, rfl, hc, hd, hi⟩
theorem recs_view {H : Type} {enc : TypeId × Value → H} {w : World} {v : Value} {d : DataW H} {p : List MemPlace} (h : DataW.Trod enc Tryz.prog w 0 (fun _ => true) true 22 v d p)
    (hlt : ∀ y ∈ p, y.block < w.heap.size) (hs : ∃ a l c, v = .slice a l c) : ∃ ao cap X, v = .slice ao (X : List Rv).length cap ∧ RecsV w ao cap X := by
  obtain ⟨a, l, c, rfl⟩ := hs
  obtain ⟨fuel, hf⟩ := h
  obtain ⟨ao, b, off, len, cap, n, C, D, hcs, hl, hm, hz, h0, _, hC⟩ := C.slice_view2 Tryz.underlying22 (k := 16) (by kernel_rfl) (by decide) hf hlt
  have hcs' : (Value.slice a l c) = .slice ao len cap := by simpa [Value.cells] using hcs
  have hE : ∀ i, i < len → ∃ c : Rv, C i = recC c ∧ RvOk w c := fun i hi => by
    obtain ⟨_, _, pi, ht, hp⟩ := hC i hi
    exact rec_view ht hp
  obtain ⟨Y, hY⟩ := @Go.Deep.choose_lt Rv _ _ _ hE
  have hlen : ((List.range len).map Y).length = len := by simp
  refine ⟨ao, cap, (List.range len).map Y, by rw [hlen]; exact hcs', by rw [hlen]; exact ⟨hl, hm⟩, hz, fun i x hx => ?_, fun x hx => ?_⟩
  · have hi : i < len := by have := (List.getElem?_eq_some_iff.1 hx).1; rwa [hlen] at this
    have e : Y i = x := by simpa [hi] using hx
    have hc := (hC i hi).2.1
    rw [(hY i hi).1, e] at hc
    exact ⟨b, off, (h0 (by omega)).1, (h0 (by omega)).2, .of hc⟩
  · obtain ⟨i, hi, rfl⟩ := List.mem_map.1 hx
    exact (hY i (List.mem_range.1 hi)).2
set_option maxRecDepth 100000 in
/-- one id, by value -/
theorem id_arg {H : Type} {enc : TypeId × Value → H} {w : World} {v : Value} {d : DataW H} {p : List MemPlace} {r : Reach} {base : Nat} (h : DataW.Trod enc Tryz.prog w 0 (fun _ => true) true 31 v d p)
    (hv : Value.okWide Tryz.prog w r base 31 v) (hlt : ∀ y ∈ p, y.block < w.heap.size) : ∃ i : Id, v = idV i ∧ IdI i := by
  obtain ⟨cs, rfl, _⟩ := okWide_struct Tryz.underlying31 hv
  obtain ⟨fuel, hf⟩ := h
  obtain ⟨c, hc, hok⟩ := id_view hf hlt
  have hc : cs.toList = _ := hc
  refine ⟨c, ?_, hok⟩
  have : cs = #[.int .i64 c.r, .int .i64 c.n] := Array.toList_inj.1 hc
  rw [this]
end Go.Proofs.YtlbkbjeajcadiaaGreatDoor.O
