/- Commands that came in, opened. -/
import Derived.Test.YtlbkbjeajcadiaaGreatDoorAppC
import Derived.Test.YtlbkbjeajcadiaaGreatDoorMrg3
import Derived.Test.YtlbkbjeajcadiaaGreatDoorCom
namespace Go.Proofs.YtlbkbjeajcadiaaGreatDoor.P
open Go.RowKit Go.Proofs.YtlbkbjeajcadiaaGreatDoor.M Go.WideShapes Go.ChangeShapes
set_option linter.unusedVariables false

def InI (n : Int) : Prop := -9223372036854775808 ≤ n ∧ n ≤ 9223372036854775807
structure CmdOk (c : Cmd) : Prop where
  kind : InI c.kind
  client : InI c.client
  seq : InI c.seq
  rev : InI c.rev
  key : c.key.size ≤ maxLen
  val : c.val.size ≤ maxLen
/-- a command in memory -/
structure CmdAt (w : World) (b o : Nat) (c : Cmd) : Prop where
  c0 : w.cell? ⟨b, o, none⟩ = some (.int .i64 c.kind)
  c1 : w.cell? ⟨b, o + 1, none⟩ = some (.int .i64 c.client)
  c2 : w.cell? ⟨b, o + 2, none⟩ = some (.int .i64 c.seq)
  c3 : w.cell? ⟨b, o + 3, none⟩ = some (.string c.key)
  c4 : w.cell? ⟨b, o + 4, none⟩ = some (.string c.val)
  c5 : w.cell? ⟨b, o + 5, none⟩ = some (.int .i64 c.rev)
theorem CmdAt.below {w w1 : World} {b o : Nat} {c : Cmd} (h : CmdAt w b o c) (hb : Below w.heap.size w w1) (hl : b < w.heap.size) : CmdAt w1 b o c :=
  ⟨(hb.cell (p := ⟨b, _, none⟩) hl).trans h.c0, (hb.cell (p := ⟨b, _, none⟩) hl).trans h.c1, (hb.cell (p := ⟨b, _, none⟩) hl).trans h.c2, (hb.cell (p := ⟨b, _, none⟩) hl).trans h.c3, (hb.cell (p := ⟨b, _, none⟩) hl).trans h.c4, (hb.cell (p := ⟨b, _, none⟩) hl).trans h.c5⟩
/-- a slice that holds commands, in blocks below B -/
structure CmdsV (B : Nat) (w : World) (ao : Option Addr) (cap : Nat) (L : List Cmd) : Prop where
  le : L.length ≤ cap ∧ cap ≤ maxLen
  row : ∀ i c, L[i]? = some c → ∃ b off, ao = some ⟨b, off, none⟩ ∧ b < B ∧ CmdAt w b (off + i * 6) c
  ok : ∀ c ∈ L, CmdOk c
theorem CmdsV.below {B : Nat} {w w1 : World} {ao : Option Addr} {cap : Nat} {L : List Cmd} (h : CmdsV B w ao cap L) (hb : Below B w w1) : CmdsV B w1 ao cap L :=
  ⟨h.le, fun i c hi => by
    obtain ⟨b, off, e1, hl, hc⟩ := h.row i c hi
    exact ⟨b, off, e1, hl, ⟨(hb.cell (p := ⟨b, _, none⟩) hl).trans hc.c0, (hb.cell (p := ⟨b, _, none⟩) hl).trans hc.c1, (hb.cell (p := ⟨b, _, none⟩) hl).trans hc.c2, (hb.cell (p := ⟨b, _, none⟩) hl).trans hc.c3, (hb.cell (p := ⟨b, _, none⟩) hl).trans hc.c4, (hb.cell (p := ⟨b, _, none⟩) hl).trans hc.c5⟩⟩, h.ok⟩
theorem wf_in {n : Int} (h : (Lit.int .i64 n).wf = true) : InI n := by
  simp only [Lit.wf, Bool.and_eq_true, decide_eq_true_eq] at h
  exact h
set_option maxRecDepth 100000 in
theorem cmd_view {H : Type} {enc : TypeId × Value → H} {w : World} {n : Nat} {cs : List Value} {x : DataW H × List MemPlace} (h : DataW.trod enc Tryz.prog w 0 (fun _ => true) true n 24 cs = some x)
    (hlt : ∀ y ∈ x.2, y.block < w.heap.size) : ∃ c : Cmd, cs = [.int .i64 c.kind, .int .i64 c.client, .int .i64 c.seq, .string c.key, .string c.val, .int .i64 c.rev] ∧ CmdOk c := by
  obtain ⟨xs, m, hl, hx, _, hf⟩ := C.field_view Tryz.underlying24 h hlt
  have hl2 : cs.length = 6 := hl.trans (by kernel_rfl)
  match cs, hl2 with
  | [c0, c1, c2, c3, c4, c5], _ =>
    obtain ⟨y0, _, t0, _⟩ := hf 0 _ rfl
    obtain ⟨y1, _, t1, _⟩ := hf 1 _ rfl
    obtain ⟨y2, _, t2, _⟩ := hf 2 _ rfl
    obtain ⟨y3, _, t3, _⟩ := hf 3 _ rfl
    obtain ⟨y4, _, t4, _⟩ := hf 4 _ rfl
    obtain ⟨y5, _, t5, _⟩ := hf 5 _ rfl
    have t0' : DataW.trod enc Tryz.prog w 0 (fun _ => true) true m 3 [c0] = some y0 := t0
    have t1' : DataW.trod enc Tryz.prog w 0 (fun _ => true) true m 3 [c1] = some y1 := t1
    have t2' : DataW.trod enc Tryz.prog w 0 (fun _ => true) true m 3 [c2] = some y2 := t2
    have t3' : DataW.trod enc Tryz.prog w 0 (fun _ => true) true m 9 [c3] = some y3 := t3
    have t4' : DataW.trod enc Tryz.prog w 0 (fun _ => true) true m 9 [c4] = some y4 := t4
    have t5' : DataW.trod enc Tryz.prog w 0 (fun _ => true) true m 3 [c5] = some y5 := t5
    obtain ⟨v0, e0, _, w0⟩ := DataW.trod_int Tryz.underlying3 t0'
    obtain ⟨v1, e1, _, w1⟩ := DataW.trod_int Tryz.underlying3 t1'
    obtain ⟨v2, e2, _, w2⟩ := DataW.trod_int Tryz.underlying3 t2'
    obtain ⟨v3, e3, _, w3⟩ := DataW.trod_string Tryz.underlying9 t3'
    obtain ⟨v4, e4, _, w4⟩ := DataW.trod_string Tryz.underlying9 t4'
    obtain ⟨v5, e5, _, w5⟩ := DataW.trod_int Tryz.underlying3 t5'
    simp only [List.cons.injEq, and_true] at e0 e1 e2 e3 e4 e5
    subst e0 e1 e2 e3 e4 e5
    exact ⟨⟨v0, v1, v2, v3, v4, v5⟩, rfl, wf_in w0, wf_in w1, wf_in w2, wf_in w5, w3, w4⟩
end Go.Proofs.YtlbkbjeajcadiaaGreatDoor.P
