/- Several texts in one. -/
import Derived.Test.YtpeiamllkddhiaaGreatDoorAppC
import Derived.Test.YtpeiamllkddhiaaGreatDoorMrg3
import Derived.Test.YtpeiamllkddhiaaGreatDoorCom

/- Commands that came in, opened. -/
namespace Go.Proofs.YtpeiamllkddhiaaGreatDoor.P
open Go.RowKit Go.Proofs.YtpeiamllkddhiaaGreatDoor.M Go.WideShapes Go.ChangeShapes
set_option linter.unusedVariables false

def InI (n : Int) : Prop := -9223372036854775808 ≤ n ∧ n ≤ 9223372036854775807
structure CmdOk (c : Cmd) : Prop where
  kind : InI c.kind
  client : InI c.client
  seq : InI c.seq
  rev : InI c.rev
  key : c.key.size ≤ maxLen
  val : c.val.size ≤ maxLen
/-- a command in memory -/
structure CmdAt (w : World) (b o : Nat) (c : Cmd) : Prop where
  c0 : w.cell? ⟨b, o, none⟩ = some (.int .i64 c.kind)
  c1 : w.cell? ⟨b, o + 1, none⟩ = some (.int .i64 c.client)
  c2 : w.cell? ⟨b, o + 2, none⟩ = some (.int .i64 c.seq)
  c3 : w.cell? ⟨b, o + 3, none⟩ = some (.string c.key)
  c4 : w.cell? ⟨b, o + 4, none⟩ = some (.string c.val)
  c5 : w.cell? ⟨b, o + 5, none⟩ = some (.int .i64 c.rev)
theorem CmdAt.below {w w1 : World} {b o : Nat} {c : Cmd} (h : CmdAt w b o c) (hb : Below w.heap.size w w1) (hl : b < w.heap.size) : CmdAt w1 b o c :=
  ⟨(hb.cell (p := ⟨b, _, none⟩) hl).trans h.c0, (hb.cell (p := ⟨b, _, none⟩) hl).trans h.c1, (hb.cell (p := ⟨b, _, none⟩) hl).trans h.c2, (hb.cell (p := ⟨b, _, none⟩) hl).trans h.c3, (hb.cell (p := ⟨b, _, none⟩) hl).trans h.c4, (hb.cell (p := ⟨b, _, none⟩) hl).trans h.c5⟩
/-- a slice that holds commands, in blocks below B -/
structure CmdsV (B : Nat) (w : World) (ao : Option Addr) (cap : Nat) (L : List Cmd) : Prop where
  le : L.length ≤ cap ∧ cap ≤ maxLen
  row : ∀ i c, L[i]? = some c → ∃ b off, ao = some ⟨b, off, none⟩ ∧ b < B ∧ CmdAt w b (off + i * 6) c
  ok : ∀ c ∈ L, CmdOk c
theorem CmdsV.below {B : Nat} {w w1 : World} {ao : Option Addr} {cap : Nat} {L : List Cmd} (h : CmdsV B w ao cap L) (hb : Below B w w1) : CmdsV B w1 ao cap L :=
  ⟨h.le, fun i c hi => by
    obtain ⟨b, off, e1, hl, hc⟩ := h.row i c hi
    exact ⟨b, off, e1, hl, ⟨(hb.cell (p := ⟨b, _, none⟩) hl).trans hc.c0, (hb.cell (p := ⟨b, _, none⟩) hl).trans hc.c1, (hb.cell (p := ⟨b, _, none⟩) hl).trans hc.c2, (hb.cell (p := ⟨b, _, none⟩) hl).trans hc.c3, (hb.cell (p := ⟨b, _, none⟩) hl).trans hc.c4, (hb.cell (p := ⟨b, _, none⟩) hl).trans hc.c5⟩⟩, h.ok⟩
theorem wf_in {n : Int} (h : (Lit.int .i64 n).wf = true) : InI n := by
  simp only [Lit.wf, Bool.and_eq_true, decide_eq_true_eq] at h
  exact h
set_option maxRecDepth 100000 in
theorem cmd_view {H : Type} {enc : TypeId × Value → H} {w : World} {n : Nat} {cs : List Value} {x : DataW H × List MemPlace} (h : DataW.trod enc Tryz.prog w 0 (fun _ => true) true n 38 cs = some x)
    (hlt : ∀ y ∈ x.2, y.block < w.heap.size) : ∃ c : Cmd, cs = [.int .i64 c.kind, .int .i64 c.client, .int .i64 c.seq, .string c.key, .string c.val, .int .i64 c.rev] ∧ CmdOk c := by
  obtain ⟨xs, m, hl, hx, _, hf⟩ := C.field_view Tryz.underlying38 h hlt
  have hl2 : cs.length = 6 := hl.trans (by kernel_rfl)
  match cs, hl2 with
  | [c0, c1, c2, c3, c4, c5], _ =>
    obtain ⟨y0, _, t0, _⟩ := hf 0 _ rfl
    obtain ⟨y1, _, t1, _⟩ := hf 1 _ rfl
    obtain ⟨y2, _, t2, _⟩ := hf 2 _ rfl
    obtain ⟨y3, _, t3, _⟩ := hf 3 _ rfl
    obtain ⟨y4, _, t4, _⟩ := hf 4 _ rfl
    obtain ⟨y5, _, t5, _⟩ := hf 5 _ rfl
    have t0' : DataW.trod enc Tryz.prog w 0 (fun _ => true) true m 3 [c0] = some y0 := t0
    have t1' : DataW.trod enc Tryz.prog w 0 (fun _ => true) true m 3 [c1] = some y1 := t1
    have t2' : DataW.trod enc Tryz.prog w 0 (fun _ => true) true m 3 [c2] = some y2 := t2
    have t3' : DataW.trod enc Tryz.prog w 0 (fun _ => true) true m 9 [c3] = some y3 := t3
    have t4' : DataW.trod enc Tryz.prog w 0 (fun _ => true) true m 9 [c4] = some y4 := t4
    have t5' : DataW.trod enc Tryz.prog w 0 (fun _ => true) true m 3 [c5] = some y5 := t5
    obtain ⟨v0, e0, _, w0⟩ := DataW.trod_int Tryz.underlying3 t0'
    obtain ⟨v1, e1, _, w1⟩ := DataW.trod_int Tryz.underlying3 t1'
    obtain ⟨v2, e2, _, w2⟩ := DataW.trod_int Tryz.underlying3 t2'
    obtain ⟨v3, e3, _, w3⟩ := DataW.trod_string Tryz.underlying9 t3'
    obtain ⟨v4, e4, _, w4⟩ := DataW.trod_string Tryz.underlying9 t4'
    obtain ⟨v5, e5, _, w5⟩ := DataW.trod_int Tryz.underlying3 t5'
    simp only [List.cons.injEq, and_true] at e0 e1 e2 e3 e4 e5
    subst e0 e1 e2 e3 e4 e5
    exact ⟨⟨v0, v1, v2, v3, v4, v5⟩, rfl, wf_in w0, wf_in w1, wf_in w2, wf_in w5, w3, w4⟩
set_option maxRecDepth 100000 in
/-- one command, by value -/
theorem cmd_arg {H : Type} {enc : TypeId × Value → H} {w : World} {v : Value} {d : DataW H} {p : List MemPlace} {r : Reach} {base : Nat} (h : DataW.Trod enc Tryz.prog w 0 (fun _ => true) true 38 v d p)
    (hv : Value.okWide Tryz.prog w r base 38 v) (hlt : ∀ y ∈ p, y.block < w.heap.size) : ∃ c : Cmd, v = cmdV c ∧ CmdOk c := by
  obtain ⟨cs, rfl, _⟩ := okWide_struct Tryz.underlying38 hv
  obtain ⟨fuel, hf⟩ := h
  obtain ⟨c, hc, hok⟩ := cmd_view hf hlt
  have hc : cs.toList = _ := hc
  refine ⟨c, ?_, hok⟩
  have : cs = #[.int .i64 c.kind, .int .i64 c.client, .int .i64 c.seq, .string c.key, .string c.val, .int .i64 c.rev] := Array.toList_inj.1 hc
  rw [this]
set_option maxRecDepth 100000 in
theorem cmds_view {H : Type} {enc : TypeId × Value → H} {w : World} {v : Value} {d : DataW H} {p : List MemPlace} (h : DataW.Trod enc Tryz.prog w 0 (fun _ => true) true 22 v d p)
    (hlt : ∀ y ∈ p, y.block < w.heap.size) (hs : ∃ a l c, v = .slice a l c) : ∃ ao cap L, v = .slice ao (L : List Cmd).length cap ∧ CmdsV w.heap.size w ao cap L := by
  obtain ⟨a, l, c, rfl⟩ := hs
  obtain ⟨fuel, hf⟩ := h
  obtain ⟨ao, b, off, len, cap, n, C, D, hcs, hl, hm, h0, _, hC⟩ := C.slice_view Tryz.underlying22 (k := 6) (by kernel_rfl) (by decide) hf hlt
  have hcs' : (Value.slice a l c) = .slice ao len cap := by simpa [Value.cells] using hcs
  have hE : ∀ i, i < len → ∃ c : Cmd, C i = [.int .i64 c.kind, .int .i64 c.client, .int .i64 c.seq, .string c.key, .string c.val, .int .i64 c.rev] ∧ CmdOk c := fun i hi => by
    obtain ⟨_, _, pi, ht, hp⟩ := hC i hi
    exact cmd_view ht hp
  obtain ⟨Y, hY⟩ := @Go.Deep.choose_lt Cmd ⟨⟨0, 0, 0, nul, nul, 0⟩⟩ _ _ hE
  have hlen : ((List.range len).map Y).length = len := by simp
  refine ⟨ao, cap, (List.range len).map Y, by rw [hlen]; exact hcs', by rw [hlen]; exact ⟨hl, hm⟩, fun i x hx => ?_, fun x hx => ?_⟩
  · have hi : i < len := by have := (List.getElem?_eq_some_iff.1 hx).1; rwa [hlen] at this
    have e : Y i = x := by simpa [hi] using hx
    have hc := (hC i hi).2.1
    rw [(hY i hi).1, e] at hc
    exact ⟨b, off, (h0 (by omega)).1, (h0 (by omega)).2, hc 0 (by decide), hc 1 (by decide), hc 2 (by decide), hc 3 (by decide), hc 4 (by decide), hc 5 (by decide)⟩
  · obtain ⟨i, hi, rfl⟩ := List.mem_map.1 hx
    exact (hY i (List.mem_range.1 hi)).2
end Go.Proofs.YtpeiamllkddhiaaGreatDoor.P

/- The contract of cmd.Check. -/
namespace Go.Proofs.YtpeiamllkddhiaaGreatDoor.P
open Go.RowKit Go.Proofs.YtpeiamllkddhiaaGreatDoor.R Go.Proofs.YtpeiamllkddhiaaGreatDoor.M Go.BigFrame
set_option linter.unusedVariables false
set_option linter.unusedSimpArgs false

def cmdEq (c d : Cmd) : Bool := (c.kind == d.kind) && ((c.client == d.client) && ((c.seq == d.seq) && ((c.key.toList == d.key.toList) && ((c.val.toList == d.val.toList) && (c.rev == d.rev)))))
set_option maxHeartbeats 2000000 in
theorem run_cmd_neq (c d : Cmd) (w : World) : (binOp .neq 38 (cmdV c) (cmdV d)).run Tryz.prog w = .ok (.bool (!cmdEq c d)) w := by
  have h1 : Tryz.prog.underlying 38 = some (.struct (Tryz.prog.fieldsOf 38)) := by kernel_rfl
  have h2 : Tryz.prog.stoodInHeld 38 = false := by kernel_rfl
  unfold cmdEq
  rw [run_neq_struct, show (10000 : Nat) = 9999 + 1 from rfl, run_equalIn_struct _ _ _ _ _ h1 h2]
  cases e1 : (c.kind == d.kind)
  · simp [go_sem, e1, Result.andThen]
  cases e2 : (c.client == d.client)
  · simp [go_sem, e1, e2, Result.andThen]
  cases e3 : (c.seq == d.seq)
  · simp [go_sem, e1, e2, e3, Result.andThen]
  cases e4 : (c.key.toList == d.key.toList)
  · simp [go_sem, e1, e2, e3, e4, Result.andThen]
  cases e5 : (c.val.toList == d.val.toList)
  · simp [go_sem, e1, e2, e3, e4, e5, Result.andThen]
  cases e6 : (c.rev == d.rev)
  · simp [go_sem, e1, e2, e3, e4, e5, e6, Result.andThen]
  simp [go_sem, e1, e2, e3, e4, e5, e6, Result.andThen]
theorem ba_eq (a b : ByteArray) : (a.toList == b.toList) = decide (a = b) := by
  rw [Bool.eq_iff_iff, beq_iff_eq, decide_eq_true_eq]
  constructor
  · intro h
    apply ba_ext
    rw [ByteArray.toList_eq, ByteArray.toList_eq] at h
    exact h
  · intro h; rw [h]
theorem cmdEq_iff (c d : Cmd) : cmdEq c d = true ↔ c = d := by
  unfold cmdEq
  rw [ba_eq, ba_eq]
  simp only [Bool.and_eq_true, beq_iff_eq, decide_eq_true_eq]
  constructor
  · rintro ⟨h1, h2, h3, h4, h5, h6⟩
    cases c; cases d
    simp only at *
    subst h1 h2 h3 h4 h5 h6
    rfl
  · intro h; subst h; exact ⟨rfl, rfl, rfl, rfl, rfl, rfl⟩
/-- what is wrong in form, as the program asks -/
theorem formBad_eq (c : Cmd) (hk : out c.kind 6 = false) : formBad c = (!cmdEq c (namedC c) || (!bare c && (decide (c.client = 0) || decide (c.seq = 0)))) := by
  have hk2 : 0 ≤ c.kind ∧ c.kind ≤ 6 := by
    unfold out at hk
    simp only [Bool.or_eq_false_iff, decide_eq_false_iff_not] at hk
    omega
  have he : ((!cmdEq c (namedC c)) = true) ↔ ¬ c = namedC c := by
    rw [Bool.not_eq_true', ← Bool.not_eq_true, cmdEq_iff]
  rw [Bool.eq_iff_iff, Bool.or_eq_true, he]
  obtain ⟨kind, client, seq, key, val, rev⟩ := c
  simp only at hk2
  have hkk : kind = 0 ∨ kind = 1 ∨ kind = 2 ∨ kind = 3 ∨ kind = 4 ∨ kind = 5 ∨ kind = 6 := by omega
  unfold formBad bare namedC
  clear he hk hk2
  rcases hkk with rfl | rfl | rfl | rfl | rfl | rfl | rfl <;> by_cases a : client = 0 <;> by_cases b : seq = 0 <;> by_cases d : key = nul <;> by_cases e : val = nul <;> by_cases f : rev = 0 <;> simp [a, b, d, e, f]
end Go.Proofs.YtpeiamllkddhiaaGreatDoor.P
