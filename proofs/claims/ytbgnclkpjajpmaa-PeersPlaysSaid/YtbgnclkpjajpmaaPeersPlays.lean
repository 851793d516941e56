/- Proved here: PeersPlays: for every input that can be read the call returns true, does not panic, and each argument reads afterwards as it read before. Conditions: none beyond the form's own. -/
import Derived.Test.YtbgnclkpjajpmaaRows
import Derived.WalkKit
import Derived.ProofKit
import Derived.OpenShut
import Derived.Test.YtbgnclkpjajpmaaCom
import Derived.Test.YtbgnclkpjajpmaaPeersE
namespace Go.Proofs.Ytbgnclkpjajpmaa.peersPlays
open Go.ChangeShapes Go.WideShapes Go.ChangeAt Go.RowKit
set_option linter.unusedVariables false
theorem own : ownKnob Try.checked.prog.godebug = none := by kernel_rfl
theorem heard_view {H : Type} {enc : TypeId × Value → H} {w : World} {n : Nat} {cs : List Value} {x : DataW H × List MemPlace} (h : DataW.trod enc Try.prog w 0 (fun _ => true) true n 32 cs = some x)
    (hlt : ∀ y ∈ x.2, y.block < w.heap.size) : ∃ f v : Int, cs = [.int .i64 f, .int .i64 v] := by
  obtain ⟨xs, m, hl, hx, _, hf⟩ := C.field_view Try.underlying32 h hlt
  have hl2 : cs.length = 2 := hl.trans (by kernel_rfl)
  match cs, hl2 with
  | [c0, c1], _ =>
    obtain ⟨y0, _, t0, _⟩ := hf 0 _ rfl
    obtain ⟨y1, _, t1, _⟩ := hf 1 _ rfl
    have t0' : DataW.trod enc Try.prog w 0 (fun _ => true) true m 3 [c0] = some y0 := t0
    have t1' : DataW.trod enc Try.prog w 0 (fun _ => true) true m 3 [c1] = some y1 := t1
    obtain ⟨f, e0, _⟩ := DataW.trod_int Try.underlying3 t0'
    obtain ⟨v, e1, _⟩ := DataW.trod_int Try.underlying3 t1'
    simp only [List.cons.injEq, and_true] at e0 e1
    exact ⟨f, v, by rw [e0, e1]⟩
theorem words_view {H : Type} {enc : TypeId × Value → H} {w : World} {v : Value} {d : DataW H} {p : List MemPlace} (h : DataW.Trod enc Try.prog w 0 (fun _ => true) true 29 v d p)
    (hlt : ∀ y ∈ p, y.block < w.heap.size) (hs : ∃ a l c, v = .slice a l c) : ∃ ao b off len cap F V, v = .slice ao len cap ∧ P.Words w ao b off len F V := by
  obtain ⟨a, l, c, rfl⟩ := hs
  obtain ⟨fuel, hf⟩ := h
  obtain ⟨ao, b, off, len, cap, n, C, D, hcs, hl, hm, h0, _, hC⟩ := C.slice_view Try.underlying29 (k := 2) (by kernel_rfl) (by decide) hf hlt
  have hcs' : (Value.slice a l c) = .slice ao len cap := by simpa [Value.cells] using hcs
  have hE : ∀ i, i < len → ∃ fv : Int × Int, C i = [.int .i64 fv.1, .int .i64 fv.2] := fun i hi => by
    obtain ⟨_, _, pi, ht, hp⟩ := hC i hi
    obtain ⟨f, v, e⟩ := heard_view ht hp
    exact ⟨(f, v), e⟩
  obtain ⟨FV, hFV⟩ := Go.Deep.choose_lt (α := Int × Int) hE
  refine ⟨ao, b, off, len, cap, fun i => (FV i).1, fun i => (FV i).2, hcs', ⟨by omega, fun h => (h0 h).2, fun h => (h0 h).1, fun i hi => ?_, fun i hi => ?_⟩⟩
  · have := (hC i hi).2.1 0 (by decide)
    rw [hFV i hi] at this; exact this
  · have := (hC i hi).2.1 1 (by decide)
    rw [hFV i hi] at this; exact this
theorem walked {H : Type} {enc : TypeId × Value → H} (W : World) (base : Nat) (args : Array Value) (ds : List (DataW H)) (p : List MemPlace)
      (hval : ∀ (j : Nat) t v, Try.f4.params[j]? = some t → args[j]? = some v → Value.okWide Try.checked.prog W .any base t v)
      (hA : DataW.TrodAll enc Try.checked.prog W 0 (fun _ => true) true Try.f4.params.toList args.toList ds p) (hlt : ∀ x ∈ p, x.block < W.heap.size)
      (hsz : (DataW.weightsEach Try.checked.prog Try.f4.params.toList ds).all (· ≤ reachBytes) = true) :
      Calls Try.checked.prog 4 args W fun e w' => e = .returned (.bool true) ∧ Below W.heap.size W w' := by
  rw [Try.params4] at hA hval
  obtain ⟨v0, vs0, d0, ds0, p0, q0, hargs, rfl, rfl, h0, r0⟩ := trodAll_cons hA
  obtain ⟨v1, vs1, d1, ds1, p1, q1, rfl, rfl, rfl, h1, r1⟩ := trodAll_cons r0
  obtain ⟨v2, vs2, d2, ds2, p2, q2, rfl, rfl, rfl, h2, r2⟩ := trodAll_cons r1
  obtain ⟨v3, vs3, d3, ds3, p3, q3, rfl, rfl, rfl, h3, r3⟩ := trodAll_cons r2
  obtain ⟨v4, vs4, d4, ds4, p4, q4, rfl, rfl, rfl, h4, r4⟩ := trodAll_cons r3
  obtain ⟨rfl, rfl, rfl⟩ := trodAll_nil r4
  obtain rfl : args = #[v0, v1, v2, v3, v4] := by cases args; simp_all
  obtain ⟨a0, rfl, rfl, rfl, w0⟩ := open_int Try.underlying3 (hval 0 3 v0 rfl rfl) h0
  obtain ⟨ao, b, off, len, cap, F, V, rfl, hw⟩ := words_view h1 (fun y hy => hlt y (by simp [hy])) (okWide_slice Try.underlying29 (hval 1 _ v1 rfl rfl))
  obtain ⟨a2, rfl, rfl, rfl, w2⟩ := open_int Try.underlying3 (hval 2 3 v2 rfl rfl) h2
  obtain ⟨a3, rfl, rfl, rfl, w3⟩ := open_int Try.underlying3 (hval 3 3 v3 rfl rfl) h3
  obtain ⟨a4, rfl, rfl, rfl⟩ := open_bool Try.underlying4 (hval 4 4 v4 rfl rfl) h4
  exact P.plays_any a0 ao b off len cap F V a2 a3 a4 W hw

set_option maxRecDepth 100000 in
theorem lifted (os : Os) (started : os.Started) (H : Type) (enc : TypeId × Value → H) :
    ReturnsInHanded {} Try.checked os 4 .any (Rows.peersPlaysSpec.pre6 enc Try.prog Try.f4 Rows.peersPlaysRow.domain false) (Rows.peersPlaysSpec.post enc Try.prog Try.f4 false true false false) :=
  C.law_lifted (s := Rows.peersPlaysSpec) (F := Try.f4) started 4 own (by kernel_rfl) Try.func4 rfl (fun ds h => match ds, h with | [_, _, _, _, _], _ => rfl) (by kernel_rfl) Try.underlying4 (by kernel_rfl) (by kernel_rfl)
    (ChangeSpec.witness6 (enc := enc) (C := Try.checked) false ⟨#[], #[.int .i64 0, .slice none 0 0, .int .i64 0, .int .i64 0, .bool false], []⟩ 8 (by kernel_rfl) (by kernel_rfl) (by kernel_rfl) (by kernel_rfl))
    walked

theorem over : Rows.peersPlaysRow.holds Try.pinned (OpenSpec.ofChange Rows.peersPlaysSpec) :=
  OpenClaim.holds_of_wide 4 Try.f4 rfl rfl rfl rfl rfl rfl rfl ⟨rfl, rfl, rfl, rfl, rfl⟩ rfl rfl rfl rfl rfl (by kernel_rfl) Try.func4 (by kernel_rfl)
    (of_decide_eq_true (by kernel_rfl)) (by unfold Func.isWrapper; first | (rw [if_pos (by decide +kernel)]; kernel_rfl) | (rw [if_neg (by decide +kernel)]; exact ⟨rfl, rfl⟩))
    (fun os started H enc _ => lifted os started H enc)

theorem proved : Rows.PeersPlaysSaid := over
#print axioms proved
end Go.Proofs.Ytbgnclkpjajpmaa.peersPlays
