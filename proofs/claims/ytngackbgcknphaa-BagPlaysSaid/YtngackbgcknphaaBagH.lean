/- Envelopes that came in, opened. -/
import Derived.Test.YtngackbgcknphaaBagF
import Derived.Test.YtngackbgcknphaaCom
namespace Go.Proofs.Ytngackbgcknphaa.B
open Go.RowKit M Go.WideShapes Go.ChangeShapes
set_option linter.unusedVariables false

theorem bytes_view {H : Type} {enc : TypeId × Value → H} {w : World} {n : Nat} {c : Value} {x : DataW H × List MemPlace} (h : DataW.trod enc Try.prog w 0 (fun _ => true) true n 22 [c] = some x)
    (hlt : ∀ y ∈ x.2, y.block < w.heap.size) : ∃ ao cap l, c = .slice ao (l : List UInt8).length cap ∧ BytesV w c l ∧ BytesAway (fun k => w.heap.size ≤ k) c l := by
  obtain ⟨ao, b, off, len, cap, m, C, D, hcs, hl, hm, hn, h0, _, hC⟩ := C.slice_view2 Try.underlying22 (k := 1) (by kernel_rfl) (by decide) h hlt
  have hE : ∀ i, i < len → ∃ z : UInt8, C i = [.int .u8 (z.toNat : Int)] := fun i hi => by
    obtain ⟨_, _, pi, ht, hp⟩ := hC i hi
    obtain ⟨z, e, _, hw⟩ := DataW.trod_int Try.underlying5 ht
    have h1 : (0 : Int) ≤ z ∧ z ≤ 255 := by
      simp only [Lit.wf, Bool.and_eq_true, decide_eq_true_eq] at hw
      exact hw
    refine ⟨UInt8.ofNat z.toNat, ?_⟩
    rw [e]
    congr 2
    simp
    omega
  obtain ⟨Z, hZ⟩ := Go.Deep.choose_lt (α := UInt8) hE
  have e := List.cons.inj hcs
  have hlen : ((List.range len).map Z).length = len := by simp
  refine ⟨ao, cap, (List.range len).map Z, by rw [hlen]; exact e.1, ⟨ao, cap, by rw [hlen]; exact e.1, by rw [hlen]; exact hl, hm, hn, fun j hj => ?_⟩, fun k hk hne hF => ?_⟩
  · rw [hlen] at hj
    refine ⟨b, off, (h0 (by omega)).1, ?_⟩
    have hc := (hC j hj).2.1 0 (by decide)
    rw [hZ j hj] at hc
    simp only [Nat.mul_one, Nat.add_zero] at hc
    rw [hc]
    simp [List.getD, hj]
  · have hl0 : 0 < len := by
      rcases Nat.eq_zero_or_pos len with h | h
      · subst h; exact absurd rfl hne
      · exact h
    have h1 := h0 hl0
    rw [e.1, h1.1] at hk
    have h2 : b = k := Option.some.inj hk
    omega
theorem env_view {H : Type} {enc : TypeId × Value → H} {w : World} {n : Nat} {cs : List Value} {x : DataW H × List MemPlace} (h : DataW.trod enc Try.prog w 0 (fun _ => true) true n 24 cs = some x)
    (hlt : ∀ y ∈ x.2, y.block < w.heap.size) : ∃ y : E, cs = y.cells ∧ BytesV w y.v y.l ∧ BytesAway (fun k => w.heap.size ≤ k) y.v y.l := by
  obtain ⟨xs, m, hl, hx, _, hf⟩ := C.field_view Try.underlying24 h hlt
  have hl2 : cs.length = 3 := hl.trans (by kernel_rfl)
  match cs, hl2 with
  | [c0, c1, c2], _ =>
    obtain ⟨y0, _, t0, _⟩ := hf 0 _ rfl
    obtain ⟨y1, _, t1, _⟩ := hf 1 _ rfl
    obtain ⟨y2, _, t2, p2⟩ := hf 2 _ rfl
    have t0' : DataW.trod enc Try.prog w 0 (fun _ => true) true m 3 [c0] = some y0 := t0
    have t1' : DataW.trod enc Try.prog w 0 (fun _ => true) true m 3 [c1] = some y1 := t1
    have t2' : DataW.trod enc Try.prog w 0 (fun _ => true) true m 22 [c2] = some y2 := t2
    obtain ⟨f, e0, _⟩ := DataW.trod_int Try.underlying3 t0'
    obtain ⟨t, e1, _⟩ := DataW.trod_int Try.underlying3 t1'
    obtain ⟨ao, cap, l, e2, hb, ha⟩ := bytes_view t2' p2
    simp only [List.cons.injEq, and_true] at e0 e1
    subst e2
    exact ⟨⟨f, t, ao, cap, l⟩, by rw [e0, e1]; rfl, hb, ha⟩
theorem envs_view {H : Type} {enc : TypeId × Value → H} {w : World} {v : Value} {d : DataW H} {p : List MemPlace} (h : DataW.Trod enc Try.prog w 0 (fun _ => true) true 33 v d p)
    (hlt : ∀ y ∈ p, y.block < w.heap.size) (hs : ∃ a l c, v = .slice a l c) : ∃ ao cap X, v = .slice ao (X : List E).length cap ∧ cap ≤ maxLen ∧ Envs w.heap.size w ao cap X := by
  obtain ⟨a, l, c, rfl⟩ := hs
  obtain ⟨fuel, hf⟩ := h
  obtain ⟨ao, b, off, len, cap, n, C, D, hcs, hl, hm, h0, _, hC⟩ := C.slice_view Try.underlying33 (k := 3) (by kernel_rfl) (by decide) hf hlt
  have hcs' : (Value.slice a l c) = .slice ao len cap := by simpa [Value.cells] using hcs
  have hE : ∀ i, i < len → ∃ y : E, C i = y.cells ∧ BytesV w y.v y.l ∧ BytesAway (fun k => w.heap.size ≤ k) y.v y.l := fun i hi => by
    obtain ⟨_, _, pi, ht, hp⟩ := hC i hi
    exact env_view ht hp
  obtain ⟨Y, hY⟩ := @Go.Deep.choose_lt E ⟨⟨0, 0, none, 0, []⟩⟩ _ _ hE
  have hlen : ((List.range len).map Y).length = len := by simp
  refine ⟨ao, cap, (List.range len).map Y, by rw [hlen]; exact hcs', hm, by rw [hlen]; exact hl, fun i x hx => ?_, fun x hx => ?_⟩
  · have hi : i < len := by have := (List.getElem?_eq_some_iff.1 hx).1; rwa [hlen] at this
    have e : Y i = x := by simpa [hi] using hx
    have hc := (hC i hi).2.1
    rw [(hY i hi).1, e] at hc
    exact ⟨b, off, (h0 (by omega)).1, (h0 (by omega)).2, hc 0 (by decide), hc 1 (by decide), hc 2 (by decide)⟩
  · obtain ⟨i, hi, rfl⟩ := List.mem_map.1 hx
    exact (hY i (List.mem_range.1 hi)).2
end Go.Proofs.Ytngackbgcknphaa.B
