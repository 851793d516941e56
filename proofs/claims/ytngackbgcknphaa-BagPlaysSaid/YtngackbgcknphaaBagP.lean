/- Acts that came in, opened; BagPlays at every list. -/
import Derived.Test.YtngackbgcknphaaBagO
import Derived.Test.YtngackbgcknphaaBagH
namespace Go.Proofs.Ytngackbgcknphaa.B
open Go.RowKit M Go.WideShapes Go.ChangeShapes
set_option linter.unusedVariables false

def A5.cells (y : A5) : List Value := [.int .i64 y.d, .int .i64 y.i, .int .i64 y.e.f, .int .i64 y.e.t, .slice y.e.ao y.e.l.length y.e.cap]
theorem act_view {H : Type} {enc : TypeId × Value → H} {w : World} {n : Nat} {cs : List Value} {x : DataW H × List MemPlace} (h : DataW.trod enc Try.prog w 0 (fun _ => true) true n 38 cs = some x)
    (hlt : ∀ y ∈ x.2, y.block < w.heap.size) : ∃ y : A5, cs = y.cells ∧ BytesV w y.e.v y.e.l ∧ BytesAway (fun k => w.heap.size ≤ k) y.e.v y.e.l := by
  obtain ⟨xs, m, hl, hx, _, hf⟩ := C.field_view Try.underlying38 h hlt
  have hl2 : cs.length = 5 := hl.trans (by kernel_rfl)
  match cs, hl2 with
  | [c0, c1, c2, c3, c4], _ =>
    obtain ⟨y0, _, t0, _⟩ := hf 0 _ rfl
    obtain ⟨y1, _, t1, _⟩ := hf 1 _ rfl
    obtain ⟨y2, _, t2, p2⟩ := hf 2 _ rfl
    have t0' : DataW.trod enc Try.prog w 0 (fun _ => true) true m 3 [c0] = some y0 := t0
    have t1' : DataW.trod enc Try.prog w 0 (fun _ => true) true m 3 [c1] = some y1 := t1
    have t2' : DataW.trod enc Try.prog w 0 (fun _ => true) true m 24 [c2, c3, c4] = some y2 := t2
    obtain ⟨d, e0, _⟩ := DataW.trod_int Try.underlying3 t0'
    obtain ⟨i, e1, _⟩ := DataW.trod_int Try.underlying3 t1'
    obtain ⟨y, e2, hb, ha⟩ := env_view t2' p2
    simp only [List.cons.injEq, and_true] at e0 e1
    exact ⟨⟨d, i, y⟩, by rw [e0, e1, e2]; rfl, hb, ha⟩
theorem acts_view {H : Type} {enc : TypeId × Value → H} {w : World} {v : Value} {d : DataW H} {p : List MemPlace} (h : DataW.Trod enc Try.prog w 0 (fun _ => true) true 36 v d p)
    (hlt : ∀ y ∈ p, y.block < w.heap.size) (hs : ∃ a l c, v = .slice a l c) : ∃ ao cap Y, v = .slice ao (Y : List A5).length cap ∧ cap ≤ maxLen ∧ Acts w.heap.size w ao cap Y := by
  obtain ⟨a, l, c, rfl⟩ := hs
  obtain ⟨fuel, hf⟩ := h
  obtain ⟨ao, b, off, len, cap, n, C, D, hcs, hl, hm, h0, _, hC⟩ := C.slice_view Try.underlying36 (k := 5) (by kernel_rfl) (by decide) hf hlt
  have hcs' : (Value.slice a l c) = .slice ao len cap := by simpa [Value.cells] using hcs
  have hE : ∀ i, i < len → ∃ y : A5, C i = y.cells ∧ BytesV w y.e.v y.e.l ∧ BytesAway (fun k => w.heap.size ≤ k) y.e.v y.e.l := fun i hi => by
    obtain ⟨_, _, pi, ht, hp⟩ := hC i hi
    exact act_view ht hp
  obtain ⟨Y, hY⟩ := @Go.Deep.choose_lt A5 ⟨⟨0, 0, ⟨0, 0, none, 0, []⟩⟩⟩ _ _ hE
  have hlen : ((List.range len).map Y).length = len := by simp
  refine ⟨ao, cap, (List.range len).map Y, by rw [hlen]; exact hcs', hm, by rw [hlen]; exact hl, fun i x hx => ?_, fun x hx => ?_⟩
  · have hi : i < len := by have := (List.getElem?_eq_some_iff.1 hx).1; rwa [hlen] at this
    have e : Y i = x := by simpa [hi] using hx
    have hc := (hC i hi).2.1
    rw [(hY i hi).1, e] at hc
    exact ⟨b, off, (h0 (by omega)).1, (h0 (by omega)).2, hc 0 (by decide), hc 1 (by decide), hc 2 (by decide), hc 3 (by decide), hc 4 (by decide)⟩
  · obtain ⟨i, hi, rfl⟩ := List.mem_map.1 hx
    exact (hY i (List.mem_range.1 hi)).2

set_option maxRecDepth 100000 in
set_option maxHeartbeats 400000 in
theorem plays_long (W : World) (room : Int) (ao : Option Addr) (cap n : Nat) (hn : 80 < n) (hcap : n ≤ cap) (hm : cap ≤ maxLen) :
    Calls Try.prog 5 #[.int .i64 room, .slice ao n cap] W fun e w' => e = .returned (.bool true) ∧ Below W.heap.size W w' := by
  have hl0 : (80 : Int) < (n : Int) := by omega
  unfold maxLen at hm
  go_enter Try.func5, Try.ntmps5
  go_wp2_with fail
  refine (awake_any _).mono ?_
  rintro e w1 ⟨rfl, b1⟩
  have HB := Lib.hid b1
  clear b1
  go_wp2_with fail
  go_ret
  exact ⟨rfl, HB.out⟩
theorem plays_all (W : World) (room : Int) (ao : Option Addr) (cap : Nat) (Y : List A5) (hY : Acts W.heap.size W ao cap Y) (hm : cap ≤ maxLen) (h1 : -9223372036854775808 ≤ room) (h2 : room ≤ 9223372036854775807) :
    Calls Try.prog 5 #[.int .i64 room, .slice ao Y.length cap] W fun e w' => e = .returned (.bool true) ∧ Below W.heap.size W w' := by
  by_cases h : Y.length ≤ 80
  · exact plays_any W room ao cap Y hY hm h1 h2 h
  · exact plays_long W room ao cap Y.length (by omega) hY.le hm
end Go.Proofs.Ytngackbgcknphaa.B
