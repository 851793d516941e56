/- The document's example of layer 15; envelopes that came in; the walk of BagRow. -/
import Derived.Test.YtngackbgcknphaaBagE
namespace Go.Proofs.Ytngackbgcknphaa.B
open Go.RowKit M
set_option linter.unusedVariables false

theorem BagAt.foot {B : Nat} {w w1 : World} {b : Nat} {room : Int} {L : List E} {ao : Option Addr} {cap : Nat} (h : BagAt B w b room L ao cap) {W : World} (hB : W.heap.size ≤ B) (hb : Below W.heap.size W w) (hm : Mods (Foot b ao) w w1) : Below W.heap.size W w1 :=
  hb.trans (hm.below (fun k hk => Nat.le_trans hB (h.lt k hk).1) hb.size)

theorem put_nil (B : Nat) (w : World) (b : Nat) (room : Int) (L : List E) (ao : Option Addr) (cap : Nat) (h : BagAt B w b room L ao cap) (f t : Int) (hr : (L.length : Int) < room) (hrm : room ≤ 4096) :
    Calls Try.prog 8 #[.pointer (some ⟨b, 0, none⟩), .agg #[.int .i64 f, .int .i64 t, .slice none 0 0]] w fun e w' => e = .returned (.bool true) ∧ ∃ y ao' cap', (y.key = (f, t, []) ∧ BagAt B w' b room (L ++ [y]) ao' cap' ∧ ((∀ k, Foot b ao' k → Foot b ao k ∨ w.heap.size ≤ k) ∧ ∀ k, y.v.ownBlock = some k → w.heap.size ≤ k) ∧ Mods (Foot b ao) w w') :=
  put_any B w b room L ao cap h ⟨f, t, none, 0, []⟩ (BytesV.nil w) (Nat.zero_le _) hr hrm

set_option maxRecDepth 100000 in
set_option maxHeartbeats 1000000 in
theorem awake_any (W : World) : Calls Try.prog 6 #[] W fun e w' => e = .returned (.bool true) ∧ Below W.heap.size W w' := by
  go_enter Try.func6, Try.ntmps6
  go_wp2_with fail
  refine (new_any 2 W (by decide) (by decide)).mono ?_
  rintro e w1 ⟨rfl, h1, b1⟩
  have h1 : BagAt W.heap.size w1 W.heap.size 2 [] none 0 := h1
  have H1 := Lib.hid h1
  have B1 := Lib.hid b1
  clear h1 b1
  go_wp2_with fail
  refine (put_nil _ w1 _ 2 [] none 0 H1.out 1 0 (by decide) (by decide)).mono ?_
  rintro e w2 ⟨rfl, y, ao, cap, hy, h2, _, hm⟩
  have H2 := Lib.hid h2
  have B2 := Lib.hid (H1.out.foot (Nat.le_refl _) B1.out hm)
  have HY := Lib.hid hy
  clear h2 hm hy
  go_wp2_with fail
  refine (put_nil _ w2 _ 2 _ ao cap H2.out 2 0 (by simp) (by decide)).mono ?_
  rintro e w3 ⟨rfl, z, ao3, cap3, hz, h3, _, hm⟩
  have H3 := Lib.hid h3
  have B3 := Lib.hid (H2.out.foot (Nat.le_refl _) B2.out hm)
  clear h3 hm hz
  go_wp2_with fail
  refine (put_full _ w3 _ 2 _ ao3 cap3 H3.out _ 0 0 (by simp)).mono ?_
  rintro e w4 ⟨rfl, b4⟩
  have H4 := Lib.hid (H3.out.below b4)
  have B4 := Lib.hid (B3.out.trans (b4.mono B3.out.size))
  clear b4
  go_wp2_with fail
  refine (take_in _ w4 _ 2 _ ao3 cap3 H4.out 0 y rfl).mono ?_
  rintro e w5 ⟨ao5, cap5, rfl, _, _, h5, hm⟩
  have hf : y.f = 1 := congrArg (fun p => p.1) HY.out
  have H5 := Lib.hid h5
  have B5 := Lib.hid (H4.out.foot (Nat.le_refl _) B4.out hm)
  clear h5 hm
  rw [hf]
  clear hf
  go_wp2_with fail
  refine (len_any _ _ _ 2 _ ao3 cap3 (H5.out.below ((Below.refl _ _).alloc (Nat.le_refl _) _))).mono ?_
  rintro e w6 ⟨rfl, rfl⟩
  have hzz := B5.out.size
  go_wp2_with fail
  go_ret
  exact ⟨rfl, B5.out.alloc hzz _⟩

/-- envelopes that came in: below N they lie -/
structure Envs (N : Nat) (w : World) (ao : Option Addr) (cap : Nat) (X : List E) : Prop where
  le : X.length ≤ cap
  cell : ∀ i x, X[i]? = some x → ∃ g off, ao = some ⟨g, off, none⟩ ∧ g < N ∧ w.cell? ⟨g, off + i * 3, none⟩ = some (.int .i64 x.f) ∧ w.cell? ⟨g, off + i * 3 + 1, none⟩ = some (.int .i64 x.t) ∧ w.cell? ⟨g, off + i * 3 + 2, none⟩ = some (.slice x.ao x.l.length x.cap)
  byt : ∀ x ∈ X, BytesV w x.v x.l ∧ BytesAway (fun k => N ≤ k) x.v x.l
theorem Envs.below {N : Nat} {w w1 : World} {ao : Option Addr} {cap : Nat} {X : List E} (h : Envs N w ao cap X) (hN : N ≤ w.heap.size) (hb : Below N w w1) : Envs N w1 ao cap X := by
  refine ⟨h.le, fun i x hx => ?_, fun x hx => ⟨?_, (h.byt x hx).2⟩⟩
  · obtain ⟨g, off, e, hg, c0, c1, c2⟩ := h.cell i x hx
    exact ⟨g, off, e, hg, (hb.cell (p := ⟨g, _, none⟩) hg).trans c0, (hb.cell (p := ⟨g, _, none⟩) hg).trans c1, (hb.cell (p := ⟨g, _, none⟩) hg).trans c2⟩
  · exact (h.byt x hx).1.keep (S := fun k => N ≤ k) ⟨hb.os, hb.tape, hb.output, hb.size, fun k _ hn => hb.block k (by omega)⟩ (h.byt x hx).2

def keys (L : List E) : List (Int × Int × List UInt8) := L.map E.key
theorem keys_cons {L : List E} {x : Int × Int × List UInt8} {r : List (Int × Int × List UInt8)} (h : keys L = x :: r) : ∃ y M, L = y :: M ∧ y.key = x ∧ keys M = r := by
  cases L with
  | nil => cases h
  | cons y M => exact ⟨y, M, rfl, (List.cons.inj h).1, (List.cons.inj h).2⟩
theorem keys_length (L : List E) : (keys L).length = L.length := by simp [keys]
end Go.Proofs.Ytngackbgcknphaa.B
