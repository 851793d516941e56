/- Contracts: slices.Clone of bytes, copyOf, New, Len, the reference's Same. -/
import Derived.Test.YtngackbgcknphaaMem
import Derived.WalkKit
import Derived.WalkSpells
import Derived.WalkLawsBesides
import Derived.BigQuiet
import Derived.Deep.QuietTactic
import Derived.LoopTactic
import Derived.OwnWalk
import Derived.Laws.Pointers
import Derived.KernelRfl
import Derived.Handy
import Derived.IntWalk
import Derived.Lib.SliceRun
import Derived.Deep.RegionHeld
import Derived.BigCall
import Derived.BigGuard
namespace Go.Proofs.Ytngackbgcknphaa.B
open Go.RowKit M
set_option linter.unusedVariables false

theorem info_u8 : (Try.prog.info? 5).map (fun i => (i.zero, i.size, i.bytes)) = some (some (.int .u8 0), 1, 1) := by kernel_rfl
theorem beq_false' {a b : Int} (h : a ≠ b) : (a == b) = false := by rw [beq_eq_false_iff_ne]; exact h
theorem ret_val {a b : Value} (h : a = b) : Ending.returned a = .returned b := by rw [h]

set_option maxHeartbeats 400000 in
theorem clone_nil (w : World) :
    Calls Try.prog 23 #[.slice none 0 0] w fun e w' => e = .returned (.slice none 0 0) ∧ w = w' := by
  have q22 : ∀ (w : World) (a : Option Addr) (n c n' c' : Nat), (binOp .eql 22 (.slice a n c) (.slice none n' c')).run Try.prog w = .ok (.bool a.isNone) w := fun w a n c n' c' => Lib.run_eql_slice_nil w _ _ a n c n' c' Try.underlying22
  go_enter Try.func23, Try.ntmps23
  go_wp2_with fail
  go_ret
  exact ⟨rfl, rfl⟩

set_option maxHeartbeats 400000 in
theorem clone_some (a : Addr) (cap : Nat) (l : List UInt8) (w : World) (hl : l.length ≤ 1000000) (hm : cap ≤ maxLen)
    (hcell : ∀ j u, (byteVals l)[j]? = some u → w.cell? (a.add j) = some u) :
    Calls Try.prog 23 #[.slice (some a) l.length cap] w fun e w' => ∃ v', e = .returned v' ∧ (w'.ownsRow w.heap.size 5 1 v' l.length (byteVals l) ∧ Below w.heap.size w w') := by
  obtain ⟨i0, hi, hz0, hz1, hz2⟩ := info_parts info_u8
  have hnl := byteVals_length l
  have HC := Lib.hid (show ∀ j u, (byteVals l)[j]? = some u → (w.alloc (.cells #[] 5)).cell? (a.add j) = some u from fun j u hu => by
    have h := hcell j u hu
    rw [World.cell?_alloc_some _ _ _ (by rw [h]; rfl)]; exact h)
  have HO := Lib.hid (World.ownsRow_made (base := w.heap.size) (e := 5) (size := 1) w #[] 0 (Nat.le_refl _) (Nat.zero_le _) rfl)
  have HONE := Lib.hid (show ∀ u ∈ byteVals l, u.oneCell' = true from fun u hu => by
    obtain ⟨b, _, rfl⟩ := List.mem_map.1 hu; rfl)
  have HN := Lib.hid hnl
  clear hcell hnl
  unfold maxLen at hm
  have q22 : ∀ (w : World) (a : Option Addr) (n c n' c' : Nat), (binOp .eql 22 (.slice a n c) (.slice none n' c')).run Try.prog w = .ok (.bool a.isNone) w := fun w a n c n' c' => Lib.run_eql_slice_nil w _ _ a n c n' c' Try.underlying22
  go_enter Try.func23, Try.ntmps23
  go_wp2_with (at_builtin; refine wpList_append_own _ rfl _ _ 22 rfl w.heap.size 5 i0 (.int .u8 0) 1 1 Try.underlying22 hi hz0 hz1 hz2 rfl (by decide) _ 0 [] rfl HO.out a l.length cap (byteVals l) rfl (by rw [HN.out, Nat.mul_one]) HC.out HONE.out (by unfold maxLen; omega) (by omega) (by simp) ?_; intro v' w1 hown hgrow _)
  go_ret
  refine ⟨_, rfl, by simpa using hown, ?_⟩
  exact ((Below.refl _ w).alloc (Nat.le_refl _) _).grown hgrow (by simp) (fun k hk => Nat.le_of_eq (Option.some.inj hk))

theorem clone_any (ao : Option Addr) (cap : Nat) (l : List UInt8) (w : World) (hl : l.length ≤ 1000000) (hv : BytesV w (.slice ao l.length cap) l) :
    Calls Try.prog 23 #[.slice ao l.length cap] w fun e w' => ∃ ao' cap', e = .returned (.slice ao' l.length cap') ∧ (BytesV w' (.slice ao' l.length cap') l ∧ (∀ a, ao' = some a → w.heap.size ≤ a.block) ∧ Below w.heap.size w w' ∧ Thaw w' ao') := by
  obtain ⟨ao, cap, e0, h1, h2, h3, hc⟩ := hv
  cases e0
  cases ao with
  | none =>
    obtain rfl := h3 rfl
    have hl0 : l = [] := List.eq_nil_of_length_eq_zero (by omega)
    subst hl0
    refine (clone_nil w).mono ?_
    rintro e w' ⟨rfl, rfl⟩
    exact ⟨none, 0, rfl, BytesV.nil w, (fun a h => by cases h), Below.refl _ _, (fun a h => by cases h)⟩
  | some a =>
    refine (clone_some a cap l w hl h2 ?_).mono ?_
    · intro j u hu
      have hj : j < l.length := by have := (List.getElem?_eq_some_iff.1 hu).1; rwa [byteVals_length] at this
      obtain ⟨b, off, ha, h0⟩ := hc j hj
      obtain rfl := Option.some.inj ha
      rw [byteVals_get l j hj] at hu
      rw [Addr.add_lit, h0]; exact hu
    · rintro e w' ⟨v', rfl, ho, hb⟩
      obtain ⟨ao', cap', rfl, _⟩ := own_view ho
      exact ⟨ao', cap', rfl, BytesV.of_own ho, fun a ha => (ho.lt a.block (by rw [ha]; rfl)).1, hb, Thaw.of_own ho⟩

set_option maxRecDepth 100000 in
set_option maxHeartbeats 400000 in
theorem copy_any (f t : Int) (ao : Option Addr) (cap : Nat) (l : List UInt8) (w : World) (hl : l.length ≤ 1000000) (hv : BytesV w (.slice ao l.length cap) l) :
    Calls Try.prog 18 #[.agg #[.int .i64 f, .int .i64 t, .slice ao l.length cap]] w fun e w' => ∃ ao' cap', e = .returned (.agg #[.int .i64 f, .int .i64 t, .slice ao' l.length cap']) ∧ (BytesV w' (.slice ao' l.length cap') l ∧ (∀ a, ao' = some a → w.heap.size ≤ a.block) ∧ Below w.heap.size w w' ∧ Thaw w' ao') := by
  have HC := Lib.hid (fun W hW => clone_any ao cap l W hl hW)
  have HV := Lib.hid hv
  clear hv hl
  go_enter Try.func18, Try.ntmps18
  go_wp2_with fail
  refine Calls.mono (HC.out _ ?_) ?_
  · exact HV.out.keep (((Mods.refl (fun _ => False) w).alloc _).alloc _) (fun _ _ _ h => h)
  rintro e w1 ⟨ao', cap', rfl, hb, hfr, bel, thw⟩
  have e1 : w1.heap[w.heap.size]? = some (.cells #[.int .i64 f, .int .i64 t, .slice ao l.length cap] 24 (0, 0)) := (bel.block _ (by simp; omega)).trans (by rw [heap_al, if_neg (by simp), heap_al, if_pos rfl])
  have e2 : w1.heap[w.heap.size + 1]? = some (.cells #[.int .i64 0, .int .i64 0, .slice none 0 0] 24 (0, 0)) := (bel.block _ (by simp)).trans (by rw [heap_al, if_pos (by simp)])
  obtain ⟨⟨c0, c1, c2⟩, f1, s1⟩ := box3 e1
  have s12 := s1 2 (by omega)
  obtain ⟨⟨d0, d1, d2⟩, f2, s2⟩ := box3 e2
  have hz : w.heap.size + 1 < w1.heap.size := by have := bel.size; simp at this; omega
  have HE1 := Lib.hid e1
  have HE2 := Lib.hid e2
  have HB := Lib.hid bel
  have HV2 := Lib.hid hb
  have HF := Lib.hid hfr
  have HTW := Lib.hid thw
  clear hb hfr bel e1 e2 thw
  go_wp2_with fail
  refine ret_box (w.heap.size + 1) #[.int .i64 f, .int .i64 t, .slice ao' l.length cap'] 24 (.agg #[.int .i64 f, .int .i64 t, .slice ao' l.length cap']) ?_ (fun W' h => ?_) rfl ?_
  · have a1 := heap_set w1 w.heap.size 2 (.slice ao' l.length cap') (w.heap.size + 1) _ _ _ HE1.out
    rw [if_neg (by omega), HE2.out] at a1
    have a2 := heap_set _ _ 0 (.int .i64 f) (w.heap.size + 1) _ _ _ a1
    rw [if_pos rfl] at a2
    have a3 := heap_set _ _ 1 (.int .i64 t) (w.heap.size + 1) _ _ _ a2
    rw [if_pos rfl] at a3
    have a4 := heap_set _ _ 2 (.slice ao' l.length cap') (w.heap.size + 1) _ _ _ a3
    rw [if_pos rfl] at a4
    exact a4
  · obtain ⟨⟨r0, r1, r2⟩, _, _⟩ := box3 h
    simp [results, Try.results18, go_sem, r0, r1, r2]
  · have hM : Mods (fun k => w.heap.size ≤ k ∧ k ≤ w.heap.size + 1) w1 ((((w1.setCell ⟨w.heap.size, 2, none⟩ (.slice ao' l.length cap')).setCell ⟨w.heap.size + 1, 0, none⟩ (.int .i64 f)).setCell ⟨w.heap.size + 1, 1, none⟩ (.int .i64 t)).setCell ⟨w.heap.size + 1, 2, none⟩ (.slice ao' l.length cap')) :=
      ((((Mods.refl _ _).setCell (fun _ => by simp) _).setCell (fun _ => by simp) _).setCell (fun _ => by simp) _).setCell (fun _ => by simp) _
    refine ⟨ao', cap', rfl, HV2.out.keep hM ?_, fun a ha => ?_, ?_, HTW.out.keep hM (fun a ha hh => by have := HF.out a ha; simp at this; omega)⟩
    · intro k hk _ hh
      cases ao' with
      | none => cases hk
      | some a =>
        have := HF.out a rfl
        have e := Option.some.inj hk
        simp at this
        omega
    · have := HF.out a ha; simp at this; omega
    · have h0 : Mods (fun k => w.heap.size ≤ k) w w1 := (((Mods.refl _ w).alloc _).alloc _).trans (Mods.of_below HB.out)
      exact (h0.trans (hM.mono fun k _ h => h.1)).below (fun k h => h) (Nat.le_refl _)
end Go.Proofs.Ytngackbgcknphaa.B
