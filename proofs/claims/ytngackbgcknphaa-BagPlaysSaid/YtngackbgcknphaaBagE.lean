/- Contracts: Twice, Take. -/
import Derived.Test.YtngackbgcknphaaBagD
namespace Go.Proofs.Ytngackbgcknphaa.B
open Go.RowKit M
set_option linter.unusedVariables false

theorem cellsE_take (L : List E) (i : Nat) : cellsE (L.take i) = (cellsE L).take (i * 3) := by
  induction L generalizing i with
  | nil => simp [cellsE]
  | cons x L ih =>
    cases i with
    | zero => simp [cellsE]
    | succ i =>
      have := ih i
      simp only [cellsE, List.take_succ_cons, List.flatMap_cons] at this ⊢
      rw [this, show (i + 1) * 3 = i * 3 + 3 by omega]
      rfl
theorem cellsE_drop (L : List E) (i : Nat) : cellsE (L.drop i) = (cellsE L).drop (i * 3) := by
  induction L generalizing i with
  | nil => simp [cellsE]
  | cons x L ih =>
    cases i with
    | zero => simp [cellsE]
    | succ i =>
      have := ih i
      simp only [cellsE, List.drop_succ_cons, List.flatMap_cons] at this ⊢
      rw [this, show (i + 1) * 3 = i * 3 + 3 by omega]
      rfl
theorem cellsE_one (L : List E) : ∀ u ∈ cellsE L, u.oneCell' = true := by
  intro u hu
  obtain ⟨x, _, hx⟩ := List.mem_flatMap.1 hu
  simp only [E.cells, List.mem_cons, List.not_mem_nil, or_false] at hx
  rcases hx with rfl | rfl | rfl <;> rfl
/-- one taken out, in memory -/
theorem BagAt.cut {B : Nat} {w w2 : World} {b : Nat} {room : Int} {L : List E} {g cap : Nat} {i : Nat} (h : BagAt B w b room L (some ⟨g, 0, none⟩) cap) (hi : i < L.length)
    (hown : w2.ownsRow B 24 3 (.slice (some ⟨g, 0, none⟩) (L.length - 1) cap) (L.length - 1) ((cellsE L).take (i * 3) ++ (cellsE L).drop ((i + 1) * 3))) (hm : Mods (fun k => k = g) w w2) :
    BagAt B (w2.setCell ⟨b, 0, none⟩ (.slice (some ⟨g, 0, none⟩) (L.length - 1) cap)) b room (L.eraseIdx i) (some ⟨g, 0, none⟩) cap := by
  have hgb : g ≠ b := h.ne _ rfl
  have hlen : (L.eraseIdx i).length = L.length - 1 := by rw [List.length_eraseIdx, if_pos hi]
  have hM : Mods (Foot b (some ⟨g, 0, none⟩)) w (w2.setCell ⟨b, 0, none⟩ (.slice (some ⟨g, 0, none⟩) (L.length - 1) cap)) :=
    (hm.mono (fun k _ h => .inr ⟨_, rfl, h⟩)).setCell (fun _ => .inl rfl) _
  refine ⟨?_, ?_, h.ne, h.lo, fun x hx => ?_, ?_⟩
  · have := heap_set w2 b 0 (.slice (some ⟨g, 0, none⟩) (L.length - 1) cap) b _ _ _ (hm.heap h.blk (fun e => hgb e.symm))
    rw [if_pos rfl] at this
    rw [this, hlen]
    simp
  · rw [hlen, List.eraseIdx_eq_take_drop_succ, cellsE_append, cellsE_take, cellsE_drop]
    exact own_kept hown ((Mods.refl (fun k => k = b) w2).setCell (fun _ => rfl) _) (fun k hk e => hgb (by rw [← e]; exact (Option.some.inj hk)))
  · obtain ⟨h1, h2, h3⟩ := h.ok x (List.mem_of_mem_eraseIdx hx)
    exact ⟨h1.keep hM h2, h2, h3⟩
  · rw [hlen]; have := h.le; omega

set_option maxRecDepth 100000 in
set_option maxHeartbeats 400000 in
theorem twice_out (B : Nat) (w : World) (b : Nat) (room : Int) (L : List E) (ao : Option Addr) (cap : Nat) (h : BagAt B w b room L ao cap) (i : Int) (hi : i < 0 ∨ (L.length : Int) ≤ i) :
    Calls Try.prog 9 #[.pointer (some ⟨b, 0, none⟩), .int .i64 i] w fun e w' => e = .returned (.bool false) ∧ Below w.heap.size w w' := by
  have HA := Lib.hid (at_out B w b room L ao cap h i hi)
  clear h hi
  go_enter Try.func9, Try.ntmps9
  go_wp2_with fail
  refine HA.out.mono ?_
  rintro e w1 ⟨rfl, b1⟩
  have hz := b1.size
  have HB := Lib.hid b1
  clear b1
  go_wp2_with fail
  go_ret
  exact ⟨rfl, HB.out.alloc hz _⟩

set_option maxRecDepth 100000 in
set_option maxHeartbeats 400000 in
theorem twice_full (B : Nat) (w : World) (b : Nat) (room : Int) (L : List E) (ao : Option Addr) (cap : Nat) (h : BagAt B w b room L ao cap) (i : Nat) (x : E) (hx : L[i]? = some x) (hr : room ≤ L.length) :
    Calls Try.prog 9 #[.pointer (some ⟨b, 0, none⟩), .int .i64 i] w fun e w' => e = .returned (.bool false) ∧ Below w.heap.size w w' := by
  have HA := Lib.hid (at_in B w b room L ao cap h i x hx)
  have HH := Lib.hid h
  clear h hx
  go_enter Try.func9, Try.ntmps9
  go_wp2_with fail
  refine HA.out.mono ?_
  rintro e w1 ⟨ao', cap', rfl, hbv, hfr, b1, _⟩
  have hz := b1.size
  have HB := Lib.hid b1
  have HH1 := Lib.hid (HH.out.below b1)
  clear b1 hbv hfr
  go_wp2_with fail
  refine (put_full B _ b room L ao cap (HH1.out.below ((Below.refl _ _).alloc (Nat.le_refl _) _)) _ _ _ hr).mono ?_
  rintro e w2 ⟨rfl, b2⟩
  have HB2 := Lib.hid ((HB.out.alloc hz _).trans (b2.mono (by simp; omega)))
  clear b2
  go_wp2_with fail
  go_ret
  exact ⟨rfl, HB2.out⟩

set_option maxRecDepth 100000 in
set_option maxHeartbeats 400000 in
theorem twice_in (B : Nat) (w : World) (b : Nat) (room : Int) (L : List E) (ao : Option Addr) (cap : Nat) (h : BagAt B w b room L ao cap) (i : Nat) (x : E) (hx : L[i]? = some x) (hr : (L.length : Int) < room) (hrm : room ≤ 4096) :
    Calls Try.prog 9 #[.pointer (some ⟨b, 0, none⟩), .int .i64 i] w fun e w' => e = .returned (.bool true) ∧ ∃ y ao' cap', (y.key = x.key ∧ BagAt B w' b room (L ++ [y]) ao' cap' ∧ ((∀ k, Foot b ao' k → Foot b ao k ∨ w.heap.size ≤ k) ∧ ∀ k, y.v.ownBlock = some k → w.heap.size ≤ k) ∧ Mods (Foot b ao) w w') := by
  have HA := Lib.hid (at_in B w b room L ao cap h i x hx)
  have HH := Lib.hid h
  have hxl := (h.ok x (List.mem_of_getElem? hx)).2.2
  clear h hx
  go_enter Try.func9, Try.ntmps9
  go_wp2_with fail
  refine HA.out.mono ?_
  rintro e w1 ⟨ao', cap', rfl, hbv, hfr, b1, _⟩
  have hz := b1.size
  have HB := Lib.hid b1
  have HH1 := Lib.hid (HH.out.below b1)
  have HV := Lib.hid hbv
  clear b1 hbv hfr
  go_wp2_with fail
  refine Calls.mono (put_any B _ b room L ao cap (HH1.out.below ((Below.refl _ _).alloc (Nat.le_refl _) _)) ⟨x.f, x.t, ao', cap', x.l⟩ (HV.out.keep ((Mods.refl (fun _ => False) w1).alloc _) (fun _ _ _ h => h)) hxl hr hrm) ?_
  rintro e w2 ⟨rfl, y, ao2, cap2, hk, hba, hft, hm⟩
  have HK := Lib.hid hk
  have HBA := Lib.hid hba
  have HFT := Lib.hid hft
  have HM := Lib.hid hm
  clear hk hba hft hm
  go_wp2_with fail
  go_ret
  refine ⟨rfl, y, ao2, cap2, HK.out, HBA.out, ⟨fun k hk => ?_, fun k hk => by have := HFT.out.2 k hk; simp at this; omega⟩, ?_⟩
  · rcases HFT.out.1 k hk with h | h
    · exact .inl h
    · simp at h; exact .inr (by omega)
  · exact ((Mods.of_below HB.out).alloc _).then HM.out (fun _ _ h => h)

set_option maxRecDepth 100000 in
set_option maxHeartbeats 400000 in
theorem take_out (B : Nat) (w : World) (b : Nat) (room : Int) (L : List E) (ao : Option Addr) (cap : Nat) (h : BagAt B w b room L ao cap) (i : Int) (hi : i < 0 ∨ (L.length : Int) ≤ i) :
    Calls Try.prog 11 #[.pointer (some ⟨b, 0, none⟩), .int .i64 i] w fun e w' => e = .returned (.tuple #[.agg #[.int .i64 0, .int .i64 0, .slice none 0 0], .bool false]) ∧ Below w.heap.size w w' := by
  have HA := Lib.hid (fun W hW => at_out B W b room L ao cap (h.below hW) i hi)
  clear h hi
  go_enter Try.func11, Try.ntmps11
  go_wp2_with fail
  refine Calls.mono (HA.out _ ((Below.refl _ _).alloc (Nat.le_refl _) _)) ?_
  rintro e w1 ⟨rfl, b1⟩
  have hz := b1.size
  have e2 : w1.heap[w.heap.size]? = some (.cells #[.int .i64 0, .int .i64 0, .slice none 0 0] 24 (0, 0)) := (b1.block _ (by simp)).trans (heap_alloc_new _ _)
  obtain ⟨⟨d0, d1, d2⟩, f2, s2⟩ := box3 e2
  have hz : w.heap.size < w1.heap.size := by simp at hz; omega
  have HB := Lib.hid (((Below.refl w.heap.size w).alloc (Nat.le_refl _) _).trans (b1.mono (by simp)))
  have HE := Lib.hid e2
  clear b1 e2
  go_wp2_with fail
  have hs3 : w.heap.size ≠ (((w1.setCell ⟨w.heap.size, 0, none⟩ (.int .i64 0)).setCell ⟨w.heap.size, 1, none⟩ (.int .i64 0)).setCell ⟨w.heap.size, 2, none⟩ (.slice none 0 0)).heap.size := by simp; omega
  refine ret_box w.heap.size #[.int .i64 0, .int .i64 0, .slice none 0 0] 24 (.tuple #[.agg #[.int .i64 0, .int .i64 0, .slice none 0 0], .bool false]) ?_ (fun W' h => ?_) rfl ?_
  · rw [heap_al, if_neg hs3]
    have a2 := heap_set _ _ 0 (.int .i64 0) w.heap.size _ _ _ HE.out
    rw [if_pos rfl] at a2
    have a3 := heap_set _ _ 1 (.int .i64 0) w.heap.size _ _ _ a2
    rw [if_pos rfl] at a3
    have a4 := heap_set _ _ 2 (.slice none 0 0) w.heap.size _ _ _ a3
    rw [if_pos rfl] at a4
    exact a4
  · obtain ⟨⟨r0, r1, r2⟩, _, _⟩ := box3 h
    simp [results, Try.results11, go_sem, r0, r1, r2]
  · exact ⟨rfl, (((HB.out.setCell (Nat.le_refl _) _).setCell (Nat.le_refl _) _).setCell (Nat.le_refl _) _).alloc (by simp; omega) _⟩

set_option maxRecDepth 100000 in
set_option maxHeartbeats 1000000 in
theorem take_in (B : Nat) (w : World) (b : Nat) (room : Int) (L : List E) (ao : Option Addr) (cap : Nat) (h : BagAt B w b room L ao cap) (i : Nat) (x : E) (hx : L[i]? = some x) :
    Calls Try.prog 11 #[.pointer (some ⟨b, 0, none⟩), .int .i64 i] w fun e w' => ∃ ao' cap', e = .returned (.tuple #[.agg #[.int .i64 x.f, .int .i64 x.t, .slice ao' x.l.length cap'], .bool true]) ∧ (BytesV w' (.slice ao' x.l.length cap') x.l ∧ (∀ a, ao' = some a → w.heap.size ≤ a.block) ∧ BagAt B w' b room (L.eraseIdx i) ao cap ∧ Mods (Foot b ao) w w') := by
  have hil : i < L.length := (List.getElem?_eq_some_iff.1 hx).1
  have hle := h.le
  obtain ⟨g, rfl, hg, _⟩ := rowcell h.own (by omega)
  have hb := (h.lt b (.inl rfl)).2
  have HA := Lib.hid (fun W hW => at_in B W b room L _ cap (h.below hW) i x hx)
  have HH := Lib.hid h
  have hgb : g ≠ b := h.ne _ rfl
  have hbg : b ≠ g := fun e => hgb e.symm
  clear h hx
  obtain ⟨f, t, ax, cx, l⟩ := x
  simp only at HA ⊢
  go_enter Try.func11, Try.ntmps11
  go_wp2_with fail
  refine Calls.mono (HA.out _ ((Below.refl _ _).alloc (Nat.le_refl _) _)) ?_
  rintro e w1 ⟨ao', cap', rfl, hbv, hfr, b1, _⟩
  have e2 : w1.heap[w.heap.size]? = some (.cells #[.int .i64 0, .int .i64 0, .slice none 0 0] 24 (0, 0)) := (b1.block _ (by simp)).trans (heap_alloc_new _ _)
  have hz : w.heap.size < w1.heap.size := by have := b1.size; simp at this; omega
  have HB := Lib.hid (((Below.refl w.heap.size w).alloc (Nat.le_refl _) _).trans (b1.mono (by simp)))
  have HE := Lib.hid e2
  have HV := Lib.hid hbv
  have HF := Lib.hid (show ∀ a, ao' = some a → w.heap.size < a.block from fun a ha => by have := hfr a ha; simp at this; omega)
  have HH1 := Lib.hid (HH.out.below HB.out)
  obtain ⟨⟨c0, _⟩, _, _⟩ := box2 HH1.out.blk
  have hb1 : b < w1.heap.size := by omega
  clear b1 e2 hbv hfr
  go_wp2_with fail
  refine Calls.mono (delete_any B _ g L.length cap (cellsE L) i (HH1.out.own.alloc _) (cellsE_one L) hil) ?_
  rintro e w2 ⟨rfl, hown, hm⟩
  have e3 : w2.heap[w.heap.size]? = some (.cells #[.int .i64 0, .int .i64 0, .slice none 0 0] 24 (0, 0)) := hm.heap (by rw [Below.heap_alloc _ _ _ hz]; exact HE.out) (fun e => by omega)
  have e4 : w2.heap[w1.heap.size]? = some (.cells #[.int .i64 f, .int .i64 t, .slice ao' l.length cap'] 24 (0, 0)) := hm.heap (heap_alloc_new w1 _) (fun e => by omega)
  have e5 : w2.heap[b]? = some (.cells #[.slice (some ⟨g, 0, none⟩) L.length cap, .int .i64 room] 46 (0, 0)) := hm.heap (by rw [Below.heap_alloc _ _ _ (by omega)]; exact HH1.out.blk) (fun e => by omega)
  obtain ⟨⟨d0, d1, d2⟩, f3, _⟩ := box3 e3
  obtain ⟨⟨k0, k1, k2⟩, _, _⟩ := box3 e4
  obtain ⟨⟨x0, _⟩, f5, _⟩ := box2 e5
  have hz2 : w1.heap.size < w2.heap.size := by have := hm.size; simp at this; omega
  have HM := Lib.hid hm
  have HO := Lib.hid hown
  have HE3 := Lib.hid e3
  have n1 : w.heap.size ≠ b := by omega
  have n2 : w1.heap.size ≠ b := by omega
  clear hm hown e3 e4 e5
  go_wp2_with fail
  refine ret_box w.heap.size #[.int .i64 f, .int .i64 t, .slice ao' l.length cap'] 24 (.tuple #[.agg #[.int .i64 f, .int .i64 t, .slice ao' l.length cap'], .bool true]) ?_ (fun W' h => ?_) rfl ?_
  · have a1 := (Below.heap_setCell w2 ⟨b, 0, none⟩ (.slice (some ⟨g, 0, none⟩) (L.length - 1) cap) w.heap.size n1).trans HE3.out
    have a2 := heap_set _ _ 0 (.int .i64 f) w.heap.size _ _ _ a1
    rw [if_pos rfl] at a2
    have a3 := heap_set _ _ 1 (.int .i64 t) w.heap.size _ _ _ a2
    rw [if_pos rfl] at a3
    have a4 := heap_set _ _ 2 (.slice ao' l.length cap') w.heap.size _ _ _ a3
    rw [if_pos rfl] at a4
    exact a4
  · obtain ⟨⟨r0, r1, r2⟩, _, _⟩ := box3 h
    simp [results, Try.results11, go_sem, r0, r1, r2]
  · have hcut := HH.out.cut (w2 := w2) hil HO.out (((Mods.of_below HB.out).alloc _).then HM.out (fun _ _ h => h))
    have hM3 : Mods (fun k => k = w.heap.size) (w2.setCell ⟨b, 0, none⟩ (.slice (some ⟨g, 0, none⟩) (L.length - 1) cap)) ((((w2.setCell ⟨b, 0, none⟩ (.slice (some ⟨g, 0, none⟩) (L.length - 1) cap)).setCell ⟨w.heap.size, 0, none⟩ (.int .i64 f)).setCell ⟨w.heap.size, 1, none⟩ (.int .i64 t)).setCell ⟨w.heap.size, 2, none⟩ (.slice ao' l.length cap')) :=
      (((Mods.refl (fun k => k = w.heap.size) _).setCell (fun _ => rfl) _).setCell (fun _ => rfl) _).setCell (fun _ => rfl) _
    have hfoot := HH.out.lt
    have hM1 : Mods (fun k => Foot b (some ⟨g, 0, none⟩) k ∨ w.heap.size = k) w1 ((((w2.setCell ⟨b, 0, none⟩ (.slice (some ⟨g, 0, none⟩) (L.length - 1) cap)).setCell ⟨w.heap.size, 0, none⟩ (.int .i64 f)).setCell ⟨w.heap.size, 1, none⟩ (.int .i64 t)).setCell ⟨w.heap.size, 2, none⟩ (.slice ao' l.length cap')) :=
      ((((((Mods.refl _ w1).alloc _).then HM.out (fun k _ h => .inl (.inr ⟨_, rfl, h⟩))).setCell (fun _ => .inl (.inl rfl)) _).setCell (fun _ => .inr rfl) _).setCell (fun _ => .inr rfl) _).setCell (fun _ => .inr rfl) _
    refine ⟨ao', cap', rfl, HV.out.keep hM1 ?_, fun a ha => Nat.le_of_lt (HF.out a ha), hcut.keep hM3 ?_ ?_, ?_⟩
    · intro k hk _ hh
      cases ao' with
      | none => cases hk
      | some a =>
        have h1 := HF.out a rfl
        have e : a.block = k := Option.some.inj hk
        rcases hh with hh | hh
        · have := (hfoot k hh).2; omega
        · omega
    · rintro k rfl hF; have := (hfoot _ hF).2; omega
    · rintro y hy k hk hne rfl
      have hy2 := HH.out.ok y (List.mem_of_mem_eraseIdx hy)
      have := hy2.1.lt _ hk hne; omega
    · refine Mods.then (T := fun k => Foot b (some ⟨g, 0, none⟩) k ∨ w.heap.size = k) (Mods.of_below HB.out) hM1 (fun k hk h => ?_)
      rcases h with h | h
      · exact h
      · omega
end Go.Proofs.Ytngackbgcknphaa.B
