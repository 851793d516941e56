/- Contracts: At, Put. -/
import Derived.Test.YtngackbgcknphaaBagB
namespace Go.Proofs.Ytngackbgcknphaa.B
open Go.RowKit M
set_option linter.unusedVariables false

theorem rowcell {w : World} {B n : Nat} {e : TypeId} {size : Nat} {ao : Option Addr} {cap : Nat} {xs : List Value} (h : w.ownsRow B e size (.slice ao n cap) n xs) (hn : 0 < n) :
    ∃ g, ao = some ⟨g, 0, none⟩ ∧ g < w.heap.size ∧ ∀ j u, xs[j]? = some u → w.cell? ⟨g, j, none⟩ = some u ∧ w.frozen? ⟨g, j, none⟩ = false := by
  rcases h.2 with ⟨_, h0⟩ | ⟨g, c, cur, e0, hb, hg, hnc, hm, hs, ht⟩
  · omega
  · cases e0
    refine ⟨g, rfl, (Array.getElem?_eq_some_iff.1 hg).1, fun j u hu => ⟨?_, by simp [World.frozen?, hg]⟩⟩
    rw [cell_of_row w g j cur e (0, 0) hg, ← Array.getElem?_toList]
    rw [← ht, List.getElem?_take] at hu
    split at hu
    · exact hu
    · cases hu

set_option maxRecDepth 100000 in
set_option maxHeartbeats 400000 in
theorem at_out (B : Nat) (w : World) (b : Nat) (room : Int) (L : List E) (ao : Option Addr) (cap : Nat) (h : BagAt B w b room L ao cap) (i : Int) (hi : i < 0 ∨ (L.length : Int) ≤ i) :
    Calls Try.prog 10 #[.pointer (some ⟨b, 0, none⟩), .int .i64 i] w fun e w' => e = .returned (.tuple #[.agg #[.int .i64 0, .int .i64 0, .slice none 0 0], .bool false]) ∧ Below w.heap.size w w' := by
  obtain ⟨⟨c0, c1⟩, _, _⟩ := box2 h.blk
  have hb := (Array.getElem?_eq_some_iff.1 h.blk).1
  clear h
  by_cases h0 : i < 0
  · clear hi
    go_enter Try.func10, Try.ntmps10
    go_wp2_with fail
    exact bodyPost_ret (v := .tuple #[.agg #[.int .i64 0, .int .i64 0, .slice none 0 0], .bool false]) (by simp [results, Try.results10, go_sem]) rfl ⟨rfl, (Below.refl _ _).alloc (Nat.le_refl _) _⟩
  · have h1 : (L.length : Int) ≤ i := by omega
    clear hi
    go_enter Try.func10, Try.ntmps10
    go_wp2_with fail
    exact bodyPost_ret (v := .tuple #[.agg #[.int .i64 0, .int .i64 0, .slice none 0 0], .bool false]) (by simp [results, Try.results10, go_sem]) rfl ⟨rfl, (Below.refl _ _).alloc (Nat.le_refl _) _⟩

set_option maxRecDepth 100000 in
set_option maxHeartbeats 400000 in
theorem at_in (B : Nat) (w : World) (b : Nat) (room : Int) (L : List E) (ao : Option Addr) (cap : Nat) (h : BagAt B w b room L ao cap) (i : Nat) (x : E) (hx : L[i]? = some x) :
    Calls Try.prog 10 #[.pointer (some ⟨b, 0, none⟩), .int .i64 i] w fun e w' => ∃ ao' cap', e = .returned (.tuple #[.agg #[.int .i64 x.f, .int .i64 x.t, .slice ao' x.l.length cap'], .bool true]) ∧ (BytesV w' (.slice ao' x.l.length cap') x.l ∧ (∀ a, ao' = some a → w.heap.size ≤ a.block) ∧ Below w.heap.size w w' ∧ Thaw w' ao') := by
  obtain ⟨⟨c0, c1⟩, _, _⟩ := box2 h.blk
  have hb := (Array.getElem?_eq_some_iff.1 h.blk).1
  have hil : i < L.length := (List.getElem?_eq_some_iff.1 hx).1
  have hle := h.le
  obtain ⟨g, rfl, hg, hcell⟩ := rowcell h.own (by omega)
  obtain ⟨k0, k1, k2⟩ := cellsE_get L i x hx
  have r0 := (hcell _ _ k0).1
  have r1 := (hcell _ _ k1).1
  have r2 := (hcell _ _ k2).1
  have hok := h.ok x (List.mem_of_getElem? hx)
  have HC := Lib.hid (fun W hW => copy_any x.f x.t x.ao x.cap x.l W (by have := hok.2.2; omega) hW)
  have HV := Lib.hid hok.1
  have hi0 : ¬ (i : Int) < 0 := by omega
  have hi1 : ¬ (L.length : Int) ≤ (i : Int) := by omega
  have hi2 : (i : Int) < (L.length : Int) := by omega
  clear h hcell k0 k1 k2 hok hx
  obtain ⟨f, t, ax, cx, l⟩ := x
  simp only at r0 r1 r2 HC HV ⊢
  go_enter Try.func10, Try.ntmps10
  go_wp2_with fail
  refine Calls.mono (HC.out _ ?_) ?_
  · exact HV.out.keep ((Mods.refl (fun _ => False) w).alloc _) (fun _ _ _ h => h)
  rintro e w1 ⟨ao', cap', rfl, hbv, hfr, bel, thw⟩
  have e2 : w1.heap[w.heap.size]? = some (.cells #[.int .i64 0, .int .i64 0, .slice none 0 0] 24 (0, 0)) := (bel.block _ (by simp)).trans (heap_alloc_new _ _)
  obtain ⟨⟨d0, d1, d2⟩, f2, s2⟩ := box3 e2
  have hz : w.heap.size < w1.heap.size := by have := bel.size; simp at this; omega
  have HE2 := Lib.hid e2
  have HB := Lib.hid bel
  have HV2 := Lib.hid hbv
  have HF := Lib.hid hfr
  have HTW := Lib.hid thw
  clear hbv hfr bel e2 thw
  go_wp2_with fail
  refine ret_box w.heap.size #[.int .i64 f, .int .i64 t, .slice ao' l.length cap'] 24 (.tuple #[.agg #[.int .i64 f, .int .i64 t, .slice ao' l.length cap'], .bool true]) ?_ (fun W' h => ?_) rfl ?_
  · have a2 := heap_set _ _ 0 (.int .i64 f) w.heap.size _ _ _ HE2.out
    rw [if_pos rfl] at a2
    have a3 := heap_set _ _ 1 (.int .i64 t) w.heap.size _ _ _ a2
    rw [if_pos rfl] at a3
    have a4 := heap_set _ _ 2 (.slice ao' l.length cap') w.heap.size _ _ _ a3
    rw [if_pos rfl] at a4
    exact a4
  · obtain ⟨⟨r0, r1, r2⟩, _, _⟩ := box3 h
    simp [results, Try.results10, go_sem, r0, r1, r2]
  · have hM : Mods (fun k => k = w.heap.size) w1 (((w1.setCell ⟨w.heap.size, 0, none⟩ (.int .i64 f)).setCell ⟨w.heap.size, 1, none⟩ (.int .i64 t)).setCell ⟨w.heap.size, 2, none⟩ (.slice ao' l.length cap')) :=
      (((Mods.refl (fun k => k = w.heap.size) w1).setCell (fun _ => rfl) _).setCell (fun _ => rfl) _).setCell (fun _ => rfl) _
    refine ⟨ao', cap', rfl, HV2.out.keep hM ?_, fun a ha => ?_, ?_, HTW.out.keep hM (fun a ha hh => by have := HF.out a ha; simp at this; omega)⟩
    · intro k hk _ hh
      cases ao' with
      | none => cases hk
      | some a =>
        have := HF.out a rfl
        have e := Option.some.inj hk
        simp at this
        omega
    · have := HF.out a ha; simp at this; omega
    · have h0 : Mods (fun k => w.heap.size ≤ k) w w1 := ((Mods.refl _ w).alloc _).trans (Mods.of_below HB.out)
      exact (h0.trans (hM.mono fun k _ h => Nat.le_of_eq h.symm)).below (fun k h => h) (Nat.le_refl _)

theorem info_env : (Try.prog.info? 24).map (fun i => (i.zero, i.size, i.bytes)) = some (some (.agg #[.int .i64 0, .int .i64 0, .slice none 0 0]), 3, 40) := by kernel_rfl

set_option maxRecDepth 100000 in
set_option maxHeartbeats 400000 in
theorem put_full (B : Nat) (w : World) (b : Nat) (room : Int) (L : List E) (ao : Option Addr) (cap : Nat) (h : BagAt B w b room L ao cap) (x : Value) (f t : Int) (hr : room ≤ L.length) :
    Calls Try.prog 8 #[.pointer (some ⟨b, 0, none⟩), .agg #[.int .i64 f, .int .i64 t, x]] w fun e w' => e = .returned (.bool false) ∧ Below w.heap.size w w' := by
  obtain ⟨⟨c0, c1⟩, _, _⟩ := box2 h.blk
  have hb := (Array.getElem?_eq_some_iff.1 h.blk).1
  clear h
  go_enter Try.func8, Try.ntmps8
  go_wp2_with fail
  go_quiet (fail)
  go_wp2_with fail
  go_ret
  exact ⟨rfl, Go.below_drewN ((Below.refl _ _).alloc (Nat.le_refl _) _) _⟩

theorem put_end {B : Nat} {w w1 w2 : World} {b : Nat} {room : Int} {L : List E} {ao : Option Addr} {cap : Nat} {f t : Int} {l : List UInt8} {ao' : Option Addr} {cap' gg cg : Nat} {bx : Obj}
    (h : BagAt B w b room L ao cap) (hM1 : Mods (fun _ => False) w w1) (hbv : BytesV w1 (.slice ao' l.length cap') l) (hfr : ∀ a, ao' = some a → w.heap.size ≤ a.block) (hl : l.length ≤ 100) (hL : L.length < 4096)
    (hown : w2.ownsRow B 24 3 (.slice (some ⟨gg, 0, none⟩) (L.length + 1) cg) (L.length + 1) (cellsE L ++ [.int .i64 f, .int .i64 t, .slice ao' l.length cap']))
    (hg : (w1.alloc bx).grownBy w2 (Value.slice ao L.length cap).ownBlock) (hat : (Value.slice ao L.length cap).ownBlock = some gg ∨ gg = w1.heap.size + 1) :
    ∃ y ao2 cap2, (y.key = (f, t, l) ∧ BagAt B (w2.setCell ⟨b, 0, none⟩ (.slice (some ⟨gg, 0, none⟩) (L.length + 1) cg)) b room (L ++ [y]) ao2 cap2 ∧ ((∀ k, Foot b ao2 k → Foot b ao k ∨ w.heap.size ≤ k) ∧ ∀ k, y.v.ownBlock = some k → w.heap.size ≤ k) ∧ Mods (Foot b ao) w (w2.setCell ⟨b, 0, none⟩ (.slice (some ⟨gg, 0, none⟩) (L.length + 1) cg))) := by
  have hbl := (Array.getElem?_eq_some_iff.1 h.blk).1
  have hsz := hM1.size
  have hrow : ∀ k, (Value.slice ao L.length cap).ownBlock = some k → Foot b ao k ∧ k ≠ b := by
    intro k hk
    cases ao with
    | none => cases hk
    | some a =>
      have e := Option.some.inj hk
      exact ⟨.inr ⟨a, rfl, e.symm⟩, fun e2 => h.ne a rfl (e.trans e2)⟩
  have hlt : ∀ k, Foot b ao k → k < w.heap.size := fun k hk => (h.lt k hk).2
  have hgb : gg ≠ b := by
    rcases hat with h1 | h1
    · exact (hrow gg h1).2
    · omega
  have hgf : Foot b ao gg ∨ w.heap.size ≤ gg := by
    rcases hat with h1 | h1
    · exact .inl (hrow gg h1).1
    · exact .inr (by omega)
  have hM2 : Mods (Foot b ao) w w2 := ((hM1.mono (fun _ _ h => h.elim)).alloc bx).grown hg (fun k hk _ => (hrow k hk).1)
  have hM : Mods (Foot b ao) w (w2.setCell ⟨b, 0, none⟩ (.slice (some ⟨gg, 0, none⟩) (L.length + 1) cg)) := hM2.setCell (fun _ => .inl rfl) _
  have hM12 : Mods (Foot b ao) w1 (w2.setCell ⟨b, 0, none⟩ (.slice (some ⟨gg, 0, none⟩) (L.length + 1) cg)) :=
    (((Mods.refl _ w1).alloc bx).grown hg (fun k hk _ => (hrow k hk).1)).setCell (fun _ => .inl rfl) _
  have hblk2 : w2.heap[b]? = some (.cells #[.slice ao L.length cap, .int .i64 room] 46 (0, 0)) := by
    rw [hg.block b (by simp; omega) (fun e => (hrow b e.symm).2 rfl), Below.heap_alloc _ _ _ (by omega)]
    exact hM1.heap h.blk (fun h => h)
  have hb1 : ∀ k, (E.v ⟨f, t, ao', cap', l⟩).ownBlock = some k → w.heap.size ≤ k := fun k hk => by
    cases ao' with
    | none => cases hk
    | some a => have := hfr a rfl; have e := Option.some.inj hk; omega
  refine ⟨⟨f, t, ao', cap', l⟩, some ⟨gg, 0, none⟩, cg, rfl, ⟨?_, ?_, ?_, h.lo, ?_, ?_⟩, ⟨?_, hb1⟩, hM⟩
  · have := heap_set w2 b 0 (.slice (some ⟨gg, 0, none⟩) (L.length + 1) cg) b _ _ _ hblk2
    rw [if_pos rfl] at this
    rw [this]
    simp
  · rw [List.length_append, cellsE_append]
    exact own_kept hown ((Mods.refl (fun k => k = b) w2).setCell (fun _ => rfl) _) (fun k hk e => hgb (by rw [← e]; exact (Option.some.inj hk)))
  · intro a ha e
    exact hgb (by rw [← e, ← Option.some.inj ha])
  · intro x hx
    rcases List.mem_append.1 hx with hx | hx
    · obtain ⟨h1, h2, h3⟩ := h.ok x hx
      refine ⟨h1.keep hM h2, fun k hk hne hF => ?_, h3⟩
      have hk2 := h1.lt k hk hne
      rcases hF with rfl | ⟨a, ha, rfl⟩
      · exact h2 _ hk hne (.inl rfl)
      · obtain rfl := Option.some.inj ha
        rcases hgf with h4 | h4
        · exact h2 _ hk hne h4
        · simp at hk2; omega
    · obtain rfl := List.mem_singleton.1 hx
      refine ⟨hbv.keep hM12 (fun k hk _ hF => ?_), fun k hk hne hF => ?_, hl⟩
      · have := hb1 k hk; have := hlt k hF; omega
      · have h5 := hb1 k hk
        have h6 := hbv.lt k hk hne
        rcases hF with rfl | ⟨a, ha, rfl⟩
        · omega
        · obtain rfl := Option.some.inj ha
          simp at h5 h6
          rcases hat with h1 | h1
          · have := hlt gg (hrow gg h1).1; omega
          · omega
  · rw [List.length_append]; simp; omega
  · rintro k (rfl | ⟨a, ha, rfl⟩)
    · exact .inl (.inl rfl)
    · obtain rfl := Option.some.inj ha
      exact hgf

set_option maxRecDepth 100000 in
set_option maxHeartbeats 1000000 in
theorem put_any (B : Nat) (w : World) (b : Nat) (room : Int) (L : List E) (ao : Option Addr) (cap : Nat) (h : BagAt B w b room L ao cap) (x : E) (hx : BytesV w x.v x.l) (hxl : x.l.length ≤ 100) (hr : (L.length : Int) < room) (hrm : room ≤ 4096) :
    Calls Try.prog 8 #[.pointer (some ⟨b, 0, none⟩), .agg #[.int .i64 x.f, .int .i64 x.t, .slice x.ao x.l.length x.cap]] w fun e w' => e = .returned (.bool true) ∧ ∃ y ao' cap', (y.key = x.key ∧ BagAt B w' b room (L ++ [y]) ao' cap' ∧ ((∀ k, Foot b ao' k → Foot b ao k ∨ w.heap.size ≤ k) ∧ ∀ k, y.v.ownBlock = some k → w.heap.size ≤ k) ∧ Mods (Foot b ao) w w') := by
  obtain ⟨i0, hi, hz0, hz1, hz2⟩ := info_parts info_env
  obtain ⟨⟨c0, c1⟩, fz, _⟩ := box2 h.blk
  have hb := (Array.getElem?_eq_some_iff.1 h.blk).1
  have HH := Lib.hid h
  have HC := Lib.hid (fun W hW => copy_any x.f x.t x.ao x.cap x.l W (by omega) hW)
  have HV := Lib.hid hx
  clear h hx
  obtain ⟨f, t, ax, cx, l⟩ := x
  simp only at HC HV hxl ⊢
  go_enter Try.func8, Try.ntmps8
  go_wp2_with fail
  go_quiet (fail)
  go_wp2_with fail
  obtain ⟨W0, hW0⟩ : ∃ W0, W0 = (w.alloc (.cells #[.int .i64 f, .int .i64 t, .slice ax l.length cx] 24)).drewN nq := ⟨_, rfl⟩
  have hM0 : Mods (fun _ => False) w W0 := by rw [hW0]; exact (((Mods.refl _ w).alloc _).drewN nq)
  have hsz : W0.heap.size = w.heap.size + 1 := by rw [hW0]; show (w.alloc _).heap.size = _; simp
  have hbox : W0.heap[w.heap.size]? = some (.cells #[.int .i64 f, .int .i64 t, .slice ax l.length cx] 24 (0, 0)) := by rw [hW0]; exact heap_alloc_new w _
  rw [← hW0]
  obtain ⟨⟨d0, d1, d2⟩, _, _⟩ := box3 hbox
  have hBA : BagAt B W0 b room L ao cap := HH.out.keep hM0 (fun _ h => h.elim) (fun _ _ _ _ _ h => h)
  have HB0 := Lib.hid hBA
  have HVd := Lib.hid (show BytesV W0.drew (.slice ax l.length cx) l from HV.out.keep hM0.drew (fun _ _ _ h => h))
  obtain ⟨⟨x0, x1⟩, _, _⟩ := box2 hBA.blk
  have hbW : b < W0.heap.size := by omega
  have hlo := HH.out.lo
  have HM0 := Lib.hid hM0
  have HZ := Lib.hid hsz
  have HNE := Lib.hid (show some b ≠ (Value.slice ao L.length cap).ownBlock from fun e => by
    cases ao with
    | none => cases e
    | some a => exact HB0.out.ne a rfl (Option.some.inj e).symm)
  clear hW0 hBA hM0 hbox c0 c1 fz hsz
  go_region_law (first
    | (go_simp; go_at_call 18; refine (HC.out _ HVd.out).mono ?_; rintro e w1 ⟨ao', cap', rfl, hbv, hfr, bel, _⟩;
        have HM1 := Lib.hid (HM0.out.drew.trans (Mods.of_below bel)); have HB1 := Lib.hid (HH.out.keep HM1.out (fun _ h => h.elim) (fun _ _ _ _ _ h => h)); have HO1 := Lib.hid HB1.out.own;
        have hb1 := (Array.getElem?_eq_some_iff.1 HB1.out.blk).1; have u0 := (box2 HB1.out.blk).1.1; have u1 := (box2 HB1.out.blk).2.1 0; have HP := Lib.hid (And.intro hbv (And.intro hfr bel)); clear hbv hfr bel)
    | (refine step_append_lies _ (by rfl) (.tmp 19) (.tmp 22) 33 (by rfl) B 24 i0 _ 3 40 Try.underlying33 hi hz0 hz1 hz2 rfl (by omega) (.slice ao L.length cap) L.length (cellsE L) (by rfl) (HO1.out.alloc _) ⟨w1.heap.size, 0, none⟩ 1 1 [.int .i64 f, .int .i64 t, .slice ao' l.length cap'] (by rfl) (by rfl) (World.news_of_block (cs := #[.int .i64 f, .int .i64 t, .slice ao' l.length cap']) (t := 24) (fr := (0, 0)) (heap_alloc_new w1 _)) (by simp [Value.oneCell']) (by omega) (by unfold maxLen; omega) (by omega) (by simp; omega) (w1.heap.size + 1) (by simp) ?_; intro gg cg w2 hown2 hgrow2 hat hlt; have HG := Lib.hid (And.intro hown2 (And.intro hgrow2 hat)); have y1 := hgrow2.cell_far ⟨b, 0, none⟩ (by simp; omega) (HNE.out); have y2 := hgrow2.frozen_far ⟨b, 0, none⟩ (by simp; omega) (HNE.out); clear hown2 hgrow2 hat))
  all_goals
    go_wp2_with fail
    go_ret
    exact ⟨rfl, put_end HH.out HM1.out HP.out.1 (fun a ha => by have := HP.out.2.1 a ha; have e := HZ.out; simp at this; omega) hxl (by omega) HG.out.1 HG.out.2.1 HG.out.2.2⟩
end Go.Proofs.Ytngackbgcknphaa.B
