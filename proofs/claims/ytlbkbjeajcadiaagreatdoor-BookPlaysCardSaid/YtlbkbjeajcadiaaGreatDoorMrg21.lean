/- Several texts in one. -/
import Derived.Test.YtlbkbjeajcadiaaGreatDoorMrg18
import Derived.Test.YtlbkbjeajcadiaaGreatDoorMrg10
import Derived.Test.YtlbkbjeajcadiaaGreatDoorAppC
import Derived.WalkSpells
import Derived.Test.YtlbkbjeajcadiaaGreatDoorMrg20

/- The index in memory: New, isWide, Drop. -/
namespace Go.Proofs.YtlbkbjeajcadiaaGreatDoor.B
open Go.RowKit Go.Proofs.YtlbkbjeajcadiaaGreatDoor.M Go.BigFrame Go.Maps Go.Proofs.YtlbkbjeajcadiaaGreatDoor.O Go.Proofs.YtlbkbjeajcadiaaGreatDoor.P Go.Proofs.YtlbkbjeajcadiaaGreatDoor.Mp
set_option linter.unusedVariables false
set_option linter.unusedSimpArgs false

/-- an index in memory; F has the blocks that it turns -/
def Ix (w : World) (x n : Nat) (A : List (O.Id × En)) (F : Nat → Prop) : Prop :=
  ∃ KM CM G GW ba bk bc bw, IxAt w x n A KM CM G GW ba bk bc bw ∧ (∀ j, IxF KM CM ba bk bc bw j → F j) ∧ ¬ F x ∧ ∀ j, F j → j < w.heap.size
section
variable {w w1 : World} {x n : Nat} {A : List (O.Id × En)} {F : Nat → Prop}
theorem Ix.keep {S : Nat → Prop} (h : Ix w x n A F) (hm : Mods S w w1) (hx : ¬ S x) (hn : ∀ j, F j → ¬ S j) : Ix w1 x n A F := by
  obtain ⟨KM, CM, G, GW, ba, bk, bc, bw, h1, h2, h3, h4⟩ := h
  exact ⟨KM, CM, G, GW, ba, bk, bc, bw, ⟨h1.m.keep hm hx (fun j hj => hn j (h2 j hj)), h1.pl⟩, h2, h3, fun j hj => Nat.lt_of_lt_of_le (h4 j hj) hm.size⟩
theorem Ix.below (h : Ix w x n A F) (hb : Below w.heap.size w w1) : Ix w1 x n A F :=
  h.keep (S := fun _ => False) (Mods.of_below hb) (fun h => h) (fun _ _ h => h)
theorem Ix.lt (h : Ix w x n A F) : x < w.heap.size := by
  obtain ⟨KM, CM, G, GW, ba, bk, bc, bw, h1, h2, h3, h4⟩ := h
  exact h1.m.xlt
theorem Ix.nd (h : Ix w x n A F) : (A.map Prod.fst).Nodup := by
  obtain ⟨KM, CM, G, GW, ba, bk, bc, bw, h1, h2, h3, h4⟩ := h
  exact h1.pl.na
theorem Ix.len (h : Ix w x n A F) : A.length ≤ n := by
  obtain ⟨KM, CM, G, GW, ba, bk, bc, bw, h1, h2, h3, h4⟩ := h
  exact h1.m.all.len_le
theorem Ix.nx (h : Ix w x n A F) : ¬ F x := by
  obtain ⟨KM, CM, G, GW, ba, bk, bc, bw, h1, h2, h3, h4⟩ := h
  exact h3
theorem Ix.flt (h : Ix w x n A F) : ∀ j, F j → j < w.heap.size := by
  obtain ⟨KM, CM, G, GW, ba, bk, bc, bw, h1, h2, h3, h4⟩ := h
  exact h4
end
set_option maxRecDepth 100000 in
set_option maxHeartbeats 4000000 in
theorem ixnew_any (w : World) :
    Calls Tryz.prog 27 #[] w fun e w' => ∃ x F, e = .returned (.pointer (some ⟨x, 0, none⟩)) ∧ (Ix w' x 0 [] F ∧ (∀ j, F j → w.heap.size ≤ j) ∧ w.heap.size ≤ x ∧ Below w.heap.size w w') := by
  have hmm := @run_makeMap Tryz.prog
  go_enter Tryz.func27, Tryz.ntmps27
  go_wp2_with fail
  go_ret
  have b1 : Below w.heap.size w (w.alloc (.map #[] 0)) := (Below.refl _ _).alloc (Nat.le_refl _) _
  have b2 : Below w.heap.size w ((w.alloc (.map #[] 0)).alloc (.map #[] 0)) := b1.alloc (by simp) _
  have b3 := b2.alloc (by simp; omega) (.map #[] 0)
  have b4 := b3.alloc (by simp; omega) (.map #[] 0)
  have m0 := MapL.made (S := sAE) w
  have m1 := MapL.made (S := sKG) (w.alloc (.map #[] 0))
  have m2 := MapL.made (S := sCG) ((w.alloc (.map #[] 0)).alloc (.map #[] 0))
  have m3 := MapL.made (S := sGB) (((w.alloc (.map #[] 0)).alloc (.map #[] 0)).alloc (.map #[] 0))
  simp only [World.size_alloc] at m0 m1 m2 m3
  refine ⟨w.heap.size + 4, fun j => j ∈ [w.heap.size, w.heap.size + 1, w.heap.size + 2, w.heap.size + 3], rfl, ⟨[], [], fun _ => [], [], w.heap.size, w.heap.size + 1, w.heap.size + 2, w.heap.size + 3, ⟨⟨?_, ?_, ?_, ?_, ?_, ?_, ?_, ?_⟩, IxP.nil⟩, ?_, ?_, ?_⟩, ?_, by omega, b4.alloc (by simp; omega) _⟩
  · rw [heap_al, if_pos (by simp)]
  · refine MapL.below m0 ?_
    exact ((((Below.refl _ _).alloc (by simp) _).alloc (by simp) _).alloc (by simp) _).alloc (by simp) _
  · refine MapL.below m1 ?_
    exact (((Below.refl _ _).alloc (by simp) _).alloc (by simp) _).alloc (by simp) _
  · refine MapL.below m2 ?_
    exact ((Below.refl _ _).alloc (by simp) _).alloc (by simp) _
  · refine MapL.below m3 ?_
    exact (Below.refl _ _).alloc (by simp) _
  · intro p hp; cases hp
  · intro p hp; cases hp
  · simp
  · intro j hj; simpa [IxF] using hj
  · simp
  · intro j hj
    simp only [List.mem_cons, List.mem_nil_iff, or_false] at hj
    simp only [World.size_alloc]
    omega
  · intro j hj
    simp only [List.mem_cons, List.mem_nil_iff, or_false] at hj
    omega
set_option maxRecDepth 100000 in
set_option maxHeartbeats 4000000 in
theorem wide_any (c : Cmd) (w : World) (v : Bool) (hv : wideB c = v) : Calls Tryz.prog 87 #[cmdV c] w fun e w' => e = .returned (.bool v) ∧ Below w.heap.size w w' := by
  have HV := Lib.hid hv
  clear hv
  go_enter Tryz.func87, Tryz.ntmps87
  go_upto_region 1 with fail
  obtain ⟨W, hW⟩ : ∃ W, W = w.alloc (.cells (cmdA c) 24) := ⟨_, rfl⟩
  rw [← hW]
  have HB : Hid (Below w.heap.size w W) := Lib.hid (by rw [hW]; exact (Below.refl _ _).alloc (Nat.le_refl _) _)
  have hc : W.heap[w.heap.size]? = some (.cells (cmdA c) 24 (0, 0)) := by rw [hW]; exact heap_alloc_new w _
  clear hW
  obtain ⟨⟨c0, _⟩, _⟩ := box6 hc
  clear hc
  cases h5 : (c.kind == 5) with
  | true =>
    have HE := Lib.hid (show v = true by rw [← HV.out]; unfold wideB; simp only [beq_iff_eq] at h5; simp [h5])
    go_wp2_with fail
    go_ret
    exact ⟨by rw [HE.out]; rfl, HB.out⟩
  | false =>
    cases h6 : (c.kind == 6) with
    | true =>
      have HE := Lib.hid (show v = true by rw [← HV.out]; unfold wideB; simp only [beq_iff_eq] at h6; simp [h6])
      go_wp2_with fail
      go_ret
      exact ⟨by rw [HE.out]; rfl, HB.out⟩
    | false =>
      have HE := Lib.hid (show v = false by
        rw [← HV.out]; unfold wideB
        simp only [beq_eq_false_iff_ne, ne_eq] at h5 h6
        simp [h5, h6])
      go_wp2_with fail
      go_ret
      exact ⟨by rw [HE.out]; rfl, HB.out⟩
theorem kfind {κ : Type} [DecidableEq κ] {L : List (κ × Nat)} (hn : (L.map Prod.fst).Nodup) {k : κ} {b : Nat} (h : (k, b) ∈ L) : lookD (L.map fun p => (p.1, some p.2)) k none = some b := by
  unfold lookD
  rw [findD_of (L := L.map fun p => (p.1, some p.2)) (k := k) (v := some b) (by rw [List.map_map]; exact hn) (List.mem_map.2 ⟨_, h, rfl⟩)]
  rfl
theorem kfind_none {κ : Type} [DecidableEq κ] {L : List (κ × Nat)} {k : κ} (h : k ∉ L.map Prod.fst) : lookD (L.map fun p => (p.1, some p.2)) k none = none := by
  unfold lookD
  rw [findD_none.2 (by rw [List.map_map]; exact h)]
  rfl
set_option maxRecDepth 100000 in
set_option maxHeartbeats 4000000 in
theorem drop_at (x n : Nat) (A : List (O.Id × En)) (KM : List (ByteArray × Nat)) (CM : List (Int × Nat)) (G : Nat → List (O.Id × Bool)) (GW : List (O.Id × Bool)) (ba bk bc bw : Nat) (i : O.Id) (w : World) (h : IxAt w x n A KM CM G GW ba bk bc bw) (hi : IdI i) :
    Calls Tryz.prog 54 #[.pointer (some ⟨x, 0, none⟩), idV i] w fun e w' => e = .returned (.tuple #[]) ∧ ((∃ G2 GW2, IxAt w' x n (delD A i) KM CM G2 GW2 ba bk bc bw) ∧ Mods (IxF KM CM ba bk bc bw) w w') := by
  have HH := Lib.hid h
  have HI := Lib.hid hi
  clear h hi
  go_enter Tryz.func54, Tryz.ntmps54
  go_upto_region 1 with fail
  obtain ⟨W, hW⟩ : ∃ W, W = w.alloc (idO i) := ⟨_, rfl⟩
  rw [← hW]
  have HB : Hid (Below w.heap.size w W) := Lib.hid (by rw [hW]; exact (Below.refl _ _).alloc (Nat.le_refl _) _)
  have HX : Hid (W.heap[w.heap.size]? = some (idO i)) := Lib.hid (by rw [hW]; exact heap_alloc_new w _)
  clear hW
  have HA := Lib.hid (HH.out.m.below HB.out)
  have hzp := HA.out.xlt
  have hlt := M.heap_lt HX.out
  obtain ⟨e, he⟩ : ∃ e, lookD A i ⟨zc, 0⟩ = e := ⟨_, rfl⟩
  obtain ⟨bb, hbb⟩ : ∃ b, hasD A i = b := ⟨_, rfl⟩
  have HE := Lib.hid he
  have HBB := Lib.hid hbb
  have HLK := Lib.hid (fun (w' : World) (hb : Below W.heap.size W w') => show (Instr.lookup 80 (.map (some ba)) (.agg #[.int .i64 i.r, .int .i64 i.n]) true).run Tryz.prog w' = .ok (.tuple #[.agg #[.int .i64 e.c.kind, .int .i64 e.c.client, .int .i64 e.c.seq, .string e.c.key, .string e.c.val, .int .i64 e.c.rev, .int .i64 e.seq], .bool bb]) w' from (HA.out.below hb).all.look_ok lAE HI.out HE.out HBB.out)
  obtain ⟨⟨d0, d1⟩, _⟩ := box2 HX.out
  obtain ⟨e0, e1, e2, e3⟩ := HA.out.cells
  clear he hbb
  have HST := Lib.hid (show ∀ w', Below W.heap.size W w' → w'.cell? ⟨x, 0, none⟩ = some (.map (some ba)) ∧ w'.cell? ⟨w.heap.size, 0, none⟩ = some (.int .i64 i.r) ∧ w'.cell? ⟨w.heap.size, 1, none⟩ = some (.int .i64 i.n) ∧ (Instr.lookup 80 (.map (some ba)) (.agg #[.int .i64 i.r, .int .i64 i.n]) true).run Tryz.prog w' = .ok (.tuple #[.agg #[.int .i64 e.c.kind, .int .i64 e.c.client, .int .i64 e.c.seq, .string e.c.key, .string e.c.val, .int .i64 e.c.rev, .int .i64 e.seq], .bool bb]) w' ∧ Below W.heap.size W w' from fun w' hb =>
    ⟨(hb.cell (p := ⟨x, 0, none⟩) hzp).trans e0, (hb.cell (p := ⟨w.heap.size, 0, none⟩) hlt).trans d0, (hb.cell (p := ⟨w.heap.size, 1, none⟩) hlt).trans d1, HLK.out w' hb, hb⟩)
  go_region_held3 (fun w' => w'.cell? ⟨x, 0, none⟩ = some (.map (some ba)) ∧ w'.cell? ⟨w.heap.size, 0, none⟩ = some (.int .i64 i.r) ∧ w'.cell? ⟨w.heap.size, 1, none⟩ = some (.int .i64 i.n) ∧ (Instr.lookup 80 (.map (some ba)) (.agg #[.int .i64 i.r, .int .i64 i.n]) true).run Tryz.prog w' = .ok (.tuple #[.agg #[.int .i64 e.c.kind, .int .i64 e.c.client, .int .i64 e.c.seq, .string e.c.key, .string e.c.val, .int .i64 e.c.rev, .int .i64 e.seq], .bool bb]) w' ∧ Below W.heap.size W w')
    (first | exact HST.out _ (Below.refl _ _).drew | exact HST.out _ ((Below.refl _ _).drew.alloc (Nat.le_refl _) _))
    (fail)
  all_goals
    obtain ⟨w5, hw5⟩ : ∃ w5, w5 = (W.alloc (.cells #[.int .i64 e.c.kind, .int .i64 e.c.client, .int .i64 e.c.seq, .string e.c.key, .string e.c.val, .int .i64 e.c.rev, .int .i64 e.seq] 111)).drew := ⟨_, rfl⟩
    rw [← hw5]
    have hb5 : Below W.heap.size W w5 := by rw [hw5]; exact ((Below.refl _ _).alloc (Nat.le_refl _) _).drew
    have hE5 : w5.heap[W.heap.size]? = some (.cells #[.int .i64 e.c.kind, .int .i64 e.c.client, .int .i64 e.c.seq, .string e.c.key, .string e.c.val, .int .i64 e.c.rev, .int .i64 e.seq] 111 (0, 0)) := by rw [hw5]; exact heap_alloc_new W _
    have HEB := Lib.hid hE5
    have HB5 := Lib.hid (HB.out.trans (hb5.mono HB.out.size))
    have HX5 := Lib.hid ((hb5.block _ hlt).trans HX.out)
    clear hw5 hb5 d0 d1 e0 e1 e2 e3 HST HLK hE5 hzp hlt
    cases bb with
    | false =>
      have HDE := Lib.hid (show delD A i = A by
        unfold delD
        rw [List.filter_eq_self]
        intro p hp
        have h1 := HBB.out
        unfold hasD at h1
        have h2 := of_decide_eq_false h1
        have : p.1 ≠ i := fun e2 => h2 (List.mem_map.2 ⟨p, hp, e2⟩)
        simpa using this)
      go_wp2_with fail
      (try simp only [Exit.inBlock, Exit.then])
      refine bodyPost_ret (v := .tuple #[]) (results_none rfl _ _ _) rfl ?_
      refine ⟨rfl, ⟨G, GW, ?_⟩, Mods.of_below HB5.out⟩
      rw [HDE.out]
      exact ⟨HH.out.m.below HB5.out, HH.out.pl⟩
    | true =>
      have hfd : findD A i = some e := by
        have h1 := HBB.out
        rw [findD_has] at h1
        obtain ⟨v, hv⟩ := Option.isSome_iff_exists.1 h1
        have h2 := HE.out
        unfold lookD at h2
        rw [hv] at h2 ⊢
        exact congrArg some h2
      have hmem := findD_some hfd
      obtain ⟨gk, hk1, hk2⟩ := HH.out.pl.key i e hmem
      obtain ⟨gc, hc1, hc2⟩ := HH.out.pl.cli i e hmem
      have HPL := Lib.hid (HH.out.pl.drop hmem hk1 hc1)
      have HK1 := Lib.hid hk1
      have HC1 := Lib.hid hc1
      have HKB := Lib.hid (show gk ∈ KM.map Prod.snd ++ CM.map Prod.snd from List.mem_append_left _ (List.mem_map.2 ⟨_, hk1, rfl⟩))
      have HCB := Lib.hid (show gc ∈ KM.map Prod.snd ++ CM.map Prod.snd from List.mem_append_right _ (List.mem_map.2 ⟨_, hc1, rfl⟩))
      have HNE := Lib.hid (show gk ≠ gc from fun e => (List.nodup_append.1 HH.out.pl.nb).2.2 gk (List.mem_map.2 ⟨_, hk1, rfl⟩) gc (List.mem_map.2 ⟨_, hc1, rfl⟩) e)
      have HKO := Lib.hid (show sKG.ok e.c.key from HH.out.m.keys.ok (e.c.key, some gk) (List.mem_map.2 ⟨_, hk1, rfl⟩))
      have HCO := Lib.hid (show sCG.ok e.c.client from HH.out.m.clients.ok (e.c.client, some gc) (List.mem_map.2 ⟨_, hc1, rfl⟩))
      have HKL := Lib.hid (kfind HH.out.pl.nk hk1)
      have HCL := Lib.hid (kfind HH.out.pl.nc hc1)
      have HLS := Lib.hid (show ba < w.heap.size ∧ bw < w.heap.size ∧ gk < w.heap.size ∧ gc < w.heap.size from ⟨HH.out.m.all.lt, HH.out.m.wide.lt, (HH.out.m.gk _ hk1).lt, (HH.out.m.gc _ hc1).lt⟩)
      have HWS := Lib.hid HB.out.size
      clear hfd hmem hk1 hk2 hc1 hc2 HA HE HBB
      have HA5 := Lib.hid (HH.out.m.below HB5.out)
      go_upto_region 3 with fail
      obtain ⟨⟨d0, d1⟩, _⟩ := box2 HX5.out
      obtain ⟨e0, e1, e2, e3⟩ := HA5.out.cells
      have k0 := Kin.cell e0
      have k1 := Kin.cell d0
      have k2 := Kin.cell d1
      clear d0 d1 e0 e1 e2 e3
      refine wp_region_kin_tail 5 (by kernel_rfl) (by kernel_rfl) ?_
      simp only [List.take_succ_cons, List.take_zero, List.drop_succ_cons, List.drop_zero]
      repeat (go_big_quiet_step (fail))
      refine wpQuiet_nil ?_
      intro _ hxx
      obtain ⟨x5, rfl⟩ := hxx
      refine wpList_delL lAE (HA5.out.below x5.h).all i HI.out (by rfl) _ _ (by rfl) (by rfl) (by rfl) ?_
      intro w6 hm6 hM6
      clear k0 k1 k2
      have HM6 := Lib.hid ((Mods.of_below (S := IxF KM CM ba bk bc bw) x5.h).then hM6 (fun j hj e => by rw [e]; exact .ba))
      have HA6 := Lib.hid ((HA5.out.below x5.h).set_all hm6 hM6)
      have HX6 := Lib.hid (hM6.heap ((x5.h.block _ (M.heap_lt HX5.out)).trans HX5.out) (by have := HLS.out; omega))
      have HE6 := Lib.hid (hM6.heap ((x5.h.block _ (M.heap_lt HEB.out)).trans HEB.out) (by have := HLS.out; have := HWS.out; omega))
      clear hm6 hM6 HX5 HEB HA5
      simp only [Act.put]
      go_upto_region 4 with fail
      obtain ⟨⟨d0, d1⟩, _⟩ := box2 HX6.out
      obtain ⟨e0, e1, e2, e3⟩ := HA6.out.cells
      have k0 := Kin.cell e3
      have k1 := Kin.cell d0
      have k2 := Kin.cell d1
      clear d0 d1 e0 e1 e2 e3
      refine wp_region_kin_tail 5 (by kernel_rfl) (by kernel_rfl) ?_
      simp only [List.take_succ_cons, List.take_zero, List.drop_succ_cons, List.drop_zero]
      repeat (go_big_quiet_step (fail))
      refine wpQuiet_nil ?_
      intro _ hxx
      obtain ⟨x6, rfl⟩ := hxx
      refine wpList_delL lGB (HA6.out.below x6.h).wide i HI.out (by rfl) _ _ (by rfl) (by rfl) (by rfl) ?_
      intro w7 hm7 hM7
      clear k0 k1 k2
      have HM7 := Lib.hid ((HM6.out.then (Mods.of_below x6.h) (T := IxF KM CM ba bk bc bw) (fun _ _ h => h)).then hM7 (fun j hj e => by rw [e]; exact .bw))
      have HA7 := Lib.hid ((HA6.out.below x6.h).set_wide hm7 hM7)
      have HX7 := Lib.hid (hM7.heap ((x6.h.block _ (M.heap_lt HX6.out)).trans HX6.out) (by have := HLS.out; omega))
      have HE7 := Lib.hid (hM7.heap ((x6.h.block _ (M.heap_lt HE6.out)).trans HE6.out) (by have := HLS.out; have := HWS.out; omega))
      clear hm7 hM7 HX6 HE6 HA6 HM6
      simp only [Act.put]
      go_upto_region 5 with fail
      obtain ⟨⟨d0, d1⟩, _⟩ := box2 HX7.out
      obtain ⟨f0, f1, f2, f3, f4, f5, f6⟩ := box7 HE7.out
      obtain ⟨e0, e1, e2, e3⟩ := HA7.out.cells
      have k0 := Kin.cell e1
      have k1 := Kin.cell d0
      have k2 := Kin.cell d1
      have k3 := Kin.cell f3
      have k4 : ∀ y : Kin w7, (Instr.lookup 81 (.map (some bk)) (.string e.c.key) false).run Tryz.prog y.w = .ok (.map (some gk)) y.w := fun y => (HA7.out.below y.h).keys.look lKG HKO.out HKL.out
      clear d0 d1 e0 e1 e2 e3 f0 f1 f2 f3 f4 f5 f6
      refine wp_region_kin_tail 9 (by kernel_rfl) (by kernel_rfl) ?_
      simp only [List.take_succ_cons, List.take_zero, List.drop_succ_cons, List.drop_zero]
      repeat (go_big_quiet_step (fail))
      refine wpQuiet_nil ?_
      intro _ hxx
      obtain ⟨x7, rfl⟩ := hxx
      refine wpList_delL lGB ((HA7.out.below x7.h).gk _ HK1.out) i HI.out (by rfl) _ _ (by rfl) (by rfl) (by rfl) ?_
      intro w8 hm8 hM8
      clear k0 k1 k2 k3 k4
      have HM8 := Lib.hid ((HM7.out.then (Mods.of_below x7.h) (T := IxF KM CM ba bk bc bw) (fun _ _ h => h)).then hM8 (fun j hj e => by rw [e]; exact .gk HK1.out))
      have HA8 := Lib.hid ((HA7.out.below x7.h).set_grp HKB.out hm8 hM8)
      have HX8 := Lib.hid (hM8.heap ((x7.h.block _ (M.heap_lt HX7.out)).trans HX7.out) (by have := HLS.out; omega))
      have HE8 := Lib.hid (hM8.heap ((x7.h.block _ (M.heap_lt HE7.out)).trans HE7.out) (by have := HLS.out; have := HWS.out; omega))
      clear hm8 hM8 HX7 HE7 HA7 HM7
      simp only [Act.put]
      go_upto_region 6 with fail
      obtain ⟨⟨d0, d1⟩, _⟩ := box2 HX8.out
      obtain ⟨f0, f1, f2, f3, f4, f5, f6⟩ := box7 HE8.out
      obtain ⟨e0, e1, e2, e3⟩ := HA8.out.cells
      have k0 := Kin.cell e2
      have k1 := Kin.cell d0
      have k2 := Kin.cell d1
      have k3 := Kin.cell f1
      have k4 : ∀ y : Kin w8, (Instr.lookup 82 (.map (some bc)) (.int .i64 e.c.client) false).run Tryz.prog y.w = .ok (.map (some gc)) y.w := fun y => (HA8.out.below y.h).clients.look lCG HCO.out HCL.out
      clear d0 d1 e0 e1 e2 e3 f0 f1 f2 f3 f4 f5 f6
      refine wp_region_kin_tail 9 (by kernel_rfl) (by kernel_rfl) ?_
      simp only [List.take_succ_cons, List.take_zero, List.drop_succ_cons, List.drop_zero]
      repeat (go_big_quiet_step (fail))
      refine wpQuiet_nil ?_
      intro _ hxx
      obtain ⟨x8, rfl⟩ := hxx
      refine wpList_delL lGB ((HA8.out.below x8.h).gc _ HC1.out) i HI.out (by rfl) _ _ (by rfl) (by rfl) (by rfl) ?_
      intro w9 hm9 hM9
      clear k0 k1 k2 k3 k4
      have HM9 := Lib.hid ((HM8.out.then (Mods.of_below x8.h) (T := IxF KM CM ba bk bc bw) (fun _ _ h => h)).then hM9 (fun j hj e => by rw [e]; exact .gc HC1.out))
      have HA9 := Lib.hid ((HA8.out.below x8.h).set_grp HCB.out hm9 hM9)
      clear hm9 hM9 HX8 HE8 HA8 HM8
      go_wp2_with fail
      go_end0
      refine ⟨rfl, ⟨_, _, HA9.out, ?_⟩, (Mods.of_below HB5.out).then HM9.out (fun _ _ h => h)⟩
      refine HPL.out.congr (fun p hp => ?_) (fun p hp => ?_)
      all_goals
        have hne := HNE.out
        unfold dropG
        by_cases z1 : p.2 = gc
        · rw [if_pos z1, z1, if_neg (fun e => hne e.symm), if_pos (.inr rfl)]
        · by_cases z2 : p.2 = gk
          · rw [if_neg z1, if_pos z2, z2, if_pos (.inl rfl)]
          · rw [if_neg z1, if_neg z2, if_neg (fun h => h.elim z2 z1)]
theorem drop_any (x n : Nat) (A : List (O.Id × En)) (F : Nat → Prop) (i : O.Id) (w : World) (h : Ix w x n A F) (hi : IdI i) :
    Calls Tryz.prog 54 #[.pointer (some ⟨x, 0, none⟩), idV i] w fun e w' => e = .returned (.tuple #[]) ∧ (Ix w' x n (delD A i) F ∧ Mods F w w') := by
  obtain ⟨KM, CM, G, GW, ba, bk, bc, bw, h1, h2, h3, h4⟩ := h
  refine (drop_at x n A KM CM G GW ba bk bc bw i w h1 hi).mono ?_
  rintro e w' ⟨rfl, ⟨G2, GW2, g1⟩, g2⟩
  exact ⟨rfl, ⟨KM, CM, G2, GW2, ba, bk, bc, bw, g1, h2, h3, fun j hj => Nat.lt_of_lt_of_le (h4 j hj) g2.size⟩, g2.mono fun j _ hj => h2 j hj⟩
end Go.Proofs.YtlbkbjeajcadiaaGreatDoor.B

/- The index in memory: in, Put. -/
namespace Go.Proofs.YtlbkbjeajcadiaaGreatDoor.B
open Go.RowKit Go.Proofs.YtlbkbjeajcadiaaGreatDoor.M Go.BigFrame Go.Maps Go.Proofs.YtlbkbjeajcadiaaGreatDoor.O Go.Proofs.YtlbkbjeajcadiaaGreatDoor.P Go.Proofs.YtlbkbjeajcadiaaGreatDoor.Mp
set_option linter.unusedVariables false
set_option linter.unusedSimpArgs false

theorem delD_none {κ ν : Type} [DecidableEq κ] {L : List (κ × ν)} {k : κ} (h : k ∉ L.map Prod.fst) : delD L k = L := by
  unfold delD
  rw [List.filter_eq_self]
  intro p hp
  have : p.1 ≠ k := fun e => h (List.mem_map.2 ⟨p, hp, e⟩)
  simpa using this
theorem delD_not {κ ν : Type} [DecidableEq κ] (L : List (κ × ν)) (k : κ) : k ∉ (delD L k).map Prod.fst := by
  intro h
  obtain ⟨p, hp, e⟩ := List.mem_map.1 h
  exact (mem_delD.1 hp).2 e
theorem putD_new {κ ν : Type} [DecidableEq κ] {L : List (κ × ν)} {k : κ} (h : k ∉ L.map Prod.fst) (v : ν) : putD L k v = L ++ [(k, v)] := by
  unfold putD
  rw [delD_none h]
theorem putD_del {κ ν : Type} [DecidableEq κ] (L : List (κ × ν)) (k : κ) (v : ν) : putD (delD L k) k v = putD L k v := by
  rw [putD_new (delD_not L k)]
  rfl
theorem keysN {κ : Type} {L : List (κ × Nat)} : (L.map fun p => (p.1, some p.2)).map Prod.fst = L.map Prod.fst := by rw [List.map_map]; rfl
/-- what 'in' leaves -/
def InR {κ : Type} (S : MapS κ (Option Nat)) [DecidableEq κ] (w w' : World) (bm n : Nat) (KM : List (κ × Nat)) (G : Nat → List (O.Id × Bool)) (k : κ) (i : O.Id) (g : Nat) : Prop :=
  ((k, g) ∈ KM ∧ MapL sGB w' g (n + 1) (putD (G g) i true) ∧ Mods (fun j => j = g) w w') ∨
    (k ∉ KM.map Prod.fst ∧ w.heap.size ≤ g ∧ MapL S w' bm (n + 1) ((KM ++ [(k, g)]).map fun p => (p.1, some p.2)) ∧ MapL sGB w' g (n + 1) [(i, true)] ∧ Mods (fun j => j = bm) w w')
set_option maxRecDepth 100000 in
set_option maxHeartbeats 4000000 in
theorem ins_any (bm n : Nat) (KM : List (ByteArray × Nat)) (G : Nat → List (O.Id × Bool)) (k : ByteArray) (i : O.Id) (w : World) (hm : MapL sKG w bm n (KM.map fun p => (p.1, some p.2))) (hg : ∀ p ∈ KM, MapL sGB w p.2 n (G p.2)) (hnd : (KM.map Prod.fst).Nodup) (hk : sKG.ok k) (hi : IdI i) (hn : n ≤ 1000000) :
    Calls Tryz.prog 85 #[.map (some bm), (.string k), idV i] w fun e w' => e = .returned (.tuple #[]) ∧ ∃ g, InR sKG w w' bm n KM G k i g := by
  have HI := Lib.hid hi
  have HK := Lib.hid hk
  have HN := Lib.hid hn
  have hmm := @run_makeMap Tryz.prog
  by_cases hmem : k ∈ KM.map Prod.fst
  · obtain ⟨p, hp, rfl⟩ := List.mem_map.1 hmem
    obtain ⟨k, g⟩ := p
    have hq : ∀ w : World, (binOp .eql 84 (.map (some g)) (.map none)).run Tryz.prog w = .ok (.bool false) w := fun w => run_eql_map_nil w _ _ _ _ Tryz.underlying84
    have HM := Lib.hid hm
    have HG := Lib.hid (hg _ hp)
    have HP := Lib.hid hp
    have HF := Lib.hid (kfind hnd hp)
    clear hmem hm hg hnd hk hi hn hp
    go_enter Tryz.func85, Tryz.ntmps85
    go_upto_region 1 with fail
    obtain ⟨W, hW⟩ : ∃ W, W = w.alloc (idO i) := ⟨_, rfl⟩
    rw [← hW]
    have HB : Hid (Below w.heap.size w W) := Lib.hid (by rw [hW]; exact (Below.refl _ _).alloc (Nat.le_refl _) _)
    have HX : Hid (W.heap[w.heap.size]? = some (idO i)) := Lib.hid (by rw [hW]; exact heap_alloc_new w _)
    clear hW
    obtain ⟨⟨d0, d1⟩, _⟩ := box2 HX.out
    have hl : (Instr.lookup 81 (.map (some bm)) (.string k) false).run Tryz.prog W = .ok (.map (some g)) W := (HM.out.below HB.out).look lKG HK.out HF.out
    go_wp2_with (refine wpList_putL lGB (HG.out.below HB.out) (by have := HN.out; unfold maxLen; omega) i HI.out true (by rfl) _ _ _ (by rfl) (by rfl) (by rfl) (by rfl) ?_
                 intro w6 hm6 hM6
                 have HM6 := Lib.hid hm6
                 have HD6 := Lib.hid hM6
                 clear hm6 hM6)
    go_end0
    exact ⟨rfl, g, .inl ⟨HP.out, HM6.out, (Mods.of_below HB.out).then HD6.out (fun _ _ h => h)⟩⟩
  · have hq : ∀ w : World, (binOp .eql 84 (.map none) (.map none)).run Tryz.prog w = .ok (.bool true) w := fun w => run_eql_map_nil w _ _ _ _ Tryz.underlying84
    have HM := Lib.hid hm
    have HME := Lib.hid hmem
    have HF := Lib.hid (kfind_none hmem)
    clear hmem hm hg hnd hk hi hn
    go_enter Tryz.func85, Tryz.ntmps85
    go_upto_region 1 with fail
    obtain ⟨W, hW⟩ : ∃ W, W = w.alloc (idO i) := ⟨_, rfl⟩
    rw [← hW]
    have HB : Hid (Below w.heap.size w W) := Lib.hid (by rw [hW]; exact (Below.refl _ _).alloc (Nat.le_refl _) _)
    have HX : Hid (W.heap[w.heap.size]? = some (idO i)) := Lib.hid (by rw [hW]; exact heap_alloc_new w _)
    clear hW
    have hl : (Instr.lookup 81 (.map (some bm)) (.string k) false).run Tryz.prog W = .ok (.map none) W := (HM.out.below HB.out).look lKG HK.out HF.out
    go_upto_region 2 with fail
    clear hl hq
    go_upto_region 3 with (refine wpList_putL lKG (HM.out.below (HB.out.trans ((Below.refl _ _).alloc (Nat.le_refl _) _ |>.mono HB.out.size))) (by have := HN.out; unfold maxLen; omega) k HK.out (some W.heap.size) (by rfl) _ _ _ (by rfl) (by rfl) (by rfl) (by rfl) ?_
                           intro w6 hm6 hM6
                           rw [putD_new (by rw [keysN]; exact HME.out)] at hm6
                           have HM6 := Lib.hid hm6
                           have HD6 := Lib.hid hM6
                           have HX6 := Lib.hid (hM6.heap (((Below.refl W.heap.size W).alloc (Nat.le_refl _) (.map #[] 0)).block _ (M.heap_lt HX.out) |>.trans HX.out) (by have := HM.out.lt; omega))
                           have HG6 := Lib.hid ((MapL.made (S := sGB) W).keep hM6 (by have := HM.out.lt; have := HB.out.size; omega))
                           have HS6 := Lib.hid hM6.size
                           clear hm6 hM6)
    obtain ⟨⟨d0, d1⟩, _⟩ := box2 HX6.out
    have hl : (Instr.lookup 81 (.map (some bm)) (.string k) false).run Tryz.prog w6 = .ok (.map (some W.heap.size)) w6 := HM6.out.look lKG HK.out (by
      unfold lookD
      rw [findD_app, findD_none.2 (by rw [keysN]; exact HME.out)]
      simp [findD])
    go_wp2_with (refine wpList_putL lGB HG6.out (by unfold maxLen; omega) i HI.out true (by rfl) _ _ _ (by rfl) (by rfl) (by rfl) (by rfl) ?_
                 intro w7 hm7 hM7
                 have HM7 := Lib.hid hm7
                 have HD7 := Lib.hid hM7
                 clear hm7 hM7)
    go_end0
    have z1 := HM.out.lt
    have z2 := HB.out.size
    refine ⟨rfl, W.heap.size, .inr ⟨HME.out, HB.out.size, ?_, ?_, ?_⟩⟩
    · rw [List.map_append]
      exact HM6.out.keep HD7.out (by omega)
    · have := HM7.out.mono (m := n + 1) (by omega)
      rw [putD_new (by simp)] at this
      exact this
    · exact ((Mods.of_below (S := fun j => j = bm) (HB.out.trans ((Below.refl _ _).alloc (Nat.le_refl _) _ |>.mono HB.out.size))).then HD6.out (fun _ _ h => h)).then HD7.out (fun j hj e => by omega)
set_option maxRecDepth 100000 in
set_option maxHeartbeats 4000000 in
theorem ini_any (bm n : Nat) (KM : List (Int × Nat)) (G : Nat → List (O.Id × Bool)) (k : Int) (i : O.Id) (w : World) (hm : MapL sCG w bm n (KM.map fun p => (p.1, some p.2))) (hg : ∀ p ∈ KM, MapL sGB w p.2 n (G p.2)) (hnd : (KM.map Prod.fst).Nodup) (hk : sCG.ok k) (hi : IdI i) (hn : n ≤ 1000000) :
    Calls Tryz.prog 86 #[.map (some bm), (.int .i64 k), idV i] w fun e w' => e = .returned (.tuple #[]) ∧ ∃ g, InR sCG w w' bm n KM G k i g := by
  have HI := Lib.hid hi
  have HK := Lib.hid hk
  have HN := Lib.hid hn
  have hmm := @run_makeMap Tryz.prog
  by_cases hmem : k ∈ KM.map Prod.fst
  · obtain ⟨p, hp, rfl⟩ := List.mem_map.1 hmem
    obtain ⟨k, g⟩ := p
    have hq : ∀ w : World, (binOp .eql 84 (.map (some g)) (.map none)).run Tryz.prog w = .ok (.bool false) w := fun w => run_eql_map_nil w _ _ _ _ Tryz.underlying84
    have HM := Lib.hid hm
    have HG := Lib.hid (hg _ hp)
    have HP := Lib.hid hp
    have HF := Lib.hid (kfind hnd hp)
    clear hmem hm hg hnd hk hi hn hp
    go_enter Tryz.func86, Tryz.ntmps86
    go_upto_region 1 with fail
    obtain ⟨W, hW⟩ : ∃ W, W = w.alloc (idO i) := ⟨_, rfl⟩
    rw [← hW]
    have HB : Hid (Below w.heap.size w W) := Lib.hid (by rw [hW]; exact (Below.refl _ _).alloc (Nat.le_refl _) _)
    have HX : Hid (W.heap[w.heap.size]? = some (idO i)) := Lib.hid (by rw [hW]; exact heap_alloc_new w _)
    clear hW
    obtain ⟨⟨d0, d1⟩, _⟩ := box2 HX.out
    have hl : (Instr.lookup 82 (.map (some bm)) (.int .i64 k) false).run Tryz.prog W = .ok (.map (some g)) W := (HM.out.below HB.out).look lCG HK.out HF.out
    go_wp2_with (refine wpList_putL lGB (HG.out.below HB.out) (by have := HN.out; unfold maxLen; omega) i HI.out true (by rfl) _ _ _ (by rfl) (by rfl) (by rfl) (by rfl) ?_
                 intro w6 hm6 hM6
                 have HM6 := Lib.hid hm6
                 have HD6 := Lib.hid hM6
                 clear hm6 hM6)
    go_end0
    exact ⟨rfl, g, .inl ⟨HP.out, HM6.out, (Mods.of_below HB.out).then HD6.out (fun _ _ h => h)⟩⟩
  · have hq : ∀ w : World, (binOp .eql 84 (.map none) (.map none)).run Tryz.prog w = .ok (.bool true) w := fun w => run_eql_map_nil w _ _ _ _ Tryz.underlying84
    have HM := Lib.hid hm
    have HME := Lib.hid hmem
    have HF := Lib.hid (kfind_none hmem)
    clear hmem hm hg hnd hk hi hn
    go_enter Tryz.func86, Tryz.ntmps86
    go_upto_region 1 with fail
    obtain ⟨W, hW⟩ : ∃ W, W = w.alloc (idO i) := ⟨_, rfl⟩
    rw [← hW]
    have HB : Hid (Below w.heap.size w W) := Lib.hid (by rw [hW]; exact (Below.refl _ _).alloc (Nat.le_refl _) _)
    have HX : Hid (W.heap[w.heap.size]? = some (idO i)) := Lib.hid (by rw [hW]; exact heap_alloc_new w _)
    clear hW
    have hl : (Instr.lookup 82 (.map (some bm)) (.int .i64 k) false).run Tryz.prog W = .ok (.map none) W := (HM.out.below HB.out).look lCG HK.out HF.out
    go_upto_region 2 with fail
    clear hl hq
    go_upto_region 3 with (refine wpList_putL lCG (HM.out.below (HB.out.trans ((Below.refl _ _).alloc (Nat.le_refl _) _ |>.mono HB.out.size))) (by have := HN.out; unfold maxLen; omega) k HK.out (some W.heap.size) (by rfl) _ _ _ (by rfl) (by rfl) (by rfl) (by rfl) ?_
                           intro w6 hm6 hM6
                           rw [putD_new (by rw [keysN]; exact HME.out)] at hm6
                           have HM6 := Lib.hid hm6
                           have HD6 := Lib.hid hM6
                           have HX6 := Lib.hid (hM6.heap (((Below.refl W.heap.size W).alloc (Nat.le_refl _) (.map #[] 0)).block _ (M.heap_lt HX.out) |>.trans HX.out) (by have := HM.out.lt; omega))
                           have HG6 := Lib.hid ((MapL.made (S := sGB) W).keep hM6 (by have := HM.out.lt; have := HB.out.size; omega))
                           have HS6 := Lib.hid hM6.size
                           clear hm6 hM6)
    obtain ⟨⟨d0, d1⟩, _⟩ := box2 HX6.out
    have hl : (Instr.lookup 82 (.map (some bm)) (.int .i64 k) false).run Tryz.prog w6 = .ok (.map (some W.heap.size)) w6 := HM6.out.look lCG HK.out (by
      unfold lookD
      rw [findD_app, findD_none.2 (by rw [keysN]; exact HME.out)]
      simp [findD])
    go_wp2_with (refine wpList_putL lGB HG6.out (by unfold maxLen; omega) i HI.out true (by rfl) _ _ _ (by rfl) (by rfl) (by rfl) (by rfl) ?_
                 intro w7 hm7 hM7
                 have HM7 := Lib.hid hm7
                 have HD7 := Lib.hid hM7
                 clear hm7 hM7)
    go_end0
    have z1 := HM.out.lt
    have z2 := HB.out.size
    refine ⟨rfl, W.heap.size, .inr ⟨HME.out, HB.out.size, ?_, ?_, ?_⟩⟩
    · rw [List.map_append]
      exact HM6.out.keep HD7.out (by omega)
    · have := HM7.out.mono (m := n + 1) (by omega)
      rw [putD_new (by simp)] at this
      exact this
    · exact ((Mods.of_below (S := fun j => j = bm) (HB.out.trans ((Below.refl _ _).alloc (Nat.le_refl _) _ |>.mono HB.out.size))).then HD6.out (fun _ _ h => h)).then HD7.out (fun j hj e => by omega)
end Go.Proofs.YtlbkbjeajcadiaaGreatDoor.B
