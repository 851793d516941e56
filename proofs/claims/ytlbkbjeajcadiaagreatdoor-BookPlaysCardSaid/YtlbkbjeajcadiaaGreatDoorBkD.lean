/- The index in memory: Put. -/
import Derived.Test.YtlbkbjeajcadiaaGreatDoorMrg21
namespace Go.Proofs.YtlbkbjeajcadiaaGreatDoor.B
open Go.RowKit Go.Proofs.YtlbkbjeajcadiaaGreatDoor.M Go.BigFrame Go.Maps Go.Proofs.YtlbkbjeajcadiaaGreatDoor.O Go.Proofs.YtlbkbjeajcadiaaGreatDoor.P Go.Proofs.YtlbkbjeajcadiaaGreatDoor.Mp
set_option linter.unusedVariables false
set_option linter.unusedSimpArgs false

section
variable {w w1 : World} {x n : Nat} {A : List (O.Id × En)} {KM : List (ByteArray × Nat)} {CM : List (Int × Nat)} {G : Nat → List (O.Id × Bool)} {GW : List (O.Id × Bool)} {ba bk bc bw : Nat}
theorem IxM.congr {G2 : Nat → List (O.Id × Bool)} (h : IxM w x n A KM CM G GW ba bk bc bw) (hk : ∀ p ∈ KM, G2 p.2 = G p.2) (hc : ∀ p ∈ CM, G2 p.2 = G p.2) : IxM w x n A KM CM G2 GW ba bk bc bw :=
  ⟨h.box, h.all, h.keys, h.clients, h.wide, fun p hp => by rw [hk p hp]; exact h.gk p hp, fun p hp => by rw [hc p hp]; exact h.gc p hp, h.nd⟩
/-- a key's group has one more -/
theorem IxM.in_key (h : IxM w x n A KM CM G GW ba bk bc bw) {k : ByteArray} {i : O.Id} {g : Nat} (hG : ∀ j, w.heap.size ≤ j → G j = []) (r : InR sKG w w1 bk n KM G k i g) :
    ∃ KM2, Grew2 KM KM2 k g G ∧ IxM w1 x (n + 1) A KM2 CM (fun j => if j = g then putD (G j) i true else G j) GW ba bk bc bw ∧ Mods (IxF KM CM ba bk bc bw) w w1 ∧ g < w1.heap.size ∧ ∀ j, IxF KM2 CM ba bk bc bw j → IxF KM CM ba bk bc bw j ∨ (w.heap.size ≤ j ∧ j < w1.heap.size) := by
  rcases r with ⟨hk, hm, hM⟩ | ⟨hk, hg, hK, hm, hM⟩
  · refine ⟨KM, .inl ⟨rfl, hk⟩, ?_, hM.mono (fun j _ e => by rw [e]; exact .gk hk), hm.lt, fun j hj => .inl hj⟩
    have := (h.mono (Nat.le_succ n)).set_grp (List.mem_append_left _ (List.mem_map.2 ⟨_, hk, rfl⟩)) hm hM
    refine this.congr (fun p _ => ?_) (fun p _ => ?_)
    all_goals
      split
      · rename_i e; simp only [e]
      · rfl
  · have hgx := hm.lt
    have hM2 : Mods (fun j => j = bk) w w1 := hM
    obtain ⟨q1, q2, q3, q4, q5, q6⟩ := h.ne
    have hgn : ∀ j, IxF KM CM ba bk bc bw j → j ≠ g := fun j hj => by have := h.lts j hj; omega
    refine ⟨KM ++ [(k, g)], .inr ⟨rfl, hk, hG g hg⟩, ⟨hM.heap h.box (h.xne .bk), (h.all.keep hM q1).mono (Nat.le_succ n), hK, (h.clients.keep hM q4.symm).mono (Nat.le_succ n), (h.wide.keep hM q5.symm).mono (Nat.le_succ n), fun p hp => ?_, fun p hp => ?_, ?_⟩, hM.mono (fun j _ e => by rw [e]; exact .bk), hgx, fun j hj => ?_⟩
    · rcases List.mem_append.1 hp with hp | hp
      · show MapL sGB w1 p.2 (n + 1) (if p.2 = g then putD (G p.2) i true else G p.2)
        rw [if_neg (hgn _ (.gk hp))]
        exact ((h.gk p hp).keep hM (h.gkne hp).2.1).mono (Nat.le_succ n)
      · rw [List.mem_singleton.1 hp]
        show MapL sGB w1 g (n + 1) (if g = g then putD (G g) i true else G g)
        rw [if_pos rfl, hG g hg]
        exact hm
    · show MapL sGB w1 p.2 (n + 1) (if p.2 = g then putD (G p.2) i true else G p.2)
      rw [if_neg (hgn _ (.gc hp))]
      exact ((h.gc p hp).keep hM (h.gcne hp).2.1).mono (Nat.le_succ n)
    · have hp : List.Perm ([ba, bk, bc, bw] ++ ((KM ++ [(k, g)]).map Prod.snd ++ CM.map Prod.snd)) (g :: ([ba, bk, bc, bw] ++ (KM.map Prod.snd ++ CM.map Prod.snd))) := by
        have e1 : [ba, bk, bc, bw] ++ ((KM ++ [(k, g)]).map Prod.snd ++ CM.map Prod.snd) = ([ba, bk, bc, bw] ++ KM.map Prod.snd) ++ g :: CM.map Prod.snd := by simp
        have e2 : g :: ([ba, bk, bc, bw] ++ (KM.map Prod.snd ++ CM.map Prod.snd)) = g :: (([ba, bk, bc, bw] ++ KM.map Prod.snd) ++ CM.map Prod.snd) := by simp
        rw [e1, e2]
        exact List.perm_middle
      rw [hp.nodup_iff, List.nodup_cons]
      exact ⟨fun hj => hgn g hj rfl, h.nd⟩
    · unfold IxF at hj ⊢
      simp only [List.map_append, List.mem_append, List.map_cons, List.map_nil, List.mem_cons, List.mem_nil_iff, or_false] at hj ⊢
      rcases hj with hj | (hj | hj) | hj
      · exact .inl (.inl hj)
      · exact .inl (.inr (.inl hj))
      · exact .inr (by omega)
      · exact .inl (.inr (.inr hj))
/-- a client's group has one more -/
theorem IxM.in_cli (h : IxM w x n A KM CM G GW ba bk bc bw) {k : Int} {i : O.Id} {g : Nat} (hG : ∀ j, w.heap.size ≤ j → G j = []) (r : InR sCG w w1 bc n CM G k i g) :
    ∃ CM2, Grew2 CM CM2 k g G ∧ IxM w1 x (n + 1) A KM CM2 (fun j => if j = g then putD (G j) i true else G j) GW ba bk bc bw ∧ Mods (IxF KM CM ba bk bc bw) w w1 ∧ g < w1.heap.size ∧ ∀ j, IxF KM CM2 ba bk bc bw j → IxF KM CM ba bk bc bw j ∨ (w.heap.size ≤ j ∧ j < w1.heap.size) := by
  rcases r with ⟨hk, hm, hM⟩ | ⟨hk, hg, hK, hm, hM⟩
  · refine ⟨CM, .inl ⟨rfl, hk⟩, ?_, hM.mono (fun j _ e => by rw [e]; exact .gc hk), hm.lt, fun j hj => .inl hj⟩
    have := (h.mono (Nat.le_succ n)).set_grp (List.mem_append_right _ (List.mem_map.2 ⟨_, hk, rfl⟩)) hm hM
    refine this.congr (fun p _ => ?_) (fun p _ => ?_)
    all_goals
      split
      · rename_i e; simp only [e]
      · rfl
  · have hgx := hm.lt
    obtain ⟨q1, q2, q3, q4, q5, q6⟩ := h.ne
    have hgn : ∀ j, IxF KM CM ba bk bc bw j → j ≠ g := fun j hj => by have := h.lts j hj; omega
    refine ⟨CM ++ [(k, g)], .inr ⟨rfl, hk, hG g hg⟩, ⟨hM.heap h.box (h.xne .bc), (h.all.keep hM q2).mono (Nat.le_succ n), (h.keys.keep hM q4).mono (Nat.le_succ n), hK, (h.wide.keep hM q6.symm).mono (Nat.le_succ n), fun p hp => ?_, fun p hp => ?_, ?_⟩, hM.mono (fun j _ e => by rw [e]; exact .bc), hgx, fun j hj => ?_⟩
    · show MapL sGB w1 p.2 (n + 1) (if p.2 = g then putD (G p.2) i true else G p.2)
      rw [if_neg (hgn _ (.gk hp))]
      exact ((h.gk p hp).keep hM (h.gkne hp).2.2.1).mono (Nat.le_succ n)
    · rcases List.mem_append.1 hp with hp | hp
      · show MapL sGB w1 p.2 (n + 1) (if p.2 = g then putD (G p.2) i true else G p.2)
        rw [if_neg (hgn _ (.gc hp))]
        exact ((h.gc p hp).keep hM (h.gcne hp).2.2.1).mono (Nat.le_succ n)
      · rw [List.mem_singleton.1 hp]
        show MapL sGB w1 g (n + 1) (if g = g then putD (G g) i true else G g)
        rw [if_pos rfl, hG g hg]
        exact hm
    · have hp : List.Perm ([ba, bk, bc, bw] ++ (KM.map Prod.snd ++ (CM ++ [(k, g)]).map Prod.snd)) (g :: ([ba, bk, bc, bw] ++ (KM.map Prod.snd ++ CM.map Prod.snd))) := by
        have e1 : [ba, bk, bc, bw] ++ (KM.map Prod.snd ++ (CM ++ [(k, g)]).map Prod.snd) = ([ba, bk, bc, bw] ++ (KM.map Prod.snd ++ CM.map Prod.snd)) ++ g :: [] := by simp
        rw [e1]
        refine List.perm_middle.trans ?_
        rw [List.append_nil]
      rw [hp.nodup_iff, List.nodup_cons]
      exact ⟨fun hj => hgn g hj rfl, h.nd⟩
    · unfold IxF at hj ⊢
      simp only [List.map_append, List.mem_append, List.map_cons, List.map_nil, List.mem_cons, List.mem_nil_iff, or_false] at hj ⊢
      rcases hj with hj | hj | hj | hj
      · exact .inl (.inl hj)
      · exact .inl (.inr (.inl hj))
      · exact .inl (.inr (.inr hj))
      · exact .inr (by omega)
end
set_option maxRecDepth 100000 in
set_option maxHeartbeats 4000000 in
theorem put_at (x n : Nat) (A : List (O.Id × En)) (KM : List (ByteArray × Nat)) (CM : List (Int × Nat)) (G : Nat → List (O.Id × Bool)) (GW : List (O.Id × Bool)) (ba bk bc bw : Nat) (i : O.Id) (c : Cmd) (s : Int) (w : World) (h : IxAt w x n A KM CM G GW ba bk bc bw) (hi : IdI i) (hks : c.key.size ≤ maxLen) (hcl : InI c.client) (hn : n ≤ 100000) :
    Calls Tryz.prog 55 #[.pointer (some ⟨x, 0, none⟩), idV i, cmdV c, .int .i64 s] w fun e w' => e = .returned (.tuple #[]) ∧ ∃ KM2 CM2 G2 GW2, IxAt w' x (n + 4) (putD A i ⟨c, s⟩) KM2 CM2 G2 GW2 ba bk bc bw ∧ Mods (IxF KM CM ba bk bc bw) w w' ∧ ∀ j, IxF KM2 CM2 ba bk bc bw j → IxF KM CM ba bk bc bw j ∨ (w.heap.size ≤ j ∧ j < w'.heap.size) := by
  have HH := Lib.hid h
  have HI := Lib.hid hi
  have HKS := Lib.hid (show sKG.ok c.key from hks)
  have HCL := Lib.hid (show sCG.ok c.client from hcl)
  have HN := Lib.hid hn
  clear h hi hks hcl hn
  go_enter Tryz.func55, Tryz.ntmps55
  go_upto_region 1 with fail
  obtain ⟨W, hW⟩ : ∃ W, W = (w.alloc (idO i)).alloc (.cells (cmdA c) 24) := ⟨_, rfl⟩
  rw [← hW]
  have HB : Hid (Below w.heap.size w W) := Lib.hid (by rw [hW]; exact ((Below.refl _ _).alloc (Nat.le_refl _) _).alloc (by simp) _)
  have HX : Hid (W.heap[w.heap.size]? = some (idO i)) := Lib.hid (by rw [hW, heap_al, if_neg (by simp)]; exact heap_alloc_new w _)
  have HC : Hid (W.heap[w.heap.size + 1]? = some (.cells (cmdA c) 24 (0, 0))) := Lib.hid (by rw [hW, heap_al, if_pos (by simp)])
  have HWS := Lib.hid (show W.heap.size = w.heap.size + 2 by rw [hW]; simp)
  clear hW
  have HA := Lib.hid (show IxAt W x n A KM CM G GW ba bk bc bw from ⟨HH.out.m.below HB.out, HH.out.pl⟩)
  have HLS := Lib.hid (show ∀ j, IxF KM CM ba bk bc bw j → j < w.heap.size from HH.out.m.lts)
  have HDR := Lib.hid (drop_at x n A KM CM G GW ba bk bc bw i W HA.out HI.out)
  obtain ⟨⟨d0, d1⟩, _⟩ := box2 HX.out
  go_wp2_with fail
  refine HDR.out.mono ?_
  rintro e w1 ⟨rfl, ⟨G1, GW1, h1⟩, m1⟩
  have H1 := Lib.hid h1
  have M1 := Lib.hid ((Mods.of_below (S := IxF KM CM ba bk bc bw) HB.out).then m1 (fun _ _ h => h))
  have HS1 := Lib.hid m1.size
  have HX1 := Lib.hid (m1.heap HX.out (fun hj => by have := HLS.out _ hj; omega))
  have HC1 := Lib.hid (m1.heap HC.out (fun hj => by have := HLS.out _ hj; omega))
  clear h1 m1 d0 d1 HDR HA HX HC
  go_upto_region 2 with fail
  obtain ⟨⟨d0, d1⟩, _⟩ := box2 HX1.out
  obtain ⟨⟨c0, c1, c2, c3, c4, c5⟩, _⟩ := box6 HC1.out
  obtain ⟨e0, e1, e2, e3⟩ := H1.out.m.cells
  have k0 := Kin.cell e0
  have k1 := Kin.cell d0
  have k2 := Kin.cell d1
  have k3 := Kin.cell c0
  have k4 := Kin.cell c1
  have k5 := Kin.cell c2
  have k6 := Kin.cell c3
  have k7 := Kin.cell c4
  have k8 := Kin.cell c5
  clear d0 d1 c0 c1 c2 c3 c4 c5 e0 e1 e2 e3
  refine wp_region_kin_tail 8 (by kernel_rfl) (by kernel_rfl) ?_
  simp only [List.take_succ_cons, List.take_zero, List.drop_succ_cons, List.drop_zero]
  repeat (go_big_quiet_step (fail))
  refine wpQuiet_nil ?_
  intro _ hxx
  obtain ⟨x1, rfl⟩ := hxx
  refine wpList_putL lAE (H1.out.m.below x1.h).all (by have := HN.out; unfold maxLen; omega) i HI.out ⟨c, s⟩ (by rfl) _ _ _ (by rfl) (by rfl) (by rfl) (by rfl) ?_
  intro w2 hm2 hM2
  rw [putD_del] at hm2
  have M2 := Lib.hid ((M1.out.then (Mods.of_below x1.h) (T := IxF KM CM ba bk bc bw) (fun _ _ h => h)).then hM2 (fun j hj e => by rw [e]; exact .ba))
  have hsz2 := Nat.le_trans x1.h.size hM2.size
  have H2 := Lib.hid ((((H1.out.m.below x1.h).mono (Nat.le_succ n)).set_all hm2 hM2).congr (G2 := fun j => if j < w1.heap.size then G1 j else []) (fun p hp => if_pos (H1.out.m.lts _ (.gk hp))) (fun p hp => if_pos (H1.out.m.lts _ (.gc hp))))
  have P2 := Lib.hid (H1.out.pl.congr (G2 := fun j => if j < w1.heap.size then G1 j else []) (fun p hp => if_pos (H1.out.m.lts _ (.gk hp))) (fun p hp => if_pos (H1.out.m.lts _ (.gc hp))))
  have GN := Lib.hid (show ∀ j, w1.heap.size ≤ j → (fun j => if j < w1.heap.size then G1 j else []) j = [] from fun j hj => if_neg (by omega))
  have HX2 := Lib.hid (hM2.heap ((x1.h.block _ (M.heap_lt HX1.out)).trans HX1.out) (by have := HLS.out _ .ba; omega))
  have HC2 := Lib.hid (hM2.heap ((x1.h.block _ (M.heap_lt HC1.out)).trans HC1.out) (by have := HLS.out _ .ba; omega))
  have HS2 := Lib.hid hsz2
  clear hm2 hM2 hsz2 k0 k1 k2 k3 k4 k5 k6 k7 k8 HX1 HC1
  obtain ⟨G3, hG3⟩ : ∃ G3, G3 = fun j => if j < w1.heap.size then G1 j else [] := ⟨_, rfl⟩
  rw [← hG3] at H2 P2 GN
  clear hG3
  have HIN := Lib.hid (fun (y : Kin w2) => ins_any bk (n + 1) KM G3 c.key i y.w (H2.out.below y.h).keys (H2.out.below y.h).gk H1.out.pl.nk HKS.out HI.out (by have := HN.out; omega))
  simp only [Act.put]
  go_upto_region 3 with fail
  obtain ⟨⟨d0, d1⟩, _⟩ := box2 HX2.out
  obtain ⟨⟨c0, c1, c2, c3, c4, c5⟩, _⟩ := box6 HC2.out
  obtain ⟨e0, e1, e2, e3⟩ := H2.out.cells
  have k0 := Kin.cell e1
  have k1 := Kin.cell d0
  have k2 := Kin.cell d1
  have k3 := Kin.cell c3
  clear d0 d1 c0 c1 c2 c3 c4 c5 e0 e1 e2 e3
  refine wp_region_kin_tail 7 (by kernel_rfl) (by kernel_rfl) ?_
  simp only [List.take_succ_cons, List.take_zero, List.drop_succ_cons, List.drop_zero]
  repeat (go_big_quiet_step (fail))
  refine wpQuiet_nil ?_
  intro _ hxx
  obtain ⟨x2, rfl⟩ := hxx
  go_wp2_with fail
  refine (HIN.out x2).mono ?_
  rintro e w3 ⟨rfl, g1, r1⟩
  obtain ⟨KM2, q1, q2, q3, q4, q5⟩ := (H2.out.below x2.h).in_key (fun j hj => GN.out j (by have := HS2.out; have := x2.h.size; omega)) r1
  have Q1 := Lib.hid q1
  have H3 := Lib.hid q2
  have M3 := Lib.hid ((M2.out.then (Mods.of_below x2.h) (T := IxF KM CM ba bk bc bw) (fun _ _ h => h)).then q3 (fun _ _ h => h))
  have Q4 := Lib.hid q4
  have Q5 := Lib.hid (show ∀ j, IxF KM2 CM ba bk bc bw j → IxF KM CM ba bk bc bw j ∨ (w2.heap.size ≤ j ∧ j < w3.heap.size) from fun j hj => (q5 j hj).imp id (fun h => by have := x2.h.size; omega))
  have HS3 := Lib.hid (Nat.le_trans x2.h.size q3.size)
  have HX3 := Lib.hid (q3.heap ((x2.h.block _ (M.heap_lt HX2.out)).trans HX2.out) (fun hj => by have := HLS.out _ hj; omega))
  have HC3 := Lib.hid (q3.heap ((x2.h.block _ (M.heap_lt HC2.out)).trans HC2.out) (fun hj => by have := HLS.out _ hj; omega))
  clear q1 q2 q3 q4 q5 r1 k0 k1 k2 k3 HIN HX2 HC2
  have GN3 := Lib.hid (show ∀ j, w3.heap.size ≤ j → (fun j => if j = g1 then putD (G3 j) i true else G3 j) j = [] from fun j hj => by
    have z1 := Q4.out
    have z2 := HS3.out
    have z3 := HS2.out
    show (if j = g1 then putD (G3 j) i true else G3 j) = []
    rw [if_neg (by omega)]
    exact GN.out j (by omega))
  have HIN := Lib.hid (fun (y : Kin w3) => ini_any bc (n + 2) CM (fun j => if j = g1 then putD (G3 j) i true else G3 j) c.client i y.w (H3.out.below y.h).clients (H3.out.below y.h).gc H1.out.pl.nc HCL.out HI.out (by have := HN.out; omega))
  go_upto_region 4 with fail
  obtain ⟨⟨d0, d1⟩, _⟩ := box2 HX3.out
  obtain ⟨⟨c0, c1, c2, c3, c4, c5⟩, _⟩ := box6 HC3.out
  obtain ⟨e0, e1, e2, e3⟩ := H3.out.cells
  have k0 := Kin.cell e2
  have k1 := Kin.cell d0
  have k2 := Kin.cell d1
  have k3 := Kin.cell c1
  clear d0 d1 c0 c1 c2 c3 c4 c5 e0 e1 e2 e3
  refine wp_region_kin_tail 7 (by kernel_rfl) (by kernel_rfl) ?_
  simp only [List.take_succ_cons, List.take_zero, List.drop_succ_cons, List.drop_zero]
  repeat (go_big_quiet_step (fail))
  refine wpQuiet_nil ?_
  intro _ hxx
  obtain ⟨x3, rfl⟩ := hxx
  go_wp2_with fail
  refine (HIN.out x3).mono ?_
  rintro e w4 ⟨rfl, g2, r2⟩
  obtain ⟨CM2, q1, q2, q3, q4, q5⟩ := (H3.out.below x3.h).in_cli (fun j hj => GN3.out j (by have := x3.h.size; omega)) r2
  have HG2 := Lib.hid (show g2 ∉ KM2.map Prod.snd from fun hj => (List.nodup_append.1 (List.nodup_append.1 q2.nd).2.1).2.2 g2 hj g2 (List.mem_map.2 ⟨_, q1.mem.1, rfl⟩) rfl)
  have HNE := Lib.hid (show g1 ≠ g2 from fun e => HG2.out (by rw [← e]; exact List.mem_map.2 ⟨_, Q1.out.mem.1, rfl⟩))
  have Q2 := Lib.hid (show Grew2 CM CM2 c.client g2 G3 by
    rcases q1 with ⟨e, h⟩ | ⟨e, h, hg⟩
    · exact .inl ⟨e, h⟩
    · refine .inr ⟨e, h, ?_⟩
      have hg : (if g2 = g1 then putD (G3 g2) i true else G3 g2) = [] := hg
      rw [if_neg (fun e => HNE.out e.symm)] at hg
      exact hg)
  have H4 := Lib.hid (q2.congr (G2 := putG G3 g1 g2 i) (fun p _ => by
    have hne := HNE.out
    unfold putG
    by_cases z2 : p.2 = g2
    · rw [if_pos (.inr z2), if_pos z2, if_neg (fun e => hne (e.symm.trans z2))]
    · by_cases z1 : p.2 = g1
      · rw [if_pos (.inl z1), if_neg z2, if_pos z1]
      · rw [if_neg (fun h => h.elim z1 z2), if_neg z2, if_neg z1]) (fun p _ => by
    have hne := HNE.out
    unfold putG
    by_cases z2 : p.2 = g2
    · rw [if_pos (.inr z2), if_pos z2, if_neg (fun e => hne (e.symm.trans z2))]
    · by_cases z1 : p.2 = g1
      · rw [if_pos (.inl z1), if_neg z2, if_pos z1]
      · rw [if_neg (fun h => h.elim z1 z2), if_neg z2, if_neg z1]))
  have Q6 := Lib.hid (show ∀ j, IxF KM2 CM2 ba bk bc bw j → IxF KM CM ba bk bc bw j ∨ (w.heap.size ≤ j ∧ j < w4.heap.size) from fun j hj => by
    have z1 := HS3.out
    have z2 := HS2.out
    have z3 := M1.out.size
    have z4 := x3.h.size
    have z5 := q3.size
    rcases q5 j hj with hj | hj
    · rcases Q5.out j hj with hj | hj
      · exact .inl hj
      · exact .inr (by omega)
    · exact .inr (by omega))
  have M4 := Lib.hid ((M3.out.then (Mods.of_below x3.h) (T := IxF KM CM ba bk bc bw) (fun _ _ h => h)).then q3 (fun j hj h => by
    rcases Q5.out j h with h | h
    · exact h
    · have z2 := HS2.out
      have z3 := M1.out.size
      omega))
  have HPL := Lib.hid (P2.out.put (delD_not A i) ⟨c, s⟩ Q1.out Q2.out (List.nodup_append.1 q2.nd).2.1)
  have HNF := Lib.hid (show ∀ j, w.heap.size ≤ j → j < w.heap.size + 2 → ¬ IxF KM2 CM ba bk bc bw j from fun j h1 h2 hj => by
    rcases Q5.out _ hj with h | h
    · have := HLS.out _ h; omega
    · have z2 := HS2.out
      have z3 := HS1.out
      have z4 := HWS.out
      omega)
  have HX4 := Lib.hid (q3.heap ((x3.h.block _ (M.heap_lt HX3.out)).trans HX3.out) (HNF.out _ (by omega) (by omega)))
  have HC4 := Lib.hid (q3.heap ((x3.h.block _ (M.heap_lt HC3.out)).trans HC3.out) (HNF.out _ (by omega) (by omega)))
  clear q1 q2 q3 q4 q5 r2 k0 k1 k2 k3 HIN HX3 HC3
  obtain ⟨⟨c0, c1, c2, c3, c4, c5⟩, _⟩ := box6 HC4.out
  obtain ⟨v, hv⟩ : ∃ v, wideB c = v := ⟨_, rfl⟩
  have HV := Lib.hid hv
  have HWD := Lib.hid (wide_any c w4 v hv)
  clear hv
  go_wp2_with fail
  refine HWD.out.mono ?_
  rintro e w5 ⟨rfl, hb5⟩
  have HB5 := Lib.hid hb5
  have H5 := Lib.hid (H4.out.below hb5)
  have HX5 := Lib.hid ((hb5.block _ (M.heap_lt HX4.out)).trans HX4.out)
  clear hb5 HWD c0 c1 c2 c3 c4 c5
  cases v with
  | false =>
    go_wp2_with fail
    go_end0
    refine ⟨rfl, KM2, CM2, _, GW1, ⟨H5.out.mono (by omega), ?_⟩, M4.out.then (Mods.of_below (S := fun _ => False) HB5.out) (fun _ _ h => h.elim), fun j hj => (Q6.out j hj).imp id (fun h => by have := HB5.out.size; omega)⟩
    have := HPL.out
    rw [if_neg (by rw [show wideB (En.mk c s).c = false from HV.out]; simp)] at this
    exact this
  | true =>
    go_upto_region 6 with fail
    obtain ⟨⟨d0, d1⟩, _⟩ := box2 HX5.out
    obtain ⟨e0, e1, e2, e3⟩ := H5.out.cells
    have k0 := Kin.cell e3
    have k1 := Kin.cell d0
    have k2 := Kin.cell d1
    clear d0 d1 e0 e1 e2 e3
    refine wp_region_kin_tail 5 (by kernel_rfl) (by kernel_rfl) ?_
    simp only [List.take_succ_cons, List.take_zero, List.drop_succ_cons, List.drop_zero]
    repeat (go_big_quiet_step (fail))
    refine wpQuiet_nil ?_
    intro _ hxx
    obtain ⟨x5, rfl⟩ := hxx
    refine wpList_putL lGB (H5.out.below x5.h).wide (by have := HN.out; unfold maxLen; omega) i HI.out true (by rfl) _ _ _ (by rfl) (by rfl) (by rfl) (by rfl) ?_
    intro w6 hm6 hM6
    have H6 := Lib.hid (((H5.out.below x5.h).mono (Nat.le_succ _)).set_wide hm6 hM6)
    have M6 := Lib.hid ((M4.out.then (Mods.of_below (HB5.out.trans (x5.h.mono HB5.out.size))) (T := fun _ => False) (fun _ _ h => h.elim)).then hM6 (fun j hj e => by rw [e]; exact .bw))
    have HS6 := Lib.hid (Nat.le_trans (Nat.le_trans HB5.out.size x5.h.size) hM6.size)
    clear hm6 hM6 k0 k1 k2
    go_wp2_with fail
    go_end0
    refine ⟨rfl, KM2, CM2, ⟨_, _, H6.out, ?_⟩, M6.out, fun j hj => (Q6.out j hj).imp id (fun h => by have := HS6.out; omega)⟩
    have := HPL.out
    rw [if_pos (show wideB (En.mk c s).c = true from HV.out)] at this
    exact this
theorem ixput_any (x n : Nat) (A : List (O.Id × En)) (F : Nat → Prop) (i : O.Id) (c : Cmd) (s : Int) (w : World) (h : Ix w x n A F) (hi : IdI i) (hks : c.key.size ≤ maxLen) (hcl : InI c.client) (hn : n ≤ 100000) :
    Calls Tryz.prog 55 #[.pointer (some ⟨x, 0, none⟩), idV i, cmdV c, .int .i64 s] w fun e w' => e = .returned (.tuple #[]) ∧ ∃ F2, Ix w' x (n + 4) (putD A i ⟨c, s⟩) F2 ∧ Mods F w w' ∧ ∀ j, F2 j → F j ∨ (w.heap.size ≤ j ∧ j < w'.heap.size) := by
  have hx := h.lt
  have hnx := h.nx
  obtain ⟨KM, CM, G, GW, ba, bk, bc, bw, h1, h2, h3, h4⟩ := h
  refine (put_at x n A KM CM G GW ba bk bc bw i c s w h1 hi hks hcl hn).mono ?_
  rintro e w' ⟨rfl, KM2, CM2, G2, GW2, g1, g2, g3⟩
  refine ⟨rfl, fun j => F j ∨ IxF KM2 CM2 ba bk bc bw j, ⟨KM2, CM2, G2, GW2, ba, bk, bc, bw, g1, fun j hj => .inr hj, fun hj => hj.elim hnx g1.m.nx, fun j hj => hj.elim (fun h => Nat.lt_of_lt_of_le (h4 j h) g2.size) (fun h => g1.m.lts j h)⟩, g2.mono fun j _ hj => h2 j hj, fun j hj => ?_⟩
  rcases hj with hj | hj
  · exact .inl hj
  · exact (g3 j hj).imp (h2 j) id
end Go.Proofs.YtlbkbjeajcadiaaGreatDoor.B
