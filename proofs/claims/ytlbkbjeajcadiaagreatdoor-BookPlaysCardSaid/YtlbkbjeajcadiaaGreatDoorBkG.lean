/- The index in memory: Deps, Seq. -/
import Derived.Test.YtlbkbjeajcadiaaGreatDoorBkF
import Derived.Test.YtlbkbjeajcadiaaGreatDoorMrg14
namespace Go.Proofs.YtlbkbjeajcadiaaGreatDoor.B
open Go.RowKit Go.Proofs.YtlbkbjeajcadiaaGreatDoor.M Go.BigFrame Go.Maps Go.Proofs.YtlbkbjeajcadiaaGreatDoor.O Go.Proofs.YtlbkbjeajcadiaaGreatDoor.P Go.Proofs.YtlbkbjeajcadiaaGreatDoor.Mp Go.Proofs.YtlbkbjeajcadiaaGreatDoor.Rw
set_option linter.unusedVariables false
set_option linter.unusedSimpArgs false

theorem box1 {w : World} {b : Nat} {v : Value} {t : TypeId} (h : w.heap[b]? = some (.cells #[v] t (0, 0))) : w.cell? ⟨b, 0, none⟩ = some v := cell_of_row w b 0 _ _ _ h
/-- the ids that came, in a row that the box at g holds -/
def DepS (B g : Nat) (L : List (O.Id × En)) (C : Nat → Prop) (w : World) : Prop :=
  ∃ oo oc, w.heap[g]? = some (.cells #[.slice oo L.length oc] 36 (0, 0)) ∧ OwnG sRI w B oo oc (L.map Prod.fst) ∧ B ≤ w.heap.size ∧ (∀ a, oo = some a → a.block ≠ g) ∧ ∀ j, C j ↔ (j = g ∨ ∃ a, oo = some a ∧ j = a.block)
set_option maxRecDepth 100000 in
set_option maxHeartbeats 4000000 in
theorem depfn_any (B g : Nat) (A : List (O.Id × En)) (c : Cmd) (but : O.Id) : Each A c but 63 g (DepS B g) := by
  refine ⟨fun L C w1 w2 S h hm hC => ?_, fun L C w1 h j hj => ?_, fun L C w1 p h hp hl => ?_⟩
  · obtain ⟨oo, oc, h1, h2, h3, h4, h5⟩ := h
    exact ⟨oo, oc, hm.heap h1 (hC g ((h5 g).2 (.inl rfl))), h2.keep hm (fun a e => hC _ ((h5 _).2 (.inr ⟨a, e, rfl⟩))), Nat.le_trans h3 hm.size, h4, h5⟩
  · obtain ⟨oo, oc, h1, h2, h3, h4, h5⟩ := h
    rcases (h5 j).1 hj with rfl | ⟨a, e, rfl⟩
    · exact M.heap_lt h1
    · obtain ⟨_, _, _, h6⟩ := h2.cells a e; exact h6
  · obtain ⟨oo, oc, h1, h2, h3, h4, h5⟩ := h
    have H1 := Lib.hid h1
    have H2 := Lib.hid h2
    have H3 := Lib.hid h3
    have H4 := Lib.hid h4
    have H5 := Lib.hid h5
    have HL := Lib.hid hl
    clear h1 h2 h3 h4 h5 hl
    go_enter Tryz.func63, Tryz.ntmps63
    go_upto_region 1 with fail
    obtain ⟨W, hW⟩ : ∃ W, W = (w1.alloc (idO p.1)).alloc (.cells #[.int .i64 p.2.c.kind, .int .i64 p.2.c.client, .int .i64 p.2.c.seq, .string p.2.c.key, .string p.2.c.val, .int .i64 p.2.c.rev, .int .i64 p.2.seq] 111) := ⟨_, rfl⟩
    rw [← hW]
    have HB : Hid (Below w1.heap.size w1 W) := Lib.hid (by rw [hW]; exact ((Below.refl _ _).alloc (Nat.le_refl _) _).alloc (by simp) _)
    have HX : Hid (W.heap[w1.heap.size]? = some (idO p.1)) := Lib.hid (by rw [hW, heap_al, if_neg (by simp)]; exact heap_alloc_new w1 _)
    clear hW
    obtain ⟨⟨d0, d1⟩, _⟩ := box2 HX.out
    have HG := Lib.hid ((HB.out.block g (M.heap_lt H1.out)).trans H1.out)
    have c0 := box1 HG.out
    have nf : W.frozen? ⟨g, 0, none⟩ = false := by simp [World.frozen?, HG.out]
    have HO := Lib.hid (H2.out.below HB.out)
    obtain ⟨Z, hM⟩ : ∃ Z, L.map Prod.fst = Z := ⟨_, rfl⟩
    have hmap : L.length = Z.length := by rw [← hM]; simp
    have HLM := Lib.hid hmap
    have HMM := Lib.hid hM
    rw [hM] at HO
    rw [hmap] at c0
    clear hmap hM
    go_wp2_with (refine wpList_rowApp lRI (by rfl) _ _ (by rfl) B oo oc 1 Z [p.1] W.heap.size #[.int .i64 p.1.r, .int .i64 p.1.n] (heap_alloc_new W _) rfl rfl (by rfl) (HO.out.below ((Below.refl _ _).alloc (Nat.le_refl _) _)) (by rfl) (by have := HL.out; have := HLM.out; show Z.length + 1 ≤ 100000000; omega) (by have := H3.out; have := HB.out.size; rw [World.size_alloc]; omega) ?_; intro ro' rc' w8 ho hM hb hf; have HO8 := Lib.hid ho; have HM8 := Lib.hid hM; have HF8 := Lib.hid hf; have HG8 := Lib.hid (hM.heap ((((Below.refl W.heap.size W).alloc (Nat.le_refl _) _).block g (M.heap_lt HG.out)).trans HG.out) (fun ⟨a, e1, e2⟩ => H4.out a e1 e2.symm)); have c8 := box1 HG8.out; have nf8 : w8.frozen? ⟨g, 0, none⟩ = false := (by simp [World.frozen?, HG8.out]); clear ho hM hb hf)
    go_end0
    have hf := HF8.out
    have hgl := M.heap_lt HG.out
    simp only [World.size_alloc] at hf
    have hne : ∀ a, ro' = some a → a.block ≠ g := fun a e => by
      rcases hf a e with ⟨a0, e1, e2⟩ | h
      · rw [e2]; exact H4.out a0 e1
      · omega
    have hset := heap_set w8 g 0 (.slice ro' (Z.length + 1) rc') g _ _ _ HG8.out
    rw [if_pos rfl] at hset
    have hms : Mods (fun j => j = g) w8 (w8.setCell ⟨g, 0, none⟩ (.slice ro' (Z.length + 1) rc')) := (Mods.refl (fun j => j = g) w8).setCell (p := ⟨g, 0, none⟩) (fun _ => rfl) _
    have hM2 : Mods (fun j => ∃ a, oo = some a ∧ j = a.block) W w8 := (Mods.of_below ((Below.refl W.heap.size W).alloc (Nat.le_refl _) _)).then HM8.out (fun _ _ h => h)
    refine ⟨rfl, fun j => j = g ∨ ∃ a, ro' = some a ∧ j = a.block, ⟨ro', rc', ?_, ?_, ?_, hne, fun j => Iff.rfl⟩, ?_, fun j hj => ?_⟩
    · rw [List.length_append, HLM.out]
      exact hset
    · rw [List.map_append, HMM.out]
      exact HO8.out.keep hms hne
    · have := hms.size; have := hM2.size; have := HB.out.size; have := H3.out; omega
    · refine (((Mods.of_below (S := C) HB.out).then hM2 (fun j _ ⟨a, e, e2⟩ => (H5.out j).2 (.inr ⟨a, e, e2⟩))).then hms (fun j _ e => (H5.out j).2 (.inl e)))
    · rcases hj with rfl | ⟨a, e, rfl⟩
      · exact .inl ((H5.out _).2 (.inl rfl))
      · rcases hf a e with ⟨a0, e1, e2⟩ | h
        · exact .inl ((H5.out _).2 (.inr ⟨a0, e1, e2⟩))
        · right; have := HB.out.size; omega
theorem mem_ids (A : List (O.Id × En)) (c : Cmd) (but : O.Id) (L : List (O.Id × En)) (h : AllMet A c but L) : setI (L.map Prod.fst) = setI ((metL A c but).map Prod.fst) :=
  setI_same fun i => ⟨fun hi => by
    obtain ⟨p, hp, rfl⟩ := List.mem_map.1 hi
    exact List.mem_map.2 ⟨p, (h p).1 hp, rfl⟩, fun hi => by
    obtain ⟨p, hp, rfl⟩ := List.mem_map.1 hi
    exact List.mem_map.2 ⟨p, (h p).2 hp, rfl⟩⟩
set_option maxRecDepth 100000 in
set_option maxHeartbeats 4000000 in
theorem deps_any (x n : Nat) (A : List (O.Id × En)) (F : Nat → Prop) (c : Cmd) (but : O.Id) (w : World) (h : Ix w x n A F) (hks : c.key.size ≤ maxLen) (hcl : InI c.client) (hn : n ≤ 300) :
    Calls Tryz.prog 32 #[.pointer (some ⟨x, 0, none⟩), cmdV c, idV but] w fun e w' => ∃ oo oc, e = .returned (.slice oo (setI ((metL A c but).map Prod.fst)).length oc) ∧ (OwnL w' w.heap.size oo oc (setI ((metL A c but).map Prod.fst)) ∧ Below w.heap.size w w') := by
  have HXL := Lib.hid h.lt
  have HAK := Lib.hid (show ∀ p ∈ A, IdI p.1 from by
    obtain ⟨KM, CM, G, GW, ba, bk, bc, bw, h1, h2, h3, h4⟩ := h
    exact h1.m.all.ok)
  obtain ⟨KM, CM, G, GW, ba, bk, bc, bw, h1, h2, h3, h4⟩ := h
  have HH := Lib.hid h1
  have HKS := Lib.hid hks
  have HCL := Lib.hid hcl
  have HN := Lib.hid hn
  clear h1 h2 h3 h4 hks hcl hn
  go_enter Tryz.func32, Tryz.ntmps32
  go_upto_region 2 with fail
  obtain ⟨W, hW⟩ : ∃ W, W = ((w.alloc (.cells (cmdA c) 24)).alloc (idO but)).alloc (.cells #[.slice none 0 0] 36) := ⟨_, rfl⟩
  rw [← hW]
  have HB : Hid (Below w.heap.size w W) := Lib.hid (by rw [hW]; exact (((Below.refl _ _).alloc (Nat.le_refl _) _).alloc (by simp) _).alloc (by simp; omega) _)
  have HC : Hid (W.heap[w.heap.size]? = some (.cells (cmdA c) 24 (0, 0))) := Lib.hid (by rw [hW, heap_al, if_neg (by simp; omega), heap_al, if_neg (by simp)]; exact heap_alloc_new w _)
  have HX : Hid (W.heap[w.heap.size + 1]? = some (idO but)) := Lib.hid (by rw [hW, heap_al, if_neg (by simp), heap_al, if_pos (by simp)])
  have HG : Hid (W.heap[w.heap.size + 2]? = some (.cells #[.slice none 0 0] 36 (0, 0))) := Lib.hid (by rw [hW, heap_al, if_pos (by simp)])
  clear hW
  obtain ⟨g, hg⟩ : ∃ g, w.heap.size + 2 = g := ⟨_, rfl⟩
  have hg2 : w.heap.size + 1 + 1 = g := by omega
  have HGE := Lib.hid (show w.heap.size ≤ g by omega)
  rw [hg] at HG
  have HIX := Lib.hid (show IxAt W x n A KM CM G GW ba bk bc bw from ⟨HH.out.m.below HB.out, HH.out.pl⟩)
  have HLS := Lib.hid (show ∀ j, IxF KM CM ba bk bc bw j → j < w.heap.size from HH.out.m.lts)
  have HME := Lib.hid (meets_deps x n A KM CM G GW ba bk bc bw c but g (DepS w.heap.size g) (fun j => j = g ∨ ∃ a, (none : Option Addr) = some a ∧ j = a.block) W HIX.out HKS.out HCL.out HN.out (depfn_any w.heap.size g A c but)
    ⟨none, 0, HG.out, OwnG.nil _ _ _, HB.out.size, fun a e => (by cases e), fun j => Iff.rfl⟩ (fun j hj => by
      rcases hj with rfl | ⟨a, e, _⟩
      · exact ⟨fun hj => by have := HLS.out _ hj; have := HGE.out; omega, by have := HXL.out; have := HGE.out; omega⟩
      · cases e))
  obtain ⟨⟨c0, c1, c2, c3, c4, c5⟩, _⟩ := box6 HC.out
  obtain ⟨⟨d0, d1⟩, _⟩ := box2 HX.out
  rw [hg2]
  clear hg hg2
  go_wp2_with fail
  refine HME.out.mono ?_
  rintro e w1 ⟨rfl, L, C, ⟨oo, oc, k1, k2, k3, k4, k5⟩, hall, hm, hcb, hlen⟩
  have HG1 := Lib.hid k1
  have HO1 := Lib.hid k2
  have HALL := Lib.hid hall
  have HM1 := Lib.hid hm
  have HLEN := Lib.hid hlen
  have HB1 := Lib.hid (show Below w.heap.size w w1 from HB.out.trans (hm.below (B := w.heap.size) (fun j hj => by
    rcases hj with rfl | ⟨a, e, _⟩
    · exact HGE.out
    · cases e) HB.out.size))
  clear k1 k2 k3 k4 k5 hall hm hcb hlen HME c0 c1 c2 c3 c4 c5 d0 d1
  have c0 := box1 HG1.out
  obtain ⟨Z, hM⟩ : ∃ Z, L.map Prod.fst = Z := ⟨_, rfl⟩
  have hmap : L.length = Z.length := by rw [← hM]; simp
  have HMM := Lib.hid hM
  have hml : Z.length ≤ 200000 := by have := HLEN.out; omega
  rw [hM] at HO1
  rw [hmap] at c0
  clear hmap hM
  have HSET := Lib.hid (set_any Z oo oc w1 (IdsV.of_own HO1.out (fun i hi => by
    rw [← HMM.out] at hi
    obtain ⟨p, hp, rfl⟩ := List.mem_map.1 hi
    exact HAK.out p (mem_met.1 ((HALL.out p).1 hp)).1)) (by omega))
  go_wp2_with fail
  refine HSET.out.mono ?_
  rintro e w2 ⟨o2, oc2, rfl, ho2, hb2⟩
  have HO2 := Lib.hid ho2
  have HB2 := Lib.hid hb2
  clear ho2 hb2 HSET c0
  go_wp2_with fail
  go_ret
  have hs := mem_ids A c but L HALL.out
  rw [HMM.out] at hs
  refine ⟨o2, oc2, ret_val (by rw [← hs]; rfl), ?_⟩
  rw [← hs]
  exact ⟨own_base HO2.out (fun k hk => Nat.le_trans HB1.out.size (HO2.out.lt k hk).1), HB1.out.trans (HB2.out.mono HB1.out.size)⟩
/-- the greatest number that came -/
def SeqS (B g : Nat) (L : List (O.Id × En)) (C : Nat → Prop) (w : World) : Prop :=
  w.heap[g]? = some (.cells #[.int .i64 (mostN L)] 3 (0, 0)) ∧ B ≤ w.heap.size ∧ ∀ j, C j ↔ j = g
theorem most_app (L : List (O.Id × En)) (p : O.Id × En) : mostN (L ++ [p]) = max (mostN L) p.2.seq := by
  unfold mostN
  rw [List.foldl_append]
  rfl
set_option maxRecDepth 100000 in
set_option maxHeartbeats 4000000 in
theorem seqfn_any (B g : Nat) (A : List (O.Id × En)) (c : Cmd) (but : O.Id) : Each A c but 64 g (SeqS B g) := by
  refine ⟨fun L C w1 w2 S h hm hC => ?_, fun L C w1 h j hj => ?_, fun L C w1 p h hp hl => ?_⟩
  · obtain ⟨h1, h3, h5⟩ := h
    exact ⟨hm.heap h1 (hC g ((h5 g).2 rfl)), Nat.le_trans h3 hm.size, h5⟩
  · obtain ⟨h1, h3, h5⟩ := h
    obtain rfl := (h5 j).1 hj
    exact M.heap_lt h1
  · obtain ⟨h1, h3, h5⟩ := h
    have H1 := Lib.hid h1
    have H3 := Lib.hid h3
    have H5 := Lib.hid h5
    obtain ⟨m, hm⟩ : ∃ m, mostN L = m := ⟨_, rfl⟩
    have HMX := Lib.hid (most_app L p)
    rw [hm] at H1 HMX
    clear h1 h3 h5 hl hm
    go_enter Tryz.func64, Tryz.ntmps64
    go_upto_region 1 with fail
    obtain ⟨W, hW⟩ : ∃ W, W = (w1.alloc (idO p.1)).alloc (.cells #[.int .i64 p.2.c.kind, .int .i64 p.2.c.client, .int .i64 p.2.c.seq, .string p.2.c.key, .string p.2.c.val, .int .i64 p.2.c.rev, .int .i64 p.2.seq] 111) := ⟨_, rfl⟩
    rw [← hW]
    have HB : Hid (Below w1.heap.size w1 W) := Lib.hid (by rw [hW]; exact ((Below.refl _ _).alloc (Nat.le_refl _) _).alloc (by simp) _)
    have HE : Hid (W.heap[w1.heap.size + 1]? = some (.cells #[.int .i64 p.2.c.kind, .int .i64 p.2.c.client, .int .i64 p.2.c.seq, .string p.2.c.key, .string p.2.c.val, .int .i64 p.2.c.rev, .int .i64 p.2.seq] 111 (0, 0))) := Lib.hid (by rw [hW, heap_al, if_pos (by simp)])
    clear hW
    obtain ⟨f0, f1, f2, f3, f4, f5, f6⟩ := box7 HE.out
    have HG := Lib.hid ((HB.out.block g (M.heap_lt H1.out)).trans H1.out)
    have c0 := box1 HG.out
    have nf : W.frozen? ⟨g, 0, none⟩ = false := by simp [World.frozen?, HG.out]
    go_wp2_with fail
    go_end0
    have hset := heap_set W g 0 (.int .i64 (max m p.2.seq)) g _ _ _ HG.out
    rw [if_pos rfl] at hset
    have hms : Mods (fun j => j = g) W (W.setCell ⟨g, 0, none⟩ (.int .i64 (max m p.2.seq))) := (Mods.refl (fun j => j = g) W).setCell (p := ⟨g, 0, none⟩) (fun _ => rfl) _
    refine ⟨rfl, fun j => j = g, ⟨?_, ?_, fun j => Iff.rfl⟩, (Mods.of_below (S := C) HB.out).then hms (fun j _ e => (H5.out j).2 e), fun j e => .inl ((H5.out j).2 e)⟩
    · rw [HMX.out]; exact hset
    · have := hms.size; have := HB.out.size; have := H3.out; omega
theorem most_met (A : List (O.Id × En)) (c : Cmd) (but : O.Id) (L : List (O.Id × En)) (h : AllMet A c but L) : mostN L = mostN (metL A c but) := by
  rw [mostN_V, mostN_V]
  refine mostV_one fun v => ⟨fun hv => ?_, fun hv => ?_⟩
  · obtain ⟨p, hp, rfl⟩ := List.mem_map.1 hv
    exact List.mem_map.2 ⟨p, (h p).1 hp, rfl⟩
  · obtain ⟨p, hp, rfl⟩ := List.mem_map.1 hv
    exact List.mem_map.2 ⟨p, (h p).2 hp, rfl⟩
set_option maxRecDepth 100000 in
set_option maxHeartbeats 4000000 in
theorem seq_any (x n : Nat) (A : List (O.Id × En)) (F : Nat → Prop) (c : Cmd) (but : O.Id) (w : World) (h : Ix w x n A F) (hks : c.key.size ≤ maxLen) (hcl : InI c.client) (hn : n ≤ 300) (v : Int) (hv : mostN (metL A c but) = v) (h0 : 0 ≤ v) (h1 : v ≤ 4611686018427387904) :
    Calls Tryz.prog 33 #[.pointer (some ⟨x, 0, none⟩), cmdV c, idV but] w fun e w' => e = .returned (.int .i64 (v + 1)) ∧ Below w.heap.size w w' := by
  have HXL := Lib.hid h.lt
  obtain ⟨KM, CM, G, GW, ba, bk, bc, bw, h1, h2, h3, h4⟩ := h
  have HH := Lib.hid h1
  have HKS := Lib.hid hks
  have HCL := Lib.hid hcl
  have HN := Lib.hid hn
  have HV := Lib.hid hv
  clear h1 h2 h3 h4 hks hcl hn hv
  go_enter Tryz.func33, Tryz.ntmps33
  go_upto_region 2 with fail
  obtain ⟨W, hW⟩ : ∃ W, W = ((w.alloc (.cells (cmdA c) 24)).alloc (idO but)).alloc (.cells #[.int .i64 0] 3) := ⟨_, rfl⟩
  rw [← hW]
  have HB : Hid (Below w.heap.size w W) := Lib.hid (by rw [hW]; exact (((Below.refl _ _).alloc (Nat.le_refl _) _).alloc (by simp) _).alloc (by simp; omega) _)
  have HC : Hid (W.heap[w.heap.size]? = some (.cells (cmdA c) 24 (0, 0))) := Lib.hid (by rw [hW, heap_al, if_neg (by simp; omega), heap_al, if_neg (by simp)]; exact heap_alloc_new w _)
  have HX : Hid (W.heap[w.heap.size + 1]? = some (idO but)) := Lib.hid (by rw [hW, heap_al, if_neg (by simp), heap_al, if_pos (by simp)])
  have HG : Hid (W.heap[w.heap.size + 2]? = some (.cells #[.int .i64 0] 3 (0, 0))) := Lib.hid (by rw [hW, heap_al, if_pos (by simp)])
  clear hW
  obtain ⟨g, hg⟩ : ∃ g, w.heap.size + 2 = g := ⟨_, rfl⟩
  have hg2 : w.heap.size + 1 + 1 = g := by omega
  have HGE := Lib.hid (show w.heap.size ≤ g by omega)
  rw [hg] at HG
  have HIX := Lib.hid (show IxAt W x n A KM CM G GW ba bk bc bw from ⟨HH.out.m.below HB.out, HH.out.pl⟩)
  have HLS := Lib.hid (show ∀ j, IxF KM CM ba bk bc bw j → j < w.heap.size from HH.out.m.lts)
  have HME := Lib.hid (meets_seq x n A KM CM G GW ba bk bc bw c but g (SeqS w.heap.size g) (fun j => j = g) W HIX.out HKS.out HCL.out HN.out (seqfn_any w.heap.size g A c but)
    ⟨HG.out, HB.out.size, fun j => Iff.rfl⟩ (fun j hj => by
      subst hj
      exact ⟨fun hj => by have := HLS.out _ hj; have := HGE.out; omega, by have := HXL.out; have := HGE.out; omega⟩))
  obtain ⟨⟨c0, c1, c2, c3, c4, c5⟩, _⟩ := box6 HC.out
  obtain ⟨⟨d0, d1⟩, _⟩ := box2 HX.out
  rw [hg2]
  clear hg hg2
  go_wp2_with fail
  refine HME.out.mono ?_
  rintro e w1 ⟨rfl, L, C, ⟨k1, k3, k5⟩, hall, hm, hcb, hlen⟩
  rw [most_met A c but L hall, HV.out] at k1
  have HG1 := Lib.hid k1
  have HB1 := Lib.hid (show Below w.heap.size w w1 from HB.out.trans (hm.below (B := w.heap.size) (fun j hj => by subst hj; exact HGE.out) HB.out.size))
  clear k1 k3 k5 hall hm hcb hlen HME c0 c1 c2 c3 c4 c5 d0 d1
  have c0 := box1 HG1.out
  go_wp2_with fail
  go_ret
  exact ⟨rfl, HB1.out⟩
end Go.Proofs.YtlbkbjeajcadiaaGreatDoor.B
