/- The index in memory: in, Put. -/
import Derived.Test.YtlbkbjeajcadiaaGreatDoorBkB
namespace Go.Proofs.YtlbkbjeajcadiaaGreatDoor.B
open Go.RowKit Go.Proofs.YtlbkbjeajcadiaaGreatDoor.M Go.BigFrame Go.Maps Go.Proofs.YtlbkbjeajcadiaaGreatDoor.O Go.Proofs.YtlbkbjeajcadiaaGreatDoor.P Go.Proofs.YtlbkbjeajcadiaaGreatDoor.Mp
set_option linter.unusedVariables false
set_option linter.unusedSimpArgs false

theorem delD_none {κ ν : Type} [DecidableEq κ] {L : List (κ × ν)} {k : κ} (h : k ∉ L.map Prod.fst) : delD L k = L := by
  unfold delD
  rw [List.filter_eq_self]
  intro p hp
  have : p.1 ≠ k := fun e => h (List.mem_map.2 ⟨p, hp, e⟩)
  simpa using this
theorem delD_not {κ ν : Type} [DecidableEq κ] (L : List (κ × ν)) (k : κ) : k ∉ (delD L k).map Prod.fst := by
  intro h
  obtain ⟨p, hp, e⟩ := List.mem_map.1 h
  exact (mem_delD.1 hp).2 e
theorem putD_new {κ ν : Type} [DecidableEq κ] {L : List (κ × ν)} {k : κ} (h : k ∉ L.map Prod.fst) (v : ν) : putD L k v = L ++ [(k, v)] := by
  unfold putD
  rw [delD_none h]
theorem putD_del {κ ν : Type} [DecidableEq κ] (L : List (κ × ν)) (k : κ) (v : ν) : putD (delD L k) k v = putD L k v := by
  rw [putD_new (delD_not L k)]
  rfl
theorem keysN {κ : Type} {L : List (κ × Nat)} : (L.map fun p => (p.1, some p.2)).map Prod.fst = L.map Prod.fst := by rw [List.map_map]; rfl
/-- what 'in' leaves -/
def InR {κ : Type} (S : MapS κ (Option Nat)) [DecidableEq κ] (w w' : World) (bm n : Nat) (KM : List (κ × Nat)) (G : Nat → List (O.Id × Bool)) (k : κ) (i : O.Id) (g : Nat) : Prop :=
  ((k, g) ∈ KM ∧ MapL sGB w' g (n + 1) (putD (G g) i true) ∧ Mods (fun j => j = g) w w') ∨
    (k ∉ KM.map Prod.fst ∧ w.heap.size ≤ g ∧ MapL S w' bm (n + 1) ((KM ++ [(k, g)]).map fun p => (p.1, some p.2)) ∧ MapL sGB w' g (n + 1) [(i, true)] ∧ Mods (fun j => j = bm) w w')
set_option maxRecDepth 100000 in
set_option maxHeartbeats 4000000 in
theorem ins_any (bm n : Nat) (KM : List (ByteArray × Nat)) (G : Nat → List (O.Id × Bool)) (k : ByteArray) (i : O.Id) (w : World) (hm : MapL sKG w bm n (KM.map fun p => (p.1, some p.2))) (hg : ∀ p ∈ KM, MapL sGB w p.2 n (G p.2)) (hnd : (KM.map Prod.fst).Nodup) (hk : sKG.ok k) (hi : IdI i) (hn : n ≤ 1000000) :
    Calls Tryz.prog 85 #[.map (some bm), (.string k), idV i] w fun e w' => e = .returned (.tuple #[]) ∧ ∃ g, InR sKG w w' bm n KM G k i g := by
  have HI := Lib.hid hi
  have HK := Lib.hid hk
  have HN := Lib.hid hn
  have hmm := @run_makeMap Tryz.prog
  by_cases hmem : k ∈ KM.map Prod.fst
  · obtain ⟨p, hp, rfl⟩ := List.mem_map.1 hmem
    obtain ⟨k, g⟩ := p
    have hq : ∀ w : World, (binOp .eql 84 (.map (some g)) (.map none)).run Tryz.prog w = .ok (.bool false) w := fun w => run_eql_map_nil w _ _ _ _ Tryz.underlying84
    have HM := Lib.hid hm
    have HG := Lib.hid (hg _ hp)
    have HP := Lib.hid hp
    have HF := Lib.hid (kfind hnd hp)
    clear hmem hm hg hnd hk hi hn hp
    go_enter Tryz.func85, Tryz.ntmps85
    go_upto_region 1 with fail
    obtain ⟨W, hW⟩ : ∃ W, W = w.alloc (idO i) := ⟨_, rfl⟩
    rw [← hW]
    have HB : Hid (Below w.heap.size w W) := Lib.hid (by rw [hW]; exact (Below.refl _ _).alloc (Nat.le_refl _) _)
    have HX : Hid (W.heap[w.heap.size]? = some (idO i)) := Lib.hid (by rw [hW]; exact heap_alloc_new w _)
    clear hW
    obtain ⟨⟨d0, d1⟩, _⟩ := box2 HX.out
    have hl : (Instr.lookup 81 (.map (some bm)) (.string k) false).run Tryz.prog W = .ok (.map (some g)) W := (HM.out.below HB.out).look lKG HK.out HF.out
    go_wp2_with (refine wpList_putL lGB (HG.out.below HB.out) (by have := HN.out; unfold maxLen; omega) i HI.out true (by rfl) _ _ _ (by rfl) (by rfl) (by rfl) (by rfl) ?_
                 intro w6 hm6 hM6
                 have HM6 := Lib.hid hm6
                 have HD6 := Lib.hid hM6
                 clear hm6 hM6)
    go_end0
    exact ⟨rfl, g, .inl ⟨HP.out, HM6.out, (Mods.of_below HB.out).then HD6.out (fun _ _ h => h)⟩⟩
  · have hq : ∀ w : World, (binOp .eql 84 (.map none) (.map none)).run Tryz.prog w = .ok (.bool true) w := fun w => run_eql_map_nil w _ _ _ _ Tryz.underlying84
    have HM := Lib.hid hm
    have HME := Lib.hid hmem
    have HF := Lib.hid (kfind_none hmem)
    clear hmem hm hg hnd hk hi hn
    go_enter Tryz.func85, Tryz.ntmps85
    go_upto_region 1 with fail
    obtain ⟨W, hW⟩ : ∃ W, W = w.alloc (idO i) := ⟨_, rfl⟩
    rw [← hW]
    have HB : Hid (Below w.heap.size w W) := Lib.hid (by rw [hW]; exact (Below.refl _ _).alloc (Nat.le_refl _) _)
    have HX : Hid (W.heap[w.heap.size]? = some (idO i)) := Lib.hid (by rw [hW]; exact heap_alloc_new w _)
    clear hW
    have hl : (Instr.lookup 81 (.map (some bm)) (.string k) false).run Tryz.prog W = .ok (.map none) W := (HM.out.below HB.out).look lKG HK.out HF.out
    go_upto_region 2 with fail
    clear hl hq
    go_upto_region 3 with (refine wpList_putL lKG (HM.out.below (HB.out.trans ((Below.refl _ _).alloc (Nat.le_refl _) _ |>.mono HB.out.size))) (by have := HN.out; unfold maxLen; omega) k HK.out (some W.heap.size) (by rfl) _ _ _ (by rfl) (by rfl) (by rfl) (by rfl) ?_
                           intro w6 hm6 hM6
                           rw [putD_new (by rw [keysN]; exact HME.out)] at hm6
                           have HM6 := Lib.hid hm6
                           have HD6 := Lib.hid hM6
                           have HX6 := Lib.hid (hM6.heap (((Below.refl W.heap.size W).alloc (Nat.le_refl _) (.map #[] 0)).block _ (M.heap_lt HX.out) |>.trans HX.out) (by have := HM.out.lt; omega))
                           have HG6 := Lib.hid ((MapL.made (S := sGB) W).keep hM6 (by have := HM.out.lt; have := HB.out.size; omega))
                           have HS6 := Lib.hid hM6.size
                           clear hm6 hM6)
    obtain ⟨⟨d0, d1⟩, _⟩ := box2 HX6.out
    have hl : (Instr.lookup 81 (.map (some bm)) (.string k) false).run Tryz.prog w6 = .ok (.map (some W.heap.size)) w6 := HM6.out.look lKG HK.out (by
      unfold lookD
      rw [findD_app, findD_none.2 (by rw [keysN]; exact HME.out)]
      simp [findD])
    go_wp2_with (refine wpList_putL lGB HG6.out (by unfold maxLen; omega) i HI.out true (by rfl) _ _ _ (by rfl) (by rfl) (by rfl) (by rfl) ?_
                 intro w7 hm7 hM7
                 have HM7 := Lib.hid hm7
                 have HD7 := Lib.hid hM7
                 clear hm7 hM7)
    go_end0
    have z1 := HM.out.lt
    have z2 := HB.out.size
    refine ⟨rfl, W.heap.size, .inr ⟨HME.out, HB.out.size, ?_, ?_, ?_⟩⟩
    · rw [List.map_append]
      exact HM6.out.keep HD7.out (by omega)
    · have := HM7.out.mono (m := n + 1) (by omega)
      rw [putD_new (by simp)] at this
      exact this
    · exact ((Mods.of_below (S := fun j => j = bm) (HB.out.trans ((Below.refl _ _).alloc (Nat.le_refl _) _ |>.mono HB.out.size))).then HD6.out (fun _ _ h => h)).then HD7.out (fun j hj e => by omega)
set_option maxRecDepth 100000 in
set_option maxHeartbeats 4000000 in
theorem ini_any (bm n : Nat) (KM : List (Int × Nat)) (G : Nat → List (O.Id × Bool)) (k : Int) (i : O.Id) (w : World) (hm : MapL sCG w bm n (KM.map fun p => (p.1, some p.2))) (hg : ∀ p ∈ KM, MapL sGB w p.2 n (G p.2)) (hnd : (KM.map Prod.fst).Nodup) (hk : sCG.ok k) (hi : IdI i) (hn : n ≤ 1000000) :
    Calls Tryz.prog 86 #[.map (some bm), (.int .i64 k), idV i] w fun e w' => e = .returned (.tuple #[]) ∧ ∃ g, InR sCG w w' bm n KM G k i g := by
  have HI := Lib.hid hi
  have HK := Lib.hid hk
  have HN := Lib.hid hn
  have hmm := @run_makeMap Tryz.prog
  by_cases hmem : k ∈ KM.map Prod.fst
  · obtain ⟨p, hp, rfl⟩ := List.mem_map.1 hmem
    obtain ⟨k, g⟩ := p
    have hq : ∀ w : World, (binOp .eql 84 (.map (some g)) (.map none)).run Tryz.prog w = .ok (.bool false) w := fun w => run_eql_map_nil w _ _ _ _ Tryz.underlying84
    have HM := Lib.hid hm
    have HG := Lib.hid (hg _ hp)
    have HP := Lib.hid hp
    have HF := Lib.hid (kfind hnd hp)
    clear hmem hm hg hnd hk hi hn hp
    go_enter Tryz.func86, Tryz.ntmps86
    go_upto_region 1 with fail
    obtain ⟨W, hW⟩ : ∃ W, W = w.alloc (idO i) := ⟨_, rfl⟩
    rw [← hW]
    have HB : Hid (Below w.heap.size w W) := Lib.hid (by rw [hW]; exact (Below.refl _ _).alloc (Nat.le_refl _) _)
    have HX : Hid (W.heap[w.heap.size]? = some (idO i)) := Lib.hid (by rw [hW]; exact heap_alloc_new w _)
    clear hW
    obtain ⟨⟨d0, d1⟩, _⟩ := box2 HX.out
    have hl : (Instr.lookup 82 (.map (some bm)) (.int .i64 k) false).run Tryz.prog W = .ok (.map (some g)) W := (HM.out.below HB.out).look lCG HK.out HF.out
    go_wp2_with (refine wpList_putL lGB (HG.out.below HB.out) (by have := HN.out; unfold maxLen; omega) i HI.out true (by rfl) _ _ _ (by rfl) (by rfl) (by rfl) (by rfl) ?_
                 intro w6 hm6 hM6
                 have HM6 := Lib.hid hm6
                 have HD6 := Lib.hid hM6
                 clear hm6 hM6)
    go_end0
    exact ⟨rfl, g, .inl ⟨HP.out, HM6.out, (Mods.of_below HB.out).then HD6.out (fun _ _ h => h)⟩⟩
  · have hq : ∀ w : World, (binOp .eql 84 (.map none) (.map none)).run Tryz.prog w = .ok (.bool true) w := fun w => run_eql_map_nil w _ _ _ _ Tryz.underlying84
    have HM := Lib.hid hm
    have HME := Lib.hid hmem
    have HF := Lib.hid (kfind_none hmem)
    clear hmem hm hg hnd hk hi hn
    go_enter Tryz.func86, Tryz.ntmps86
    go_upto_region 1 with fail
    obtain ⟨W, hW⟩ : ∃ W, W = w.alloc (idO i) := ⟨_, rfl⟩
    rw [← hW]
    have HB : Hid (Below w.heap.size w W) := Lib.hid (by rw [hW]; exact (Below.refl _ _).alloc (Nat.le_refl _) _)
    have HX : Hid (W.heap[w.heap.size]? = some (idO i)) := Lib.hid (by rw [hW]; exact heap_alloc_new w _)
    clear hW
    have hl : (Instr.lookup 82 (.map (some bm)) (.int .i64 k) false).run Tryz.prog W = .ok (.map none) W := (HM.out.below HB.out).look lCG HK.out HF.out
    go_upto_region 2 with fail
    clear hl hq
    go_upto_region 3 with (refine wpList_putL lCG (HM.out.below (HB.out.trans ((Below.refl _ _).alloc (Nat.le_refl _) _ |>.mono HB.out.size))) (by have := HN.out; unfold maxLen; omega) k HK.out (some W.heap.size) (by rfl) _ _ _ (by rfl) (by rfl) (by rfl) (by rfl) ?_
                           intro w6 hm6 hM6
                           rw [putD_new (by rw [keysN]; exact HME.out)] at hm6
                           have HM6 := Lib.hid hm6
                           have HD6 := Lib.hid hM6
                           have HX6 := Lib.hid (hM6.heap (((Below.refl W.heap.size W).alloc (Nat.le_refl _) (.map #[] 0)).block _ (M.heap_lt HX.out) |>.trans HX.out) (by have := HM.out.lt; omega))
                           have HG6 := Lib.hid ((MapL.made (S := sGB) W).keep hM6 (by have := HM.out.lt; have := HB.out.size; omega))
                           have HS6 := Lib.hid hM6.size
                           clear hm6 hM6)
    obtain ⟨⟨d0, d1⟩, _⟩ := box2 HX6.out
    have hl : (Instr.lookup 82 (.map (some bm)) (.int .i64 k) false).run Tryz.prog w6 = .ok (.map (some W.heap.size)) w6 := HM6.out.look lCG HK.out (by
      unfold lookD
      rw [findD_app, findD_none.2 (by rw [keysN]; exact HME.out)]
      simp [findD])
    go_wp2_with (refine wpList_putL lGB HG6.out (by unfold maxLen; omega) i HI.out true (by rfl) _ _ _ (by rfl) (by rfl) (by rfl) (by rfl) ?_
                 intro w7 hm7 hM7
                 have HM7 := Lib.hid hm7
                 have HD7 := Lib.hid hM7
                 clear hm7 hM7)
    go_end0
    have z1 := HM.out.lt
    have z2 := HB.out.size
    refine ⟨rfl, W.heap.size, .inr ⟨HME.out, HB.out.size, ?_, ?_, ?_⟩⟩
    · rw [List.map_append]
      exact HM6.out.keep HD7.out (by omega)
    · have := HM7.out.mono (m := n + 1) (by omega)
      rw [putD_new (by simp)] at this
      exact this
    · exact ((Mods.of_below (S := fun j => j = bm) (HB.out.trans ((Below.refl _ _).alloc (Nat.le_refl _) _ |>.mono HB.out.size))).then HD6.out (fun _ _ h => h)).then HD7.out (fun j hj e => by omega)
end Go.Proofs.YtlbkbjeajcadiaaGreatDoor.B
