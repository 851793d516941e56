/- Contract: slices.Delete of one envelope. -/
import Derived.Test.YtngackbgcknphaaBagC
import Derived.Deep.LoopGhost
import Derived.Lib.Walk
namespace Go.Proofs.Ytngackbgcknphaa.B
open Go.RowKit M
set_option linter.unusedVariables false

theorem zero_env (w : World) : (zeroValue 24).run Try.prog w = .ok (.agg #[.int .i64 0, .int .i64 0, .slice none 0 0]) w := by kernel_rfl

set_option maxRecDepth 100000 in
set_option maxHeartbeats 1000000 in
theorem delete_any (B : Nat) (w : World) (g n cap : Nat) (xs : List Value) (i : Nat) (h : w.ownsRow B 24 3 (.slice (some ⟨g, 0, none⟩) n cap) n xs) (h1 : ∀ u ∈ xs, u.oneCell' = true) (hin : i < n) :
    Calls Try.prog 19 #[.slice (some ⟨g, 0, none⟩) n cap, .int .i64 i, .int .i64 ((i : Int) + 1)] w fun e w' => e = .returned (.slice (some ⟨g, 0, none⟩) (n - 1) cap) ∧ (w'.ownsRow B 24 3 (.slice (some ⟨g, 0, none⟩) (n - 1) cap) (n - 1) (xs.take (i * 3) ++ xs.drop ((i + 1) * 3)) ∧ Mods (fun k => k = g) w w') := by
  obtain ⟨i0, hi, hz0, hz1, hz2⟩ := info_parts info_env
  obtain ⟨hxl, h⟩ := h
  rcases h with ⟨h0, _⟩ | ⟨g', c', cur, e0, hB, hg, hnc, hcm, hcs, htk⟩
  · cases h0
  cases e0
  obtain ⟨news, hnews⟩ : ∃ news, news = xs.drop ((i + 1) * 3) := ⟨_, rfl⟩
  have hlen : news.length = (n - (i + 1)) * 3 := by rw [hnews, List.length_drop, hxl]; omega
  have hget : ∀ t u, news[t]? = some u → w.cell? ⟨g, (i + 1) * 3 + t, none⟩ = some u := by
    intro t u hu
    have ht := (List.getElem?_eq_some_iff.1 hu).1
    rw [cell_of_row w g _ cur _ (0, 0) hg, ← Array.getElem?_toList]
    rw [hnews, List.getElem?_drop, ← htk, List.getElem?_take, if_pos (by omega)] at hu
    exact hu
  obtain ⟨A, hA, hsrc⟩ : ∃ A : Addr, (if cap = i + 1 then (some ⟨g, 0, none⟩ : Option Addr) else some ⟨g, (i + 1) * 3, none⟩) = some A ∧ Hid (∀ t u, news[t]? = some u → w.drew.cell? (A.add t) = some u) := by
    by_cases hc : cap = i + 1
    · refine ⟨⟨g, 0, none⟩, by simp [hc], fun t u hu => ?_⟩
      have := (List.getElem?_eq_some_iff.1 hu).1
      omega
    · refine ⟨⟨g, (i + 1) * 3, none⟩, by simp [hc], fun t u hu => ?_⟩
      rw [Addr.add_lit]
      exact hget t u hu
  have hcm' : (cap : Int) ≤ 9223372036854775807 := by unfold maxLen at hcm; omega
  have hG := Lib.hid hg
  have HXL := Lib.hid hxl
  have hic : i ≤ cap := by omega
  have hjc : i + 1 ≤ cap := by omega
  have hji : i + 1 ≤ n := by omega
  have hb0 : (0 : Int) ≤ (i : Int) + 1 := by omega
  have hb1 : (i : Int) + 1 ≤ (n : Int) := by omega
  have HONE := Lib.hid (show ∀ u ∈ news, u.oneCell' = true from fun u hu => h1 u (List.mem_of_mem_drop (by rw [← hnews]; exact hu)))
  obtain ⟨cur1, hcur1⟩ : ∃ cur1, cur1 = (cur.toList.take (i * 3) ++ news ++ cur.toList.drop (i * 3 + news.length)).toArray := ⟨_, rfl⟩
  obtain ⟨W1, hW1⟩ : ∃ W1, W1 = w.drew.setRow g cur1 := ⟨_, rfl⟩
  have HW1 := Lib.hid (show W1 = w.drew.setRow g (cur.toList.take (i * 3) ++ news ++ cur.toList.drop (i * 3 + news.length)).toArray by rw [hW1, hcur1])
  have hg1 : W1.heap[g]? = some (.cells cur1 24 (0, 0)) := by rw [hW1]; exact setRow_heap w.drew g cur cur1 _ (0, 0) hg
  have HG1 := Lib.hid hg1
  have hsz1 : cur1.size = cap * 3 := by
    rw [hcur1]; simp only [List.size_toArray, List.length_append, List.length_take, List.length_drop, Array.length_toList, hlen, hcs]; omega
  obtain ⟨cur2, hcur2⟩ : ∃ cur2, cur2 = (cur1.toList.take ((n - 1) * 3) ++ ([.int .i64 0, .int .i64 0, .slice none 0 0] : List Value) ++ cur1.toList.drop ((n - 1) * 3 + 3)).toArray := ⟨_, rfl⟩
  have hcl : (Builtin.clear_ #[33] 0 #[.slice (some ⟨g, (i + (n - (i + 1))) * 3, none⟩) (n - (i + (n - (i + 1)))) (cap - (i + (n - (i + 1))))]).run Try.prog W1 = .ok (.tuple #[]) (W1.setRow g cur2) := by
    have h := run_clear_row (P := Try.prog) W1 33 24 0 _ Try.underlying33 zero_env g ((n - 1) * 3) 1 (cap - (n - 1)) cur1 hg1 [.int .i64 0, .int .i64 0, .slice none 0 0] (by kernel_rfl) (by rw [hsz1]; show (n - 1) * 3 + 3 ≤ _; omega) (by simp [Value.oneCell']) (by omega)
    rw [show i + (n - (i + 1)) = n - 1 by omega, show n - (n - 1) = 1 by omega, hcur2]
    exact h
  have HEND := Lib.hid (show (W1.setRow g cur2).ownsRow B 24 3 (.slice (some ⟨g, 0, none⟩) (n - 1) cap) (n - 1) (xs.take (i * 3) ++ xs.drop ((i + 1) * 3)) ∧ Mods (fun k => k = g) w (W1.setRow g cur2) from by
    refine ⟨⟨?_, .inr ⟨g, cap, cur2, rfl, hB, setRow_heap W1 g cur1 cur2 _ (0, 0) hg1, by omega, hcm, ?_, ?_⟩⟩, ?_⟩
    · rw [List.length_append, List.length_take, List.length_drop, hxl]; omega
    · rw [hcur2]; simp only [List.size_toArray, List.length_append, List.length_take, List.length_drop, Array.length_toList, hsz1, List.length_cons, List.length_nil]; omega
    · have h1 : (cur1.toList.take ((n - 1) * 3)).length = (n - 1) * 3 := by rw [List.length_take, Array.length_toList, hsz1]; omega
      rw [hcur2]
      show List.take ((n - 1) * 3) (cur1.toList.take ((n - 1) * 3) ++ _ ++ _) = _
      rw [List.append_assoc, List.take_append_of_le_length (by omega), List.take_take, Nat.min_self, hcur1]
      show List.take ((n - 1) * 3) (cur.toList.take (i * 3) ++ news ++ _) = _
      have h2 : (cur.toList.take (i * 3) ++ news).length = (n - 1) * 3 := by
        rw [List.length_append, List.length_take, Array.length_toList, hcs, hlen]; omega
      rw [← h2, List.take_left, hnews, ← htk, List.take_take, Nat.min_eq_left (by omega)]
    · have hm : Mods (fun k => k = g) w W1 := by rw [hW1]; exact ((Mods.refl (fun k => k = g) w).drew).setRow (fun _ => rfl) _
      exact hm.setRow (fun _ => rfl) _)
  clear hnews hget htk hxl hg hg1 hW1 hcur1 hcur2 hsz1
  go_enter Try.func19, Try.ntmps19
  go_wp2_with fail
  go_region_law (refine step_append_cut (by rfl) (.tmp 22) (.tmp 25) 33 (by rfl) 24 i0 3 Try.underlying33 hi hz1 g i cap cur hG.out (by rfl) A (n - (i + 1)) (cap - (i + 1)) (by rfl) news hlen hsrc.out HONE.out (by omega) (by omega) ?_; rw [← HW1.out])
  go_wp2_with fail
  go_ret
  refine ⟨ret_val (by rw [show i + (n - (i + 1)) = n - 1 by omega]; rfl), ?_⟩
  exact HEND.out
end Go.Proofs.Ytngackbgcknphaa.B
