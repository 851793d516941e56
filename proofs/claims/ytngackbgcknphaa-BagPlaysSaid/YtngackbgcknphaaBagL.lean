/- Contracts: Filter; the reference's Room and Out. -/
import Derived.Test.YtngackbgcknphaaBagK
import Derived.BigCall
import Derived.BigGuard
import Derived.Deep.RegionLaw
namespace Go.Proofs.Ytngackbgcknphaa.B
open Go.RowKit M
set_option linter.unusedVariables false

theorem BagAt.cutTo {B : Nat} {w w2 : World} {b : Nat} {room : Int} {L L' : List E} {ao : Option Addr} {cap : Nat} (h : BagAt B w b room L ao cap) (hsub : ∀ x ∈ L', x ∈ L) (hlen : L'.length ≤ 4096)
    (hown : w2.ownsRow B 24 3 (.slice ao L'.length cap) L'.length (cellsE L')) (hm : Mods (fun k => ∃ a, ao = some a ∧ k = a.block) w w2) :
    BagAt B (w2.setCell ⟨b, 0, none⟩ (.slice ao L'.length cap)) b room L' ao cap ∧ Mods (Foot b ao) w (w2.setCell ⟨b, 0, none⟩ (.slice ao L'.length cap)) := by
  have hM : Mods (Foot b ao) w (w2.setCell ⟨b, 0, none⟩ (.slice ao L'.length cap)) :=
    (hm.mono (fun k _ h => .inr h)).setCell (fun _ => .inl rfl) _
  refine ⟨⟨?_, ?_, h.ne, h.lo, fun x hx => ?_, hlen⟩, hM⟩
  · have := heap_set w2 b 0 (.slice ao L'.length cap) b _ _ _ (hm.heap h.blk (fun ⟨a, ha, e⟩ => h.ne a ha e.symm))
    rw [if_pos rfl] at this
    rw [this]
    simp
  · exact own_kept hown ((Mods.refl (fun k => k = b) w2).setCell (fun _ => rfl) _) (fun k hk e => by
      cases ao with
      | none => cases hk
      | some a => exact h.ne a rfl ((Option.some.inj hk).trans e))
  · obtain ⟨h1, h2, h3⟩ := h.ok x (hsub x hx)
    exact ⟨h1.keep hM h2, h2, h3⟩

set_option maxRecDepth 100000 in
set_option maxHeartbeats 1000000 in
theorem filter_any (B : Nat) (w : World) (b : Nat) (room : Int) (L : List E) (ao : Option Addr) (cap : Nat) (h : BagAt B w b room L ao cap) (o : Int) :
    Calls Try.prog 16 #[.pointer (some ⟨b, 0, none⟩), others o] w fun e w' => e = .returned (.int .i64 ((L.length : Int) - ((stay o L).length : Int))) ∧ (BagAt B w' b room (stay o L) ao cap ∧ Mods (Foot b ao) w w') := by
  obtain ⟨⟨c0, c1⟩, fz, _⟩ := box2 h.blk
  have hb := heap_lt h.blk
  have hle := h.le
  have hsl := stay_le o L
  have HH := Lib.hid h
  have hW := (Mods.refl (fun _ => False) w).alloc (.cells #[others o] 28)
  have HW := Lib.hid hW
  have hbx : (w.alloc (.cells #[others o] 28)).heap[w.heap.size]? = some (.cells #[others o] 28 (0, 0)) := heap_alloc_new w _
  have HH1 := Lib.hid (h.keep hW (fun _ h => h.elim) (fun _ _ _ _ _ h => h))
  have hnb : ¬ w.heap.size = b := by omega
  have hbn : ¬ b = w.heap.size := by omega
  have HDEL : Hid (Calls Try.prog 21 #[.slice ao L.length cap, wrap w.heap.size] (w.alloc (.cells #[others o] 28)) fun e w' => e = .returned (.slice ao (stay o L).length cap) ∧ (w'.ownsRow B 24 3 (.slice ao (stay o L).length cap) (stay o L).length (cellsE (stay o L)) ∧ Mods (fun k => ∃ a, ao = some a ∧ k = a.block) w w')) := by
    refine Lib.hid ?_
    have hok : ∀ x ∈ L, BytesV (w.alloc (.cells #[others o] 28)) x.v x.l ∧ x.l.length ≤ 100 := fun x hx => ⟨(HH1.out.ok x hx).1, (HH1.out.ok x hx).2.2⟩
    by_cases hall : ∀ x ∈ L, x.t ≠ o
    · have e : stay o L = L := List.filter_eq_self.2 (fun x hx => decide_eq_true (hall x hx))
      rw [e]
      refine (del_none B _ ao cap L o _ HH1.out.own hok hle hbx hall).mono fun e w' hh => ⟨hh.1, own_kept HH1.out.own (Mods.of_below (S := fun _ => False) hh.2) (fun _ _ h => h), (hW.mono (fun _ _ h => h.elim)).then (Mods.of_below (S := fun _ => False) hh.2) (fun _ _ h => h.elim)⟩
    · have hex : ∃ n x, L[n]? = some x ∧ x.t = o ∧ ∀ (j : Nat) (y : E), j < n → L[j]? = some y → y.t ≠ o := by
        clear HH HH1 hok hbx h c0 c1 hle hsl
        induction L with
        | nil => exact absurd (fun x hx => by cases hx) hall
        | cons z L ih =>
          by_cases hz : z.t = o
          · exact ⟨0, z, rfl, hz, fun j y hj => by omega⟩
          · obtain ⟨n, x, h1, h2, h3⟩ := ih (fun hh => hall (fun x hx => by
              rcases List.mem_cons.1 hx with rfl | hx
              · exact hz
              · exact hh x hx))
            refine ⟨n + 1, x, by simpa using h1, h2, fun j y hj hy => ?_⟩
            cases j with
            | zero => simp at hy; subst hy; exact hz
            | succ j => exact h3 j y (by omega) (by simpa using hy)
      obtain ⟨n, x, hx, ht, hno⟩ := hex
      obtain ⟨g, rfl, hg, _⟩ := rowcell h.own (by have := (List.getElem?_eq_some_iff.1 hx).1; omega)
      refine (del_some B _ g cap L o _ HH1.out.own hok (fun y hy k hk hne e => (HH1.out.ok y hy).2.1 k hk hne (.inr ⟨_, rfl, e⟩)) hle hbx (by omega) n x hx ht hno).mono fun e w' hh => ⟨hh.1, hh.2.1, (hW.mono (fun _ _ h => h.elim)).then (hh.2.2.mono (fun k _ e => ⟨_, rfl, e⟩)) (fun _ _ h => h)⟩
  clear h hW hbx
  unfold others wrap at HDEL
  unfold others
  go_enter Try.func16, Try.ntmps16
  go_wp2_with fail
  refine HDEL.out.mono ?_
  rintro e w2 ⟨rfl, hown, hm⟩
  have hn : ¬ ∃ a, ao = some a ∧ b = a.block := fun ⟨a, ha, e⟩ => HH.out.ne a ha e.symm
  have x0 := (hm.cell (p := ⟨b, 0, none⟩) hb hn).trans c0
  have f0 := (hm.frozen (p := ⟨b, 0, none⟩) hb hn).trans (fz 0)
  have HC := Lib.hid (HH.out.cutTo (L' := stay o L) (fun x hx => (List.mem_filter.1 hx).1) (by omega) hown hm)
  have hb2 : b < w2.heap.size := by have := hm.size; omega
  clear hown hm c0 c1 fz
  go_wp2_with fail
  go_ret
  refine ⟨?_, HC.out⟩
  rfl

set_option maxHeartbeats 400000 in
theorem room_any (room : Int) (w : World) (h1 : -9223372036854775808 ≤ room) (h2 : room ≤ 9223372036854775807) :
    Calls Try.prog 14 #[.int .i64 room] w fun e w' => e = .returned (.int .i64 (min (max room 0) 4096)) ∧ w = w' := by
  go_enter Try.func14, Try.ntmps14
  go_wp2_with fail
  go_ret
  exact ⟨ret_val (by rw [show max 0 (min room 4096) = min (max room 0) 4096 by omega]; rfl), rfl⟩

set_option maxRecDepth 100000 in
set_option maxHeartbeats 1000000 in
theorem out_any (B : Nat) (w : World) (g cap : Nat) (X : List E) (i : Nat) (hi0 : i < X.length) (h : w.ownsRow B 24 3 (.slice (some ⟨g, 0, none⟩) X.length cap) X.length (cellsE X)) (hle : X.length ≤ 4096) :
    Calls Try.prog 15 #[.slice (some ⟨g, 0, none⟩) X.length cap, .int .i64 i] w fun e w' => ∃ ao' cap', e = .returned (.slice ao' (X.eraseIdx i).length cap') ∧ (w'.ownsRow w.heap.size 24 3 (.slice ao' (X.eraseIdx i).length cap') (X.eraseIdx i).length (cellsE (X.eraseIdx i)) ∧ Below w.heap.size w w') := by
  obtain ⟨i0, hi, hz0, hz1, hz2⟩ := info_parts info_env
  obtain ⟨hcm, hcap⟩ : cap ≤ maxLen ∧ X.length ≤ cap := by
    obtain ⟨_, _, e0, h1, h2, _⟩ := own_view h
    cases e0
    exact ⟨h2, h1⟩
  obtain ⟨g', eg, hgl, hcell⟩ := rowcell h (by omega)
  obtain rfl : g = g' := by simpa using eg
  have hlen : (X.eraseIdx i).length = i + (X.length - (i + 1)) := by rw [List.length_eraseIdx, if_pos hi0]; omega
  have hcel : cellsE (X.eraseIdx i) = cellsE (X.take i) ++ cellsE (X.drop (i + 1)) := by rw [List.eraseIdx_eq_take_drop_succ, cellsE_append]
  have HCELL := Lib.hid hcell
  have hl1 : (cellsE (X.take i)).length = i * 3 := by rw [cellsE_length, List.length_take]; omega
  have hl2 : (cellsE (X.drop (i + 1))).length = (X.length - (i + 1)) * 3 := by rw [cellsE_length, List.length_drop]
  have HL1 := Lib.hid hl1
  have HL2 := Lib.hid hl2
  have HLEN := Lib.hid hlen
  have HCEL := Lib.hid hcel
  have HOW := Lib.hid (World.ownsRow_made (base := w.heap.size) (e := 24) (size := 3) w #[] 0 (Nat.le_refl _) (Nat.zero_le _) rfl)
  have HG1 := Lib.hid (show ∀ j u, (cellsE (X.take i))[j]? = some u → (w.alloc (.cells #[] 24)).cell? ((⟨g, 0, none⟩ : Addr).add j) = some u from fun j u hu => by
    rw [cellsE_take, List.getElem?_take] at hu
    split at hu
    · have h := (hcell _ _ hu).1
      rw [Addr.add_lit, World.cell?_alloc_some _ _ _ (by rw [Nat.zero_add, h]; rfl), Nat.zero_add]
      exact h
    · cases hu)
  obtain ⟨A, hA, hsrc⟩ : ∃ A : Addr, (if cap = i + 1 then (some ⟨g, 0, none⟩ : Option Addr) else some ⟨g, (i + 1) * 3, none⟩) = some A ∧ Hid (∀ w' : World, w'.heap[g]? = w.heap[g]? → ∀ t u, (cellsE (X.drop (i + 1)))[t]? = some u → w'.cell? (A.add t) = some u) := by
    have hget : ∀ w' : World, w'.heap[g]? = w.heap[g]? → ∀ t u, (cellsE (X.drop (i + 1)))[t]? = some u → w'.cell? ⟨g, (i + 1) * 3 + t, none⟩ = some u := by
      intro w' hw t u hu
      rw [cellsE_drop, List.getElem?_drop] at hu
      exact (World.cell?_of_block (w := w) hw).trans (hcell _ _ hu).1
    by_cases hc : cap = i + 1
    · refine ⟨⟨g, 0, none⟩, by simp [hc], fun w' hw t u hu => ?_⟩
      have := (List.getElem?_eq_some_iff.1 hu).1
      omega
    · refine ⟨⟨g, (i + 1) * 3, none⟩, by simp [hc], fun w' hw t u hu => ?_⟩
      rw [Addr.add_lit]
      exact hget w' hw t u hu
  have hcm' : (cap : Int) ≤ 9223372036854775807 := by unfold maxLen at hcm; omega
  have hic : i ≤ cap := by omega
  have hjc : i + 1 ≤ cap := by omega
  have hji : i + 1 ≤ X.length := by omega
  have hb0 : (0 : Int) ≤ (i : Int) + 1 := by omega
  have hb1 : (i : Int) + 1 ≤ (X.length : Int) := by omega
  have hc0 : ¬ cap = 0 := by omega
  have hwr : IntKind.i64.wrap ((i : Int) + 1) = (i : Int) + 1 := by rw [IntKind.wrap_i64]; omega
  clear h hcell hlen hcel hl1 hl2 eg
  go_enter Try.func15, Try.ntmps15
  go_wp2_with fail
  go_region_law (first
    | (refine step_append_own (by rfl) (.tmp 5) (.tmp 8) 33 (by rfl) w.heap.size 24 i0 _ 3 40 Try.underlying33 hi hz0 hz1 hz2 rfl (by decide) (.slice (some ⟨w.heap.size, 0, none⟩) 0 0) 0 [] (by rfl) (by exact HOW.out) ⟨g, 0, none⟩ i cap (cellsE (X.take i)) (by rfl) HL1.out (by exact HG1.out) (cellsE_one _) (by unfold maxLen; omega) (by omega) (by simp) ?_; intro ao1 cap1 w1 hown1 hgrow1; have HO1 := Lib.hid (show w1.ownsRow w.heap.size 24 3 (.slice ao1 i cap1) i (cellsE (X.take i)) from by simpa using hown1); have HG := Lib.hid hgrow1; clear hown1 hgrow1)
    | (refine step_append_own (by rfl) (.tmp 9) (.tmp 13) 33 (by rfl) w.heap.size 24 i0 _ 3 40 Try.underlying33 hi hz0 hz1 hz2 rfl (by decide) (.slice ao1 i cap1) i (cellsE (X.take i)) (by rfl) (by exact HO1.out) A (X.length - (i + 1)) (cap - (i + 1)) (cellsE (X.drop (i + 1))) (by rfl) HL2.out (hsrc.out w1 ((HG.out.block g (by show g < (w.alloc _).heap.size; simp; omega) (by simp [Value.ownBlock]; omega)).trans (Below.heap_alloc _ _ _ hgl))) (cellsE_one _) (by unfold maxLen; omega) (by omega) (by have := HG.out.size; simp at this; omega) ?_; intro ao2 cap2 w2 hown2 hgrow2))
  have HEND := Lib.hid (show w2.ownsRow w.heap.size 24 3 (.slice ao2 (X.eraseIdx i).length cap2) (X.eraseIdx i).length (cellsE (X.eraseIdx i)) ∧ Below w.heap.size w w2 from by
    refine ⟨by rw [HLEN.out, HCEL.out]; exact hown2, ?_⟩
    have h1 : Below w.heap.size w w1 := (((Below.refl w.heap.size w).alloc (Nat.le_refl _) _).drew).grown HG.out (by show _ ≤ (w.alloc _).heap.size; simp) (fun k hk => by simp [Value.ownBlock] at hk; omega)
    exact h1.grown hgrow2 h1.size (fun k hk => (HO1.out.lt k hk).1))
  clear hown2 hgrow2
  go_wp2_with fail
  go_ret
  exact ⟨ao2, cap2, ret_val (by rw [HLEN.out]; rfl), HEND.out⟩
end Go.Proofs.Ytngackbgcknphaa.B
