/- The contract of the reference's Leads. -/
import Derived.Test.YtmmggeaaheegmaaCompU
namespace Go.Proofs.Ytmmggeaaheegmaa.K
open Go.RowKit M T
set_option linter.unusedVariables false
set_option linter.unusedSimpArgs false

def upTo (f : Nat → Bool) (k : Nat) : List Nat := (List.range k).filter f
theorem upTo_yes {f : Nat → Bool} {k : Nat} (h : f k = true) : upTo f (k + 1) = upTo f k ++ [k] := by
  unfold upTo; rw [List.range_succ, List.filter_append]; simp [h]
theorem upTo_no {f : Nat → Bool} {k : Nat} (h : f k = false) : upTo f (k + 1) = upTo f k := by
  unfold upTo; rw [List.range_succ, List.filter_append]; simp [h]
theorem upTo_len (f : Nat → Bool) (k : Nat) : (upTo f k).length ≤ k := by
  have := List.length_filter_le f (List.range k)
  rw [List.length_range] at this
  exact this
theorem upTo_mem {f : Nat → Bool} {k v : Nat} : v ∈ upTo f k ↔ v < k ∧ f v = true := by
  unfold upTo; rw [List.mem_filter, List.mem_range]
theorem upTo_srt (f : Nat → Bool) (k : Nat) : (upTo f k).Pairwise (· < ·) := List.Pairwise.filter _ List.pairwise_lt_range
/-- a row of one's own grows by one -/
theorem own_more {B : Nat} {w w2 : World} {ao : Option Addr} {cap gg cg v : Nat} {l : List Nat} {bx : Obj} (h : w.ownsRow B 3 1 (.slice ao l.length cap) l.length (iv l)) (hB : B ≤ w.heap.size)
    (ho : w2.ownsRow B 3 1 (.slice (some ⟨gg, 0, none⟩) (l.length + 1) cg) (l.length + 1) (iv l ++ [.int .i64 v]))
    (hg : (w.alloc bx).grownBy w2 (Value.slice ao l.length cap).ownBlock) :
    (w2.ownsRow B 3 1 (.slice (some ⟨gg, 0, none⟩) (l ++ [v]).length cg) (l ++ [v]).length (iv (l ++ [v])) ∧ Below B w w2) ∧ Mods (fun k => ∃ a, ao = some a ∧ k = a.block) w w2 := by
  have hM : Mods (fun k => ∃ a, ao = some a ∧ k = a.block) w w2 := ((Mods.refl _ w).alloc bx).grown hg (fun k hk _ => by
    cases ao with
    | none => cases hk
    | some a => exact ⟨a, rfl, (Option.some.inj hk).symm⟩)
  refine ⟨⟨by rw [List.length_append, iv_append]; exact ho, hM.below (fun k ⟨a, ha, e⟩ => ?_) hB⟩, hM⟩
  obtain ⟨_, _, hb⟩ := own_heap h a ha
  omega
/-- a table of truths and a row of numbers lie apart -/
theorem RM.row_ne {B n cap c2 : Nat} {W0 w : World} {ao a2 : Option Addr} {G : List Nat} {r : Nat → Nat → Bool} {l : List Nat} (h : RM B W0 w n ao cap G r) {B2 : Nat} (ho : w.ownsRow B2 3 1 (.slice a2 l.length c2) l.length (iv l)) :
    (∀ a, ao = some a → ¬ ∃ b, a2 = some b ∧ a.block = b.block) ∧ ∀ g ∈ G, ¬ ∃ b, a2 = some b ∧ g = b.block := by
  refine ⟨fun a ha ⟨b, hb, e⟩ => ?_, fun g hg ⟨b, hb, e⟩ => ?_⟩
  · obtain ⟨⟨cur, hc, _⟩, _⟩ := h.topne a ha
    obtain ⟨cur2, hc2, _⟩ := own_heap ho b hb
    rw [e, hc2] at hc
    simp at hc
  · obtain ⟨i, hi⟩ := List.mem_iff_getElem?.1 hg
    have hc := (h.row i g hi).2
    obtain ⟨cur2, hc2, _⟩ := own_heap ho b hb
    rw [e, hc2] at hc
    simp at hc
set_option maxRecDepth 100000 in
set_option maxHeartbeats 1000000 in
theorem refleads_any (E : Nat → List Int) (n : Nat) (eo : Option Addr) (ec : Nat) (f : Int) (w : World) (hEd : EdAt w.heap.size w eo n ec E) (hn : n ≤ 10000) :
    Calls Try.prog 14 #[.slice eo n ec, .int .i64 f] w fun e w' => ∃ ao cap l, e = .returned (.slice ao l.length cap) ∧ (LeadsTo E n f l ∧ w'.ownsRow w.heap.size 3 1 (.slice ao l.length cap) l.length (iv l) ∧ Below w.heap.size w w') := by
  by_cases hf : f < 0 ∨ (n : Int) ≤ f
  · have HL := Lib.hid (LeadsTo.none (E := E) hf)
    rcases hf with hf | hf
    · clear hEd
      go_enter Try.func14, Try.ntmps14
      go_wp2_with fail
      go_ret
      exact ⟨none, 0, [], rfl, HL.out, World.ownsRow_nil _ _ _ _, Below.refl _ _⟩
    · have hf0 : ¬ f < 0 := by omega
      clear hEd
      go_enter Try.func14, Try.ntmps14
      go_wp2_with fail
      go_ret
      exact ⟨none, 0, [], rfl, HL.out, World.ownsRow_nil _ _ _ _, Below.refl _ _⟩
  · obtain ⟨u, rfl⟩ : ∃ u : Nat, f = u := ⟨f.toNat, by omega⟩
    have hu : u < n := by omega
    have hui : (u : Int) < (n : Int) := by omega
    have hu0 : ¬ (u : Int) < 0 := by omega
    have HRE := Lib.hid (reach_any E n eo ec w hEd hn)
    obtain ⟨i0, hii, hz0, hz1, hz2⟩ := info_parts info_int
    have hec := hEd.le.2
    clear hEd hf
    go_enter Try.func14, Try.ntmps14
    go_wp2_with fail
    refine HRE.out.mono ?_
    rintro e w1 ⟨ao, cap, G, r, rfl, hG, hrm, hr⟩
    have HG := Lib.hid hG
    have HRM := Lib.hid hrm
    have HR := Lib.hid hr
    clear hG hrm hr
    go_wp2_with fail
    go_loopw [5, 7] (fun ov kv wr => ∃ (k : Nat) (oo : Option Addr) (oc : Nat), ov = .slice oo (upTo (r u) k).length oc ∧ kv = .int .i64 k ∧ k ≤ n ∧ RM w.heap.size w wr n ao cap G r ∧ wr.ownsRow w.heap.size 3 1 (.slice oo (upTo (r u) k).length oc) (upTo (r u) k).length (iv (upTo (r u) k))) (fun _ kv _ => n - (intOf kv).toNat)
    case atStart => exact ⟨0, none, 0, rfl, rfl, Nat.zero_le _, HRM.out, World.ownsRow_nil _ _ _ _⟩
    case round =>
      clear HRM
      obtain ⟨k, oo, oc, rfl, rfl, hk, hrm, ho⟩ := hrel
      have HRM := Lib.hid hrm
      have HO := Lib.hid ho
      have hul := upTo_len (r u) k
      by_cases hkn : k < n
      · have hki : (k : Int) < (n : Int) := by omega
        obtain ⟨gt, gu, e9, hgu, cu, hru⟩ := hrm.cells (i := u) (by rw [HG.out]; exact hu)
        subst e9
        obtain ⟨hcl1, hcl2⟩ := hrm.capLe
        rw [HG.out] at hcl1
        obtain ⟨x1, _⟩ := hru k hkn
        have hB := hrm.hB
        clear hrm ho hgu hru
        cases hb : r u k with
        | true =>
          rw [hb] at x1
          have HY := Lib.hid (upTo_yes (f := r u) hb)
          clear hb
          generalize hl : upTo (r u) k = l at *
          clear hl
          go_wp2_with (refine wpList_append_lies _ (by rfl) (.tmp 32) (.tmp 34) 26 (by rfl) w.heap.size 3 i0 _ 1 8 Try.underlying26 hii hz0 hz1 hz2 rfl (by decide) (.slice oo l.length oc) l.length (iv l) (by rfl) (by exact HO.out.alloc _) ⟨wr.heap.size, 0, none⟩ 1 1 [.int .i64 (k : Int)] (by rfl) (by rfl) (World.news_of_block (cs := #[.int .i64 (k : Int)]) (t := 3) (fr := (0, 0)) (heap_alloc_new wr _)) (by simp [Value.oneCell']) (by omega) (by unfold maxLen; omega) (by omega) (by simp; omega) (wr.heap.size + 1) (by simp) ?_; intro gg cg w7 hown hgrow hat hlt7; have HG7 := Lib.hid (And.intro hown (And.intro hgrow hat)); clear hown hgrow hat)
          have hm := own_more HO.out hB HG7.out.1 HG7.out.2.1
          have HM := Lib.hid hm
          clear hm
          go_roundw
          case rel =>
            refine ⟨k + 1, some ⟨gg, 0, none⟩, cg, by rw [HY.out, List.length_append]; rfl, by go_num, by omega, HRM.out.keep HM.out.2 (fun b ⟨a, ha, e⟩ => by
              obtain ⟨_, _, hb⟩ := own_heap HO.out a ha
              omega) (HRM.out.row_ne HO.out).1 (HRM.out.row_ne HO.out).2, by rw [HY.out]; exact HM.out.1.1⟩
          case measure => simp [intOf]; omega
        | false =>
          rw [hb] at x1
          have HY := Lib.hid (upTo_no (f := r u) hb)
          clear hb
          generalize hl : upTo (r u) k = l at *
          clear hl
          go_wp2_with fail
          go_roundw
          case rel => exact ⟨k + 1, oo, oc, by rw [HY.out], by go_num, by omega, HRM.out, by rw [HY.out]; exact HO.out⟩
          case measure => simp [intOf]; omega
      · have hki : ¬ (k : Int) < (n : Int) := by omega
        obtain rfl : k = n := by omega
        have HL : Hid (LeadsTo E k u (upTo (r u) k)) := Lib.hid ⟨upTo_srt _ _, fun v => by
          rw [upTo_mem]
          refine ⟨fun ⟨a, b⟩ => ⟨a, u, rfl, hu, (HR.out u v hu a).1 b⟩, fun ⟨a, u', e, _, hp⟩ => ⟨a, ?_⟩⟩
          obtain rfl : u = u' := by omega
          exact (HR.out u v hu a).2 hp⟩
        have HBE := Lib.hid hrm.bel
        clear hrm ho
        generalize hl : upTo (r u) k = l at *
        clear hl
        go_wp2_with fail
        go_ret
        exact ⟨oo, oc, l, rfl, HL.out, HO.out, HBE.out⟩
end Go.Proofs.Ytmmggeaaheegmaa.K
