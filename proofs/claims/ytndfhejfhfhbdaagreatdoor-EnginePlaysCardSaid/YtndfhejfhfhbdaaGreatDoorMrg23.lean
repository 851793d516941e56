/- Several texts in one. -/
import Derived.Test.YtndfhejfhfhbdaaGreatDoorCompU
import Derived.Test.YtndfhejfhfhbdaaGreatDoorOrdAF
import Derived.Test.YtndfhejfhfhbdaaGreatDoorMrg21
import Derived.Test.YtndfhejfhfhbdaaGreatDoorMrg22

/- The contract of the reference's Leads. -/
namespace Go.Proofs.YtndfhejfhfhbdaaGreatDoor.K
open Go.RowKit M T
set_option linter.unusedVariables false
set_option linter.unusedSimpArgs false

def upTo (f : Nat → Bool) (k : Nat) : List Nat := (List.range k).filter f
theorem upTo_yes {f : Nat → Bool} {k : Nat} (h : f k = true) : upTo f (k + 1) = upTo f k ++ [k] := by
  unfold upTo; rw [List.range_succ, List.filter_append]; simp [h]
theorem upTo_no {f : Nat → Bool} {k : Nat} (h : f k = false) : upTo f (k + 1) = upTo f k := by
  unfold upTo; rw [List.range_succ, List.filter_append]; simp [h]
theorem upTo_len (f : Nat → Bool) (k : Nat) : (upTo f k).length ≤ k := by
  have := List.length_filter_le f (List.range k)
  rw [List.length_range] at this
  exact this
theorem upTo_mem {f : Nat → Bool} {k v : Nat} : v ∈ upTo f k ↔ v < k ∧ f v = true := by
  unfold upTo; rw [List.mem_filter, List.mem_range]
theorem upTo_srt (f : Nat → Bool) (k : Nat) : (upTo f k).Pairwise (· < ·) := List.Pairwise.filter _ List.pairwise_lt_range
/-- a row of one's own grows by one -/
theorem own_more {B : Nat} {w w2 : World} {ao : Option Addr} {cap gg cg v : Nat} {l : List Nat} {bx : Obj} (h : w.ownsRow B 3 1 (.slice ao l.length cap) l.length (iv l)) (hB : B ≤ w.heap.size)
    (ho : w2.ownsRow B 3 1 (.slice (some ⟨gg, 0, none⟩) (l.length + 1) cg) (l.length + 1) (iv l ++ [.int .i64 v]))
    (hg : (w.alloc bx).grownBy w2 (Value.slice ao l.length cap).ownBlock) :
    (w2.ownsRow B 3 1 (.slice (some ⟨gg, 0, none⟩) (l ++ [v]).length cg) (l ++ [v]).length (iv (l ++ [v])) ∧ Below B w w2) ∧ Mods (fun k => ∃ a, ao = some a ∧ k = a.block) w w2 := by
  have hM : Mods (fun k => ∃ a, ao = some a ∧ k = a.block) w w2 := ((Mods.refl _ w).alloc bx).grown hg (fun k hk _ => by
    cases ao with
    | none => cases hk
    | some a => exact ⟨a, rfl, (Option.some.inj hk).symm⟩)
  refine ⟨⟨by rw [List.length_append, iv_append]; exact ho, hM.below (fun k ⟨a, ha, e⟩ => ?_) hB⟩, hM⟩
  obtain ⟨_, _, hb⟩ := own_heap h a ha
  omega
/-- a table of truths and a row of numbers lie apart -/
theorem RM.row_ne {B n cap c2 : Nat} {W0 w : World} {ao a2 : Option Addr} {G : List Nat} {r : Nat → Nat → Bool} {l : List Nat} (h : RM B W0 w n ao cap G r) {B2 : Nat} (ho : w.ownsRow B2 3 1 (.slice a2 l.length c2) l.length (iv l)) :
    (∀ a, ao = some a → ¬ ∃ b, a2 = some b ∧ a.block = b.block) ∧ ∀ g ∈ G, ¬ ∃ b, a2 = some b ∧ g = b.block := by
  refine ⟨fun a ha ⟨b, hb, e⟩ => ?_, fun g hg ⟨b, hb, e⟩ => ?_⟩
  · obtain ⟨⟨cur, hc, _⟩, _⟩ := h.topne a ha
    obtain ⟨cur2, hc2, _⟩ := own_heap ho b hb
    rw [e, hc2] at hc
    simp at hc
  · obtain ⟨i, hi⟩ := List.mem_iff_getElem?.1 hg
    have hc := (h.row i g hi).2
    obtain ⟨cur2, hc2, _⟩ := own_heap ho b hb
    rw [e, hc2] at hc
    simp at hc
set_option maxRecDepth 100000 in
set_option maxHeartbeats 1000000 in
theorem refleads_any (E : Nat → List Int) (n : Nat) (eo : Option Addr) (ec : Nat) (f : Int) (w : World) (hEd : EdAt w.heap.size w eo n ec E) (hn : n ≤ 10000) :
    Calls Tryz.prog 56 #[.slice eo n ec, .int .i64 f] w fun e w' => ∃ ao cap l, e = .returned (.slice ao l.length cap) ∧ (LeadsTo E n f l ∧ w'.ownsRow w.heap.size 3 1 (.slice ao l.length cap) l.length (iv l) ∧ Below w.heap.size w w') := by
  by_cases hf : f < 0 ∨ (n : Int) ≤ f
  · have HL := Lib.hid (LeadsTo.none (E := E) hf)
    rcases hf with hf | hf
    · clear hEd
      go_enter Tryz.func56, Tryz.ntmps56
      go_wp2_with fail
      go_ret
      exact ⟨none, 0, [], rfl, HL.out, World.ownsRow_nil _ _ _ _, Below.refl _ _⟩
    · have hf0 : ¬ f < 0 := by omega
      clear hEd
      go_enter Tryz.func56, Tryz.ntmps56
      go_wp2_with fail
      go_ret
      exact ⟨none, 0, [], rfl, HL.out, World.ownsRow_nil _ _ _ _, Below.refl _ _⟩
  · obtain ⟨u, rfl⟩ : ∃ u : Nat, f = u := ⟨f.toNat, by omega⟩
    have hu : u < n := by omega
    have hui : (u : Int) < (n : Int) := by omega
    have hu0 : ¬ (u : Int) < 0 := by omega
    have HRE := Lib.hid (reach_any E n eo ec w hEd hn)
    obtain ⟨i0, hii, hz0, hz1, hz2⟩ := info_parts info_int
    have hec := hEd.le.2
    clear hEd hf
    go_enter Tryz.func56, Tryz.ntmps56
    go_wp2_with fail
    refine HRE.out.mono ?_
    rintro e w1 ⟨ao, cap, G, r, rfl, hG, hrm, hr⟩
    have HG := Lib.hid hG
    have HRM := Lib.hid hrm
    have HR := Lib.hid hr
    clear hG hrm hr
    go_wp2_with fail
    go_loopw [5, 7] (fun ov kv wr => ∃ (k : Nat) (oo : Option Addr) (oc : Nat), ov = .slice oo (upTo (r u) k).length oc ∧ kv = .int .i64 k ∧ k ≤ n ∧ RM w.heap.size w wr n ao cap G r ∧ wr.ownsRow w.heap.size 3 1 (.slice oo (upTo (r u) k).length oc) (upTo (r u) k).length (iv (upTo (r u) k))) (fun _ kv _ => n - (intOf kv).toNat)
    case atStart => exact ⟨0, none, 0, rfl, rfl, Nat.zero_le _, HRM.out, World.ownsRow_nil _ _ _ _⟩
    case round =>
      clear HRM
      obtain ⟨k, oo, oc, rfl, rfl, hk, hrm, ho⟩ := hrel
      have HRM := Lib.hid hrm
      have HO := Lib.hid ho
      have hul := upTo_len (r u) k
      by_cases hkn : k < n
      · have hki : (k : Int) < (n : Int) := by omega
        obtain ⟨gt, gu, e9, hgu, cu, hru⟩ := hrm.cells (i := u) (by rw [HG.out]; exact hu)
        subst e9
        obtain ⟨hcl1, hcl2⟩ := hrm.capLe
        rw [HG.out] at hcl1
        obtain ⟨x1, _⟩ := hru k hkn
        have hB := hrm.hB
        clear hrm ho hgu hru
        cases hb : r u k with
        | true =>
          rw [hb] at x1
          have HY := Lib.hid (upTo_yes (f := r u) hb)
          clear hb
          generalize hl : upTo (r u) k = l at *
          clear hl
          go_wp2_with (refine wpList_append_lies _ (by rfl) (.tmp 32) (.tmp 34) 79 (by rfl) w.heap.size 3 i0 _ 1 8 Tryz.underlying79 hii hz0 hz1 hz2 rfl (by decide) (.slice oo l.length oc) l.length (iv l) (by rfl) (by exact HO.out.alloc _) ⟨wr.heap.size, 0, none⟩ 1 1 [.int .i64 (k : Int)] (by rfl) (by rfl) (World.news_of_block (cs := #[.int .i64 (k : Int)]) (t := 3) (fr := (0, 0)) (heap_alloc_new wr _)) (by simp [Value.oneCell']) (by omega) (by unfold maxLen; omega) (by omega) (by simp; omega) (wr.heap.size + 1) (by simp) ?_; intro gg cg w7 hown hgrow hat hlt7; have HG7 := Lib.hid (And.intro hown (And.intro hgrow hat)); clear hown hgrow hat)
          have hm := own_more HO.out hB HG7.out.1 HG7.out.2.1
          have HM := Lib.hid hm
          clear hm
          go_roundw
          case rel =>
            refine ⟨k + 1, some ⟨gg, 0, none⟩, cg, by rw [HY.out, List.length_append]; rfl, by go_num, by omega, HRM.out.keep HM.out.2 (fun b ⟨a, ha, e⟩ => by
              obtain ⟨_, _, hb⟩ := own_heap HO.out a ha
              omega) (HRM.out.row_ne HO.out).1 (HRM.out.row_ne HO.out).2, by rw [HY.out]; exact HM.out.1.1⟩
          case measure => simp [intOf]; omega
        | false =>
          rw [hb] at x1
          have HY := Lib.hid (upTo_no (f := r u) hb)
          clear hb
          generalize hl : upTo (r u) k = l at *
          clear hl
          go_wp2_with fail
          go_roundw
          case rel => exact ⟨k + 1, oo, oc, by rw [HY.out], by go_num, by omega, HRM.out, by rw [HY.out]; exact HO.out⟩
          case measure => simp [intOf]; omega
      · have hki : ¬ (k : Int) < (n : Int) := by omega
        obtain rfl : k = n := by omega
        have HL : Hid (LeadsTo E k u (upTo (r u) k)) := Lib.hid ⟨upTo_srt _ _, fun v => by
          rw [upTo_mem]
          refine ⟨fun ⟨a, b⟩ => ⟨a, u, rfl, hu, (HR.out u v hu a).1 b⟩, fun ⟨a, u', e, _, hp⟩ => ⟨a, ?_⟩⟩
          obtain rfl : u = u' := by omega
          exact (HR.out u v hu a).2 hp⟩
        have HBE := Lib.hid hrm.bel
        clear hrm ho
        generalize hl : upTo (r u) k = l at *
        clear hl
        go_wp2_with fail
        go_ret
        exact ⟨oo, oc, l, rfl, HL.out, HO.out, HBE.out⟩
end Go.Proofs.YtndfhejfhfhbdaaGreatDoor.K

/- The document's Closed. -/
namespace Go.Proofs.YtndfhejfhfhbdaaGreatDoor.O
open Go.RowKit Go.Proofs.YtndfhejfhfhbdaaGreatDoor.M Go.BigFrame Go.Proofs.YtndfhejfhfhbdaaGreatDoor.K Go.Proofs.YtndfhejfhfhbdaaGreatDoor.T
set_option linter.unusedVariables false
set_option linter.unusedSimpArgs false

theorem box_apart {w : World} {B gb : Nat} {x : Rv} {eo : Option Addr} {ec : Nat} {E : List Id} (h : OwnL w B eo ec E) (hx : w.heap[gb]? = some (recO x)) : ¬ ∃ a, eo = some a ∧ gb = a.block := fun ⟨a, e, ea⟩ => by
  obtain ⟨cs, hh, _⟩ := own_heap h a e
  rw [← ea, hx] at hh
  exact absurd (Option.some.inj hh) (by unfold recO; simp)
set_option maxRecDepth 100000 in
set_option maxHeartbeats 4000000 in
theorem refclosed_any (X : List Rv) (ao : Option Addr) (cap : Nat) (i : Id) (w : World) (h : RecsV w ao cap X) (hi : IdI i) (hn : (idsX X).Nodup) (hl : X.length ≤ 20) (hdl : ∀ x ∈ X, x.deps.length ≤ 10000) :
    Calls Tryz.prog 21 #[.slice ao X.length cap, idV i] w fun e w' => ∃ (no : Option Addr) (nc : Nat) (inn : List Rv) (oo : Option Addr) (oc : Nat) (out : List Id), e = .returned (.tuple #[.slice no inn.length nc, .slice oo out.length oc]) ∧ (ClO (srtR X) i inn out ∧ OwnR w' w.heap.size no nc inn ∧ OwnL w' w.heap.size oo oc out ∧ Below w.heap.size w w') := by
  obtain ⟨i0, hi0, hz0, hz1, hz2⟩ := info_parts info_rec
  obtain ⟨i1, hi1, hy0, hy1, hy2⟩ := info_parts info_id
  have H0 := Lib.hid h
  have HI := Lib.hid hi
  have HN := Lib.hid hn
  have HDL := Lib.hid hdl
  clear h hi hn hdl
  go_enter Tryz.func21, Tryz.ntmps21
  go_upto_region 1 with fail
  obtain ⟨W, hW⟩ : ∃ W, W = w.alloc (idO i) := ⟨_, rfl⟩
  rw [← hW]
  have HB : Hid (Below w.heap.size w W) := Lib.hid (by rw [hW]; exact (Below.refl _ _).alloc (Nat.le_refl _) _)
  have HX : Hid (W.heap[w.heap.size]? = some (idO i)) := Lib.hid (by rw [hW]; exact heap_alloc_new w _)
  clear hW
  have H1 := Lib.hid (H0.out.below HB.out)
  clear H0
  have HS := Lib.hid (refsorted_any X ao cap false W H1.out (by omega))
  go_wp2_with fail
  refine HS.out.mono ?_
  rintro e w3 ⟨so, sc, m, rfl, hp, hs, hml, how, hb3⟩
  have HM := Lib.hid (srtR_one HN.out hp hs)
  have HB3 := Lib.hid (HB.out.trans (hb3.mono HB.out.size))
  have HX3 := Lib.hid ((hb3.block _ (M.heap_lt HX.out)).trans HX.out)
  have HSV := Lib.hid (RecsV.of_own how (fun x hx => (H1.out.ok x (hp.mem_iff.1 hx)).below hb3))
  have HML := Lib.hid hml
  have HND := Lib.hid (show (idsX m).Nodup by rw [HM.out]; exact srtR_ids HN.out)
  have HDM := Lib.hid (fun x (hx : x ∈ m) => HDL.out x (hp.mem_iff.1 hx))
  obtain ⟨v, hv⟩ : ∃ v, atI (idsX m) i = v := ⟨_, rfl⟩
  have HAT := Lib.hid (refat_any m so sc i w3 HSV.out v hv)
  rw [hml] at HAT
  obtain ⟨⟨x0, x1⟩, _⟩ := box2 HX3.out
  clear hp hs hml how hb3 HS H1 HB HX HDL
  go_wp2_with fail
  refine HAT.out.mono ?_
  rintro e w4 ⟨rfl, hb4⟩
  have HB4 := Lib.hid (HB3.out.trans (hb4.mono HB3.out.size))
  have HS4 := Lib.hid (HSV.out.below hb4)
  clear hb4 HAT HSV HB3 HX3 x0 x1
  by_cases him : i ∈ idsX m
  · obtain ⟨f, hf⟩ : ∃ f, (idsX m).idxOf i = f := ⟨_, rfl⟩
    obtain rfl : v = (f : Int) := by rw [← hv, ← hf]; unfold atI; rw [if_pos him]
    have hlt : f < X.length := by have := List.idxOf_lt_length_iff.2 him; rw [← HML.out, ← hf]; simpa using this
    have HIM := Lib.hid him
    have HF := Lib.hid hf
    have hneg : ¬ ((f : Int) < 0) := by omega
    have HGR := Lib.hid (refgraph_any m so sc w4 HS4.out (by rw [HML.out]; omega) HDM.out)
    rw [HML.out] at HGR
    clear him hf hv
    go_wp2_with fail
    refine HGR.out.mono ?_
    rintro e w5 ⟨go, gc, rfl, ⟨G, hout⟩, hb5⟩
    have HB5 := Lib.hid (HB4.out.trans (hb5.mono HB4.out.size))
    have hed := OutZ.ed hout
    have hrl : (rowsZ m X.length).length = X.length := by unfold rowsZ; rw [List.length_map, List.length_take, HML.out]; omega
    rw [hrl] at hed
    have HLE := Lib.hid (refleads_any (edR (nds m)) X.length go gc (f : Int) w5 (EdAt.ext hed fun j hj => by have := rowsZ_ed m j (by rw [HML.out]; exact hj); rw [HML.out] at this; exact this) (by omega))
    have HS5 := Lib.hid (HS4.out.below hb5)
    clear hed hrl hout hb5 HGR HS4 HB4
    go_wp2_with fail
    refine HLE.out.mono ?_
    rintro e W ⟨lo, lc, l, rfl, hle, hlo, hb6⟩
    have HB6 := Lib.hid (HB5.out.trans (hb6.mono HB5.out.size))
    have HSV := Lib.hid (HS5.out.below hb6)
    have HLO := Lib.hid hlo
    have hll : ∀ v ∈ l, v < X.length := fun v hv => ((hle.mem v).1 hv).1
    have hlen : l.length ≤ 20 := Nat.le_trans (nodup_le X.length l (hle.srt.imp fun h => Nat.ne_of_lt h) hll) hl
    have HLL := Lib.hid hll
    have HLT := Lib.hid (show LeadsTo (edR (nds m)) m.length ((idsX m).idxOf i : Nat) l by
      rw [HF.out, HML.out]
      exact hle)
    clear hle hlo hb6 hll HS5 HLE HB5
    go_wp2_with fail
    go_loopw [9, 10, 11] (fun pv mv kv wr => ∃ (k : Nat) (P : List Rv) (po : Option Addr) (pc : Nat) (D : List Id) (dn : Option Addr) (dc : Nat), pv = .slice po P.length pc ∧ mv = .slice dn D.length dc ∧ kv = .int .i64 k ∧ k ≤ l.length ∧ P = partR m (l.take k) ∧ D = missO m (l.take k) ∧ OwnR wr W.heap.size po pc P ∧ OwnL wr W.heap.size dn dc D ∧ Below W.heap.size W wr) (fun _ _ kv _ => l.length - (intOf kv).toNat)
    case atStart => exact ⟨0, [], none, 0, [], none, 0, rfl, rfl, rfl, Nat.zero_le _, by simp [partR], by simp [missO, partR], World.ownsRow_nil _ _ _ _, World.ownsRow_nil _ _ _ _, Below.refl _ _⟩
    case round =>
      obtain ⟨k, P, po, pc, D, dn, dc, rfl, rfl, rfl, hk, hP, hD, hpo, hdo, hb⟩ := hrel
      have hPl : P.length ≤ 20 := by rw [hP, partR_len, List.length_take]; omega
      have HDLE := Lib.hid (show D.length ≤ 200000 by
        rw [hD]
        have h1 := missO_len (s := m) (l := l.take k) (n := 10000) HDM.out (fun i hi => by rw [HML.out]; exact HLL.out i (List.mem_of_mem_take hi))
        have h2 : (l.take k).length ≤ 20 := by rw [List.length_take]; omega
        have := Nat.mul_le_mul_right 10000 h2
        omega)
      have HP := Lib.hid hP
      have HDD := Lib.hid hD
      have HPO := Lib.hid hpo
      have HDO := Lib.hid hdo
      have HBR := Lib.hid hb
      clear hP hD hpo hdo hb
      have hWr := HBR.out.size
      by_cases hkl : k < l.length
      · have hii : (k : Int) < (l.length : Int) := by omega
        obtain ⟨u, hu⟩ : ∃ u, l[k]? = some u := ⟨_, List.getElem?_eq_getElem hkl⟩
        obtain ⟨g, e1, hgl, hcell⟩ := iv_cell HLO.out hu
        subst e1
        have hcell2 := (HBR.out.cell (p := ⟨g, k, none⟩) hgl).trans hcell
        have hul := HLL.out u (List.mem_of_getElem? hu)
        have hul2 : u < m.length := by rw [HML.out]; exact hul
        obtain ⟨x, hx⟩ : ∃ x, m[u]? = some x := ⟨_, List.getElem?_eq_getElem hul2⟩
        obtain ⟨b, off, e2, hbl, hrec⟩ := HSV.out.row u x hx
        subst e2
        obtain ⟨c0, c1, c2, c3, c4, c5, c6, c7, c8, c9, c10, c11, c12, c13, c14, c15⟩ := hrec.below HBR.out hbl
        have HNP := Lib.hid (show P ++ [x] = partR m (l.take (k + 1)) by rw [List.take_add_one, hu]; simp only [Option.toList_some]; rw [partR_app, ← HP.out, partR_one hx])
        have HNM := Lib.hid (show missO m (l.take (k + 1)) = D ++ x.deps.filter fun d => !decide (d ∈ idsX m) by rw [missO_next hu hx, ← HDD.out])
        have huI : (u : Int) < (X.length : Int) := by omega
        have HSLE := HSV.out.le
        rw [HML.out] at HSLE
        unfold maxLen at HSLE
        obtain ⟨hsl1, hsl2⟩ := HSLE
        have hlo := HLO.out
        obtain ⟨ao', cap', e0, hlc1, hlc2, _, _⟩ := M.own_view hlo
        cases e0
        unfold maxLen at hlc2
        have hdx := HDM.out x (List.mem_of_getElem? hx)
        have HXD := Lib.hid (HSV.out.ok x (List.mem_of_getElem? hx)).deps
        clear hu hcell hx hrec hlo HP HDD
        go_upto_region 12 with fail
        clear hcell2
        obtain ⟨w1, hw1⟩ : ∃ w1, w1 = wr.alloc (recO x) := ⟨_, rfl⟩
        obtain ⟨gb, hgb⟩ : ∃ gb, gb = wr.heap.size := ⟨_, rfl⟩
        have hb1 : Below wr.heap.size wr w1 := by rw [hw1]; exact (Below.refl _ _).alloc (Nat.le_refl _) _
        have hx1 : w1.heap[gb]? = some (recO x) := by rw [hw1, hgb]; exact heap_alloc_new wr _
        rw [← hw1, ← hgb]
        have HX1 := Lib.hid hx1
        have HB1 := Lib.hid (HBR.out.trans (hb1.mono hWr))
        have HPO1 := Lib.hid (Go.Proofs.YtndfhejfhfhbdaaGreatDoor.R.own_below HPO.out hb1)
        have HDO1 := Lib.hid (Go.Proofs.YtndfhejfhfhbdaaGreatDoor.R.own_below HDO.out hb1)
        have HGN := Lib.hid (show ∀ a, po = some a → gb ≠ a.block from fun a e ea => by have := (HPO.out.lt a.block (by rw [e]; rfl)).2; omega)
        clear hw1 hb1 hx1 hgb c0 c1 c2 c3 c4 c5 c6 c7 c8 c9 c10 c11 c12 c13 c14 c15
        obtain ⟨c0, c1, c2, c3, c4, c5, c6, c7, c8, c9, c10, c11, c12, c13, c14, c15⟩ := box16 HX1.out
        have hs1 := HB1.out.size
        go_upto_region 13 with (refine wpList_app recC 16 (fun _ => rfl) (by decide) recC_one (by rfl) (.tmp 38) (.tmp 40) 28 (by rfl) W.heap.size 38 i0 _ 160 Tryz.underlying28 hi0 hz0 hz1 hz2 (by decide) rfl po pc P x (recA x) rfl (by rfl) (by exact HPO1.out) (by rfl) (by omega) (by omega) ?_; intro po' pc' w7 hown hmod hbel; have HPO7 := Lib.hid hown; have HDO7 := Lib.hid (own_beside HDO1.out HPO1.out (by decide) hmod); have HX7 := Lib.hid (hmod.heap HX1.out (fun ⟨a, e, ea⟩ => HGN.out a e ea)); have HB7 := Lib.hid (HB1.out.trans hbel); clear hown hmod hbel)
        clear c0 c1 c2 c3 c4 c5 c6 c7 c8 c9 c10 c11 c12 c13 c14 c15
        obtain ⟨P2, hP2⟩ : ∃ P2, P2 = P ++ [x] := ⟨_, rfl⟩
        rw [← hP2] at HNP HPO7
        try rw [← hP2]
        have HPL2 := Lib.hid (show P2.length = P.length + 1 by rw [hP2]; simp)
        clear hP2 HPO HDO HBR HPO1 HDO1 HX1 HGN
        go_wp2_with fail
        have hs7 := HB7.out.size
        obtain ⟨wa, rfl⟩ : ∃ wa, wa = w7 := ⟨_, rfl⟩
        obtain ⟨xo, hxo⟩ : ∃ xo, x.ao = xo := ⟨_, rfl⟩
        have HXO := Lib.hid hxo
        clear hxo
        go_loopw [10, 13] (fun mv jv wr => ∃ (j : Nat) (E : List Id) (eo : Option Addr) (ec : Nat), mv = .slice eo E.length ec ∧ jv = .int .i64 j ∧ j ≤ x.deps.length ∧ E = D ++ (x.deps.take j).filter (fun d => !decide (d ∈ idsX m)) ∧ OwnL wr W.heap.size eo ec E ∧ OwnR wr W.heap.size po' pc' P2 ∧ wr.heap[gb]? = some (recO x) ∧ Below W.heap.size W wr) (fun _ jv _ => x.deps.length - (intOf jv).toNat)
        case atStart => exact ⟨0, D, dn, dc, rfl, rfl, Nat.zero_le _, by simp, HDO7.out, HPO7.out, HX7.out, HB7.out⟩
        case round =>
          obtain ⟨j, E, eo, ec, rfl, rfl, hj, hE, heo, hpo, hgx, hbe⟩ := hrel
          have HEL := Lib.hid (show E.length ≤ 300000 by
            rw [hE, List.length_append]
            have h1 := List.length_filter_le (fun d => !decide (d ∈ idsX m)) (x.deps.take j)
            rw [List.length_take] at h1
            have := HDLE.out
            omega)
          have HE := Lib.hid hE
          have HEO := Lib.hid heo
          have HPO := Lib.hid hpo
          have HGX := Lib.hid hgx
          have HBE := Lib.hid hbe
          clear hE heo hpo hgx hbe
          have hsq := HBE.out.size
          have HXQ := Lib.hid (HXD.out.below (B := 0) HBE.out)
          have c13 : wr.cell? ⟨gb, 13, none⟩ = some (.slice xo x.deps.length x.cap) := by rw [← HXO.out]; exact (box16 HGX.out).2.2.2.2.2.2.2.2.2.2.2.2.2.1
          obtain ⟨hdl1, hdl2⟩ := HXD.out.le
          unfold maxLen at hdl2
          by_cases hjl : j < x.deps.length
          · have hjj : (j : Int) < (x.deps.length : Int) := by omega
            obtain ⟨d, hd⟩ : ∃ d, x.deps[j]? = some d := ⟨_, List.getElem?_eq_getElem hjl⟩
            have HD := Lib.hid hd
            obtain ⟨b2, off2, e2, hbl2, y0, y1⟩ := HXQ.out.row j d hd
            obtain rfl : xo = some ⟨b2, off2, none⟩ := HXO.out.symm.trans e2
            obtain ⟨v, hv⟩ : ∃ v, atI (idsX m) d = v := ⟨_, rfl⟩
            have HAT := Lib.hid (refat_any m _ sc d wr (HSV.out.below HBE.out) v hv)
            rw [HML.out] at HAT
            have HY := Lib.hid (And.intro y0 y1)
            have hgl := M.heap_lt HGX.out
            clear hd e2
            have hel := HEL.out
            by_cases hdm : d ∈ idsX m
            · have hneg : ¬ v < 0 := fun h => atI_neg.1 (hv ▸ h) hdm
              have HN := Lib.hid (show E = D ++ (x.deps.take (j + 1)).filter (fun d => !decide (d ∈ idsX m)) by rw [List.take_add_one, HD.out, List.filter_append, ← List.append_assoc, ← HE.out, Option.toList_some, fil_in hdm, List.append_nil])
              clear hdm hv
              go_wp2_with fail
              refine HAT.out.mono ?_
              rintro e w8 ⟨rfl, hb8⟩
              have HF8 := Lib.hid (And.intro (Go.Proofs.YtndfhejfhfhbdaaGreatDoor.R.own_below HEO.out hb8) (And.intro (Go.Proofs.YtndfhejfhfhbdaaGreatDoor.R.own_below HPO.out hb8) (And.intro ((hb8.block _ hgl).trans HGX.out) (HBE.out.trans (hb8.mono hsq)))))
              clear hb8 HAT c13 y0 y1
              go_wp2_with fail
              go_roundw
              case rel => exact ⟨j + 1, E, eo, ec, rfl, by go_num, by omega, HN.out, HF8.out⟩
              case measure => simp [intOf]; omega
            · have hneg : v < 0 := by rw [← hv]; exact atI_neg.2 hdm
              have HN := Lib.hid (show E ++ [d] = D ++ (x.deps.take (j + 1)).filter (fun d => !decide (d ∈ idsX m)) by rw [List.take_add_one, HD.out, List.filter_append, ← List.append_assoc, ← HE.out, Option.toList_some, fil_out hdm])
              clear hdm hv
              go_wp2_with fail
              refine HAT.out.mono ?_
              rintro e w8 ⟨rfl, hb8⟩
              have HEO8 := Lib.hid (Go.Proofs.YtndfhejfhfhbdaaGreatDoor.R.own_below HEO.out hb8)
              have HPO8 := Lib.hid (Go.Proofs.YtndfhejfhfhbdaaGreatDoor.R.own_below HPO.out hb8)
              have HGX8 := Lib.hid ((hb8.block _ hgl).trans HGX.out)
              have HB8 := Lib.hid (HBE.out.trans (hb8.mono hsq))
              have hs8 := HB8.out.size
              have d13 : w8.cell? ⟨gb, 13, none⟩ = some (.slice (some ⟨b2, off2, none⟩) x.deps.length x.cap) := by rw [← HXO.out]; exact (box16 HGX8.out).2.2.2.2.2.2.2.2.2.2.2.2.2.1
              have d0 := (hb8.cell (p := ⟨b2, _, none⟩) hbl2).trans HY.out.1
              have d1 := (hb8.cell (p := ⟨b2, _, none⟩) hbl2).trans HY.out.2
              clear hb8 HAT c13 y0 y1
              go_wp2_with (refine wpList_app idC 2 (fun _ => rfl) (by decide) idC_one (by rfl) (.tmp 59) (.tmp 66) 25 (by rfl) W.heap.size 27 i1 _ 16 Tryz.underlying25 hi1 hy0 hy1 hy2 (by decide) rfl eo ec E d #[.int .i64 d.r, .int .i64 d.n] rfl (by rfl) (by exact HEO8.out) (by rfl) (by omega) (by omega) ?_; intro eo' ec' w9 hown hmod hbel; have HEO9 := Lib.hid hown; have HPO9 := Lib.hid (own_beside HPO8.out HEO8.out (by decide) hmod); have HGX9 := Lib.hid (hmod.heap HGX8.out (box_apart HEO8.out HGX8.out)); have HB9 := Lib.hid (HB8.out.trans hbel); clear hown hmod hbel)
              clear d13 d0 d1
              go_roundw
              case rel => exact ⟨j + 1, E ++ [d], eo', ec', by simp, by go_num, by omega, HN.out, HEO9.out, HPO9.out, HGX9.out, HB9.out⟩
              case measure => simp [intOf]; omega
          · obtain rfl : j = x.deps.length := by omega
            have hjj : ¬ (x.deps.length : Int) < (x.deps.length : Int) := by omega
            have HN := Lib.hid (show E = missO m (l.take (k + 1)) by rw [HNM.out, HE.out, List.take_length])
            go_wp2_with fail
            go_roundw
            case rel => exact ⟨k + 1, P2, po', pc', E, eo, ec, by first | rfl | rw [HPL2.out], rfl, by go_num, by omega, HNP.out, HN.out, HPO.out, HEO.out, HBE.out⟩
            case measure => simp [intOf]; omega
      · obtain rfl : k = l.length := by omega
        have hii : ¬ (l.length : Int) < (l.length : Int) := by omega
        have HPF := Lib.hid (show P = partR m l by rw [HP.out, List.take_length])
        have HDF := Lib.hid (show D = missO m l by rw [HDD.out, List.take_length])
        have HDV := Lib.hid (IdsV.of_own (B := W.heap.size) (l := D) (by have := HDO.out; unfold OwnL at this; exact this) (fun d hd => by
          rw [HDF.out] at hd
          obtain ⟨x, hx, hdx⟩ := List.mem_flatMap.1 hd
          obtain ⟨u, hu, rfl⟩ := List.mem_map.1 hx
          have hul : u < m.length := by rw [HML.out]; exact HLL.out u hu
          have hxm : m.getD u default ∈ m := by rw [List.getD, List.getElem?_eq_getElem hul]; exact List.getElem_mem hul
          exact (HSV.out.ok _ hxm).deps.ok d (List.mem_filter.1 hdx).1))
        have HSET := Lib.hid (refset_any D dn dc wr HDV.out (by have := HDLE.out; omega))
        go_wp2_with fail
        refine HSET.out.mono ?_
        rintro e wf ⟨fo, fc, rfl, hfo, hbf⟩
        have HF1 := Lib.hid (show OwnR wf w.heap.size po pc P from own_base (Go.Proofs.YtndfhejfhfhbdaaGreatDoor.R.own_below HPO.out hbf) (fun q hq => Nat.le_trans HB6.out.size (HPO.out.lt q hq).1))
        have HF2 := Lib.hid (show OwnL wf w.heap.size fo fc (setI D) from own_base hfo (fun q hq => Nat.le_trans (Nat.le_trans HB6.out.size hWr) (hfo.lt q hq).1))
        have HF3 := Lib.hid ((HB6.out.trans (HBR.out.mono HB6.out.size)).trans (hbf.mono (Nat.le_trans HB6.out.size hWr)))
        have HCL := Lib.hid (show ClO (srtR X) i P (setI D) by
          rw [← HM.out]
          exact ⟨fun h => absurd HIM.out h, fun _ => ⟨l, HLT.out, HPF.out, by rw [HDF.out]⟩⟩)
        clear hfo hbf HSET
        go_wp2_with fail
        go_ret2
        exact ⟨po, pc, P, fo, fc, setI D, rfl, HCL.out, HF1.out, HF2.out, HF3.out⟩
  · have hneg : v < 0 := by rw [← hv]; exact atI_neg.2 him
    have HIM := Lib.hid (show ClO (srtR X) i [] [] by
      rw [← HM.out]
      exact ⟨fun _ => ⟨rfl, rfl⟩, fun h => absurd h him⟩)
    clear him hv
    go_wp2_with fail
    go_ret2
    exact ⟨none, 0, [], none, 0, [], rfl, HIM.out, World.ownsRow_nil _ _ _ _, World.ownsRow_nil _ _ _ _, HB4.out⟩
end Go.Proofs.YtndfhejfhfhbdaaGreatDoor.O
