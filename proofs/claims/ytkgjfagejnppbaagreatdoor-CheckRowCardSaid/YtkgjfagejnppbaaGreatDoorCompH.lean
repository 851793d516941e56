/- The contract of walk. -/
import Derived.Test.YtkgjfagejnppbaaGreatDoorMrg8
import Derived.WalkMore
namespace Go.Proofs.YtkgjfagejnppbaaGreatDoor.K
open Go.RowKit M T
set_option linter.unusedVariables false
set_option linter.unusedSimpArgs false

theorem info_frame : (Tryz.prog.info? 179).map (fun i => (i.zero, i.size, i.bytes)) = some (some (.agg #[.int .i64 0, .int .i64 0]), 2, 16) := by kernel_rfl
theorem rev_last (rest : List (Nat × Nat)) (f : Nat × Nat) : (f :: rest).reverse[rest.length]? = some f := by simp
theorem rev_set (rest : List (Nat × Nat)) (f g : Nat × Nat) : ((f :: rest).reverse).set rest.length g = (g :: rest).reverse := by
  simp only [List.reverse_cons]
  rw [List.set_append_right _ _ (by simp)]
  simp
/-- of a finder that is gone through, what it begins and ends with -/
structure FD (E : Nat → List Int) (n B : Nat) (W0 : World) (eo : Option Addr) (ec : Nat) (w : World) (b : Nat) (m : Lay) (s : St) : Prop where
  fm : FM B n w b m s (ofI s)
  inv : Inv E n s []
  he : m.eo = eo ∧ m.ec = ec
  cnt : s.comps.length + s.stack.length ≤ s.next ∧ s.next + unv n s.num = n
  bel : Below B W0 w

set_option maxRecDepth 100000 in
set_option maxHeartbeats 4000000 in
theorem walk_any (E : Nat → List Int) (n B : Nat) (W0 : World) (eo : Option Addr) (ec : Nat) (w : World) (b : Nat) (m : Lay) (s : St) (hEd : EdAt B W0 eo n ec E) (h : FD E n B W0 eo ec w b m s) (v : Nat) (hv : v < n) (h0 : s.num v = 0) (hn : n ≤ 10000) :
    Calls Tryz.prog 85 #[.pointer (some ⟨b, 0, none⟩), .int .i64 v] w fun e w' => e = .returned (.tuple #[]) ∧ ∃ m' s', (FD E n B W0 eo ec w' b m' s' ∧ s'.num v ≠ 0 ∧ ∀ x, s.num x ≠ 0 → s'.num x ≠ 0) := by
  obtain ⟨i0, hii, hz0, hz1, hz2⟩ := info_parts info_frame
  have hbw := heap_lt h.fm.blk
  have hBw : B ≤ w.heap.size := by have := (h.fm.lt b (.inl rfl)).1; omega
  have HED := Lib.hid hEd
  have HH := Lib.hid h
  have H0 := Lib.hid h0
  have hnx : s.next ≤ 1000000 := by have := h.cnt; omega
  have hsl : s.stack.length ≤ 1000000 := by have := h.cnt; omega
  clear h hEd h0
  go_enter Tryz.func85, Tryz.ntmps85
  go_step3
  go_wp2_with fail
  refine (enter_any B n w b m s _ HH.out.fm v hv hBw hnx hsl).mono ?_
  rintro e w2 ⟨rfl, gg, cg, hf2, hgg, hm2⟩
  have hb2 : Below B w w2 := hm2.below (fun k hk => (HH.out.fm.lt k hk).1) hBw
  obtain ⟨u0, hu0⟩ : ∃ u0, 2 * unv n (s.enter v).num + 1 = u0 := ⟨_, rfl⟩
  have hBw2 : B ≤ w2.heap.size := Nat.le_trans hBw hb2.size
  have hunv : unv n (s.enter v).num + 1 = unv n s.num := unv_upd n s.num v (s.next + 1) hv H0.out (by omega)
  have HK : Hid (WK E n B W0 (s.enter v) eo ec (w2.alloc (.cells #[.int .i64 v, .int .i64 0] 179)) b { m with so := some ⟨gg, 0, none⟩, sc := cg } (s.enter v) [(v, 0)] (some ⟨w2.heap.size, 0, none⟩) 1) := by
    have hc := HH.out.cnt
    have hn1 : (s.enter v).next = s.next + 1 := rfl
    have hs1 : (s.enter v).stack.length = s.stack.length + 1 := by simp [St.enter]
    have hc1 : (s.enter v).comps = s.comps := rfl
    exact Lib.hid ⟨hf2.below ((Below.refl _ _).alloc (Nat.le_refl _) _), HH.out.inv.start hv H0.out, HH.out.he,
      World.ownsRow_lit w2 #[.int .i64 v, .int .i64 0] 1 hBw2 (by unfold maxLen; omega) rfl, by rw [hn1, hs1, hc1]; simp only [List.length_cons, List.length_nil]; omega, (HH.out.bel.trans hb2).alloc hBw2 _, fun _ hx => hx⟩
  clear hf2 hgg hm2 hb2
  go_wp2_with fail
  go_step3
  go_wp2_with fail
  have hunv0 := hunv
  go_loopg [4] u0 (fun k lv wr => ∃ (m1 : Lay) (s1 : St) (fr : List (Nat × Nat)) (fo : Option Addr) (fc : Nat), lv = .slice fo fr.length fc ∧ k = 2 * unv n s1.num + fr.length ∧ WK E n B W0 (s.enter v) eo ec wr b m1 s1 fr fo fc)
  case atStart => exact ⟨_, _, [(v, 0)], _, 1, rfl, hu0.symm, HK.out⟩
  case round =>
    obtain ⟨m1, s1, fr, fo, fc, rfl, hgk, hwk⟩ := hrel
    have HW := Lib.hid hwk
    have HGK := Lib.hid hgk
    clear HK hwk hgk hunv hunv0 hu0
    cases fr with
    | nil =>
      have e0 : (([] : List (Nat × Nat)).length : Int) = 0 := rfl
      go_wp2_with fail
      rw [Exit.noGoto_normal]
      go_end0
      exact ⟨rfl, m1, s1, ⟨HW.out.fm, HW.out.inv, HW.out.he, ⟨HW.out.cnt.1, HW.out.cnt.2.1⟩, HW.out.bel⟩, HW.out.mono v (by rw [show (s.enter v).num v = _ from upd_same _ _ _]; omega), fun x hx => HW.out.mono x (by
        by_cases e : x = v
        · subst e; rw [show (s.enter x).num x = _ from upd_same _ _ _]; omega
        · rw [show (s.enter v).num x = _ from upd_other _ _ e]; exact hx)⟩
    | cons f rest =>
      obtain ⟨a1, p1⟩ := f
      obtain ⟨q, hq⟩ : ∃ q, rest.length = q := ⟨_, rfl⟩
      rw [show ((a1, p1) :: rest).length = q + 1 by rw [← hq]; rfl]
      obtain ⟨gf, rfl, hgf, hfl, hfm, hfc⟩ := rowcell HW.out.fown (by simp)
      obtain ⟨t0, t1⟩ := cellsF_get _ _ _ (rev_last rest (a1, p1))
      rw [hq] at t0 t1
      have y0 := (hfc _ _ t0).1
      have y1 := (hfc _ _ t1).1
      have hqf : q + 1 ≤ fc := by rw [← hq]; exact hfl
      have HQ := Lib.hid hq
      have hq80 : q ≤ 10000 := by have h1 := HW.out.cnt; have h2 : ((a1, p1) :: rest).length = q + 1 := by rw [← hq]; rfl
                                  omega
      clear hfc t0 t1 hq hfl
      go_wp2_with fail
      obtain ⟨G, hG⟩ : ∃ G, G = gk := ⟨_, rfl⟩
      have hgkq : 2 * unv n s1.num + (q + 1) = G := by have h := HGK.out; simp only [List.length_cons] at h; have := HQ.out; omega
      have HGQ := Lib.hid hgkq
      clear y0 y1 hgkq
      go_loopg [4, 7] ((E a1).length - p1) (fun k2 lv _ wr2 => ∃ (m2 : Lay) (s2 : St) (p2 : Nat), lv = .slice (some ⟨gf, 0, none⟩) (q + 1) fc ∧ k2 = (E a1).length - p2 ∧ 2 * unv n s2.num + (q + 1) = G ∧ WK E n B W0 (s.enter v) eo ec wr2 b m2 s2 ((a1, p2) :: rest) (some ⟨gf, 0, none⟩) fc)
      case atStart => exact ⟨m1, s1, p1, rfl, rfl, HGQ.out, HW.out⟩
      case round =>
        obtain ⟨m2, s2, p2, rfl, hk2, hg2, hw2⟩ := hrel
        have HW2 := Lib.hid hw2
        have HK2 := Lib.hid hk2
        have HG2 := Lib.hid hg2
        obtain ⟨c0, c1, c2, c3, c4, c5, c6, cf⟩ := hw2.fm.cells
        rw [hw2.he.1, hw2.he.2] at c0
        have ha1s := hw2.inv.i0.gs a1 List.mem_cons_self
        have ha1 : a1 < n := (hw2.inv.i0.num a1 (hw2.inv.i0.gnum List.mem_cons_self)).1
        obtain ⟨gf', eg, hgf2, hfl2, hfm2, hfc2⟩ := rowcell hw2.fown (by simp)
        obtain rfl : gf = gf' := by simpa using eg
        obtain ⟨t0, t1⟩ := cellsF_get _ _ _ (rev_last rest (a1, p2))
        rw [HQ.out] at t0 t1
        have y1 := (hfc2 _ _ t1).1
        have z1 := (hfc2 _ _ t1).2
        have hed := HED.out.below hw2.bel
        obtain ⟨ge, off, ro, rc, rfl, hgeB, ce, hel, hem, hex⟩ := hed.row a1 ha1
        have hecl := hed.le
        have ha1n : (a1 : Int) < (n : Int) := by omega
        have HEX := Lib.hid hex
        clear hw2 hk2 hg2 hed hfc2 t0 t1 eg hex HW HGK HGQ
        by_cases hp : p2 < (E a1).length
        · obtain ⟨x, hx⟩ : ∃ x, (E a1)[p2]? = some x := ⟨_, List.getElem?_eq_getElem hp⟩
          obtain ⟨pb, po, rfl, hpB, cx⟩ := HEX.out p2 x hx
          have hpl : (p2 : Int) < ((E a1).length : Int) := by omega
          have HX := Lib.hid hx
          obtain ⟨le, hle⟩ : ∃ le, (E a1).length = le := ⟨_, rfl⟩
          rw [hle] at hpl ce hel
          have HLE := Lib.hid hle
          have hp63 : (p2 : Int) + 1 ≤ 9223372036854775807 := by unfold maxLen at hem; omega
          clear hx hle
          go_wp2_with fail
          go_quiet (fail)
          obtain ⟨w3, hw3⟩ : ∃ w3, w3 = wr.drewN nq := ⟨_, rfl⟩
          have hb3 : Below wr.heap.size wr w3 := by rw [hw3]; exact below_dn _ _ _
          have y1' : w3.cell? ⟨gf, q * 2 + 1, none⟩ = some (.int .i64 (p2 : Int)) := by rw [hw3]; exact y1
          have c0' : w3.cell? ⟨b, 0, none⟩ = some (.slice (some ⟨ge, off, none⟩) n ec) := by rw [hw3]; exact c0
          have ce' : w3.cell? ⟨ge, off + a1, none⟩ = some (.slice (some ⟨pb, po, none⟩) le rc) := by rw [hw3]; exact ce
          have cx' : w3.cell? ⟨pb, po + p2, none⟩ = some (.int .i64 x) := by rw [hw3]; exact cx
          have z1' : w3.frozen? ⟨gf, q * 2 + 1, none⟩ = false := by rw [hw3]; exact z1
          have HW3 := Lib.hid (HW2.out.below hb3)
          rw [← hw3]
          clear hw3 hb3 y1 c0 ce cx z1 c1 c2 c3 c4 c5 c6 cf
          go_wp2_with fail
          go_quiet (fail)
          obtain ⟨w4, hw4⟩ : ∃ w4, w4 = w3.drewN nq := ⟨_, rfl⟩
          have hb4 : Below w3.heap.size w3 w4 := by rw [hw4]; exact below_dn _ _ _
          have y1 : w4.cell? ⟨gf, q * 2 + 1, none⟩ = some (.int .i64 (p2 : Int)) := by rw [hw4]; exact y1'
          have z1 : w4.frozen? ⟨gf, q * 2 + 1, none⟩ = false := by rw [hw4]; exact z1'
          have HW4 := Lib.hid (HW3.out.below hb4)
          rw [← hw4]
          clear hw4 hb4 y1' c0' ce' cx' z1'
          go_upto_region 7 with fail
          obtain ⟨w5, hw5⟩ : ∃ w5, w5 = w4.setCell ⟨gf, q * 2 + 1, none⟩ (.int .i64 ((p2 : Int) + 1)) := ⟨_, rfl⟩
          have hM5 : Mods (fun k => k = gf) w4 w5 := by rw [hw5]; exact (Mods.refl (fun k => k = gf) w4).setCell (p := ⟨gf, q * 2 + 1, none⟩) (fun _ => rfl) _
          have hap := HW4.out.fapart _ rfl
          have hfm5 : FM B n w5 b m2 s2 (ofI s2) := HW4.out.fm.keep hM5 (fun k hk hF => by obtain rfl : k = gf := hk; exact hap.1 hF) (fun k hk hR => by obtain rfl : k = gf := hk; exact hap.2 hR)
          have hfo5 : w5.ownsRow B 179 2 (.slice (some ⟨gf, 0, none⟩) (q + 1) fc) (q + 1) (cellsF ((a1, p2 + 1) :: rest).reverse) := by
            have h := own_setcell HW4.out.fown (q * 2 + 1) (.int .i64 ((p2 : Int) + 1))
            rw [show ((p2 : Int) + 1) = (((p2 + 1 : Nat)) : Int) by omega, ← HQ.out, cellsF_set _ rest.length a1 p2 (rev_last rest (a1, p2)) (p2 + 1), rev_set] at h
            rw [hw5, ← HQ.out, show ((p2 : Int) + 1) = (((p2 + 1 : Nat)) : Int) by omega]
            exact h
          have hB4 := (HW4.out.fm.lt b (.inl rfl))
          have hgfB : B ≤ gf := by have := HW4.out.fown.lt gf rfl; exact this.1
          have hbel5 : Below B W0 w5 := HW4.out.bel.trans (hM5.below (fun k hk => by obtain rfl : k = gf := hk; exact hgfB) (by omega))
          rw [← hw5]
          have HF5 := Lib.hid hfm5
          have HO5 := Lib.hid hfo5
          have HBE5 := Lib.hid hbel5
          obtain ⟨c0, c1, c2, c3, c4, c5, c6, cf⟩ := hfm5.cells
          clear hw5 hM5 hap hfm5 hfo5 hbel5 y1 z1
          by_cases hout : x < 0 ∨ (n : Int) ≤ x
          · have e1 : Inv E n s2 ((a1, p2 + 1) :: rest) := HW2.out.inv.pass (by have := HLE.out; omega) (fun y hy he => by
              rw [HX.out] at he
              have := Option.some.inj he
              omega)
            have HI5 := Lib.hid e1
            clear e1 hpl
            by_cases hx0 : x < 0
            · go_wp2_with fail
              go_roundg (gk - 1)
              case measure => have := HK2.out; omega
              case rel => exact ⟨m2, s2, p2 + 1, rfl, by have := HK2.out; omega, HG2.out, HF5.out, HI5.out, HW2.out.he, by rw [show ((a1, p2 + 1) :: rest).length = q + 1 by rw [← HQ.out]; rfl]; exact HO5.out, HW2.out.cnt, HBE5.out, HW2.out.mono⟩
            · have hx0' : ¬ x < 0 := hx0
              have hxn : (n : Int) ≤ x := by omega
              go_wp2_with fail
              go_roundg (gk - 1)
              case measure => have := HK2.out; omega
              case rel => exact ⟨m2, s2, p2 + 1, rfl, by have := HK2.out; omega, HG2.out, HF5.out, HI5.out, HW2.out.he, by rw [show ((a1, p2 + 1) :: rest).length = q + 1 by rw [← HQ.out]; rfl]; exact HO5.out, HW2.out.cnt, HBE5.out, HW2.out.mono⟩
          · obtain ⟨xn, rfl⟩ : ∃ xn : Nat, x = xn := ⟨x.toNat, by omega⟩
            have hxn : xn < n := by omega
            have hxlt : ¬ ((xn : Int) < 0) := by omega
            have hxge : ¬ ((n : Int) ≤ (xn : Int)) := by omega
            have hxni : (xn : Int) < (n : Int) := by omega
            obtain ⟨kn, fn⟩ := row_cell HF5.out.hn xn hxn
            by_cases hnum : s2.num xn = 0
            · have en : ((s2.num xn : Int) == 0) = true := by rw [beq_iff_eq]; omega
              have hcn := HW2.out.cnt
              have hBw5 : B ≤ w5.heap.size := by have := (HF5.out.lt b (.inl rfl)); omega
              have HI5 := Lib.hid (HW2.out.inv.go HX.out ha1 hxn hnum)
              have hunv2 : unv n (s2.enter xn).num + 1 = unv n s2.num := unv_upd n s2.num xn (s2.next + 1) hxn hnum (by omega)
              have HU := Lib.hid (And.intro hunv2 hcn)
              have hn1 : s2.next ≤ 1000000 := by omega
              have hs1 : s2.stack.length ≤ 1000000 := by omega
              obtain ⟨cur5, hg5, hgB5⟩ := own_heap HO5.out _ rfl
              have hg5 : w5.heap[gf]? = some (.cells cur5 179 (0, 0)) := hg5
              have hap5 := frame_apart HF5.out hg5
              have HNUM := Lib.hid hnum
              clear hnum hcn hunv2 hpl
              go_wp2_with fail
              refine (enter_any B n w5 b m2 s2 _ HF5.out xn hxn hBw5 hn1 hs1).mono ?_
              rintro e w6 ⟨rfl, gg6, cg6, hf6, hgg6, hm6⟩
              have hown6 := own_kept HO5.out hm6 (fun k hk hF => by obtain rfl : gf = k := Option.some.inj hk; exact hap5.1 hF)
              have hg6 := hm6.heap hg5 hap5.1
              have hap6 := frame_apart hf6 hg6
              have hb6 : Below B w5 w6 := hm6.below (fun k hk => (HF5.out.lt k hk).1) hBw5
              have HF6 := Lib.hid hf6
              have HO6 := Lib.hid hown6
              have HB6 := Lib.hid hb6
              have hBw6 : B ≤ w6.heap.size := Nat.le_trans hBw5 hb6.size
              have HAP := Lib.hid hap6
              clear hf6 hgg6 hm6 hown6 hg6 hb6 hap5 hap6 c0 c1 c2 c3 c4 c5 c6 cf kn fn
              go_wp2_with (refine wpList_append_lies _ (by rfl) (.tmp 79) (.tmp 83) 181 (by rfl) B 179 i0 _ 2 16 Tryz.underlying181 hii hz0 hz1 hz2 rfl (by decide) (.slice (some ⟨gf, 0, none⟩) (q + 1) fc) (q + 1) (cellsF ((a1, p2 + 1) :: rest).reverse) (by rfl) (by exact HO6.out.alloc _) ⟨w6.heap.size, 0, none⟩ 1 1 [.int .i64 (xn : Int), .int .i64 0] (by rfl) (by rfl) (World.news_of_block (cs := #[.int .i64 (xn : Int), .int .i64 0]) (t := 179) (fr := (0, 0)) (heap_alloc_new w6 _)) (by simp [Value.oneCell']) (by omega) (by unfold maxLen; omega) (by omega) (by simp; omega) (w6.heap.size + 1) (by simp) ?_; intro g7 c7 w7 hown7 hgrow7 hat7 hlt7; have HG7 := Lib.hid (And.intro hown7 (And.intro hgrow7 hat7)); clear hown7 hgrow7 hat7)
              go_roundg (2 * unv n (s2.enter xn).num + (q + 1 + 1))
              case measure => have h1 := HU.out.1; have h2 := HG2.out; omega
              case rel =>
                have hM7 : Mods (fun k => k = gf) w6 w7 := ((Mods.refl (fun k => k = gf) w6).alloc _).grown HG7.out.2.1 (fun k hk _ => (Option.some.inj hk).symm)
                have hlen : ((xn, 0) :: (a1, p2 + 1) :: rest).length = q + 1 + 1 := by rw [← HQ.out]; rfl
                have hgfB2 : B ≤ gf := hgfB
                refine ⟨_, s2.enter xn, (xn, 0) :: (a1, p2 + 1) :: rest, some ⟨g7, 0, none⟩, c7, by rw [hlen], by rw [hlen], HF6.out.keep hM7 (fun k hk hF => by obtain rfl : k = gf := hk; exact HAP.out.1 hF) (fun k hk hR => by obtain rfl : k = gf := hk; exact HAP.out.2 hR), HI5.out, HW2.out.he, ?_, ?_, (HBE5.out.trans HB6.out).trans (hM7.below (fun k hk => by obtain rfl : k = gf := hk; exact hgfB2) hBw6), fun y hy => ?_⟩
                · rw [hlen, show ((xn, 0) :: (a1, p2 + 1) :: rest).reverse = ((a1, p2 + 1) :: rest).reverse ++ [(xn, 0)] from List.reverse_cons, cellsF_append]
                  exact HG7.out.1
                · obtain ⟨h1, h2, h3, h4⟩ := HU.out
                  have e1 : (s2.enter xn).next = s2.next + 1 := rfl
                  have e2 : (s2.enter xn).stack.length = s2.stack.length + 1 := by simp [St.enter]
                  have e3 : (s2.enter xn).comps = s2.comps := rfl
                  have e4 : ((a1, p2) :: rest).length = q + 1 := by rw [← HQ.out]; rfl
                  rw [e1, e2, e3, hlen]
                  rw [e4] at h4
                  omega
                · have h1 := HW2.out.mono y hy
                  by_cases e : y = xn
                  · subst e; exact absurd HNUM.out h1
                  · rw [show (s2.enter xn).num y = s2.num y from upd_other _ _ e]; exact h1
            · have en : ((s2.num xn : Int) == 0) = false := by rw [beq_eq_false_iff_ne]; omega
              obtain ⟨ko, fo⟩ := row_cell HF5.out.ho xn hxn
              cases hof : s2.ofc xn with
              | some i =>
                rw [ofI_some hof] at ko
                have HI5 := Lib.hid (show Inv E n s2 ((a1, p2 + 1) :: rest) from HW2.out.inv.pass (by have := HLE.out; omega) (fun y hy he => by
                  rw [HX.out] at he
                  obtain rfl : xn = y := by have := Option.some.inj he; omega
                  exact ⟨hnum, fun hm => by rw [((HW2.out.inv.i0.stk xn).1 hm).2] at hof; cases hof⟩))
                have hi0 : ¬ ((i : Int) < 0) := by omega
                clear hnum hof hpl
                go_wp2_with fail
                go_roundg (gk - 1)
                case measure => have := HK2.out; omega
                case rel => exact ⟨m2, s2, p2 + 1, rfl, by have := HK2.out; omega, HG2.out, HF5.out, HI5.out, HW2.out.he, by rw [show ((a1, p2 + 1) :: rest).length = q + 1 by rw [← HQ.out]; rfl]; exact HO5.out, HW2.out.cnt, HBE5.out, HW2.out.mono⟩
              | none =>
                rw [ofI_none hof] at ko
                have hxs : xn ∈ s2.stack := (HW2.out.inv.i0.stk xn).2 ⟨hnum, hof⟩
                have HI5 := Lib.hid (HW2.out.inv.back HX.out ha1 hxn hxs)
                obtain ⟨kl, fl⟩ := row_cell HF5.out.hl a1 ha1
                have HSET := Lib.hid (HF5.out.set_low a1 (min (s2.low a1) (s2.num xn)))
                have emin : ((min (s2.low a1) (s2.num xn) : Nat) : Int) = min (s2.low a1 : Int) (s2.num xn : Int) := by omega
                rw [emin] at HSET
                have hBw5 : B ≤ w5.heap.size := by have := (HF5.out.lt b (.inl rfl)); omega
                clear hnum hof hpl hxs emin
                go_wp2_with fail
                go_still_tail 21, (by kernel_rfl)
                go_wp2_with fail
                go_roundg (gk - 1)
                case measure => have := HK2.out; omega
                case rel =>
                  obtain ⟨cur5, hg5, hgB5⟩ := own_heap HO5.out _ rfl
                  have hg5 : w5.heap[gf]? = some (.cells cur5 179 (0, 0)) := hg5
                  have hap5 := frame_apart HF5.out hg5
                  have hMs : Mods (fun k => k = m2.gL) w5 ((w5.setCell ⟨m2.gL, a1, none⟩ (.int .i64 (min (s2.low a1 : Int) (s2.num xn : Int)))).drew) := ((Mods.refl (fun k => k = m2.gL) w5).setCell (p := ⟨m2.gL, a1, none⟩) (fun _ => rfl) _).drew
                  exact ⟨m2, s2.lower a1 (s2.num xn), p2 + 1, rfl, by have := HK2.out; omega, HG2.out, HSET.out.below (Below.refl _ _).drew, HI5.out, HW2.out.he, by
                    rw [show ((a1, p2 + 1) :: rest).length = q + 1 by rw [← HQ.out]; rfl]
                    exact own_kept HO5.out hMs (fun k hk e => by obtain rfl : gf = k := Option.some.inj hk; exact hap5.1 (.inr (.inr (.inl e)))), HW2.out.cnt, HBE5.out.trans (hMs.below (fun k hk => by obtain rfl : k = m2.gL := hk; exact HF5.out.lo.2.2.1) hBw5), HW2.out.mono⟩
        · have hpl : ¬ (p2 : Int) < ((E a1).length : Int) := by omega
          obtain ⟨le, hle⟩ : ∃ le, (E a1).length = le := ⟨_, rfl⟩
          rw [hle] at hpl ce hel
          have hge : (E a1).length ≤ p2 := by omega
          have HGE := Lib.hid hge
          have hlw := (HW2.out.inv.i0.lw a1 ha1s).1
          clear hp hge hle
          go_wp2_with fail
          go_quiet (fail)
          obtain ⟨w3, hw3⟩ : ∃ w3, w3 = wr.drewN nq := ⟨_, rfl⟩
          have hb3 : Below wr.heap.size wr w3 := by rw [hw3]; exact below_dn _ _ _
          have HW3 := Lib.hid (HW2.out.below hb3)
          rw [← hw3]
          clear hw3 hb3 y1 c0 ce z1 c1 c2 c3 c4 c5 c6 cf
          by_cases hst : s2.low a1 < s2.num a1
          · cases rest with
            | nil => exact absurd HW2.out.inv.root (by omega)
            | cons g rest2 =>
              obtain ⟨up, pu⟩ := g
              obtain ⟨q1, rfl⟩ : ∃ q1, q = q1 + 1 := ⟨rest2.length, HQ.out.symm⟩
              have hq1 : rest2.length = q1 := by have h := HQ.out; simp only [List.length_cons] at h; omega
              have HQ1 := Lib.hid hq1
              have HI5 := Lib.hid (HW2.out.inv.leave HGE.out hst)
              have hups := HW2.out.inv.i0.gs up (List.mem_cons_of_mem _ List.mem_cons_self)
              have hupn : up < n := (HW2.out.inv.i0.num up ((HW2.out.inv.i0.stk up).1 hups).1).1
              clear hq1 hups
              go_wp2_with fail
              refine (leave_stay B n w3 b m2 s2 _ HW3.out.fm a1 ha1 (by omega)).mono ?_
              rintro e w4 ⟨rfl, b4⟩
              have hw4 := HW3.out.below b4
              obtain ⟨c0, c1, c2, c3, c4, c5, c6, cf⟩ := hw4.fm.cells
              obtain ⟨kl, fl⟩ := row_cell hw4.fm.hl a1 ha1
              obtain ⟨ku, fu⟩ := row_cell hw4.fm.hl up hupn
              have hcut := own_cutN hw4.fown (q1 + 1) (by simp only [List.length_cons]; have := HQ1.out; omega) (by exact fun e => by cases e)
              have hrt : (cellsF ((a1, p2) :: (up, pu) :: rest2).reverse).take ((q1 + 1) * 2) = cellsF ((up, pu) :: rest2).reverse := by
                rw [← cellsF_take, ← HQ.out, rev_take]
              rw [hrt] at hcut
              obtain ⟨g2, eg2, _, _, _, hfc2⟩ := rowcell hcut (by omega)
              obtain rfl : gf = g2 := by simpa using eg2
              obtain ⟨t0, t1⟩ := cellsF_get _ _ _ (rev_last rest2 (up, pu))
              rw [HQ1.out] at t0
              have yu := (hfc2 _ _ t0).1
              have HSET := Lib.hid (hw4.fm.set_low up (min (s2.low up) (s2.low a1)))
              have emin : ((min (s2.low up) (s2.low a1) : Nat) : Int) = min (s2.low up : Int) (s2.low a1 : Int) := by omega
              rw [emin] at HSET
              have hupi : (up : Int) < (n : Int) := by omega
              have HW4 := Lib.hid hw4
              have HCUT := Lib.hid hcut
              have hBw4 : B ≤ w4.heap.size := by have := (hw4.fm.lt b (.inl rfl)); omega
              have hap4 := hw4.fapart _ rfl
              have HAP := Lib.hid hap4
              clear hw4 b4 hcut hrt eg2 hfc2 t0 t1 emin hst hap4 hlw
              go_wp2_with fail
              go_still_tail 21, (by kernel_rfl)
              go_wp2_with fail
              go_roundg (2 * unv n s2.num + (q1 + 1))
              case measure => have h2 := HG2.out; omega
              case rel =>
                have hMs : Mods (fun k => k = m2.gL) w4 ((w4.setCell ⟨m2.gL, up, none⟩ (.int .i64 (min (s2.low up : Int) (s2.low a1 : Int)))).drew) := ((Mods.refl (fun k => k = m2.gL) w4).setCell (p := ⟨m2.gL, up, none⟩) (fun _ => rfl) _).drew
                have hlen : ((up, pu) :: rest2).length = q1 + 1 := by rw [← HQ1.out]; rfl
                refine ⟨m2, s2.lower up (s2.low a1), (up, pu) :: rest2, some ⟨gf, 0, none⟩, fc, by rw [hlen], by rw [hlen]; rfl, HSET.out.below (Below.refl _ _).drew, HI5.out, HW2.out.he, ?_, ?_, HW4.out.bel.trans (hMs.below (fun k hk => by obtain rfl : k = m2.gL := hk; exact HW4.out.fm.lo.2.2.1) hBw4), HW2.out.mono⟩
                · rw [hlen]
                  exact own_kept HCUT.out hMs (fun k hk e => by obtain rfl : gf = k := Option.some.inj hk; exact HAP.out.1 (.inr (.inr (.inl e))))
                · obtain ⟨h2, h3, h4⟩ := HW2.out.cnt
                  refine ⟨h2, h3, ?_⟩
                  simp only [List.length_cons] at h4 ⊢
                  show _ + unv n s2.num ≤ n
                  omega
          · have heq : s2.low a1 = s2.num a1 := by omega
            obtain ⟨i, hi⟩ : ∃ i, s2.stack[i]? = some a1 := List.mem_iff_getElem?.1 ha1s
            obtain ⟨d1, d2, d3, d4, d5⟩ := split_at HW2.out.inv.i0 hi
            have hcn := HW2.out.cnt
            have hil := (List.getElem?_eq_some_iff.1 hi).1
            have hBw3 : B ≤ w3.heap.size := by have := (HW3.out.fm.lt b (.inl rfl)); omega
            have HPOP := Lib.hid (leave_pop B n w3 b m2 s2 _ HW3.out.fm a1 ha1 heq hBw3 i hi d5 (by omega) (by omega) (fun y hy => (HW2.out.inv.i0.num y ((HW2.out.inv.i0.stk y).1 hy).1).1))
            have HD := Lib.hid (And.intro d1 (And.intro d2 (And.intro d3 d4)))
            have HEQ := Lib.hid heq
            have HCN := Lib.hid (show s2.comps.length + 1 + (s2.stack.take i).length ≤ s2.next from by rw [List.length_take]; omega)
            clear hst heq hi d1 d2 d3 d4 d5 hil hlw hcn
            cases rest with
            | nil =>
              obtain rfl : q = 0 := HQ.out.symm
              go_wp2_with fail
              refine HPOP.out.mono ?_
              rintro e w4 ⟨rfl, c, gg, cg, r, hperm, hpw, hf4, hgg4, hm4⟩
              rw [ofI_pop s2 a1 c (s2.stack.take i)] at hf4
              have hinv := HW2.out.inv.pop HGE.out HEQ.out (fun y => (hperm.mem_iff).trans (HD.out.1 y)) (strict_of hperm HD.out.2.2.2 hpw) HD.out.2.1 HD.out.2.2.1
              have hown4 := own_cutN (own_kept HW3.out.fown hm4 (fun k hk hF => by obtain rfl : gf = k := Option.some.inj hk; exact (HW3.out.fapart _ rfl).1 hF)) 0 (Nat.zero_le _) (by exact fun e => by cases e)
              have HI5 := Lib.hid hinv
              have HF4 := Lib.hid hf4
              have HO4 := Lib.hid hown4
              have HB4 := Lib.hid (HW3.out.bel.trans (hm4.below (fun k hk => (HW3.out.fm.lt k hk).1) hBw3))
              clear hperm hpw hf4 hgg4 hm4 hinv hown4
              go_wp2_with fail
              go_roundg (2 * unv n s2.num + 0)
              case measure => have h2 := HG2.out; omega
              case rel =>
                refine ⟨_, s2.pop a1 c (s2.stack.take i), [], some ⟨gf, 0, none⟩, fc, rfl, rfl, HF4.out, HI5.out, HW2.out.he, HO4.out, ?_, HB4.out, HW2.out.mono⟩
                obtain ⟨h2, h3, h4⟩ := HW2.out.cnt
                refine ⟨?_, h3, ?_⟩
                · show (s2.comps ++ [c]).length + (s2.stack.take i).length ≤ s2.next
                  rw [List.length_append]; exact HCN.out
                · show 0 + unv n s2.num ≤ n
                  omega
            | cons g rest2 =>
              obtain ⟨up, pu⟩ := g
              obtain ⟨q1, rfl⟩ : ∃ q1, q = q1 + 1 := ⟨rest2.length, HQ.out.symm⟩
              have hq1 : rest2.length = q1 := by have h := HQ.out; simp only [List.length_cons] at h; omega
              have HQ1 := Lib.hid hq1
              have hups := HW2.out.inv.i0.gs up (List.mem_cons_of_mem _ List.mem_cons_self)
              have hupn : up < n := (HW2.out.inv.i0.num up ((HW2.out.inv.i0.stk up).1 hups).1).1
              have HUP := Lib.hid (HW2.out.inv.pop_up HEQ.out)
              clear hq1 hups
              go_wp2_with fail
              refine HPOP.out.mono ?_
              rintro e w4 ⟨rfl, c, gg, cg, r, hperm, hpw, hf4, hgg4, hm4⟩
              rw [ofI_pop s2 a1 c (s2.stack.take i)] at hf4
              have hinv := HW2.out.inv.pop HGE.out HEQ.out (fun y => (hperm.mem_iff).trans (HD.out.1 y)) (strict_of hperm HD.out.2.2.2 hpw) HD.out.2.1 HD.out.2.2.1
              have hown4 := (own_kept HW3.out.fown hm4 (fun k hk hF => by obtain rfl : gf = k := Option.some.inj hk; exact (HW3.out.fapart _ rfl).1 hF))
              obtain ⟨c0, c1, c2, c3, c4, c5, c6, cf⟩ := hf4.cells
              obtain ⟨kl, fl⟩ := row_cell hf4.hl a1 ha1
              obtain ⟨ku, fu⟩ := row_cell hf4.hl up hupn
              have kl : w4.cell? ⟨m2.gL, a1, none⟩ = some (.int .i64 (s2.low a1 : Int)) := kl
              have ku : w4.cell? ⟨m2.gL, up, none⟩ = some (.int .i64 (s2.low up : Int)) := ku
              have fu : w4.frozen? ⟨m2.gL, up, none⟩ = false := fu
              have c2 : w4.cell? ⟨b, 2, none⟩ = some (.slice (some ⟨m2.gL, 0, none⟩) n n) := c2
              have hcut := own_cutN hown4 (q1 + 1) (by simp only [List.length_cons]; have := HQ1.out; omega) (by exact fun e => by cases e)
              have hrt : (cellsF ((a1, p2) :: (up, pu) :: rest2).reverse).take ((q1 + 1) * 2) = cellsF ((up, pu) :: rest2).reverse := by
                rw [← cellsF_take, ← HQ.out, rev_take]
              rw [hrt] at hcut
              obtain ⟨g2, eg2, _, _, _, hfc2⟩ := rowcell hcut (by omega)
              obtain rfl : gf = g2 := by simpa using eg2
              obtain ⟨t0, t1⟩ := cellsF_get _ _ _ (rev_last rest2 (up, pu))
              rw [HQ1.out] at t0
              have yu := (hfc2 _ _ t0).1
              have hset := hf4.set_low up (s2.low up)
              rw [show upd (s2.pop a1 c (s2.stack.take i)).low up (s2.low up) = (s2.pop a1 c (s2.stack.take i)).low from upd_self _ _] at hset
              have emin : (s2.low up : Int) = min (s2.low up : Int) (s2.low a1 : Int) := by have := HUP.out; omega
              rw [emin] at hset
              have HSET := Lib.hid hset
              have hupi : (up : Int) < (n : Int) := by omega
              have HI5 := Lib.hid hinv
              have HCUT := Lib.hid hcut
              have HB4 := Lib.hid (HW3.out.bel.trans (hm4.below (fun k hk => (HW3.out.fm.lt k hk).1) hBw3))
              have HLB := Lib.hid hf4.lo.2.2.1
              have hBw4 : B ≤ w4.heap.size := by have := (hf4.lt b (.inl rfl)); omega
              obtain ⟨cur4, hg4, _⟩ := own_heap hcut _ rfl
              have HAP := Lib.hid (frame_apart hf4 hg4)
              clear hperm hpw hf4 hgg4 hm4 hinv hown4 hcut hrt eg2 hfc2 t0 t1 emin hset hg4
              go_wp2_with fail
              go_still_tail 21, (by kernel_rfl)
              go_wp2_with fail
              go_roundg (2 * unv n s2.num + (q1 + 1))
              case measure => have h2 := HG2.out; omega
              case rel =>
                have hMs : Mods (fun k => k = m2.gL) w4 ((w4.setCell ⟨m2.gL, up, none⟩ (.int .i64 (min (s2.low up : Int) (s2.low a1 : Int)))).drew) := ((Mods.refl (fun k => k = m2.gL) w4).setCell (p := ⟨m2.gL, up, none⟩) (fun _ => rfl) _).drew
                have hlen : ((up, pu) :: rest2).length = q1 + 1 := by rw [← HQ1.out]; rfl
                refine ⟨_, s2.pop a1 c (s2.stack.take i), (up, pu) :: rest2, some ⟨gf, 0, none⟩, fc, by rw [hlen], by rw [hlen]; rfl, HSET.out.below (Below.refl _ _).drew, HI5.out, HW2.out.he, ?_, ?_, HB4.out.trans (hMs.below (fun k hk => by obtain rfl : k = m2.gL := hk; exact HLB.out) hBw4), HW2.out.mono⟩
                · rw [hlen]
                  exact own_kept HCUT.out hMs (fun k hk e => by obtain rfl : gf = k := Option.some.inj hk; exact HAP.out.1 (.inr (.inr (.inl e))))
                · obtain ⟨h2, h3, h4⟩ := HW2.out.cnt
                  refine ⟨?_, h3, ?_⟩
                  · show (s2.comps ++ [c]).length + (s2.stack.take i).length ≤ s2.next
                    rw [List.length_append]; exact HCN.out
                  · simp only [List.length_cons] at h4 ⊢
                    show _ + unv n s2.num ≤ n
                    omega
end Go.Proofs.YtkgjfagejnppbaaGreatDoor.K
