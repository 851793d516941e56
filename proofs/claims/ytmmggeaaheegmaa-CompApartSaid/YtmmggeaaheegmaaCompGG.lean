/- CompApart: the walk. -/
import Derived.Test.YtmmggeaaheegmaaCompFF
import Derived.Laws.AppendOwnNone
namespace Go.Proofs.Ytmmggeaaheegmaa.K
open Go.RowKit M T
set_option linter.unusedVariables false
set_option linter.unusedSimpArgs false

/-- the edges' headers, copied -/
def Copied (w : World) (n : Nat) (E : Nat → List Int) (v : Value) (wx : World) : Prop := ∃ ao cap F, v = .slice ao n cap ∧ AP w.heap.size w wx ao cap n F E
theorem rowsAt {B : Nat} {w : World} {eo : Option Addr} {n ec : Nat} {E : Nat → List Int} (h : EdAt B w eo n ec E) : ∃ F : Nat → Value, ∀ i, i < n → RowAt B w (F i) (E i) ∧ ∃ g off, eo = some ⟨g, off, none⟩ ∧ g < B ∧ w.cell? ⟨g, off + i, none⟩ = some (F i) ∧ (F i).oneCell' = true := by
  have h0 : ∀ i, i < n → ∃ v : Value, RowAt B w v (E i) ∧ ∃ g off, eo = some ⟨g, off, none⟩ ∧ g < B ∧ w.cell? ⟨g, off + i, none⟩ = some v ∧ v.oneCell' = true := fun i hi => by
    obtain ⟨g, off, ro, rc, e, hg, hc, h1, h2, hx⟩ := h.row i hi
    exact ⟨.slice ro (E i).length rc, ⟨ro, rc, rfl, h1, h2, .inl hx⟩, g, off, e, hg, hc, rfl⟩
  exact Go.Deep.choose_lt h0
theorem addr_add (g o j : Nat) : (⟨g, o, none⟩ : Addr).add j = ⟨g, o + j, none⟩ := by unfold Addr.add; split <;> simp_all
theorem news_of_rows {w wx : World} {n gE offE : Nat} {F : Nat → Value} (h : ∀ i, i < n → w.cell? ⟨gE, offE + i, none⟩ = some (F i)) (hg : gE < w.heap.size) (hb : Below w.heap.size w wx) : ∀ j u, ((List.range n).map F)[j]? = some u → wx.cell? ((⟨gE, offE, none⟩ : Addr).add j) = some u := by
  intro j u hj
  have hjn : j < n := by have := (List.getElem?_eq_some_iff.1 hj).1; simpa using this
  rw [List.getElem?_map, List.getElem?_range hjn] at hj
  obtain rfl := Option.some.inj hj
  rw [addr_add]
  exact (hb.cell (p := ⟨gE, offE + j, none⟩) hg).trans (h j hjn)
theorem ap_of {w w7 : World} {cg n : Nat} {F : Nat → Value} {E : Nat → List Int} {ao : Option Addr} (hr : ∀ i, i < n → RowAt w.heap.size w (F i) (E i)) (ho : w7.ownsRow w.heap.size 26 1 (.slice ao n cg) n ((List.range n).map F)) {bx : Obj} (hg : (w.alloc bx).grownBy w7 (Value.slice (some ⟨w.heap.size, 0, none⟩) 0 0).ownBlock) : AP w.heap.size w w7 ao cg n F E := by
  have hM : Mods (fun k => k = w.heap.size) w w7 := ((Mods.refl _ w).alloc bx).grown hg (fun k hk _ => (Option.some.inj hk).symm)
  have hb : Below w.heap.size w w7 := hM.below (fun k hk => by rw [show k = w.heap.size from hk]; exact Nat.le_refl _) (Nat.le_refl _)
  exact ⟨hb, hb.size, ho, fun j hj => (hr j hj).keep (Mods.of_below (S := fun _ => False) hb) (Nat.le_refl _) (fun _ h => h.elim)⟩
def tailF (n : Nat) (F : Nat → Value) (j : Nat) : Value := if j < n then F j else .slice none 0 0
theorem zv_append (l m : List Int) : zv (l ++ m) = zv l ++ zv m := by simp [zv]
set_option maxRecDepth 100000 in
set_option maxHeartbeats 4000000 in
theorem apart_all (E : Nat → List Int) (n : Nat) (eo : Option Addr) (ec : Nat) (a : Int) (ha0 : 0 ≤ a) (ha1 : a ≤ 255) (w : World) (hEd : EdAt w.heap.size w eo n ec E) (hsz : ∀ i, i < n → (E i).length ≤ 140737488355328) (hnone : eo = none → n = 0 ∧ ec = 0) :
    Calls Try.prog 5 #[.slice eo n ec, .int .u8 a] w fun e w' => e = .returned (.bool true) ∧ Below w.heap.size w w' := by
  have hgr := great_any E n w.heap.size eo ec w hEd hsz
  cases hg : greatB E n with
  | true =>
    rw [hg] at hgr
    clear hg hEd hsz hnone
    go_enter Try.func5, Try.ntmps5
    go_wp2_with fail
    refine hgr.mono ?_
    rintro e w1 ⟨rfl, rfl⟩
    go_wp2_with fail
    refine (awake_any _).mono ?_
    rintro e w2 ⟨rfl, hb⟩
    have HB := Lib.hid hb
    clear hb
    go_wp2_with fail
    go_ret
    exact ⟨rfl, HB.out⟩
  | false =>
    rw [hg] at hgr
    have hn40 := (great_false hg).1
    have hn : n ≤ 10000 := by omega
    have hsz2 := (great_false hg).2
    obtain ⟨m, hm⟩ : ∃ m : Nat, a % 20 = (m : Int) := ⟨(a % 20).toNat, by omega⟩
    have hm20 : m < 20 := by omega
    have HED := Lib.hid hEd
    have hec := hEd.le.2
    obtain ⟨i0, hii, hz0, hz1, hz2⟩ := info_parts info_int
    obtain ⟨j0, hji, hy0, hy1, hy2⟩ := info_parts info_ints
    have HNO := Lib.hid hnone
    have HSZ := Lib.hid hsz2
    have hii2 := hii
    clear hg hsz hEd hnone hsz2
    go_enter Try.func5, Try.ntmps5
    go_wp2_with fail
    refine hgr.mono ?_
    rintro e w1 ⟨rfl, rfl⟩
    clear hgr
    go_upto_region 4 with fail
    rw [hm]
    clear hm
    go_cut [6] (fun v wx => Copied w n E v wx)
    case first =>
      obtain ⟨F, hF⟩ := rowsAt HED.out
      have HF := Lib.hid hF
      clear hF
      have hown : (w.alloc (.cells #[] 26)).ownsRow w.heap.size 26 1 (.slice (some ⟨w.heap.size, 0, none⟩) 0 0) 0 [] := ⟨rfl, .inr ⟨w.heap.size, 0, #[], rfl, Nat.le_refl _, heap_alloc_new w _, Nat.le_refl _, Nat.zero_le _, rfl, rfl⟩⟩
      have HOWN := Lib.hid hown
      clear hown
      have hb1 : Below w.heap.size w (w.alloc (.cells #[] 26)) := (Below.refl _ _).alloc (Nat.le_refl _) _
      have HB1 := Lib.hid hb1
      clear hb1
      rcases Nat.eq_zero_or_pos n with h0 | h0
      · subst h0
        have HR0 : Hid (∀ wx v cap, wx.ownsRow w.heap.size 26 1 (.slice v 0 cap) 0 [] → Below w.heap.size w wx → AP w.heap.size w wx v cap 0 F E) := Lib.hid fun wx v cap ho hb => ⟨hb, hb.size, by simpa using ho, fun j hj => by omega⟩
        cases eo with
        | none =>
          obtain ⟨_, rfl⟩ := HNO.out rfl
          go_wp2_with (refine wpList_append_own_none _ (by rfl) (.tmp 21) (.tmp 22) 22 (by rfl) w.heap.size 26 j0 1 Try.underlying22 hji (.slice (some ⟨w.heap.size, 0, none⟩) 0 0) 0 [] (by rfl) (by exact HOWN.out) (by rfl) ?_)
          go_meet
          exact ⟨_, _, F, rfl, HR0.out _ _ _ HOWN.out HB1.out⟩
        | some a =>
          go_wp2_with (refine wpList_append_own _ (by rfl) (.tmp 21) (.tmp 22) 22 (by rfl) w.heap.size 26 j0 _ 1 24 Try.underlying22 hji hy0 hy1 hy2 rfl (by decide) (.slice (some ⟨w.heap.size, 0, none⟩) 0 0) 0 [] (by rfl) (by exact HOWN.out) a 0 ec [] (by rfl) (by rfl) (fun j u h => by simp at h) (fun u h => by cases h) (by unfold maxLen; omega) (by omega) (by simp) ?_; intro v' w' hown hgrow hz; have HG7 := Lib.hid (And.intro hown (And.intro hgrow hz)); clear hown hgrow hz)
          go_meet
          obtain ⟨ao, cg, rfl, _, _, _⟩ := own_view HG7.out.1
          exact ⟨_, _, F, rfl, ap_of (fun j hj => by omega) HG7.out.1 HG7.out.2.1⟩
      · obtain ⟨_, gE, offE, rfl, hgE, _⟩ := HF.out 0 h0
        have HNW := Lib.hid (news_of_rows (fun i hi => by obtain ⟨_, _, _, e, _, hc, _⟩ := HF.out i hi; cases e; exact hc) hgE HB1.out)
        have HN1 : Hid (∀ u ∈ (List.range n).map F, u.oneCell' = true) := Lib.hid fun u hu => by
          obtain ⟨i, hi, rfl⟩ := List.mem_map.1 hu
          obtain ⟨_, _, _, _, _, _, h1⟩ := HF.out i (List.mem_range.1 hi)
          exact h1
        go_wp2_with (refine wpList_append_lies _ (by rfl) (.tmp 21) (.tmp 22) 22 (by rfl) w.heap.size 26 j0 _ 1 24 Try.underlying22 hji hy0 hy1 hy2 rfl (by decide) (.slice (some ⟨w.heap.size, 0, none⟩) 0 0) 0 [] (by rfl) (by exact HOWN.out) ⟨gE, offE, none⟩ n ec ((List.range n).map F) (by rfl) (by simp) (HNW.out) (HN1.out) h0 (by unfold maxLen; omega) (by omega) (by simp) (w.heap.size + 1) (by simp) ?_; intro gg cg w7 hown hgrow hat hlt7; have HG7 := Lib.hid (And.intro hown (And.intro hgrow hat)); clear hown hgrow hat)
        go_meet
        have ho := HG7.out.1
        rw [Nat.zero_add, List.nil_append] at ho
        exact ⟨_, _, F, rfl, ap_of (fun j hj => (HF.out j hj).1) ho HG7.out.2.1⟩
    case rest =>
      obtain ⟨ao, cap, F, rfl, hap⟩ := hcut
      have HAP0 : Hid (AP w.heap.size w wc ao cap n F (midE n E 0)) := Lib.hid (hap.congr fun i hi => by unfold midE; simp)
      clear hap
      go_wp2_with fail
      go_loopw [7] (fun iv wr => ∃ (i : Nat) (F : Nat → Value), iv = .int .i64 i ∧ i ≤ n ∧ AP w.heap.size w wr ao cap n F (midE n E i)) (fun iv _ => n - (intOf iv).toNat)
      case atStart => exact ⟨0, F, rfl, Nat.zero_le _, HAP0.out⟩
      case round =>
        clear HAP0
        obtain ⟨i, F, rfl, hi, hap⟩ := hrel
        obtain ⟨wa, rfl⟩ : ∃ wa, wa = wr := ⟨_, rfl⟩
        have HAP := Lib.hid hap
        obtain ⟨hcp1, hcp2⟩ := hap.capLe
        by_cases hin : i < n
        · have hii : (i : Int) < (n : Int) := by omega
          obtain ⟨ge, off, ro, rc, rfl, hge, ce', hel, hem, hex⟩ := HED.out.row i hin
          have hem' : (E i).length ≤ 9223372036854775807 := by unfold maxLen at hem; omega
          have HEX := Lib.hid hex
          have HCE := Lib.hid ce'
          have hwB := hap.hB
          have HB := Lib.hid hap.bel
          clear hap hex ce'
          go_wp2_with fail
          go_loopw [8, 9] (fun ov kv wr => ∃ (k : Nat) (oo : Option Addr) (oc : Nat), ov = .slice oo (low n ((E i).take k)).length oc ∧ kv = .int .i64 k ∧ k ≤ (E i).length ∧ Below wa.heap.size wa wr ∧ wr.ownsRow wa.heap.size 3 1 (.slice oo (low n ((E i).take k)).length oc) (low n ((E i).take k)).length (zv (low n ((E i).take k)))) (fun _ kv _ => (E i).length - (intOf kv).toNat)
          case atStart => exact ⟨0, none, 0, rfl, rfl, Nat.zero_le _, Below.refl _ _, World.ownsRow_nil _ _ _ _⟩
          case round =>
            obtain ⟨k, oo, oc, rfl, rfl, hk, hbw, ho⟩ := hrel
            have HBW := Lib.hid hbw
            have HO := Lib.hid ho
            have hbb := HB.out.trans (hbw.mono hwB)
            have ce := (hbb.cell (p := ⟨ge, off + i, none⟩) hge).trans HCE.out
            have hll := low_len n k (E i)
            have hbz := hbw.size
            by_cases hkl : k < (E i).length
            · have hki : (k : Int) < ((E i).length : Int) := by omega
              obtain ⟨x, hx⟩ : ∃ x, (E i)[k]? = some x := ⟨_, List.getElem?_eq_getElem hkl⟩
              obtain ⟨pb, po, rfl, hpB, cx'⟩ := HEX.out k x hx
              have cx := (hbb.cell (p := ⟨pb, po + k, none⟩) hpB).trans cx'
              by_cases hxn : x < (n : Int)
              · have HY := Lib.hid (low_yes hx hxn)
                have hkb : k ≤ 400 := by have := HSZ.out i hin; omega
                clear hbw ho hbb cx' hx
                generalize low n ((E i).take k) = l at *
                go_wp2_with (refine wpList_append_lies _ (by rfl) (.tmp 49) (.tmp 57) 26 (by rfl) wa.heap.size 3 i0 _ 1 8 Try.underlying26 hii2 hz0 hz1 hz2 rfl (by decide) (.slice oo l.length oc) l.length (zv l) (by rfl) (by exact HO.out.alloc _) ⟨wr.heap.size, 0, none⟩ 1 1 [.int .i64 x] (by rfl) (by rfl) (World.news_of_block (cs := #[.int .i64 x]) (t := 3) (fr := (0, 0)) (heap_alloc_new wr _)) (by simp [Value.oneCell']) (by omega) (by unfold maxLen; omega) (by omega) (by simp; omega) (wr.heap.size + 1) (by simp) ?_; intro gg cg w7 hown hgrow hat hlt7; have HG7 := Lib.hid (And.intro hown (And.intro hgrow hat)); clear hown hgrow hat)
                go_roundw
                case rel =>
                  have hM : Mods (fun k => ∃ a, oo = some a ∧ k = a.block) wr w7 := ((Mods.refl _ wr).alloc _).grown HG7.out.2.1 (fun k hk _ => by
                    cases oo with
                    | none => cases hk
                    | some a => exact ⟨a, rfl, (Option.some.inj hk).symm⟩)
                  refine ⟨k + 1, some ⟨gg, 0, none⟩, cg, by rw [HY.out, List.length_append]; rfl, by go_num, by omega, HBW.out.trans (hM.below (fun k ⟨a, ha, e⟩ => by obtain ⟨_, _, hb⟩ := own_heap HO.out a ha; omega) hbz), ?_⟩
                  rw [HY.out, List.length_append, zv_append]
                  exact HG7.out.1
                case measure => simp [intOf]; omega
              · have HY := Lib.hid (low_no hx hxn)
                clear hbw ho hbb cx' hx
                generalize low n ((E i).take k) = l at *
                go_wp2_with fail
                go_roundw
                case rel => exact ⟨k + 1, oo, oc, by rw [HY.out], by go_num, by omega, HBW.out, by rw [HY.out]; exact HO.out⟩
                case measure => simp [intOf]; omega
            · obtain rfl : k = (E i).length := by omega
              have hki : ¬ ((E i).length : Int) < ((E i).length : Int) := by omega
              rw [List.take_of_length_le (Nat.le_refl _)] at HO hll ⊢
              have hap2 := HAP.out.below hbw
              obtain ⟨g, rfl, _, hgl, cg0, fg0⟩ := hap2.cell hin
              have HAP2 := Lib.hid hap2
              have hrow : RowAt w.heap.size wr (.slice oo (low n (E i)).length oc) (low n (E i)) := by
                obtain ⟨_, _, e, h1, h2, _⟩ := own_view HO.out
                cases e
                exact ⟨_, _, rfl, h1, h2, .inr (own_base HO.out fun k hk => by
                  cases oo with
                  | none => cases hk
                  | some a =>
                    obtain ⟨_, _, hb⟩ := own_heap HO.out a rfl
                    obtain rfl := Option.some.inj hk
                    omega)⟩
              have HROW := Lib.hid hrow
              clear hbw ho hbb hap2 hrow
              go_wp2_with fail
              go_roundw
              case rel => exact ⟨i + 1, upd F i (.slice oo (low n (E i)).length oc), by go_num, by omega, by rw [← mid_step]; exact HAP2.out.set i hin _ _ HROW.out⟩
              case measure => simp [intOf]; omega
        · obtain rfl : i = n := by omega
          have hii : ¬ (i : Int) < (i : Int) := by omega
          have HA3 : Hid (AP w.heap.size w wa ao cap (i + 0) (tailF i F) (E2 i E)) := Lib.hid ((hap.congr fun j hj => by unfold midE E2; rw [if_pos hj, if_pos hj]).congrF fun j hj => by unfold tailF; rw [if_pos hj])
          have htf : ∀ t, tailF i F (i + t) = .slice none 0 0 := fun t => by unfold tailF; rw [if_neg (by omega)]
          have het : ∀ t, E2 i E (i + t) = [] := fun t => by unfold E2; rw [if_neg (by omega)]
          have HTF := Lib.hid (And.intro htf het)
          clear hap HAP htf het
          go_wp2_with fail
          go_loopw [6, 10] (fun bv tv wr => ∃ (t : Nat) (ao : Option Addr) (cap : Nat), bv = .slice ao ((i + t : Nat)) cap ∧ tv = .int .i64 t ∧ t ≤ m ∧ AP w.heap.size w wr ao cap (i + t) (tailF i F) (E2 i E)) (fun _ tv _ => m - (intOf tv).toNat)
          case atStart => exact ⟨0, ao, cap, rfl, rfl, Nat.zero_le _, HA3.out⟩
          case round =>
            clear HA3 hcp1 hcp2
            obtain ⟨t, ao, cap, rfl, rfl, ht, hap⟩ := hrel
            have HAP := Lib.hid hap
            obtain ⟨hcp1, hcp2⟩ := hap.capLe
            have hwB := hap.hB
            obtain ⟨N, hN⟩ : ∃ N, N = i + t := ⟨_, rfl⟩
            by_cases htm : t < m
            · have hti : (t : Int) < (m : Int) := by omega
              have HN2 := Lib.hid (And.intro (HTF.out.1 t) (HTF.out.2 t))
              rw [← hN] at HAP hcp1 HN2 ⊢
              have HNN := Lib.hid hN
              have hNb : N ≤ 60 := by omega
              clear hap hN
              go_wp2_with (refine wpList_append_lies _ (by rfl) (.tmp 68) (.tmp 69) 22 (by rfl) w.heap.size 26 j0 _ 1 24 Try.underlying22 hji hy0 hy1 hy2 rfl (by decide) (.slice ao N cap) N ((List.range N).map (tailF i F)) (by rfl) (by exact HAP.out.top.alloc _) ⟨wr.heap.size, 0, none⟩ 1 1 [.slice none 0 0] (by rfl) (by rfl) (World.news_of_block (cs := #[.slice none 0 0]) (t := 26) (fr := (0, 0)) (heap_alloc_new wr _)) (by simp [Value.oneCell']) (by omega) (by unfold maxLen; omega) (by omega) (by simp; omega) (wr.heap.size + 1) (by simp) ?_; intro gg cg w7 hown hgrow hat hlt7; have HG7 := Lib.hid (And.intro hown (And.intro hgrow hat)); clear hown hgrow hat)
              go_roundw
              case rel =>
                refine ⟨t + 1, some ⟨gg, 0, none⟩, cg, by rw [HNN.out]; rfl, by go_num, by omega, ?_⟩
                have := HAP.out.more HN2.out.1 HN2.out.2 HG7.out.1 HG7.out.2.1
                rw [HNN.out] at this
                exact this
              case measure => simp [intOf]; omega
            · obtain rfl : t = m := by omega
              have hti : ¬ (t : Int) < (t : Int) := by omega
              have HED2 := Lib.hid hap.ed
              have HB2 := Lib.hid hap.bel
              obtain ⟨w3, rfl⟩ : ∃ w3, w3 = wr := ⟨_, rfl⟩
              have HNN := Lib.hid hN
              have hNb : N ≤ 10000 := by omega
              rw [← hN] at HED2 ⊢
              clear hap HAP hN hcp1
              go_wp2_with fail
              refine (comps_any E i eo ec _ (HED.out.on HB2.out) hn).mono ?_
              rintro e w4 ⟨oo, oc, R, L, q, rfl, hin, hout, hb4⟩
              have HIN := Lib.hid hin
              have HB4 := Lib.hid (HB2.out.trans (hb4.mono HB2.out.size))
              have HED4 := Lib.hid (HED2.out.on hb4)
              have hLn := hin.co.count
              clear hin hout hb4 HB2 HED2
              go_wp2_with fail
              refine (comps_any (E2 i E) N ao cap _ HED4.out hNb).mono ?_
              rintro e w5 ⟨o5, c5, R5, L5, q5, rfl, hin5, hout5, hb5⟩
              rw [HNN.out] at hin5
              obtain rfl := hin5.one (apart_order HIN.out)
              have HB5 := Lib.hid (HB4.out.trans (hb5.mono HB4.out.size))
              have HOUT := Lib.hid hout5
              obtain ⟨_, _, e8, hcap1, hcap2, _⟩ := own_view hout5.top
              cases e8
              rw [L2_len] at hcap1 ⊢
              have hsum : ((L.length + t : Nat) : Int) = (L.length : Int) + (t : Int) := by omega
              obtain ⟨T, hT⟩ : ∃ T, T = L.length + t := ⟨_, rfl⟩
              rw [← hT] at hcap1 hsum ⊢
              have hTL : (L.length : Int) + (t : Int) = (T : Int) := hsum.symm
              have eTT : ((T : Int) != (T : Int)) = false := by simp
              have hTb : T ≤ 10060 := by omega
              have HT := Lib.hid hT
              clear hin5 hout5 hb5 hsum hT HB4 HED4
              go_wp2_with fail
              go_loopw [13, 14] (fun sv iv wr => ∃ j : Nat, sv = .int .i64 ((j - L.length : Nat)) ∧ iv = .int .i64 j ∧ j ≤ T ∧ w5 = wr) (fun _ iv _ => T - (intOf iv).toNat)
              case atStart => exact ⟨0, by simp, rfl, Nat.zero_le _, rfl⟩
              case round =>
                obtain ⟨j, rfl, rfl, hj, rfl⟩ := hrel
                by_cases hjT : j < T
                · have hji : (j : Int) < (T : Int) := by omega
                  by_cases hjL : j < L.length
                  · obtain ⟨c, hc⟩ : ∃ c, L[j]? = some c := ⟨_, List.getElem?_eq_getElem hjL⟩
                    obtain ⟨g6, a6, ca6, rfl, x6, r6⟩ := HOUT.out.hdr (L2_left hc)
                    have hr6 := r6.le
                    rw [ns_len] at hr6
                    have hj0 : j - L.length = 0 := by omega
                    have HJ1 : Hid (j + 1 - L.length = 0) := Lib.hid (by omega)
                    rw [hj0]
                    clear hj0
                    by_cases hc1 : c.length = 1
                    · obtain ⟨y, rfl⟩ : ∃ y, c = [y] := by
                        cases c with
                        | nil => simp at hc1
                        | cons y l => cases l with
                          | nil => exact ⟨y, rfl⟩
                          | cons z l => simp at hc1
                      obtain ⟨p7, po7, rfl, x7⟩ := r6.row 0 (y : Int) rfl
                      rw [Nat.add_zero] at x7
                      have hy := (HIN.out.co.d2 j [y] y hc List.mem_cons_self).1
                      have hyi : ¬ (i : Int) ≤ (y : Int) := by omega
                      have x6 : w5.cell? ⟨g6, j, none⟩ = some (.slice (some ⟨p7, po7, none⟩) 1 ca6) := x6
                      clear r6 hc hc1
                      go_wp2_with fail
                      go_roundw
                      case rel => exact ⟨j + 1, by rw [HJ1.out], by go_num, by omega, by trivial⟩
                      case measure => simp [intOf]; omega
                    · have ec1 : ((c.length : Int) == 1) = false := by rw [beq_eq_false_iff_ne]; omega
                      clear r6 hc hc1
                      go_wp2_with fail
                      go_roundw
                      case rel => exact ⟨j + 1, by rw [HJ1.out], by go_num, by omega, by trivial⟩
                      case measure => simp [intOf]; omega
                  · obtain ⟨d, rfl⟩ : ∃ d, j = L.length + d := ⟨j - L.length, by omega⟩
                    have hdt : d < t := by have := HT.out; omega
                    obtain ⟨g6, a6, ca6, rfl, x6, r6⟩ := HOUT.out.hdr (L2_right hdt)
                    have hr6 := r6.le
                    rw [ns_len] at hr6
                    obtain ⟨p7, po7, rfl, x7⟩ := r6.row 0 ((i + d : Nat) : Int) rfl
                    rw [Nat.add_zero] at x7
                    have x6 : w5.cell? ⟨g6, L.length + d, none⟩ = some (.slice (some ⟨p7, po7, none⟩) 1 ca6) := x6
                    have hd0 : L.length + d - L.length = d := by omega
                    have HJ1 : Hid (L.length + d + 1 - L.length = d + 1) := Lib.hid (by omega)
                    rw [hd0]
                    obtain ⟨J, hJ⟩ : ∃ J, J = L.length + d := ⟨_, rfl⟩
                    rw [← hJ] at x6 hji hjT hj HJ1 ⊢
                    obtain ⟨y, hy⟩ : ∃ y, y = i + d := ⟨_, rfl⟩
                    rw [← hy] at x7
                    have hyi : (i : Int) ≤ (y : Int) := by omega
                    clear r6 hd0 hJ hy
                    go_wp2_with fail
                    go_roundw
                    case rel => exact ⟨J + 1, by rw [HJ1.out]; go_num, by go_num, by omega, by trivial⟩
                    case measure => simp [intOf]; omega
                · obtain rfl : j = T := by omega
                  have hji : ¬ (j : Int) < (j : Int) := by omega
                  have hjs : j - L.length = t := by have := HT.out; omega
                  rw [hjs]
                  have ett : ((t : Int) == (t : Int)) = true := by simp
                  clear hjs
                  go_wp2_with fail
                  refine (awake_any _).mono ?_
                  rintro e w6 ⟨rfl, hb6⟩
                  have HB6 := Lib.hid (HB5.out.trans (hb6.mono HB5.out.size))
                  clear hb6
                  go_wp2_with fail
                  go_ret
                  exact ⟨rfl, HB6.out⟩
theorem edges_nil {H : Type} {enc : TypeId × Value → H} {w : World} {eo : Option Addr} {n ec : Nat} {d : DataW H} {p : List MemPlace} (h : DataW.Trod enc Try.prog w 0 (fun _ => true) true 22 (.slice eo n ec) d p)
    (hlt : ∀ y ∈ p, y.block < w.heap.size) : eo = none → n = 0 ∧ ec = 0 := by
  obtain ⟨fuel, hf⟩ := h
  obtain ⟨ao, b, off, len, cap, n', C, D, hcs, hl, hm, hn, _⟩ := C.slice_view2 Try.underlying22 (k := 1) (by kernel_rfl) (by decide) hf hlt
  have e : (Value.slice eo n ec) = .slice ao len cap := by simpa [Value.cells] using hcs
  cases e
  intro e
  have := hn e
  exact ⟨by omega, this⟩
end Go.Proofs.Ytmmggeaaheegmaa.K
