/- Several texts in one. -/
import Derived.Test.YtkgjfagejnppbaaGreatDoorMrg27
import Derived.Lib.AppendIntMem
import Derived.Test.YtkgjfagejnppbaaGreatDoorMrg25
import Derived.Shelf.Unicode.PredsPay
import Derived.Deep.DeepCutAuto
import Derived.Test.YtkgjfagejnppbaaGreatDoorMrg12
import Derived.Laws.EntriesVeiled
import Derived.Deep.WholeRow

/- The program's settings: find. -/
namespace Go.Proofs.YtkgjfagejnppbaaGreatDoor.P
open Go.RowKit Go.Proofs.YtkgjfagejnppbaaGreatDoor.R Go.Proofs.YtkgjfagejnppbaaGreatDoor.M Go.BigFrame Go.Maps
set_option linter.unusedVariables false
set_option linter.unusedSimpArgs false

/-- the tables, that of Itoa among them -/
structure TabsI (w : World) : Prop where
  t : Tabs w
  p : Lib.TabIs Tryz.prog w "internal/strconv.uint64pow10" .u64 Lib.pow10Tab
theorem TabsI.next {w w' : World} (h : TabsI w) (hb : Below w.heap.size w w') : TabsI w' :=
  ⟨h.t.next hb, TabIs_below (g := 2) (by kernel_rfl) h.p hb⟩
theorem itoa_t (r : Int) (w : World) (h : TabsI w) (h0 : 0 ≤ r) (h1 : r ≤ 1000000) (d : ByteArray) (hd : digs r = d) :
    Calls Tryz.prog 42 #[.int .i64 r] w fun e w' => e = .returned (.string d) ∧ Below w.heap.size w w' := by
  subst hd
  refine (Tryz.strconv_Itoa r (by omega) (by omega) w h.p).mono fun e w' hh => ?_
  obtain ⟨rfl, k, os, rfl⟩ := hh
  exact ⟨rfl, Go.Lib.below_grow _ w (Nat.le_refl _) k os⟩
theorem info_str : (Tryz.prog.info? tStr).map (fun i => (i.zero, i.size, i.bytes)) = some (some (.string ⟨#[]⟩), 1, 16) := by kernel_rfl
/-- lines that come out, while they do -/
structure LS (W w : World) (oo : Option Addr) (oc : Nat) (L : List ByteArray) : Prop where
  bel : Below W.heap.size W w
  own : w.ownsRow W.heap.size tStr 1 (.slice oo L.length oc) L.length (L.map Value.string)
theorem LS.below {W w w2 : World} {oo : Option Addr} {oc : Nat} {L : List ByteArray} (h : LS W w oo oc L) (hb : Below w.heap.size w w2) : LS W w2 oo oc L :=
  ⟨h.bel.trans (hb.mono h.bel.size), own_kept h.own (S := fun _ => False) (Mods.of_below hb) (fun _ _ h => h)⟩
theorem LS.more {W w w2 : World} {oo : Option Addr} {oc gg cg : Nat} {L : List ByteArray} {y : ByteArray} {bx : Obj} (h : LS W w oo oc L)
    (ho : w2.ownsRow W.heap.size tStr 1 (.slice (some ⟨gg, 0, none⟩) (L.length + 1) cg) (L.length + 1) (L.map Value.string ++ [.string y]))
    (hg : (w.alloc bx).grownBy w2 (Value.slice oo L.length oc).ownBlock) : LS W w2 (some ⟨gg, 0, none⟩) cg (L ++ [y]) := by
  have hM : Mods (fun k => ∃ a, oo = some a ∧ k = a.block) w w2 := ((Mods.refl _ w).alloc bx).grown hg (fun k hk _ => by
    cases oo with
    | none => cases hk
    | some a => exact ⟨a, rfl, (Option.some.inj hk).symm⟩)
  refine ⟨h.bel.trans (hM.below (fun k ⟨a, ha, e⟩ => ?_) h.bel.size), by rw [List.length_append, List.map_append]; exact ho⟩
  obtain ⟨_, _, hb⟩ := own_heap h.own a ha
  omega
theorem join_eq (L : List ByteArray) : (⟨(Lib.join (L.map (·.data.toList)) sp.data.toList).toArray⟩ : ByteArray) = joinB L := by
  apply ba_ext
  show (Lib.join (L.map (·.data.toList)) [32]) = _
  unfold Lib.join
  induction L with
  | nil => rfl
  | cons a t ih =>
    cases t with
    | nil => simp [joinB]
    | cons b t =>
      show _ = (a ++ ⟨#[32]⟩ ++ joinB (b :: t)).data.toList
      rw [ByteArray.data_append, ByteArray.data_append, Array.toList_append, Array.toList_append, ← ih]
      simp [List.intercalate, List.intersperse]
theorem join_any {W w : World} {oo : Option Addr} {oc : Nat} {L : List ByteArray} (h : LS W w oo oc L) (hs : (joinB L).size ≤ 2000000000) (n : Nat) (hn : L.length = n) (hl : n ≤ 1000000) (v : ByteArray) (hv : joinB L = v) :
    Calls Tryz.prog 43 #[.slice oo n oc, .string ⟨#[32]⟩] w fun e w' => e = .returned (.string v) ∧ Below w.heap.size w w' := by
  subst hn hv
  obtain ⟨ao, cap, e0, h1, h2, h3, h4⟩ := M.own_view h.own
  cases e0
  cases oo with
  | none =>
    obtain ⟨e1, e2⟩ := h3 rfl
    have : L = [] := List.eq_nil_of_length_eq_zero e1
    subst this
    refine (Tryz.strings_Join_none none oc ⟨#[32]⟩ w).mono fun e w' hh => ?_
    obtain ⟨rfl, rfl⟩ := hh
    exact ⟨rfl, Below.refl _ _⟩
  | some a =>
    obtain ⟨g, cur, rfl, hB, hg, hsz, htk⟩ := h4 a rfl
    have hj := join_eq L
    refine (Tryz.strings_Join g 0 oc L sp w (fun j x hj => ?_) (M.heap_lt hg) (by omega) h1 ?_).mono fun e w' hh => ?_
    · have hjl := (List.getElem?_eq_some_iff.1 hj).1
      rw [cell_of_row w g (0 + j) _ _ _ hg, Nat.zero_add, ← Array.getElem?_toList]
      have hv : (L.map Value.string)[j]? = some (.string x) := by rw [List.getElem?_map, hj]; rfl
      rw [← htk, List.getElem?_take_of_lt (by omega)] at hv
      exact hv
    · have : (⟨(Lib.join (L.map (·.data.toList)) sp.data.toList).toArray⟩ : ByteArray).size ≤ 2000000000 := by rw [hj]; exact hs
      rw [mk_size] at this
      omega
    · rw [hj] at hh
      exact hh
theorem strV_key (k : ByteArray) : strV k.data.toList = .string k := by
  unfold strV
  congr 1
set_option maxRecDepth 100000 in
set_option maxHeartbeats 4000000 in
theorem find_any (p b n N : Nat) (A : List Ent) (c : Cmd) (w : World) (h : AppAt w p b n A) (hn : n ≤ 1000000) (hG : Good N A) (hN : N ≤ 100000) (hT : TabsI w) (hk : c.key.size ≤ 1000000) (R : Rep) (hR : findR A c.key = R) :
    Calls Tryz.prog 29 #[.pointer (some ⟨p, 0, none⟩), cmdV c] w fun e w' => e = .returned (repV R) ∧ Below w.heap.size w w' := by
  have HR := Lib.hid (hR.symm.trans (findR_lines A c.key))
  have HH := Lib.hid h
  have HT := Lib.hid hT
  have HG := Lib.hid hG
  clear h hT hG hR
  obtain ⟨i0, hii, hz0, hz1, hz2⟩ := info_parts info_str
  go_enter Tryz.func29, Tryz.ntmps29
  go_upto_region 1 with fail
  obtain ⟨W, hW⟩ : ∃ W, W = (w.alloc (.cells (cmdA c) 30)).alloc (.cells #[.int .i64 0, .string ⟨#[]⟩, .int .i64 0] 33) := ⟨_, rfl⟩
  rw [← hW]
  have HD : Hid (DoAt c w W) := Lib.hid (by rw [hW]; exact doAt_start c w)
  clear hW
  have HA := Lib.hid (HH.out.below HD.out.bel)
  have hzp := HA.out.plt
  have hzc : w.heap.size < W.heap.size := M.heap_lt HD.out.cb
  obtain ⟨⟨c0, c1, c2, c3, c4, c5⟩, _⟩ := box6 HD.out.cb
  clear c0 c1 c2 c3 c4 c5 hzp hzc
  go_wp2_with fail
  refine (keys_any p b n A W HA.out HG.out.srt hn).mono ?_
  rintro e w1 ⟨ao, cap, rfl, hst, hb1⟩
  have HST := Lib.hid hst
  have HA1 := Lib.hid (HA.out.below hb1)
  have HD1 := Lib.hid (HD.out.next hb1)
  have HT1 := Lib.hid (HT.out.next HD1.out.bel)
  have hsW := HD.out.bel.size
  obtain ⟨hcl1, hcl2⟩ := hst.le
  unfold maxLen at hcl2
  rw [show (keysL A).length = A.length by unfold keysL; rw [List.length_map]] at hcl1
  have HL0 : Hid (LS w1 w1 none 0 (linesB (A.take 0) c.key)) := Lib.hid ⟨Below.refl _ _, World.ownsRow_nil _ _ _ _⟩
  clear hst hb1 HA
  go_wp2_with fail
  go_loopw [5, 12] (fun lv iv wr => ∃ (i : Nat) (oo : Option Addr) (oc : Nat), lv = .slice oo (linesB (A.take i) c.key).length oc ∧ iv = .int .i64 i ∧ i ≤ A.length ∧ LS w1 wr oo oc (linesB (A.take i) c.key)) (fun _ iv _ => A.length - (intOf iv).toNat)
  case atStart => exact ⟨0, none, 0, rfl, rfl, Nat.zero_le _, HL0.out⟩
  case round =>
    clear HL0
    obtain ⟨i, oo, oc, rfl, rfl, hi, hls⟩ := hrel
    have hw1 := hls.bel.size
    have HLS := Lib.hid hls
    have HAr := Lib.hid (HA1.out.below hls.bel)
    have HDr := Lib.hid (HD1.out.next hls.bel)
    have HTr := Lib.hid (HT1.out.next hls.bel)
    have HSr := Lib.hid (HST.out.below hls.bel)
    have hrb := M.heap_lt HDr.out.rb
    clear hls
    by_cases hlt : i < A.length
    · have hii2 : (i : Int) < (A.length : Int) := by omega
      obtain ⟨x, hx⟩ : ∃ x, A[i]? = some x := ⟨_, List.getElem?_eq_getElem hlt⟩
      have hxm := List.mem_of_getElem? hx
      have hxe := HG.out.ent x hxm
      have hks := key_size hxe.2.2.1
      obtain ⟨g, rfl, hgB, hgl, hgc⟩ := HSr.out.row i x.key.data.toList (by unfold keysL; rw [List.getElem?_map, hx]; rfl)
      rw [strV_key] at hgc
      have hlk : (Instr.lookup 66 (.map (some b)) (.string x.key) false).run Tryz.prog wr = .ok (.agg #[.string x.val, .int .i64 x.rev]) wr := by
        have := HAr.out.map.look (k := x.key) (Tryz.zeroValue96 _) rfl (by unfold maxLen; omega)
        rw [look_of HG.out.srt hxm] at this
        exact this
      have hpc := HAr.out.pc
      have HX := Lib.hid hx
      have HXE := Lib.hid hxe
      obtain ⟨⟨c0, c1, c2, c3, c4, c5⟩, _⟩ := box6 HDr.out.cb
      clear hx hxe
      go_upto_region 6 with fail
      obtain ⟨w2, hw2⟩ : ∃ w2, w2 = wr.alloc (.cells #[.string x.val, .int .i64 x.rev] 96) := ⟨_, rfl⟩
      rw [← hw2]
      have hb2 : Below wr.heap.size wr w2 := by rw [hw2]; exact (Below.refl _ _).alloc (Nat.le_refl _) _
      have hx2 : w2.heap[wr.heap.size]? = some (.cells #[.string x.val, .int .i64 x.rev] 96 (0, 0)) := by rw [hw2]; exact heap_alloc_new wr _
      have HLS2 := Lib.hid (HLS.out.below hb2)
      have HT2 := Lib.hid (HTr.out.next hb2)
      have hk3 := (hb2.cell (p := ⟨w.heap.size, 3, none⟩) (by simp only; omega)).trans c3
      clear hw2 hb2 c0 c1 c2 c3 c4 c5 hlk hpc hgc
      cases hbg : begs x.key c.key with
      | false =>
        have HL2 := Lib.hid (findAt_skip (c := c) HX.out hbg)
        have HBG := Lib.hid (fun W => begins_t x.key c.key W false hbg)
        clear hbg
        obtain ⟨L0, hL0⟩ : ∃ L0, L0 = linesB (A.take i) c.key := ⟨_, rfl⟩
        rw [← hL0] at HL2 HLS2 ⊢
        clear hL0
        go_wp2_with fail
        refine (HBG.out _).mono ?_
        rintro e w3 ⟨rfl, rfl⟩
        go_wp2_with fail
        go_roundw
        case rel => exact ⟨i + 1, oo, oc, by rw [HL2.out], by go_num, by omega, by rw [HL2.out]; exact HLS2.out⟩
        case measure => simp [intOf]; omega
      | true =>
        have HL2 := Lib.hid (findAt_more (c := c) HX.out hbg)
        have HBG := Lib.hid (fun W => begins_t x.key c.key W true hbg)
        have hxe := HXE.out
        have hq1 := quote_size hks
        have hq2 := quote_size hxe.2.2.2
        have hdd := digs_size x.rev (by omega) (by omega)
        have HLN : Hid (lineB x = ⟨(quoteL x.key).toArray⟩ ++ ⟨#[61]⟩ ++ digs x.rev ++ ⟨#[58]⟩ ++ ⟨(quoteL x.val).toArray⟩) := Lib.hid rfl
        have QK := Lib.hid (fun y : Kin w2 => quote_t x.key y.w (by omega) (HT2.out.next y.h).t _ rfl)
        have QV := Lib.hid (fun y : Kin w2 => quote_t x.val y.w (by have := hxe.2.2.2; omega) (HT2.out.next y.h).t _ rfl)
        have QD := Lib.hid (fun y : Kin w2 => itoa_t x.rev y.w (HT2.out.next y.h) (by omega) (by omega) _ rfl)
        have HQK := Lib.hid (fun y : Kin w2 => (QK.out y).mono fun e w' h => (⟨h.1, h.2.1⟩ : e = .returned (.string ⟨(quoteL x.key).toArray⟩) ∧ Below y.w.heap.size y.w w'))
        have HQV := Lib.hid (fun y : Kin w2 => (QV.out y).mono fun e w' h => (⟨h.1, h.2.1⟩ : e = .returned (.string ⟨(quoteL x.val).toArray⟩) ∧ Below y.w.heap.size y.w w'))
        obtain ⟨Q1, hQ1⟩ : ∃ Q1, Q1 = (⟨(quoteL x.key).toArray⟩ : ByteArray) := ⟨_, rfl⟩
        obtain ⟨Q2, hQ2⟩ : ∃ Q2, Q2 = (⟨(quoteL x.val).toArray⟩ : ByteArray) := ⟨_, rfl⟩
        obtain ⟨DD, hDD⟩ : ∃ DD, DD = digs x.rev := ⟨_, rfl⟩
        rw [← hQ1] at hq1 HLN HQK
        rw [← hQ2] at hq2 HLN HQV
        rw [← hDD] at hdd HLN QD
        have hll : (linesB (A.take i) c.key).length ≤ 100000 := by have h1 := lines_len (A.take i) c.key; have h2 := List.length_take_le i A; have h3 := HG.out.len; omega
        obtain ⟨L0, hL0⟩ : ∃ L0, L0 = linesB (A.take i) c.key := ⟨_, rfl⟩
        rw [← hL0] at HL2 HLS2 hll ⊢
        clear hL0 hbg hxe hQ1 hQ2 hDD QK QV HLS
        go_wp2_with fail
        refine (HBG.out _).mono ?_
        rintro e w3 ⟨rfl, rfl⟩
        go_upto_region 7 with fail
        obtain ⟨⟨s0, s1⟩, fs, _⟩ := box2 hx2
        have k0 := Kin.cell s0
        have k1 := Kin.cell s1
        clear hk3 hx2 s0 s1 fs
        refine wp_region_kin_tail1 13 (.slice oo L0.length oc) (by kernel_rfl) (by kernel_rfl) (fun _ _ _ h => h) (.inl ⟨by rfl, fun _ => by rfl⟩) ?_
        simp only [Nat.reduceSub, List.take_succ_cons, List.take_zero, List.drop_succ_cons, List.drop_zero, Act.put, List.setIfInBounds_toArray, List.set_cons_succ, List.set_cons_zero]
        repeat (go_big_quiet_step ((first | (go_at_call 41; with_reducible exact Kin.call _ (HQK.out _)) | (go_at_call 41; with_reducible exact Kin.call _ (HQV.out _)) | (go_at_call 42; with_reducible exact Kin.call _ (QD.out _)))))
        refine wpQuiet_nil ?_
        intro _ hx
        obtain ⟨xk, rfl⟩ := hx
        have HLS3 := Lib.hid (HLS2.out.below xk.h)
        obtain ⟨w4, hw4⟩ : ∃ w4, w4 = xk.w := ⟨_, rfl⟩
        rw [← hw4] at HLS3 ⊢
        clear hw4 k0 k1
        have hw41 := HLS3.out.bel.size
        go_wp2_with (refine wpList_append_lies _ (by rfl) (.tmp 26) (.tmp 39) 98 (by rfl) w1.heap.size tStr i0 _ 1 16 Tryz.underlying98 hii hz0 hz1 hz2 rfl (by decide) (.slice oo (L0).length oc) (L0).length (L0.map Value.string) (by rfl) (by exact HLS3.out.own.alloc _) ⟨w4.heap.size, 0, none⟩ 1 1 [.string (Q1 ++ ⟨#[61]⟩ ++ DD ++ ⟨#[58]⟩ ++ Q2)] (by rfl) (by rfl) (World.news_of_block (cs := #[.string (Q1 ++ ⟨#[61]⟩ ++ DD ++ ⟨#[58]⟩ ++ Q2)]) (t := tStr) (fr := (0, 0)) (heap_alloc_new w4 _)) (by simp [Value.oneCell']) (by omega) (by unfold maxLen; omega) (by omega) (by simp; omega) (w4.heap.size + 1) (by simp) ?_; intro gg cg w7 hown hgrow hat hlt7; have HG7 := Lib.hid (HLS3.out.more (y := Q1 ++ ⟨#[61]⟩ ++ DD ++ ⟨#[58]⟩ ++ Q2) hown hgrow); clear hown hgrow hat)
        go_roundw
        case rel => exact ⟨i + 1, some ⟨gg, 0, none⟩, cg, by rw [HL2.out, List.length_append]; rfl, by go_num, by omega, by rw [HL2.out, HLN.out]; exact HG7.out⟩
        case measure => simp [intOf]; omega
    · obtain rfl : i = A.length := by omega
      have hii2 : ¬ (A.length : Int) < (A.length : Int) := by omega
      have hjs := lines_take (i := A.length) HG.out hN c.key
      have hll := lines_len A c.key
      have hGl := HG.out.len
      rw [List.take_of_length_le (Nat.le_refl _)] at hjs HLS ⊢
      obtain ⟨m, hm⟩ : ∃ m, m = (linesB A c.key).length := ⟨_, rfl⟩
      obtain ⟨J, hJ⟩ : ∃ J, J = joinB (linesB A c.key) := ⟨_, rfl⟩
      have HJC := Lib.hid (join_any HLS.out hjs m hm.symm (by omega) J hJ.symm)
      have HRR : Hid (R = ⟨0, J, (m : Nat)⟩) := Lib.hid (by rw [HR.out, hJ, hm])
      rw [← hm] at hll ⊢
      clear hm hJ hjs
      go_wp2_with fail
      refine HJC.out.mono ?_
      rintro e w5 ⟨rfl, hb5⟩
      have HD5 := Lib.hid (HDr.out.next hb5)
      clear hb5
      obtain ⟨⟨d0, d1, d2⟩, fd, sd⟩ := box3 HD5.out.rb
      go_wp2_with fail
      refine ret_box (w.heap.size + 1) #[.int .i64 0, .string J, .int .i64 (m : Int)] 33 (.agg #[.int .i64 0, .string J, .int .i64 (m : Int)]) ?_ (fun W' h => ?_) rfl ?_
      · exact set3 HD5.out.rb
      · obtain ⟨⟨r0, r1, r2⟩, _, _⟩ := box3 h
        simp [results, Tryz.results29, go_sem, r0, r1, r2]
      · exact ⟨by rw [HRR.out], set3_below (by omega) HD5.out.bel⟩
end Go.Proofs.YtkgjfagejnppbaaGreatDoor.P

/- The program's settings: Do. -/
namespace Go.Proofs.YtkgjfagejnppbaaGreatDoor.P
open Go.RowKit Go.Proofs.YtkgjfagejnppbaaGreatDoor.R Go.Proofs.YtkgjfagejnppbaaGreatDoor.M Go.BigFrame Go.Maps
set_option linter.unusedVariables false
set_option linter.unusedSimpArgs false

theorem check_v (c : Cmd) (w : World) (hT : Tabs w) (hs : c.key.size ≤ 1000000) (v : Int) (hv : chk c = v) :
    Calls Tryz.prog 13 #[cmdV c] w fun e w' => e = .returned (.int .i64 v) ∧ Below w.heap.size w w' := by subst hv; exact check_any c w hT hs
theorem box7 {w : World} {b : Nat} {v0 v1 v2 v3 v4 v5 v6 : Value} {T : TypeId} (h : w.heap[b]? = some (.cells #[v0, v1, v2, v3, v4, v5, v6] T (0, 0))) :
    w.cell? ⟨b, 0, none⟩ = some v0 ∧ w.cell? ⟨b, 1, none⟩ = some v1 ∧ w.cell? ⟨b, 2, none⟩ = some v2 ∧ w.cell? ⟨b, 3, none⟩ = some v3 ∧ w.cell? ⟨b, 4, none⟩ = some v4 ∧ w.cell? ⟨b, 5, none⟩ = some v5 ∧ w.cell? ⟨b, 6, none⟩ = some v6 :=
  ⟨cell_of_row w b 0 _ _ _ h, cell_of_row w b 1 _ _ _ h, cell_of_row w b 2 _ _ _ h, cell_of_row w b 3 _ _ _ h, cell_of_row w b 4 _ _ _ h, cell_of_row w b 5 _ _ _ h, cell_of_row w b 6 _ _ _ h⟩
set_option maxRecDepth 100000 in
set_option maxHeartbeats 2000000 in
theorem do_bad (p b n : Nat) (A : List Ent) (c : Cmd) (w : World) (hT : TabsI w) (hs : c.key.size ≤ 1000000) (v : Int) (hv : chk c = v) (h0 : v ≠ 0) :
    Calls Tryz.prog 14 #[.pointer (some ⟨p, 0, none⟩), cmdV c] w fun e w' => e = .returned (repV ⟨v, nul, 0⟩) ∧ Below w.heap.size w w' := by
  have HT := Lib.hid hT
  have HCK := Lib.hid (fun W (hT : Tabs W) => check_v c W hT hs v hv)
  have e0 : (v != 0) = true := by rw [bne_iff_ne]; exact h0
  clear hT hv h0
  go_enter Tryz.func14, Tryz.ntmps14
  go_upto_region 1 with fail
  obtain ⟨W, hW⟩ : ∃ W, W = (w.alloc (.cells (cmdA c) 30)).alloc (.cells #[.int .i64 0, .string ⟨#[]⟩, .int .i64 0] 33) := ⟨_, rfl⟩
  rw [← hW]
  have HD : Hid (DoAt c w W) := Lib.hid (by rw [hW]; exact doAt_start c w)
  clear hW
  obtain ⟨⟨c0, c1, c2, c3, c4, c5⟩, _⟩ := box6 HD.out.cb
  have HTW := Lib.hid (HT.out.next HD.out.bel)
  go_wp2_with fail
  refine (HCK.out _ HTW.out.t).mono ?_
  rintro e w1 ⟨rfl, hb1⟩
  have HD1 := Lib.hid (HD.out.next hb1)
  clear c0 c1 c2 c3 c4 c5 hb1
  obtain ⟨⟨d0, d1, d2⟩, fd, sd⟩ := box3 HD1.out.rb
  go_wp2_with fail
  refine ret_box (w.heap.size + 1) #[.int .i64 v, .string nul, .int .i64 0] 33 (.agg #[.int .i64 v, .string nul, .int .i64 0]) ?_ (fun W' h => ?_) rfl ?_
  · exact set3 HD1.out.rb
  · obtain ⟨⟨r0, r1, r2⟩, _, _⟩ := box3 h
    simp [results, Tryz.results14, go_sem, r0, r1, r2]
  · exact ⟨rfl, set3_below (by omega) HD1.out.bel⟩
def deedF (k : Nat) : FuncId := if k = 1 then 25 else if k = 2 then 26 else if k = 3 then 27 else if k = 4 then 28 else if k = 5 then 29 else 24
theorem deed_at {w : World} {b : Nat} {T : TypeId} (h : w.heap[b]? = some (.cells #[.func (.func 24) #[] #[], .func (.func 25) #[] #[], .func (.func 26) #[] #[], .func (.func 27) #[] #[], .func (.func 28) #[] #[], .func (.func 29) #[] #[], .func (.func 24) #[] #[]] T (0, 0))) {k : Nat} (hk : k ≤ 6) :
    w.cell? ⟨b, k, none⟩ = some (.func (.func (deedF k)) #[] #[]) := by
  obtain ⟨f0, f1, f2, f3, f4, f5, f6⟩ := box7 h
  rcases (by omega : k = 0 ∨ k = 1 ∨ k = 2 ∨ k = 3 ∨ k = 4 ∨ k = 5 ∨ k = 6) with rfl | rfl | rfl | rfl | rfl | rfl | rfl
  · exact f0
  · exact f1
  · exact f2
  · exact f3
  · exact f4
  · exact f5
  · exact f6
theorem call_enter {f : FuncId} {fn : Func} (hf : Tryz.prog.funcs[f]? = some fn) (h1 : (fn.name == "runtime.NumGoroutine") = false) (h2 : fn.body.isNone = false) (args : Array Value) (w : World) :
    (callFunc f args).run Tryz.prog w = .ok (.enter f args) w := by
  unfold callFunc
  simp only [Sem.run_bind, Result.andThen]
  rw [show Sem.run Tryz.prog program w = .ok Tryz.prog w from rfl]
  simp only [hf, h1, h2, Bool.false_eq_true, if_false, Sem.run_pure]
theorem deed_enter {k : Nat} (hk : k ≤ 6) (args : Array Value) (w : World) : (callFunc (deedF k) args).run Tryz.prog w = .ok (.enter (deedF k) args) w := by
  rcases (by omega : k = 0 ∨ k = 1 ∨ k = 2 ∨ k = 3 ∨ k = 4 ∨ k = 5 ∨ k = 6) with rfl | rfl | rfl | rfl | rfl | rfl | rfl
  · exact call_enter Tryz.func24 (by kernel_rfl) (by kernel_rfl) args w
  · exact call_enter Tryz.func25 (by kernel_rfl) (by kernel_rfl) args w
  · exact call_enter Tryz.func26 (by kernel_rfl) (by kernel_rfl) args w
  · exact call_enter Tryz.func27 (by kernel_rfl) (by kernel_rfl) args w
  · exact call_enter Tryz.func28 (by kernel_rfl) (by kernel_rfl) args w
  · exact call_enter Tryz.func29 (by kernel_rfl) (by kernel_rfl) args w
  · exact call_enter Tryz.func24 (by kernel_rfl) (by kernel_rfl) args w
set_option maxRecDepth 100000 in
set_option maxHeartbeats 2000000 in
theorem do_ok (p b n m k : Nat) (A B : List Ent) (c : Cmd) (R : Rep) (F : FuncId) (w : World) (h : AppAt w p b n A) (hT : TabsI w) (hs : c.key.size ≤ 1000000) (hz : chk c = 0) (hk : c.kind = (k : Int)) (hk6 : k ≤ 6) (hF : deedF k = F)
    (HC : ∀ W, AppAt W p b n A → TabsI W → Calls Tryz.prog F #[.pointer (some ⟨p, 0, none⟩), cmdV c] W fun e w' => e = .returned (repV R) ∧ (AppAt w' p b m B ∧ Mods (fun k => k = b) W w')) :
    Calls Tryz.prog 14 #[.pointer (some ⟨p, 0, none⟩), cmdV c] w fun e w' => e = .returned (repV R) ∧ (AppAt w' p b m B ∧ Mods (fun k => k = b) w w') := by
  have HH := Lib.hid h
  have HT := Lib.hid hT
  have HCC := Lib.hid HC
  have HK := Lib.hid hk
  have HFF := Lib.hid hF
  have hcf := @deed_enter k hk6
  rw [hF] at hcf
  have HCK := Lib.hid (fun W (hT : Tabs W) => check_v c W hT hs 0 hz)
  clear h hT HC hz hk hF
  go_enter Tryz.func14, Tryz.ntmps14
  go_upto_region 1 with fail
  obtain ⟨W, hW⟩ : ∃ W, W = (w.alloc (.cells (cmdA c) 30)).alloc (.cells #[.int .i64 0, .string ⟨#[]⟩, .int .i64 0] 33) := ⟨_, rfl⟩
  rw [← hW]
  have HD : Hid (DoAt c w W) := Lib.hid (by rw [hW]; exact doAt_start c w)
  clear hW
  have HA := Lib.hid (HH.out.below HD.out.bel)
  have hzp := HA.out.plt
  have hzc : w.heap.size < W.heap.size := M.heap_lt HD.out.cb
  obtain ⟨⟨c0, c1, c2, c3, c4, c5⟩, _⟩ := box6 HD.out.cb
  have HTW := Lib.hid (HT.out.next HD.out.bel)
  clear hzp hzc
  go_wp2_with fail
  refine (HCK.out _ HTW.out.t).mono ?_
  rintro e w1 ⟨rfl, hb1⟩
  have HD1 := Lib.hid (HD.out.next hb1)
  have HA1 := Lib.hid (HA.out.below hb1)
  have HT1 := Lib.hid (HTW.out.next hb1)
  clear c0 c1 c2 c3 c4 c5 hb1
  go_upto_region 5 with fail
  obtain ⟨w2, hw2⟩ : ∃ w2, w2 = w1.alloc (.cells #[.func (.func 24) #[] #[], .func (.func 25) #[] #[], .func (.func 26) #[] #[], .func (.func 27) #[] #[], .func (.func 28) #[] #[], .func (.func 29) #[] #[], .func (.func 24) #[] #[]] 74) := ⟨_, rfl⟩
  rw [← hw2]
  have hb2 : Below w1.heap.size w1 w2 := by rw [hw2]; exact (Below.refl _ _).alloc (Nat.le_refl _) _
  have hx2 := deed_at (w := w2) (b := w1.heap.size) (T := 74) (by rw [hw2]; exact heap_alloc_new w1 _) hk6
  rw [HFF.out] at hx2
  have HD2 := Lib.hid (HD1.out.next hb2)
  have HA2 := Lib.hid (HA1.out.below hb2)
  have HT2 := Lib.hid (HT1.out.next hb2)
  obtain ⟨⟨c0, c1, c2, c3, c4, c5⟩, _⟩ := box6 HD2.out.cb
  rw [HK.out] at c0
  have hcv : cmdV c = .agg #[.int .i64 (k : Int), .int .i64 c.client, .int .i64 c.seq, .string c.key, .string c.val, .int .i64 c.rev] := by unfold cmdV; rw [HK.out]
  have HCD := Lib.hid (HCC.out (w2.drew) (HA2.out.below (below_drawn w2)) (HT2.out.next (below_drawn w2)))
  rw [hcv] at HCD
  have hk7 : (k : Int) < 7 := by omega
  have hk7n : k < 7 := by omega
  clear hw2 hb2 hcv
  go_still_tail 6, (by kernel_rfl)
  go_wp2_with fail
  refine HCD.out.mono ?_
  rintro e w5 ⟨rfl, hA5, hM5⟩
  have hbw := HH.out.blt
  have hpw := HH.out.plt
  have hM : Mods (fun k => k = b) w w5 := (Mods.of_below (HD2.out.bel.trans ((below_drawn w2).mono HD2.out.bel.size))).trans hM5
  have hrb : w5.heap[w.heap.size + 1]? = _ := hM5.heap (HD2.out.next (below_drawn w2)).rb (by omega)
  obtain ⟨⟨d0, d1, d2⟩, fd, sd⟩ := box3 hrb
  have HM := Lib.hid hM
  have HRB := Lib.hid hrb
  have HA5 := Lib.hid hA5
  clear hM5 hM hrb hA5 c0 c1 c2 c3 c4 c5 hx2 HCD
  go_wp2_with fail
  refine ret_box (w.heap.size + 1) #[.int .i64 R.code, .string R.val, .int .i64 R.rev] 33 (.agg #[.int .i64 R.code, .string R.val, .int .i64 R.rev]) ?_ (fun W' h => ?_) rfl ?_
  · exact set3 HRB.out
  · obtain ⟨⟨r0, r1, r2⟩, _, _⟩ := box3 h
    simp [results, Tryz.results14, go_sem, r0, r1, r2]
  · exact ⟨rfl, HA5.out.set3 (by omega) (by omega), mods_set3 HM.out (by omega)⟩
/-- THE CONTRACT OF Do. -/
theorem do_any (p b n : Nat) (A : List Ent) (c : Cmd) (w : World) (h : AppAt w p b n A) (hG : Good n A) (hn : n ≤ 90000) (hT : TabsI w) (hs : c.key.size ≤ 1000000) :
    Calls Tryz.prog 14 #[.pointer (some ⟨p, 0, none⟩), cmdV c] w fun e w' => e = .returned (repV (appDo A c).2) ∧ (AppAt w' p b (n + 1) (appDo A c).1 ∧ Mods (fun k => k = b) w w') := by
  have keep : ∀ {W w' : World}, AppAt W p b n A → Below W.heap.size W w' → (AppAt w' p b (n + 1) A ∧ Mods (fun k => k = b) W w') := fun h hb =>
    ⟨(h.below hb).mono (by omega), (Mods.of_below hb)⟩
  by_cases hz : chk c = 0
  · have he : appDo A c = act A c := by unfold appDo; rw [if_pos hz]
    rw [he]
    have hrv := hG.rev c.key
    have hk := formBad_kind (chk_good hz).1
    rcases (by omega : c.kind = 0 ∨ c.kind = 1 ∨ c.kind = 2 ∨ c.kind = 3 ∨ c.kind = 4 ∨ c.kind = 5 ∨ c.kind = 6) with k | k | k | k | k | k | k
    · have e : act A c = (A, Rep.zero) := by unfold act; rw [if_neg (by omega), if_neg (by omega), if_neg (by omega), if_neg (by omega), if_neg (by omega)]
      rw [e]
      exact do_ok p b n (n + 1) 0 A A c ⟨0, nul, 0⟩ _ w h hT hs hz k (by decide) rfl fun W hW hTW => (none_any c _ W).mono fun e w' hh => ⟨hh.1, keep hW hh.2⟩
    · have e : act A c = (A, getR A c.key) := by
        unfold act; rw [if_pos k]; unfold getR getO
        cases look A c.key <;> rfl
      rw [e]
      exact do_ok p b n (n + 1) 1 A A c _ _ w h hT hs hz k (by decide) rfl fun W hW hTW => (get_any p b n A c W hW hs _ rfl).mono fun e w' hh => ⟨hh.1, keep hW hh.2⟩
    · have e : act A c = (put A ⟨c.key, c.val, revOf A c.key + 1⟩, ⟨0, nul, revOf A c.key + 1⟩) := by unfold act; rw [if_neg (by omega), if_neg (by omega), if_pos k]
      rw [e]
      exact do_ok p b n (n + 1) 2 A _ c _ _ w h hT hs hz k (by decide) rfl fun W hW hTW => put_any p b n A c W hW (by omega) hG.srt hs _ rfl (by omega) (by omega)
    · cases hl : look A c.key with
      | none =>
        have e : act A c = (A, ⟨8, nul, 0⟩) := by unfold act; rw [if_neg (by omega), if_pos k, hl]
        rw [e]
        exact do_ok p b n (n + 1) 3 A A c _ _ w h hT hs hz k (by decide) rfl fun W hW hTW => (rm_none p b n A c W hW hs hl).mono fun e w' hh => ⟨hh.1, keep hW hh.2⟩
      | some x =>
        have e : act A c = (del A c.key, ⟨0, nul, x.rev⟩) := by unfold act; rw [if_neg (by omega), if_pos k, hl]
        rw [e]
        exact do_ok p b n (n + 1) 3 A _ c _ _ w h hT hs hz k (by decide) rfl fun W hW hTW => (rm_some p b n A c W hW hG.srt hs x hl).mono fun e w' hh => ⟨hh.1, hh.2.1.mono (by omega), hh.2.2⟩
    · by_cases hr : revOf A c.key = c.rev
      · have e : act A c = (put A ⟨c.key, c.val, revOf A c.key + 1⟩, ⟨0, nul, revOf A c.key + 1⟩) := by unfold act; rw [if_neg (by omega), if_neg (by omega), if_neg (by omega), if_pos k, if_pos hr]
        rw [e]
        exact do_ok p b n (n + 1) 4 A _ c _ _ w h hT hs hz k (by decide) rfl fun W hW hTW => cas_yes p b n A c W hW (by omega) hG.srt hs _ rfl (by omega) (by omega) hr
      · have e : act A c = (A, ⟨10, nul, revOf A c.key⟩) := by unfold act; rw [if_neg (by omega), if_neg (by omega), if_neg (by omega), if_pos k, if_neg hr]
        rw [e]
        exact do_ok p b n (n + 1) 4 A A c _ _ w h hT hs hz k (by decide) rfl fun W hW hTW => (cas_no p b n A c W hW hs _ rfl hr).mono fun e w' hh => ⟨hh.1, keep hW hh.2⟩
    · have e : act A c = (A, findR A c.key) := by unfold act; rw [if_neg (by omega), if_neg (by omega), if_neg (by omega), if_neg (by omega), if_pos k]
      rw [e]
      exact do_ok p b n (n + 1) 5 A A c _ _ w h hT hs hz k (by decide) rfl fun W hW hTW => (find_any p b n n A c W hW (by omega) hG (by omega) hTW hs _ rfl).mono fun e w' hh => ⟨hh.1, keep hW hh.2⟩
    · have e : act A c = (A, Rep.zero) := by unfold act; rw [if_neg (by omega), if_neg (by omega), if_neg (by omega), if_neg (by omega), if_neg (by omega)]
      rw [e]
      exact do_ok p b n (n + 1) 6 A A c ⟨0, nul, 0⟩ _ w h hT hs hz k (by decide) rfl fun W hW hTW => (none_any c _ W).mono fun e w' hh => ⟨hh.1, keep hW hh.2⟩
  · have he : appDo A c = (A, ⟨chk c, nul, 0⟩) := by unfold appDo; rw [if_neg hz]
    rw [he]
    exact (do_bad p b n A c w hT hs _ rfl hz).mono fun e w' hh => ⟨hh.1, keep h hh.2⟩
end Go.Proofs.YtkgjfagejnppbaaGreatDoor.P
