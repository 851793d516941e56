/- The program's settings: find. -/
import Derived.Test.YtpeiamllkddhiaaGreatDoorMrg8
import Derived.Lib.AppendIntMem
import Derived.Test.YtpeiamllkddhiaaGreatDoorMrg6
import Derived.Shelf.Unicode.PredsPay
import Derived.Deep.DeepCutAuto
namespace Go.Proofs.YtpeiamllkddhiaaGreatDoor.P
open Go.RowKit Go.Proofs.YtpeiamllkddhiaaGreatDoor.R Go.Proofs.YtpeiamllkddhiaaGreatDoor.M Go.BigFrame Go.Maps
set_option linter.unusedVariables false
set_option linter.unusedSimpArgs false

/-- the tables, that of Itoa among them -/
structure TabsI (w : World) : Prop where
  t : Tabs w
  p : Lib.TabIs Tryz.prog w "internal/strconv.uint64pow10" .u64 Lib.pow10Tab
theorem TabsI.next {w w' : World} (h : TabsI w) (hb : Below w.heap.size w w') : TabsI w' :=
  ⟨h.t.next hb, TabIs_below (g := 2) (by kernel_rfl) h.p hb⟩
theorem itoa_t (r : Int) (w : World) (h : TabsI w) (h0 : 0 ≤ r) (h1 : r ≤ 1000000) (d : ByteArray) (hd : digs r = d) :
    Calls Tryz.prog 47 #[.int .i64 r] w fun e w' => e = .returned (.string d) ∧ Below w.heap.size w w' := by
  subst hd
  refine (Tryz.strconv_Itoa r (by omega) (by omega) w h.p).mono fun e w' hh => ?_
  obtain ⟨rfl, k, os, rfl⟩ := hh
  exact ⟨rfl, Go.Lib.below_grow _ w (Nat.le_refl _) k os⟩
theorem info_str : (Tryz.prog.info? tStr).map (fun i => (i.zero, i.size, i.bytes)) = some (some (.string ⟨#[]⟩), 1, 16) := by kernel_rfl
/-- lines that come out, while they do -/
structure LS (W w : World) (oo : Option Addr) (oc : Nat) (L : List ByteArray) : Prop where
  bel : Below W.heap.size W w
  own : w.ownsRow W.heap.size tStr 1 (.slice oo L.length oc) L.length (L.map Value.string)
theorem LS.below {W w w2 : World} {oo : Option Addr} {oc : Nat} {L : List ByteArray} (h : LS W w oo oc L) (hb : Below w.heap.size w w2) : LS W w2 oo oc L :=
  ⟨h.bel.trans (hb.mono h.bel.size), own_kept h.own (S := fun _ => False) (Mods.of_below hb) (fun _ _ h => h)⟩
theorem LS.more {W w w2 : World} {oo : Option Addr} {oc gg cg : Nat} {L : List ByteArray} {y : ByteArray} {bx : Obj} (h : LS W w oo oc L)
    (ho : w2.ownsRow W.heap.size tStr 1 (.slice (some ⟨gg, 0, none⟩) (L.length + 1) cg) (L.length + 1) (L.map Value.string ++ [.string y]))
    (hg : (w.alloc bx).grownBy w2 (Value.slice oo L.length oc).ownBlock) : LS W w2 (some ⟨gg, 0, none⟩) cg (L ++ [y]) := by
  have hM : Mods (fun k => ∃ a, oo = some a ∧ k = a.block) w w2 := ((Mods.refl _ w).alloc bx).grown hg (fun k hk _ => by
    cases oo with
    | none => cases hk
    | some a => exact ⟨a, rfl, (Option.some.inj hk).symm⟩)
  refine ⟨h.bel.trans (hM.below (fun k ⟨a, ha, e⟩ => ?_) h.bel.size), by rw [List.length_append, List.map_append]; exact ho⟩
  obtain ⟨_, _, hb⟩ := own_heap h.own a ha
  omega
theorem join_eq (L : List ByteArray) : (⟨(Lib.join (L.map (·.data.toList)) sp.data.toList).toArray⟩ : ByteArray) = joinB L := by
  apply ba_ext
  show (Lib.join (L.map (·.data.toList)) [32]) = _
  unfold Lib.join
  induction L with
  | nil => rfl
  | cons a t ih =>
    cases t with
    | nil => simp [joinB]
    | cons b t =>
      show _ = (a ++ ⟨#[32]⟩ ++ joinB (b :: t)).data.toList
      rw [ByteArray.data_append, ByteArray.data_append, Array.toList_append, Array.toList_append, ← ih]
      simp [List.intercalate, List.intersperse]
theorem join_any {W w : World} {oo : Option Addr} {oc : Nat} {L : List ByteArray} (h : LS W w oo oc L) (hs : (joinB L).size ≤ 2000000000) (n : Nat) (hn : L.length = n) (hl : n ≤ 1000000) (v : ByteArray) (hv : joinB L = v) :
    Calls Tryz.prog 48 #[.slice oo n oc, .string ⟨#[32]⟩] w fun e w' => e = .returned (.string v) ∧ Below w.heap.size w w' := by
  subst hn hv
  obtain ⟨ao, cap, e0, h1, h2, h3, h4⟩ := M.own_view h.own
  cases e0
  cases oo with
  | none =>
    obtain ⟨e1, e2⟩ := h3 rfl
    have : L = [] := List.eq_nil_of_length_eq_zero e1
    subst this
    refine (Tryz.strings_Join_none none oc ⟨#[32]⟩ w).mono fun e w' hh => ?_
    obtain ⟨rfl, rfl⟩ := hh
    exact ⟨rfl, Below.refl _ _⟩
  | some a =>
    obtain ⟨g, cur, rfl, hB, hg, hsz, htk⟩ := h4 a rfl
    have hj := join_eq L
    refine (Tryz.strings_Join g 0 oc L sp w (fun j x hj => ?_) (M.heap_lt hg) (by omega) h1 ?_).mono fun e w' hh => ?_
    · have hjl := (List.getElem?_eq_some_iff.1 hj).1
      rw [cell_of_row w g (0 + j) _ _ _ hg, Nat.zero_add, ← Array.getElem?_toList]
      have hv : (L.map Value.string)[j]? = some (.string x) := by rw [List.getElem?_map, hj]; rfl
      rw [← htk, List.getElem?_take_of_lt (by omega)] at hv
      exact hv
    · have : (⟨(Lib.join (L.map (·.data.toList)) sp.data.toList).toArray⟩ : ByteArray).size ≤ 2000000000 := by rw [hj]; exact hs
      rw [mk_size] at this
      omega
    · rw [hj] at hh
      exact hh
theorem strV_key (k : ByteArray) : strV k.data.toList = .string k := by
  unfold strV
  congr 1
set_option maxRecDepth 100000 in
set_option maxHeartbeats 4000000 in
theorem find_any (p b n N : Nat) (A : List Ent) (c : Cmd) (w : World) (h : AppAt w p b n A) (hn : n ≤ 1000000) (hG : Good N A) (hN : N ≤ 100000) (hT : TabsI w) (hk : c.key.size ≤ 1000000) (R : Rep) (hR : findR A c.key = R) :
    Calls Tryz.prog 32 #[.pointer (some ⟨p, 0, none⟩), cmdV c] w fun e w' => e = .returned (repV R) ∧ Below w.heap.size w w' := by
  have HR := Lib.hid (hR.symm.trans (findR_lines A c.key))
  have HH := Lib.hid h
  have HT := Lib.hid hT
  have HG := Lib.hid hG
  clear h hT hG hR
  obtain ⟨i0, hii, hz0, hz1, hz2⟩ := info_parts info_str
  go_enter Tryz.func32, Tryz.ntmps32
  go_upto_region 1 with fail
  obtain ⟨W, hW⟩ : ∃ W, W = (w.alloc (.cells (cmdA c) 38)).alloc (.cells #[.int .i64 0, .string ⟨#[]⟩, .int .i64 0] 33) := ⟨_, rfl⟩
  rw [← hW]
  have HD : Hid (DoAt c w W) := Lib.hid (by rw [hW]; exact doAt_start c w)
  clear hW
  have HA := Lib.hid (HH.out.below HD.out.bel)
  have hzp := HA.out.plt
  have hzc : w.heap.size < W.heap.size := M.heap_lt HD.out.cb
  obtain ⟨⟨c0, c1, c2, c3, c4, c5⟩, _⟩ := box6 HD.out.cb
  clear c0 c1 c2 c3 c4 c5 hzp hzc
  go_wp2_with fail
  refine (keys_any p b n A W HA.out HG.out.srt hn).mono ?_
  rintro e w1 ⟨ao, cap, rfl, hst, hb1⟩
  have HST := Lib.hid hst
  have HA1 := Lib.hid (HA.out.below hb1)
  have HD1 := Lib.hid (HD.out.next hb1)
  have HT1 := Lib.hid (HT.out.next HD1.out.bel)
  have hsW := HD.out.bel.size
  obtain ⟨hcl1, hcl2⟩ := hst.le
  unfold maxLen at hcl2
  rw [show (keysL A).length = A.length by unfold keysL; rw [List.length_map]] at hcl1
  have HL0 : Hid (LS w1 w1 none 0 (linesB (A.take 0) c.key)) := Lib.hid ⟨Below.refl _ _, World.ownsRow_nil _ _ _ _⟩
  clear hst hb1 HA
  go_wp2_with fail
  go_loopw [5, 12] (fun lv iv wr => ∃ (i : Nat) (oo : Option Addr) (oc : Nat), lv = .slice oo (linesB (A.take i) c.key).length oc ∧ iv = .int .i64 i ∧ i ≤ A.length ∧ LS w1 wr oo oc (linesB (A.take i) c.key)) (fun _ iv _ => A.length - (intOf iv).toNat)
  case atStart => exact ⟨0, none, 0, rfl, rfl, Nat.zero_le _, HL0.out⟩
  case round =>
    clear HL0
    obtain ⟨i, oo, oc, rfl, rfl, hi, hls⟩ := hrel
    have hw1 := hls.bel.size
    have HLS := Lib.hid hls
    have HAr := Lib.hid (HA1.out.below hls.bel)
    have HDr := Lib.hid (HD1.out.next hls.bel)
    have HTr := Lib.hid (HT1.out.next hls.bel)
    have HSr := Lib.hid (HST.out.below hls.bel)
    have hrb := M.heap_lt HDr.out.rb
    clear hls
    by_cases hlt : i < A.length
    · have hii2 : (i : Int) < (A.length : Int) := by omega
      obtain ⟨x, hx⟩ : ∃ x, A[i]? = some x := ⟨_, List.getElem?_eq_getElem hlt⟩
      have hxm := List.mem_of_getElem? hx
      have hxe := HG.out.ent x hxm
      have hks := key_size hxe.2.2.1
      obtain ⟨g, rfl, hgB, hgl, hgc⟩ := HSr.out.row i x.key.data.toList (by unfold keysL; rw [List.getElem?_map, hx]; rfl)
      rw [strV_key] at hgc
      have hlk : (Instr.lookup 72 (.map (some b)) (.string x.key) false).run Tryz.prog wr = .ok (.agg #[.string x.val, .int .i64 x.rev]) wr := by
        have := HAr.out.map.look (k := x.key) (Tryz.zeroValue77 _) rfl (by unfold maxLen; omega)
        rw [look_of HG.out.srt hxm] at this
        exact this
      have hpc := HAr.out.pc
      have HX := Lib.hid hx
      have HXE := Lib.hid hxe
      obtain ⟨⟨c0, c1, c2, c3, c4, c5⟩, _⟩ := box6 HDr.out.cb
      clear hx hxe
      go_upto_region 6 with fail
      obtain ⟨w2, hw2⟩ : ∃ w2, w2 = wr.alloc (.cells #[.string x.val, .int .i64 x.rev] 77) := ⟨_, rfl⟩
      rw [← hw2]
      have hb2 : Below wr.heap.size wr w2 := by rw [hw2]; exact (Below.refl _ _).alloc (Nat.le_refl _) _
      have hx2 : w2.heap[wr.heap.size]? = some (.cells #[.string x.val, .int .i64 x.rev] 77 (0, 0)) := by rw [hw2]; exact heap_alloc_new wr _
      have HLS2 := Lib.hid (HLS.out.below hb2)
      have HT2 := Lib.hid (HTr.out.next hb2)
      have hk3 := (hb2.cell (p := ⟨w.heap.size, 3, none⟩) (by simp only; omega)).trans c3
      clear hw2 hb2 c0 c1 c2 c3 c4 c5 hlk hpc hgc
      cases hbg : begs x.key c.key with
      | false =>
        have HL2 := Lib.hid (findAt_skip (c := c) HX.out hbg)
        have HBG := Lib.hid (fun W => begins_t x.key c.key W false hbg)
        clear hbg
        obtain ⟨L0, hL0⟩ : ∃ L0, L0 = linesB (A.take i) c.key := ⟨_, rfl⟩
        rw [← hL0] at HL2 HLS2 ⊢
        clear hL0
        go_wp2_with fail
        refine (HBG.out _).mono ?_
        rintro e w3 ⟨rfl, rfl⟩
        go_wp2_with fail
        go_roundw
        case rel => exact ⟨i + 1, oo, oc, by rw [HL2.out], by go_num, by omega, by rw [HL2.out]; exact HLS2.out⟩
        case measure => simp [intOf]; omega
      | true =>
        have HL2 := Lib.hid (findAt_more (c := c) HX.out hbg)
        have HBG := Lib.hid (fun W => begins_t x.key c.key W true hbg)
        have hxe := HXE.out
        have hq1 := quote_size hks
        have hq2 := quote_size hxe.2.2.2
        have hdd := digs_size x.rev (by omega) (by omega)
        have HLN : Hid (lineB x = ⟨(quoteL x.key).toArray⟩ ++ ⟨#[61]⟩ ++ digs x.rev ++ ⟨#[58]⟩ ++ ⟨(quoteL x.val).toArray⟩) := Lib.hid rfl
        have QK := Lib.hid (fun y : Kin w2 => quote_t x.key y.w (by omega) (HT2.out.next y.h).t _ rfl)
        have QV := Lib.hid (fun y : Kin w2 => quote_t x.val y.w (by have := hxe.2.2.2; omega) (HT2.out.next y.h).t _ rfl)
        have QD := Lib.hid (fun y : Kin w2 => itoa_t x.rev y.w (HT2.out.next y.h) (by omega) (by omega) _ rfl)
        have HQK := Lib.hid (fun y : Kin w2 => (QK.out y).mono fun e w' h => (⟨h.1, h.2.1⟩ : e = .returned (.string ⟨(quoteL x.key).toArray⟩) ∧ Below y.w.heap.size y.w w'))
        have HQV := Lib.hid (fun y : Kin w2 => (QV.out y).mono fun e w' h => (⟨h.1, h.2.1⟩ : e = .returned (.string ⟨(quoteL x.val).toArray⟩) ∧ Below y.w.heap.size y.w w'))
        obtain ⟨Q1, hQ1⟩ : ∃ Q1, Q1 = (⟨(quoteL x.key).toArray⟩ : ByteArray) := ⟨_, rfl⟩
        obtain ⟨Q2, hQ2⟩ : ∃ Q2, Q2 = (⟨(quoteL x.val).toArray⟩ : ByteArray) := ⟨_, rfl⟩
        obtain ⟨DD, hDD⟩ : ∃ DD, DD = digs x.rev := ⟨_, rfl⟩
        rw [← hQ1] at hq1 HLN HQK
        rw [← hQ2] at hq2 HLN HQV
        rw [← hDD] at hdd HLN QD
        have hll : (linesB (A.take i) c.key).length ≤ 100000 := by have h1 := lines_len (A.take i) c.key; have h2 := List.length_take_le i A; have h3 := HG.out.len; omega
        obtain ⟨L0, hL0⟩ : ∃ L0, L0 = linesB (A.take i) c.key := ⟨_, rfl⟩
        rw [← hL0] at HL2 HLS2 hll ⊢
        clear hL0 hbg hxe hQ1 hQ2 hDD QK QV HLS
        go_wp2_with fail
        refine (HBG.out _).mono ?_
        rintro e w3 ⟨rfl, rfl⟩
        go_upto_region 7 with fail
        obtain ⟨⟨s0, s1⟩, fs, _⟩ := box2 hx2
        have k0 := Kin.cell s0
        have k1 := Kin.cell s1
        clear hk3 hx2 s0 s1 fs
        refine wp_region_kin_tail1 13 (.slice oo L0.length oc) (by kernel_rfl) (by kernel_rfl) (fun _ _ _ h => h) (.inl ⟨by rfl, fun _ => by rfl⟩) ?_
        simp only [Nat.reduceSub, List.take_succ_cons, List.take_zero, List.drop_succ_cons, List.drop_zero, Act.put, List.setIfInBounds_toArray, List.set_cons_succ, List.set_cons_zero]
        repeat (go_big_quiet_step ((first | (go_at_call 46; with_reducible exact Kin.call _ (HQK.out _)) | (go_at_call 46; with_reducible exact Kin.call _ (HQV.out _)) | (go_at_call 47; with_reducible exact Kin.call _ (QD.out _)))))
        refine wpQuiet_nil ?_
        intro _ hx
        obtain ⟨xk, rfl⟩ := hx
        have HLS3 := Lib.hid (HLS2.out.below xk.h)
        obtain ⟨w4, hw4⟩ : ∃ w4, w4 = xk.w := ⟨_, rfl⟩
        rw [← hw4] at HLS3 ⊢
        clear hw4 k0 k1
        have hw41 := HLS3.out.bel.size
        go_wp2_with (refine wpList_append_lies _ (by rfl) (.tmp 26) (.tmp 39) 90 (by rfl) w1.heap.size tStr i0 _ 1 16 Tryz.underlying90 hii hz0 hz1 hz2 rfl (by decide) (.slice oo (L0).length oc) (L0).length (L0.map Value.string) (by rfl) (by exact HLS3.out.own.alloc _) ⟨w4.heap.size, 0, none⟩ 1 1 [.string (Q1 ++ ⟨#[61]⟩ ++ DD ++ ⟨#[58]⟩ ++ Q2)] (by rfl) (by rfl) (World.news_of_block (cs := #[.string (Q1 ++ ⟨#[61]⟩ ++ DD ++ ⟨#[58]⟩ ++ Q2)]) (t := tStr) (fr := (0, 0)) (heap_alloc_new w4 _)) (by simp [Value.oneCell']) (by omega) (by unfold maxLen; omega) (by omega) (by simp; omega) (w4.heap.size + 1) (by simp) ?_; intro gg cg w7 hown hgrow hat hlt7; have HG7 := Lib.hid (HLS3.out.more (y := Q1 ++ ⟨#[61]⟩ ++ DD ++ ⟨#[58]⟩ ++ Q2) hown hgrow); clear hown hgrow hat)
        go_roundw
        case rel => exact ⟨i + 1, some ⟨gg, 0, none⟩, cg, by rw [HL2.out, List.length_append]; rfl, by go_num, by omega, by rw [HL2.out, HLN.out]; exact HG7.out⟩
        case measure => simp [intOf]; omega
    · obtain rfl : i = A.length := by omega
      have hii2 : ¬ (A.length : Int) < (A.length : Int) := by omega
      have hjs := lines_take (i := A.length) HG.out hN c.key
      have hll := lines_len A c.key
      have hGl := HG.out.len
      rw [List.take_of_length_le (Nat.le_refl _)] at hjs HLS ⊢
      obtain ⟨m, hm⟩ : ∃ m, m = (linesB A c.key).length := ⟨_, rfl⟩
      obtain ⟨J, hJ⟩ : ∃ J, J = joinB (linesB A c.key) := ⟨_, rfl⟩
      have HJC := Lib.hid (join_any HLS.out hjs m hm.symm (by omega) J hJ.symm)
      have HRR : Hid (R = ⟨0, J, (m : Nat)⟩) := Lib.hid (by rw [HR.out, hJ, hm])
      rw [← hm] at hll ⊢
      clear hm hJ hjs
      go_wp2_with fail
      refine HJC.out.mono ?_
      rintro e w5 ⟨rfl, hb5⟩
      have HD5 := Lib.hid (HDr.out.next hb5)
      clear hb5
      obtain ⟨⟨d0, d1, d2⟩, fd, sd⟩ := box3 HD5.out.rb
      go_wp2_with fail
      refine ret_box (w.heap.size + 1) #[.int .i64 0, .string J, .int .i64 (m : Int)] 33 (.agg #[.int .i64 0, .string J, .int .i64 (m : Int)]) ?_ (fun W' h => ?_) rfl ?_
      · exact set3 HD5.out.rb
      · obtain ⟨⟨r0, r1, r2⟩, _, _⟩ := box3 h
        simp [results, Tryz.results32, go_sem, r0, r1, r2]
      · exact ⟨by rw [HRR.out], set3_below (by omega) HD5.out.bel⟩
end Go.Proofs.YtpeiamllkddhiaaGreatDoor.P
