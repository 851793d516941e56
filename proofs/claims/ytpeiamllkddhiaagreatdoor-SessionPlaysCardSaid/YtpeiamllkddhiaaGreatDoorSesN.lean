/- The document's sessions: Do, where a command is done. -/
import Derived.Test.YtpeiamllkddhiaaGreatDoorMrg11
import Derived.Deep.DeepCutAuto
namespace Go.Proofs.YtpeiamllkddhiaaGreatDoor.P
open Go.RowKit Go.Proofs.YtpeiamllkddhiaaGreatDoor.R Go.Proofs.YtpeiamllkddhiaaGreatDoor.M Go.BigFrame
set_option linter.unusedVariables false
set_option linter.unusedSimpArgs false

theorem info_last : (Tryz.prog.info? 45).map (fun i => (i.zero, i.size, i.bytes)) = some (some (.agg #[.int .i64 0, .int .i64 0, .int .i64 0, .string ⟨#[]⟩, .int .i64 0]), 5, 48) := by kernel_rfl
theorem refdo_v (A : List Ent) (ao : Option Addr) (cap : Nat) (c : Cmd) (w : World) (h : SetsV w ao cap A) (N : Nat) (hg : Good N A) (hN : N ≤ 100000) (hs : c.key.size ≤ 1000000) (B : List Ent) (R : Rep) (hd : appDo A c = (B, R)) :
    Calls Tryz.prog 12 #[.slice ao A.length cap, cmdV c] w fun e w' => ∃ oo oc, e = .returned (.tuple #[.slice oo B.length oc, repV R]) ∧ SetsV w' oo oc B ∧ Below w.heap.size w w' := by
  refine (refdo_any A ao cap c w h N hg hN hs).mono fun e w' hh => ?_
  unfold RefDone at hh
  rw [hd] at hh
  exact hh
theorem refall_any (A : List Ent) (ao : Option Addr) (cap : Nat) (w : World) (h : SetsV w ao cap A) (N : Nat) (hg : Good N A) (hN : N ≤ 100000) (R : Rep) (hR : findR A nul = R) :
    Calls Tryz.prog 12 #[.slice ao A.length cap, .agg #[.int .i64 5, .int .i64 1, .int .i64 1, .string ⟨#[]⟩, .string ⟨#[]⟩, .int .i64 0]] w fun e w' => ∃ oo oc, e = .returned (.tuple #[.slice oo A.length oc, repV R]) ∧ SetsV w' oo oc A ∧ Below w.heap.size w w' :=
  refdo_v A ao cap allC w h N hg hN (by decide) A R (by rw [do_all, hR])
/-- while the clients are copied -/
structure NewAt (y1 wx : World) (B g9 : Nat) (oy : Option Addr) (ly cy : Nat) (oo : Option Addr) (cc2 : Nat) (D : List Lst) : Prop where
  mods : Mods (fun j => j = g9) y1 wx
  nb : wx.heap[g9]? = some (.cells #[.slice oy ly cy, .slice oo D.length cc2] 30 (0, 0))
  own : wx.ownsRow B 45 5 (.slice oo D.length cc2) D.length (cellsC D)
theorem NewAt.more {y1 u w : World} {B g9 : Nat} {oy oo ao : Option Addr} {ly cy cc2 cap : Nat} {D : List Lst} {x : Lst} (h : NewAt y1 u B g9 oy ly cy oo cc2 D) (hB : y1.heap.size ≤ B)
    (ho : w.ownsRow B 45 5 (.slice ao (D.length + 1) cap) (D.length + 1) (cellsC D ++ lastC x)) (hm : Mods (fun j => Owned oo j ∨ j = g9) u w)
    (hn : w.heap[g9]? = some (.cells #[.slice oy ly cy, .slice ao (D.length + 1) cap] 30 (0, 0))) : NewAt y1 w B g9 oy ly cy ao cap (D ++ [x]) := by
  refine ⟨h.mods.then hm fun k hk e => ?_, by rw [List.length_append]; exact hn, ?_⟩
  · rcases e with ⟨a, rfl, rfl⟩ | e
    · have := (own_heap h.own a rfl).choose_spec.2
      omega
    · exact e
  · rw [List.length_append, cellsC_app]
    have : cellsC [x] = lastC x := by simp [cellsC]
    rw [this]
    exact ho
theorem LstV.keep {w w1 : World} {S : Nat → Prop} {ao : Option Addr} {cap : Nat} {C : List Lst} (h : LstV w ao cap C) (hm : Mods S w w1) (hn : ∀ k, k < w.heap.size → ¬ S k) : LstV w1 ao cap C :=
  h.below ⟨hm.os, hm.tape, hm.output, hm.size, fun k hk => hm.block k hk (hn k hk)⟩
theorem SetsV.keep {w w1 : World} {S : Nat → Prop} {ao : Option Addr} {cap : Nat} {A : List Ent} (h : SetsV w ao cap A) (hm : Mods S w w1) (hn : ∀ k, k < w.heap.size → ¬ S k) : SetsV w1 ao cap A :=
  h.below ⟨hm.os, hm.tape, hm.output, hm.size, fun k hk => hm.block k hk (hn k hk)⟩
theorem mods6 {w : World} {r : Nat} {u0 u1 u2 u3 u4 u5 : Value} : Mods (fun k => k = r) w ((((((w.setCell ⟨r, 0, none⟩ u0).setCell ⟨r, 1, none⟩ u1).setCell ⟨r, 2, none⟩ u2).setCell ⟨r, 3, none⟩ u3).setCell ⟨r, 4, none⟩ u4).setCell ⟨r, 5, none⟩ u5) :=
  ((((((Mods.refl (fun k => k = r) w).setCell (p := ⟨r, 0, none⟩) (fun _ => rfl) _).setCell (p := ⟨r, 1, none⟩) (fun _ => rfl) _).setCell (p := ⟨r, 2, none⟩) (fun _ => rfl) _).setCell (p := ⟨r, 3, none⟩) (fun _ => rfl) _).setCell (p := ⟨r, 4, none⟩) (fun _ => rfl) _).setCell (p := ⟨r, 5, none⟩) (fun _ => rfl) _
/-- settings don't lie in the box of what is done -/
theorem SetsV.apart {w w1 : World} {g : Nat} {ao : Option Addr} {cap : Nat} {A : List Ent} {T : TypeId} {o0 o1 : Option Addr} {n0 n1 m0 m1 : Nat} {i2 i4 : Int} {s3 : ByteArray} {b5 : Bool} (h : SetsV w ao cap A)
    (hg : w.heap[g]? = some (.cells #[.slice o0 n0 m0, .slice o1 n1 m1, .int .i64 i2, .string s3, .int .i64 i4, .bool b5] T (0, 0))) (hm : Mods (fun k => k = g) w w1) : SetsV w1 ao cap A := by
  refine ⟨h.le, fun i e hi => ?_⟩
  obtain ⟨g2, off, e1, hl, c0, c1, c2⟩ := h.row i e hi
  have hne : g2 ≠ g := by
    rintro rfl
    rw [cell_of_row w g2 _ _ _ _ hg] at c0 c1
    obtain ⟨o, ho⟩ : ∃ o, o = off + i * 3 := ⟨_, rfl⟩
    rw [← ho] at c0 c1
    clear ho
    rcases (by omega : o = 0 ∨ o = 1 ∨ o = 2 ∨ o = 3 ∨ o = 4 ∨ o = 5 ∨ 6 ≤ o) with rfl | rfl | rfl | rfl | rfl | rfl | h6
    · simp at c0
    · simp at c0
    · simp at c0
    · simp at c1
    · simp at c0
    · simp at c0
    · rw [Array.getElem?_eq_none (by simpa using h6)] at c0
      cases c0
  exact ⟨g2, off, e1, Nat.lt_of_lt_of_le hl hm.size, (hm.cell (p := ⟨g2, _, none⟩) hl hne).trans c0, (hm.cell (p := ⟨g2, _, none⟩) hl hne).trans c1, (hm.cell (p := ⟨g2, _, none⟩) hl hne).trans c2⟩

set_option maxRecDepth 100000 in
set_option maxHeartbeats 20000000 in
theorem sref_new0 (S : Ses) (oa oc : Option Addr) (ca cc : Nat) (c : Cmd) (w : World) (hA : SetsV w oa ca S.A) (hC : LstV w oc cc S.C) (hs : c.key.size ≤ 1000000) (hv : chk c = 0) (h0 : bare c = false) (N : Nat) (hG : Good N S.A) (hN : N ≤ 100000) (hnd : (S.C.map Lst.client).Nodup) (hlen : S.C.length ≤ 90000) (A2 : List Ent) (R : Rep) (hd : appDo S.A c = (A2, R)) (i : Int) (hi : atC S.C c.client = i) (hneg : i < 0) : Calls Tryz.prog 8 #[.agg #[.slice oa S.A.length ca, .slice oc S.C.length cc], cmdV c] w (SPost ⟨A2, dropC S.C c.client ++ [⟨c.client, c.seq, R⟩]⟩ R true w) := by
  have HG := Lib.hid hG
  have HND := Lib.hid hnd
  have HDD := Lib.hid hd
  clear hG hnd hd
  have hge : decide ((0 : Int) ≤ i) = false := decide_eq_false (by omega)
  have HCK := Lib.hid (fun W => refcheck_v c W hs 0 hv)
  have HK0 := Lib.hid (show (c.kind == 0) = false by rw [← dec_beq]; unfold bare at h0; exact (Bool.or_eq_false_iff.1 h0).1)
  have HK6 := Lib.hid (show (c.kind == 6) = false by rw [← dec_beq]; unfold bare at h0; exact (Bool.or_eq_false_iff.1 h0).2)
  have HI := Lib.hid hi
  clear hv h0 hi
  have HA := Lib.hid hA
  have HC := Lib.hid hC
  clear hA hC
  go_enter Tryz.func8, Tryz.ntmps8
  go_upto_region 1 with fail
  obtain ⟨W, hW⟩ : ∃ W, W = ((w.alloc (.cells #[.slice oa S.A.length ca, .slice oc S.C.length cc] 30)).alloc (cmdO c)).alloc (.cells #[.slice none 0 0, .slice none 0 0, .int .i64 0, .string ⟨#[]⟩, .int .i64 0, .bool false] 35) := ⟨_, rfl⟩
  rw [← hW]
  have HD : Hid (RDo oa S.A.length ca oc S.C.length cc c w W) := Lib.hid (by rw [hW]; exact rdo_start oa S.A.length ca oc S.C.length cc c w)
  clear hW
  obtain ⟨⟨c0, c1, c2, c3, c4, c5⟩, _⟩ := box6 HD.out.cb
  go_wp2_with fail
  refine (HCK.out _).mono ?_
  rintro e w1 ⟨rfl, hb1⟩
  have HD1 := Lib.hid (HD.out.next hb1)
  clear c0 c1 c2 c3 c4 c5 hb1 HD
  obtain ⟨⟨c0, c1, c2, c3, c4, c5⟩, _⟩ := box6 HD1.out.cb
  have e0 := HK0.out
  have e6 := HK6.out
  obtain ⟨s0, s1⟩ := boxS HD1.out.sb
  go_wp2_with fail
  refine (sat_any S.C oa oc S.A.length ca cc c.client w1 (HC.out.below HD1.out.bel) _ HI.out).mono ?_
  rintro e w2 ⟨rfl, hb2⟩
  have HD2 := Lib.hid (HD1.out.next hb2)
  clear c0 c1 c2 c3 c4 c5 s0 s1 e0 e6 hb2
  go_upto_region 7 with fail
  refine wp_region_kin (by kernel_rfl) (by kernel_rfl) ?_
  repeat (go_big_quiet_step (fail))
  refine wpQuiet_nil ?_
  intro _ hxx
  obtain ⟨xk, rfl⟩ := hxx
  obtain ⟨w3, hw⟩ : ∃ x, x = xk.w := ⟨_, rfl⟩
  have HD3 := Lib.hid (HD2.out.next (w2 := w3) (by rw [hw]; exact xk.h))
  rw [← hw]
  clear hw
  go_upto_region 9 with fail
  refine wp_region_kin (by kernel_rfl) (by kernel_rfl) ?_
  repeat (go_big_quiet_step (fail))
  refine wpQuiet_nil ?_
  intro _ hxx
  obtain ⟨xk, rfl⟩ := hxx
  obtain ⟨w4, hw⟩ : ∃ x, x = xk.w := ⟨_, rfl⟩
  have HD4 := Lib.hid (HD3.out.next (w2 := w4) (by rw [hw]; exact xk.h))
  rw [← hw]
  clear hw
  obtain ⟨s0, s1⟩ := boxS HD4.out.sb
  obtain ⟨⟨c0, c1, c2, c3, c4, c5⟩, _⟩ := box6 HD4.out.cb
  go_upto_region 11 with fail
  go_wp2_with fail
  refine (refdo_v S.A oa ca c w4 (HA.out.below HD4.out.bel) N HG.out hN hs A2 R HDD.out).mono ?_
  rintro e w5 ⟨oy, cy, rfl, hsy, hb5⟩
  have HD5 := Lib.hid (HD4.out.next hb5)
  have HSY := Lib.hid hsy
  clear hsy hb5 c0 c1 c2 c3 c4 c5 s0 s1
  go_upto_region 13 with fail
  obtain ⟨y1, hw⟩ : ∃ x, x = (w5.alloc (repO R)).alloc (.cells #[.slice oy A2.length cy, .slice none 0 0] 30) := ⟨_, rfl⟩
  rw [← hw]
  have hb6 : Below w5.heap.size w5 y1 := by rw [hw]; exact ((Below.refl _ _).alloc (Nat.le_refl _) _).alloc (by simp) _
  have hsz6 : y1.heap.size = w5.heap.size + 2 := by rw [hw]; simp
  have HD6 := Lib.hid (HD5.out.next hb6)
  have HB6 := Lib.hid hb6
  have HR6 : Hid (y1.heap[w5.heap.size]? = some (repO R)) := Lib.hid (by rw [hw, heap_al, if_neg (by simp), heap_alloc_new])
  have HN6 : Hid (NewAt y1 y1 (w5.heap.size + 2) (w5.heap.size + 1) oy A2.length cy none 0 (dropC (S.C.take 0) c.client)) := Lib.hid ⟨Mods.refl _ _, by rw [List.take_zero, hw, heap_al, if_pos (by simp)]; rfl, World.ownsRow_nil _ _ _ _⟩
  have HW5 : Hid (w.heap.size + 2 < w5.heap.size) := Lib.hid (M.heap_lt HD5.out.db)
  have hw5 := HW5.out
  clear hw hb6 HD4 HD5 HA HDD
  obtain ⟨g9, hg9⟩ : ∃ g, g = w5.heap.size + 1 := ⟨_, rfl⟩
  obtain ⟨B, hB⟩ : ∃ B, B = w5.heap.size + 2 := ⟨_, rfl⟩
  obtain ⟨g8, hg8⟩ : ∃ g, g = w5.heap.size := ⟨_, rfl⟩
  have hg8w : g8 = w5.heap.size := hg8
  rw [← hg9, ← hB] at HN6
  rw [← hg9]
  rw [← hg8] at HR6 hw5
  rw [← hg8]
  have hg98 : g8 + 1 ≤ g9 ∧ g9 ≤ g8 + 1 := by omega
  have hB8 : g8 + 2 ≤ B ∧ B ≤ g8 + 2 := by omega
  have hy8 : g8 + 2 ≤ y1.heap.size ∧ y1.heap.size ≤ g8 + 2 := by omega
  have hg8w2 : g8 ≤ w5.heap.size ∧ w5.heap.size ≤ g8 := by omega
  clear hg9 hB hg8 hg8w hsz6 HW5
  go_wp2_with fail
  go_loopw [10] (fun kv wr => ∃ (k : Nat) (oo : Option Addr) (cc2 : Nat), kv = .int .i64 k ∧ k ≤ S.C.length ∧ NewAt y1 wr B g9 oy A2.length cy oo cc2 (dropC (S.C.take k) c.client)) (fun kv _ => S.C.length - (intOf kv).toNat)
  case atStart => exact ⟨0, none, 0, rfl, Nat.zero_le _, HN6.out⟩
  case round =>
    clear HN6
    obtain ⟨k, oo, cc2, rfl, hk, hna⟩ := hrel
    have HNA := Lib.hid hna
    clear hna
    obtain ⟨u, rfl⟩ : ∃ u, u = wr := ⟨_, rfl⟩
    have HS2 : Hid (u.heap[w.heap.size]? = some (.cells #[.slice oa S.A.length ca, .slice oc S.C.length cc] 30 (0, 0))) := Lib.hid (HNA.out.mods.heap HD6.out.sb (by omega))
    have hus := HNA.out.mods.size
    obtain ⟨s0, s1⟩ := boxS HS2.out
    have hDl := dropC_len (S.C.take k) c.client
    have hDl2 := List.length_take_le k S.C
    by_cases hkl : k < S.C.length
    · have hkk : (k : Int) < (S.C.length : Int) := by omega
      obtain ⟨x, hx⟩ : ∃ x, S.C[k]? = some x := ⟨_, List.getElem?_eq_getElem hkl⟩
      have hdt := dropC_take (k := c.client) HND.out hx
      rw [HI.out] at hdt
      by_cases hki : (k : Int) = i
      · have HDT := Lib.hid (hdt.2 hki)
        have e1 : ((k : Int) != i) = false := by rw [bne_eq_false_iff_eq]; exact hki
        obtain ⟨D, hD⟩ : ∃ D, D = dropC (S.C.take k) c.client := ⟨_, rfl⟩
        rw [← hD] at HNA HDT
        clear hdt hki hx hD hDl hDl2
        go_wp2_with fail
        go_roundw
        case rel => exact ⟨k + 1, oo, cc2, by go_num, by omega, by rw [HDT.out]; exact HNA.out⟩
        case measure => simp [intOf]; omega
      · have HDT := Lib.hid (hdt.1 hki)
        have e1 : ((k : Int) != i) = true := by rw [bne_iff_ne]; exact hki
        obtain ⟨D, hD⟩ : ∃ D, D = dropC (S.C.take k) c.client := ⟨_, rfl⟩
        rw [← hD] at HNA HDT hDl
        have hDlen : D.length ≤ 100000 := by omega
        have HN9 := Lib.hid HNA.out.nb
        have HOWN := Lib.hid HNA.out.own
        have HFAR := Lib.hid (show ∀ j, Owned oo j → B ≤ j from fun j ⟨a, ha, e⟩ => by rw [e]; exact (own_heap HNA.out.own a ha).choose_spec.2)
        obtain ⟨pb, po, rfl, hpl, l0, l1, l2, l3, l4⟩ := HC.out.row k x hx
        have HX := Lib.hid (show ∀ w' : World, Below u.heap.size u w' → w'.cell? ⟨pb, po + k * 5, none⟩ = some (.int .i64 x.client) ∧ w'.cell? ⟨pb, po + k * 5 + 1, none⟩ = some (.int .i64 x.seq) ∧ w'.cell? ⟨pb, po + k * 5 + 2, none⟩ = some (.int .i64 x.rep.code) ∧ w'.cell? ⟨pb, po + k * 5 + 3, none⟩ = some (.string x.rep.val) ∧ w'.cell? ⟨pb, po + k * 5 + 4, none⟩ = some (.int .i64 x.rep.rev) from fun w' hb => by
          have hpu : pb < u.heap.size := by omega
          have hc : ∀ o, w'.cell? ⟨pb, o, none⟩ = w.cell? ⟨pb, o, none⟩ := fun o =>
            (hb.cell (p := ⟨pb, o, none⟩) hpu).trans ((HNA.out.mods.cell (p := ⟨pb, o, none⟩) (by simp only; omega) (by simp only; omega)).trans (HD6.out.bel.cell (p := ⟨pb, o, none⟩) hpl))
          exact ⟨(hc _).trans l0, (hc _).trans l1, (hc _).trans l2, (hc _).trans l3, (hc _).trans l4⟩)
        obtain ⟨hcl1, hcl2⟩ := HC.out.le
        unfold maxLen at hcl2
        have hgB : g9 < B := by omega
        have hBu : B ≤ u.heap.size := by omega
        obtain ⟨i0, hii, hz0, hz1, hz2⟩ := info_parts info_last
        clear hdt hki hx hD hDl hDl2 l0 l1 l2 l3 l4 hpl s0 s1
        have s01 := boxS HS2.out
        go_upto_region 16 with fail
        obtain ⟨s0, s1⟩ := s01
        go_upto_region 17 with fail
        clear s0 s1 e1
        refine wp_region_inv (R17I u B w.heap.size g9 oy A2.length cy oo D cc2 (some ⟨pb, po, none⟩) S.C.length cc k pb po x) (by kernel_rfl) (by kernel_rfl) ?_ ?_ ?_
        · refine R17_start _ _ _ _ _ _ _ _ _ _ _ _ _ _ _ _ _ _ _ (fun _ _ _ _ _ _ _ _ _ _ => ?_)
          constructor
          all_goals (first | exact (fun _ => below_drawn u) | (intro e; cases e))
        ·
          intro listed a wx i o hI hil ho hn he
          obtain ⟨b0, b1, b2, b3, b4, b5, b6, b7, b8, b9, b10, x89, x90, x91, x92, x93, x94, x95, x96, x97, x98, rfl, rfl, h⟩ := hI
          have hin : i = 0 ∨ i = 1 ∨ i = 2 ∨ i = 3 ∨ i = 4 ∨ i = 5 ∨ i = 6 ∨ i = 7 ∨ i = 8 ∨ i = 9 ∨ i = 10 := by
            have : i < 11 := hil
            omega
          have H := Lib.hid h
          clear h hil
          rcases hin with rfl | rfl | rfl | rfl | rfl | rfl | rfl | rfl | rfl | rfl | rfl <;> obtain rfl := Option.some.inj ho
          ·
            refine wpOp_hid rfl (fun K hK => ?_)
            simp only [List.setIfInBounds_toArray, List.set_cons_succ, List.set_cons_zero]
            go_simp
            refine hK.out _ _ ⟨true, b1, b2, b3, b4, b5, b6, b7, b8, b9, b10, (.pointer (some ⟨g9, 1, none⟩)), x90, x91, x92, x93, x94, x95, x96, x97, x98, rfl, ?_, ?_⟩
            · simp only [List.setIfInBounds_toArray, List.set_cons_succ, List.set_cons_zero]
            exact { H.out with
              k0 := fun _ => rfl
              c1_0 := fun _ => rfl }
          ·
            have hy8 : b8 = false := by
              cases h : b8 with
              | false => rfl
              | true =>
                have h1 := (H.out.c8_1 h)
                have h2 : b1 = false := hn
                rw [h2] at h1
                cases h1
            have d0 : b0 = true := he { on := 0, ground := .data } (by simp) (by kernel_rfl)
            obtain rfl := H.out.k0 d0
            refine wpOp_hid rfl (fun K hK => ?_)
            simp only [List.setIfInBounds_toArray, List.set_cons_succ, List.set_cons_zero]
            have hbl := H.out.kin hy8
            obtain ⟨⟨n0, n1⟩, _⟩ := box2 ((hbl.block _ (M.heap_lt HN9.out)).trans HN9.out)
            clear hbl
            go_simp
            refine hK.out _ _ ⟨b0, true, b2, b3, b4, b5, b6, b7, b8, b9, b10, (.pointer (some ⟨g9, 1, none⟩)), (.slice oo D.length cc2), x91, x92, x93, x94, x95, x96, x97, x98, rfl, ?_, ?_⟩
            · simp only [List.setIfInBounds_toArray, List.set_cons_succ, List.set_cons_zero]
            exact { H.out with
              k1 := fun _ => rfl
              c1_0 := fun _ => d0
              c8_1 := fun _ => rfl }
          ·
            refine wpOp_hid rfl (fun K hK => ?_)
            simp only [List.setIfInBounds_toArray, List.set_cons_succ, List.set_cons_zero]
            go_simp
            refine hK.out _ _ ⟨b0, b1, true, b3, b4, b5, b6, b7, b8, b9, b10, x89, x90, (.pointer (some ⟨w.heap.size, 1, none⟩)), x92, x93, x94, x95, x96, x97, x98, rfl, ?_, ?_⟩
            · simp only [List.setIfInBounds_toArray, List.set_cons_succ, List.set_cons_zero]
            exact { H.out with
              k2 := fun _ => rfl
              c3_2 := fun _ => rfl }
          ·
            have hy8 : b8 = false := by
              cases h : b8 with
              | false => rfl
              | true =>
                have h1 := (H.out.c5_3 (H.out.c6_5 (H.out.c7_6 (H.out.c8_7 h))))
                have h2 : b3 = false := hn
                rw [h2] at h1
                cases h1
            have d2 : b2 = true := he { on := 2, ground := .data } (by simp) (by kernel_rfl)
            obtain rfl := H.out.k2 d2
            refine wpOp_hid rfl (fun K hK => ?_)
            simp only [List.setIfInBounds_toArray, List.set_cons_succ, List.set_cons_zero]
            have hbl := H.out.kin hy8
            obtain ⟨⟨n0, n1⟩, _⟩ := box2 ((hbl.block _ (M.heap_lt HS2.out)).trans HS2.out)
            clear hbl
            go_simp
            refine hK.out _ _ ⟨b0, b1, b2, true, b4, b5, b6, b7, b8, b9, b10, x89, x90, (.pointer (some ⟨w.heap.size, 1, none⟩)), (.slice (some ⟨pb, po, none⟩) S.C.length cc), x93, x94, x95, x96, x97, x98, rfl, ?_, ?_⟩
            · simp only [List.setIfInBounds_toArray, List.set_cons_succ, List.set_cons_zero]
            exact { H.out with
              k3 := fun _ => rfl
              c3_2 := fun _ => d2
              c5_3 := fun _ => rfl }
          ·
            refine wpOp_hid rfl (fun K hK => ?_)
            simp only [List.setIfInBounds_toArray, List.set_cons_succ, List.set_cons_zero]
            go_simp
            refine hK.out _ _ ⟨b0, b1, b2, b3, true, b5, b6, b7, b8, b9, b10, x89, x90, x91, x92, (.int .i64 (k : Int)), x94, x95, x96, x97, x98, rfl, ?_, ?_⟩
            · simp only [List.setIfInBounds_toArray, List.set_cons_succ, List.set_cons_zero]
            exact { H.out with
              k4 := fun _ => rfl
              c5_4 := fun _ => rfl }
          ·
            have d3 : b3 = true := he { on := 3, ground := .data } (by simp) (by kernel_rfl)
            obtain rfl := H.out.k3 d3
            have d4 : b4 = true := he { on := 4, ground := .data } (by simp) (by kernel_rfl)
            obtain rfl := H.out.k4 d4
            refine wpOp_hid rfl (fun K hK => ?_)
            simp only [List.setIfInBounds_toArray, List.set_cons_succ, List.set_cons_zero]
            go_simp
            refine hK.out _ _ ⟨b0, b1, b2, b3, b4, true, b6, b7, b8, b9, b10, x89, x90, x91, (.slice (some ⟨pb, po, none⟩) S.C.length cc), (.int .i64 (k : Int)), (.pointer (some ⟨pb, po + k * 5, none⟩)), x95, x96, x97, x98, rfl, ?_, ?_⟩
            · simp only [List.setIfInBounds_toArray, List.set_cons_succ, List.set_cons_zero]
            exact { H.out with
              k5 := fun _ => rfl
              c5_3 := fun _ => d3
              c5_4 := fun _ => d4
              c6_5 := fun _ => rfl }
          ·
            have hy8 : b8 = false := by
              cases h : b8 with
              | false => rfl
              | true =>
                have h1 := (H.out.c7_6 (H.out.c8_7 h))
                have h2 : b6 = false := hn
                rw [h2] at h1
                cases h1
            have d5 : b5 = true := he { on := 5, ground := .data } (by simp) (by kernel_rfl)
            obtain rfl := H.out.k5 d5
            refine wpOp_hid rfl (fun K hK => ?_)
            simp only [List.setIfInBounds_toArray, List.set_cons_succ, List.set_cons_zero]
            have hbl := H.out.kin hy8
            obtain ⟨n0, n1, n2, n3, n4⟩ := HX.out _ hbl
            clear hbl
            go_simp
            refine hK.out _ _ ⟨b0, b1, b2, b3, b4, b5, true, b7, b8, b9, b10, x89, x90, x91, x92, x93, (.pointer (some ⟨pb, po + k * 5, none⟩)), (.agg #[.int .i64 x.client, .int .i64 x.seq, .int .i64 x.rep.code, .string x.rep.val, .int .i64 x.rep.rev]), x96, x97, x98, rfl, ?_, ?_⟩
            · simp only [List.setIfInBounds_toArray, List.set_cons_succ, List.set_cons_zero]
            exact { H.out with
              k6 := fun _ => rfl
              c6_5 := fun _ => d5
              c7_6 := fun _ => rfl }
          ·
            have hy8 : b8 = false := by
              cases h : b8 with
              | false => rfl
              | true =>
                have h1 := (H.out.c8_7 h)
                have h2 : b7 = false := hn
                rw [h2] at h1
                cases h1
            have hy10 : b10 = false := by
              cases h : b10 with
              | false => rfl
              | true =>
                have h1 := (H.out.c8_7 (H.out.c10_8 h))
                have h2 : b7 = false := hn
                rw [h2] at h1
                cases h1
            have d6 : b6 = true := he { on := 6, ground := .data } (by simp) (by kernel_rfl)
            obtain rfl := H.out.k6 d6
            subst hy8 hy10
            have HBL := Lib.hid ((H.out.kin rfl).trans (((Below.refl wx.heap.size wx).alloc (Nat.le_refl _) (.cells (lastC x).toArray 45)).mono (H.out.kin rfl).size))
            refine wpOp_hid rfl (fun K hK => ?_)
            simp only [List.setIfInBounds_toArray, List.set_cons_succ, List.set_cons_zero]
            go_simp
            refine hK.out _ _ ⟨b0, b1, b2, b3, b4, b5, b6, true, false, b9, false, x89, x90, x91, x92, x93, x94, (.agg #[.int .i64 x.client, .int .i64 x.seq, .int .i64 x.rep.code, .string x.rep.val, .int .i64 x.rep.rev]), (.slice (some ⟨wx.heap.size, 0, none⟩) 1 1), x97, x98, rfl, ?_, ?_⟩
            · simp only [List.setIfInBounds_toArray, List.set_cons_succ, List.set_cons_zero]
            exact { H.out with
              kin := fun _ => HBL.out
              kb := fun _ _ => ⟨wx.heap.size, rfl, heap_alloc_new wx _⟩
              ka := fun e => by cases e
              ks := fun e => by cases e
              c7_6 := fun _ => d6
              c8_7 := fun _ => rfl }
          ·
            have hap : b8 = false := hn
            have hy10 : b10 = false := by
              cases h : b10 with
              | false => rfl
              | true =>
                have h1 := (H.out.c10_8 h)
                have h2 : b8 = false := hn
                rw [h2] at h1
                cases h1
            have d1 : b1 = true := he { on := 1, ground := .data } (by simp) (by kernel_rfl)
            obtain rfl := H.out.k1 d1
            have d7 : b7 = true := he { on := 7, ground := .data } (by simp) (by kernel_rfl)
            subst hap hy10
            obtain ⟨gn, rfl, hgn⟩ := H.out.kb d7 rfl
            have hbl := H.out.kin rfl
            have HOW := Lib.hid (own_kept HOWN.out (S := fun _ => False) (Mods.of_below hbl) (fun _ _ h => h))
            have HM := Lib.hid (Mods.of_below (S := Owned oo) hbl)
            have HCL := Lib.hid (fun (j : Nat) (v : Value) (hv : (lastC x)[j]? = some v) => last_cell hgn hv)
            have hsz0 := hbl.size
            clear hbl hgn
            refine wpOp_hid rfl (fun K hK => ?_)
            simp only [List.setIfInBounds_toArray, List.set_cons_succ, List.set_cons_zero]
            rw [if_pos (by rfl)]
            refine wp_append_own wx (.tmp 90) (.tmp 96) 28 (by rfl) B 45 i0 _ 5 48 Tryz.underlying28 hii hz0 hz1 hz2 rfl (by decide) (.slice oo D.length cc2) D.length (cellsC D) (by rfl) (by exact HOW.out) ⟨gn, 0, none⟩ 1 1 (lastC x) (by rfl) (by rfl) (by exact fun j v hv => HCL.out j v hv) (by simp [Value.oneCell']) (by unfold maxLen; omega) (by omega) (by omega) (fun v2 w2 hown hgrow _ => ?_)
            obtain ⟨ao, cap, rfl, _⟩ := M.own_view hown
            refine hK.out _ _ ⟨b0, b1, b2, b3, b4, b5, b6, b7, true, b9, false, x89, (.slice oo D.length cc2), x91, x92, x93, x94, x95, (.slice (some ⟨gn, 0, none⟩) 1 1), (.slice ao (D.length + 1) cap), x98, rfl, ?_, ?_⟩
            · simp only [Act.put, List.getElem_toArray, List.getElem_cons_succ, List.getElem_cons_zero, List.setIfInBounds_toArray, List.set_cons_succ, List.set_cons_zero]
            exact { H.out with
              kin := fun e => by cases e
              kb := fun _ e => by cases e
              ka := fun _ _ => ⟨ao, cap, rfl, hown, HM.out.grown hgrow (fun j hj _ => owned_of hj)⟩
              ks := fun e => by cases e
              c8_1 := fun _ => d1
              c8_7 := fun _ => d7
              c10_8 := fun _ => rfl }
          ·
            refine wpOp_hid rfl (fun K hK => ?_)
            simp only [List.setIfInBounds_toArray, List.set_cons_succ, List.set_cons_zero]
            go_simp
            refine hK.out _ _ ⟨b0, b1, b2, b3, b4, b5, b6, b7, b8, true, b10, x89, x90, x91, x92, x93, x94, x95, x96, x97, (.pointer (some ⟨g9, 1, none⟩)), rfl, ?_, ?_⟩
            · simp only [List.setIfInBounds_toArray, List.set_cons_succ, List.set_cons_zero]
            exact { H.out with
              k9 := fun _ => rfl
              c10_9 := fun _ => rfl }
          ·
            have hst : b10 = false := hn
            have d9 : b9 = true := he { on := 9, ground := .data } (by simp) (by kernel_rfl)
            obtain rfl := H.out.k9 d9
            have d8 : b8 = true := he { on := 8, ground := .data } (by simp) (by kernel_rfl)
            subst hst
            obtain ⟨ao, cap, rfl, hown, hm⟩ := H.out.ka d8 rfl
            have HOWN2 := Lib.hid hown
            have HM2 := Lib.hid hm
            have hg9 := hm.heap HN9.out (fun e => absurd (HFAR.out _ e) (by omega))
            have HG9 := Lib.hid hg9
            obtain ⟨⟨n0, n1⟩, nf, _⟩ := box2 hg9
            clear hown hm hg9
            refine wpOp_hid rfl (fun K hK => ?_)
            simp only [List.setIfInBounds_toArray, List.set_cons_succ, List.set_cons_zero]
            go_simp
            refine hK.out _ _ ⟨b0, b1, b2, b3, b4, b5, b6, b7, b8, b9, true, x89, x90, x91, x92, x93, x94, x95, x96, (.slice ao (D.length + 1) cap), (.pointer (some ⟨g9, 1, none⟩)), rfl, ?_, ?_⟩
            · simp only [List.setIfInBounds_toArray, List.set_cons_succ, List.set_cons_zero]
            have ms : Mods (fun j => j = g9) wx (wx.setCell ⟨g9, 1, none⟩ (.slice ao (D.length + 1) cap)) := mods_set
            have hs9 := heap_set wx g9 1 (.slice ao (D.length + 1) cap) g9 _ _ _ HG9.out
            rw [if_pos rfl] at hs9
            exact { H.out with
              kin := fun e => by rw [d8] at e; cases e
              kb := fun _ e => by rw [d8] at e; cases e
              ka := fun _ e => by cases e
              ks := fun _ => ⟨ao, cap, own_kept HOWN2.out ms (fun j hj e => absurd (own_ge HOWN2.out hj) (by omega)), (HM2.out.mono (fun _ _ e => .inl e)).trans (ms.mono (fun _ _ e => .inr e)), hs9⟩
              c10_9 := fun _ => d9
              c10_8 := fun _ => d8 }
        · intro listed a wx hI hall
          obtain ⟨b0, b1, b2, b3, b4, b5, b6, b7, b8, b9, b10, x89, x90, x91, x92, x93, x94, x95, x96, x97, x98, rfl, rfl, h⟩ := hI
          obtain rfl : b10 = true := hall 10 (by decide)
          obtain ⟨ao, cap, ho, hm, hn⟩ := h.ks rfl
          have HMO := Lib.hid (HNA.out.more (by omega) ho hm hn)
          clear h ho hm hn
          simp only [List.setIfInBounds_toArray, List.set_cons_succ, List.set_cons_zero]
          go_wp2_with fail
          go_roundw
          case rel => exact ⟨k + 1, ao, cap, by go_num, by omega, by rw [HDT.out]; exact HMO.out⟩
          case measure => simp [intOf]; omega
    · obtain rfl : k = S.C.length := by omega
      have hkk : ¬ (S.C.length : Int) < (S.C.length : Int) := by omega
      rw [dropC_all] at HNA hDl
      obtain ⟨D, hD⟩ : ∃ D, D = dropC S.C c.client := ⟨_, rfl⟩
      rw [← hD] at HNA hDl
      have HDE := Lib.hid hD
      have hDlen : D.length ≤ 100000 := by omega
      obtain ⟨x, hx1, hx2, hx3⟩ : ∃ x : Lst, x.client = c.client ∧ x.seq = c.seq ∧ x.rep = R := ⟨⟨c.client, c.seq, R⟩, rfl, rfl, rfl⟩
      have HXE : Hid (x = ⟨c.client, c.seq, R⟩) := Lib.hid (by cases x; simp only at hx1 hx2 hx3; rw [hx1, hx2, hx3])
      have HN9 := Lib.hid HNA.out.nb
      have HOWN := Lib.hid HNA.out.own
      have HFAR := Lib.hid (show ∀ j, Owned oo j → B ≤ j from fun j ⟨a, ha, e⟩ => by rw [e]; exact (own_heap HNA.out.own a ha).choose_spec.2)
      have HC3 : Hid (u.heap[w.heap.size + 1]? = some (.cells #[.int .i64 c.kind, .int .i64 x.client, .int .i64 x.seq, .string c.key, .string c.val, .int .i64 c.rev] 38 (0, 0))) := Lib.hid (by rw [hx1, hx2]; exact HNA.out.mods.heap HD6.out.cb (by omega))
      have HR8 : Hid (u.heap[g8]? = some (repO x.rep)) := Lib.hid (by rw [hx3]; exact HNA.out.mods.heap HR6.out (by omega))
      have hgB : g9 < B := by omega
      have hBu : B ≤ u.heap.size := by omega
      obtain ⟨i0, hii, hz0, hz1, hz2⟩ := info_parts info_last
      clear hx1 hx2 hx3 hD hDl2
      go_upto_region 18 with fail
      clear s0 s1
      obtain ⟨⟨n0, n1⟩, nf, _⟩ := box2 HN9.out
      obtain ⟨⟨c0, c1, c2, c3, c4, c5⟩, _⟩ := box6 HC3.out
      obtain ⟨⟨r0, r1, r2⟩, _, _⟩ := box3 HR8.out
      go_upto_region 19 with (refine wpList_append_lies _ (by rfl) (.tmp 100) (.tmp 107) 28 (by rfl) B 45 i0 _ 5 48 Tryz.underlying28 hii hz0 hz1 hz2 rfl (by decide) (.slice oo D.length cc2) D.length (cellsC D) (by rfl) (by exact HOWN.out.alloc _) ⟨u.heap.size, 0, none⟩ 1 1 (lastC x) (by rfl) (by rfl) (World.news_of_block (cs := (lastC x).toArray) (t := 45) (fr := (0, 0)) (heap_alloc_new u _)) (by simp [Value.oneCell']) (by omega) (by unfold maxLen; omega) (by omega) (by simp; omega) (u.heap.size + 1) (by simp) ?_; intro gg cg w7 hown hgrow hat hlt7; have hM7 := ((Mods.refl (Owned oo) u).alloc (.cells (lastC x).toArray 45)).grown hgrow (fun j hj _ => owned_of hj); have HM7 := Lib.hid hM7; have HOW7 := Lib.hid hown; have hg9 := hM7.heap HN9.out (fun e => absurd (HFAR.out _ e) (by omega)); have HG9 := Lib.hid hg9; clear n0 n1 nf c0 c1 c2 c3 c4 c5 r0 r1 r2 hown hgrow hat hM7; obtain ⟨⟨n0, n1⟩, nf, _⟩ := box2 hg9; clear hg9)
      clear n0 n1 nf
      obtain ⟨wx, hwx⟩ : ∃ x, x = w7.setCell ⟨g9, 1, none⟩ (.slice (some ⟨gg, 0, none⟩) (D.length + 1) cg) := ⟨_, rfl⟩
      rw [← hwx]
      have ms : Mods (fun j => j = g9) w7 wx := by rw [hwx]; exact mods_set
      have hs9 := heap_set w7 g9 1 (.slice (some ⟨gg, 0, none⟩) (D.length + 1) cg) g9 _ _ _ HG9.out
      rw [if_pos rfl, ← hwx] at hs9
      have HMO := Lib.hid (HNA.out.more (by omega) (own_kept HOW7.out ms (fun j hj e => absurd (own_ge HOW7.out hj) (by omega))) ((HM7.out.mono (fun _ _ e => .inl e)).trans (ms.mono (fun _ _ e => .inr e))) hs9)
      clear hwx ms hs9
      have hbel : Below w.heap.size w wx := HD6.out.bel.trans (HMO.out.mods.below (B := w.heap.size) (fun j e => by omega) HD6.out.bel.size)
      have HBE := Lib.hid hbel
      have HDB := Lib.hid (HMO.out.mods.heap HD6.out.db (by omega))
      have hr8 := HMO.out.mods.heap HR6.out (by omega)
      have hn9 := HMO.out.nb
      have hb5x : Below w5.heap.size w5 wx := HB6.out.trans (HMO.out.mods.below (B := w5.heap.size) (fun j e => by omega) HB6.out.size)
      have HSE := Lib.hid (HSY.out.below hb5x)
      clear hb5x
      have HDB1 : Hid (wx.heap[w.heap.size + 1 + 1]? = some (.cells #[.slice none 0 0, .slice none 0 0, .int .i64 0, .string ⟨#[]⟩, .int .i64 0, .bool false] 35 (0, 0))) := Lib.hid HDB.out
      have m6 := mods6 (w := wx) (r := w.heap.size + 1 + 1) (u0 := .slice oy A2.length cy) (u1 := .slice (some ⟨gg, 0, none⟩) (D.length + 1) cg) (u2 := .int .i64 R.code) (u3 := .string R.val) (u4 := .int .i64 R.rev) (u5 := .bool true)
      have hown := own_kept HMO.out.own m6 (fun j hj e => absurd (own_ge HMO.out.own hj) (by omega))
      have HFIN := Lib.hid (show SPost ⟨A2, dropC S.C c.client ++ [⟨c.client, c.seq, R⟩]⟩ R true w (.returned (.agg #[.slice oy A2.length cy, .slice (some ⟨gg, 0, none⟩) (D.length + 1) cg, .int .i64 R.code, .string R.val, .int .i64 R.rev, .bool true])) _ from by
        have h1 := HDE.out
        have h2 := HXE.out
        refine ⟨oy, cy, some ⟨gg, 0, none⟩, cg, ?_, HSE.out.apart HDB1.out m6, ?_, set6_below (by omega) HBE.out⟩
        · subst h1 h2
          rw [List.length_append]
          rfl
        · have := LstV.of_own hown
          show LstV _ _ _ (dropC S.C c.client ++ [⟨c.client, c.seq, R⟩])
          rw [← h1, ← h2]
          exact this)
      clear m6 hown
      obtain ⟨n0, n1⟩ := boxS hn9
      obtain ⟨⟨r0, r1, r2⟩, _, _⟩ := box3 hr8
      obtain ⟨⟨d0, d1, d2, d3, d4, d5⟩, fd⟩ := box6 HDB.out
      clear hr8 hn9 hbel
      go_wp2_with fail
      refine ret_box (w.heap.size + 1 + 1) #[.slice oy A2.length cy, .slice (some ⟨gg, 0, none⟩) (D.length + 1) cg, .int .i64 R.code, .string R.val, .int .i64 R.rev, .bool true] 35 (.agg #[.slice oy A2.length cy, .slice (some ⟨gg, 0, none⟩) (D.length + 1) cg, .int .i64 R.code, .string R.val, .int .i64 R.rev, .bool true]) ?_ (fun W' h => ?_) rfl ?_
      · exact set6 HDB1.out
      · obtain ⟨⟨r0, r1, r2, r3, r4, r5⟩, _⟩ := box6 h
        clear HFIN HMO HNA HD6 HSY HOW7 HM7 HSE
        simp [results, Tryz.results8, go_sem, r0, r1, r2, r3, r4, r5]
      · exact HFIN.out
set_option maxRecDepth 100000 in
set_option maxHeartbeats 20000000 in
theorem sref_new1 (S : Ses) (oa oc : Option Addr) (ca cc : Nat) (c : Cmd) (w : World) (hA : SetsV w oa ca S.A) (hC : LstV w oc cc S.C) (hs : c.key.size ≤ 1000000) (hv : chk c = 0) (h0 : bare c = false) (N : Nat) (hG : Good N S.A) (hN : N ≤ 100000) (hnd : (S.C.map Lst.client).Nodup) (hlen : S.C.length ≤ 90000) (A2 : List Ent) (R : Rep) (hd : appDo S.A c = (A2, R)) (i : Int) (hi : atC S.C c.client = i) (j : Nat) (x : Lst) (hij : i = (j : Int)) (hj : S.C[j]? = some x) (hq : x.seq < c.seq) : Calls Tryz.prog 8 #[.agg #[.slice oa S.A.length ca, .slice oc S.C.length cc], cmdV c] w (SPost ⟨A2, dropC S.C c.client ++ [⟨c.client, c.seq, R⟩]⟩ R true w) := by
  subst hij
  have HJ := Lib.hid hj
  have hjl := (List.getElem?_eq_some_iff.1 hj).1
  have hji : (j : Int) < (S.C.length : Int) := by omega
  have hj0 : (0 : Int) ≤ (j : Int) := by omega
  obtain ⟨hle1, hle2⟩ := hC.le
  unfold maxLen at hle2
  clear hj
  have HG := Lib.hid hG
  have HND := Lib.hid hnd
  have HDD := Lib.hid hd
  clear hG hnd hd
  have HQ := Lib.hid (show (x.seq == c.seq) = false by rw [beq_eq_false_iff_ne]; omega)
  have HQ2 := Lib.hid (show decide (c.seq < x.seq) = false from decide_eq_false (by omega))
  clear hq
  have HCK := Lib.hid (fun W => refcheck_v c W hs 0 hv)
  have HK0 := Lib.hid (show (c.kind == 0) = false by rw [← dec_beq]; unfold bare at h0; exact (Bool.or_eq_false_iff.1 h0).1)
  have HK6 := Lib.hid (show (c.kind == 6) = false by rw [← dec_beq]; unfold bare at h0; exact (Bool.or_eq_false_iff.1 h0).2)
  have HI := Lib.hid hi
  clear hv h0 hi
  have HA := Lib.hid hA
  have HC := Lib.hid hC
  clear hA hC
  go_enter Tryz.func8, Tryz.ntmps8
  go_upto_region 1 with fail
  obtain ⟨W, hW⟩ : ∃ W, W = ((w.alloc (.cells #[.slice oa S.A.length ca, .slice oc S.C.length cc] 30)).alloc (cmdO c)).alloc (.cells #[.slice none 0 0, .slice none 0 0, .int .i64 0, .string ⟨#[]⟩, .int .i64 0, .bool false] 35) := ⟨_, rfl⟩
  rw [← hW]
  have HD : Hid (RDo oa S.A.length ca oc S.C.length cc c w W) := Lib.hid (by rw [hW]; exact rdo_start oa S.A.length ca oc S.C.length cc c w)
  clear hW
  obtain ⟨⟨c0, c1, c2, c3, c4, c5⟩, _⟩ := box6 HD.out.cb
  go_wp2_with fail
  refine (HCK.out _).mono ?_
  rintro e w1 ⟨rfl, hb1⟩
  have HD1 := Lib.hid (HD.out.next hb1)
  clear c0 c1 c2 c3 c4 c5 hb1 HD
  obtain ⟨⟨c0, c1, c2, c3, c4, c5⟩, _⟩ := box6 HD1.out.cb
  have e0 := HK0.out
  have e6 := HK6.out
  obtain ⟨s0, s1⟩ := boxS HD1.out.sb
  go_wp2_with fail
  refine (sat_any S.C oa oc S.A.length ca cc c.client w1 (HC.out.below HD1.out.bel) _ HI.out).mono ?_
  rintro e w2 ⟨rfl, hb2⟩
  have HD2 := Lib.hid (HD1.out.next hb2)
  clear c0 c1 c2 c3 c4 c5 s0 s1 e0 e6 hb2
  go_upto_region 7 with fail
  obtain ⟨b, off, hoc, hbl, l0, l1, _, _, _⟩ := HC.out.row j x HJ.out
  have hl1 := (HD2.out.bel.cell (p := ⟨b, _, none⟩) hbl).trans l1
  obtain ⟨⟨_, _, c2, _, _, _⟩, _⟩ := box6 HD2.out.cb
  have s1 := (boxS HD2.out.sb).2
  rw [hoc] at s1
  have k0 := Kin.cell s1
  have k1 := Kin.cell hl1
  have k2 := Kin.cell c2
  clear l0 l1 hl1 c2 s1 hoc hbl
  have e1 := HQ.out
  refine wp_region_kin (by kernel_rfl) (by kernel_rfl) ?_
  repeat (go_big_quiet_step (fail))
  refine wpQuiet_nil ?_
  intro _ hxx
  obtain ⟨xk, rfl⟩ := hxx
  obtain ⟨w3, hw⟩ : ∃ x, x = xk.w := ⟨_, rfl⟩
  have HD3 := Lib.hid (HD2.out.next (w2 := w3) (by rw [hw]; exact xk.h))
  rw [← hw]
  clear hw
  clear k0 k1 k2 e1
  go_upto_region 9 with fail
  obtain ⟨b, off, hoc, hbl, l0, l1, _, _, _⟩ := HC.out.row j x HJ.out
  have hl1 := (HD3.out.bel.cell (p := ⟨b, _, none⟩) hbl).trans l1
  obtain ⟨⟨_, _, c2, _, _, _⟩, _⟩ := box6 HD3.out.cb
  have s1 := (boxS HD3.out.sb).2
  rw [hoc] at s1
  have k0 := Kin.cell s1
  have k1 := Kin.cell hl1
  have k2 := Kin.cell c2
  clear l0 l1 hl1 c2 s1 hoc hbl
  have e2 := HQ2.out
  refine wp_region_kin (by kernel_rfl) (by kernel_rfl) ?_
  repeat (go_big_quiet_step (fail))
  refine wpQuiet_nil ?_
  intro _ hxx
  obtain ⟨xk, rfl⟩ := hxx
  obtain ⟨w4, hw⟩ : ∃ x, x = xk.w := ⟨_, rfl⟩
  have HD4 := Lib.hid (HD3.out.next (w2 := w4) (by rw [hw]; exact xk.h))
  rw [← hw]
  clear hw
  clear k0 k1 k2 e2 HJ hjl hji hj0 hle1 hle2 HQ HQ2
  obtain ⟨i, hi⟩ : ∃ i : Int, i = (j : Int) := ⟨_, rfl⟩
  rw [← hi] at HI ⊢
  clear hi
  obtain ⟨s0, s1⟩ := boxS HD4.out.sb
  obtain ⟨⟨c0, c1, c2, c3, c4, c5⟩, _⟩ := box6 HD4.out.cb
  go_upto_region 11 with fail
  go_wp2_with fail
  refine (refdo_v S.A oa ca c w4 (HA.out.below HD4.out.bel) N HG.out hN hs A2 R HDD.out).mono ?_
  rintro e w5 ⟨oy, cy, rfl, hsy, hb5⟩
  have HD5 := Lib.hid (HD4.out.next hb5)
  have HSY := Lib.hid hsy
  clear hsy hb5 c0 c1 c2 c3 c4 c5 s0 s1
  go_upto_region 13 with fail
  obtain ⟨y1, hw⟩ : ∃ x, x = (w5.alloc (repO R)).alloc (.cells #[.slice oy A2.length cy, .slice none 0 0] 30) := ⟨_, rfl⟩
  rw [← hw]
  have hb6 : Below w5.heap.size w5 y1 := by rw [hw]; exact ((Below.refl _ _).alloc (Nat.le_refl _) _).alloc (by simp) _
  have hsz6 : y1.heap.size = w5.heap.size + 2 := by rw [hw]; simp
  have HD6 := Lib.hid (HD5.out.next hb6)
  have HB6 := Lib.hid hb6
  have HR6 : Hid (y1.heap[w5.heap.size]? = some (repO R)) := Lib.hid (by rw [hw, heap_al, if_neg (by simp), heap_alloc_new])
  have HN6 : Hid (NewAt y1 y1 (w5.heap.size + 2) (w5.heap.size + 1) oy A2.length cy none 0 (dropC (S.C.take 0) c.client)) := Lib.hid ⟨Mods.refl _ _, by rw [List.take_zero, hw, heap_al, if_pos (by simp)]; rfl, World.ownsRow_nil _ _ _ _⟩
  have HW5 : Hid (w.heap.size + 2 < w5.heap.size) := Lib.hid (M.heap_lt HD5.out.db)
  have hw5 := HW5.out
  clear hw hb6 HD4 HD5 HA HDD
  obtain ⟨g9, hg9⟩ : ∃ g, g = w5.heap.size + 1 := ⟨_, rfl⟩
  obtain ⟨B, hB⟩ : ∃ B, B = w5.heap.size + 2 := ⟨_, rfl⟩
  obtain ⟨g8, hg8⟩ : ∃ g, g = w5.heap.size := ⟨_, rfl⟩
  have hg8w : g8 = w5.heap.size := hg8
  rw [← hg9, ← hB] at HN6
  rw [← hg9]
  rw [← hg8] at HR6 hw5
  rw [← hg8]
  have hg98 : g8 + 1 ≤ g9 ∧ g9 ≤ g8 + 1 := by omega
  have hB8 : g8 + 2 ≤ B ∧ B ≤ g8 + 2 := by omega
  have hy8 : g8 + 2 ≤ y1.heap.size ∧ y1.heap.size ≤ g8 + 2 := by omega
  have hg8w2 : g8 ≤ w5.heap.size ∧ w5.heap.size ≤ g8 := by omega
  clear hg9 hB hg8 hg8w hsz6 HW5
  go_wp2_with fail
  go_loopw [10] (fun kv wr => ∃ (k : Nat) (oo : Option Addr) (cc2 : Nat), kv = .int .i64 k ∧ k ≤ S.C.length ∧ NewAt y1 wr B g9 oy A2.length cy oo cc2 (dropC (S.C.take k) c.client)) (fun kv _ => S.C.length - (intOf kv).toNat)
  case atStart => exact ⟨0, none, 0, rfl, Nat.zero_le _, HN6.out⟩
  case round =>
    clear HN6
    obtain ⟨k, oo, cc2, rfl, hk, hna⟩ := hrel
    have HNA := Lib.hid hna
    clear hna
    obtain ⟨u, rfl⟩ : ∃ u, u = wr := ⟨_, rfl⟩
    have HS2 : Hid (u.heap[w.heap.size]? = some (.cells #[.slice oa S.A.length ca, .slice oc S.C.length cc] 30 (0, 0))) := Lib.hid (HNA.out.mods.heap HD6.out.sb (by omega))
    have hus := HNA.out.mods.size
    obtain ⟨s0, s1⟩ := boxS HS2.out
    have hDl := dropC_len (S.C.take k) c.client
    have hDl2 := List.length_take_le k S.C
    by_cases hkl : k < S.C.length
    · have hkk : (k : Int) < (S.C.length : Int) := by omega
      obtain ⟨x, hx⟩ : ∃ x, S.C[k]? = some x := ⟨_, List.getElem?_eq_getElem hkl⟩
      have hdt := dropC_take (k := c.client) HND.out hx
      rw [HI.out] at hdt
      by_cases hki : (k : Int) = i
      · have HDT := Lib.hid (hdt.2 hki)
        have e1 : ((k : Int) != i) = false := by rw [bne_eq_false_iff_eq]; exact hki
        obtain ⟨D, hD⟩ : ∃ D, D = dropC (S.C.take k) c.client := ⟨_, rfl⟩
        rw [← hD] at HNA HDT
        clear hdt hki hx hD hDl hDl2
        go_wp2_with fail
        go_roundw
        case rel => exact ⟨k + 1, oo, cc2, by go_num, by omega, by rw [HDT.out]; exact HNA.out⟩
        case measure => simp [intOf]; omega
      · have HDT := Lib.hid (hdt.1 hki)
        have e1 : ((k : Int) != i) = true := by rw [bne_iff_ne]; exact hki
        obtain ⟨D, hD⟩ : ∃ D, D = dropC (S.C.take k) c.client := ⟨_, rfl⟩
        rw [← hD] at HNA HDT hDl
        have hDlen : D.length ≤ 100000 := by omega
        have HN9 := Lib.hid HNA.out.nb
        have HOWN := Lib.hid HNA.out.own
        have HFAR := Lib.hid (show ∀ j, Owned oo j → B ≤ j from fun j ⟨a, ha, e⟩ => by rw [e]; exact (own_heap HNA.out.own a ha).choose_spec.2)
        obtain ⟨pb, po, rfl, hpl, l0, l1, l2, l3, l4⟩ := HC.out.row k x hx
        have HX := Lib.hid (show ∀ w' : World, Below u.heap.size u w' → w'.cell? ⟨pb, po + k * 5, none⟩ = some (.int .i64 x.client) ∧ w'.cell? ⟨pb, po + k * 5 + 1, none⟩ = some (.int .i64 x.seq) ∧ w'.cell? ⟨pb, po + k * 5 + 2, none⟩ = some (.int .i64 x.rep.code) ∧ w'.cell? ⟨pb, po + k * 5 + 3, none⟩ = some (.string x.rep.val) ∧ w'.cell? ⟨pb, po + k * 5 + 4, none⟩ = some (.int .i64 x.rep.rev) from fun w' hb => by
          have hpu : pb < u.heap.size := by omega
          have hc : ∀ o, w'.cell? ⟨pb, o, none⟩ = w.cell? ⟨pb, o, none⟩ := fun o =>
            (hb.cell (p := ⟨pb, o, none⟩) hpu).trans ((HNA.out.mods.cell (p := ⟨pb, o, none⟩) (by simp only; omega) (by simp only; omega)).trans (HD6.out.bel.cell (p := ⟨pb, o, none⟩) hpl))
          exact ⟨(hc _).trans l0, (hc _).trans l1, (hc _).trans l2, (hc _).trans l3, (hc _).trans l4⟩)
        obtain ⟨hcl1, hcl2⟩ := HC.out.le
        unfold maxLen at hcl2
        have hgB : g9 < B := by omega
        have hBu : B ≤ u.heap.size := by omega
        obtain ⟨i0, hii, hz0, hz1, hz2⟩ := info_parts info_last
        clear hdt hki hx hD hDl hDl2 l0 l1 l2 l3 l4 hpl s0 s1
        have s01 := boxS HS2.out
        go_upto_region 16 with fail
        obtain ⟨s0, s1⟩ := s01
        go_upto_region 17 with fail
        clear s0 s1 e1
        refine wp_region_inv (R17I u B w.heap.size g9 oy A2.length cy oo D cc2 (some ⟨pb, po, none⟩) S.C.length cc k pb po x) (by kernel_rfl) (by kernel_rfl) ?_ ?_ ?_
        · refine R17_start _ _ _ _ _ _ _ _ _ _ _ _ _ _ _ _ _ _ _ (fun _ _ _ _ _ _ _ _ _ _ => ?_)
          constructor
          all_goals (first | exact (fun _ => below_drawn u) | (intro e; cases e))
        ·
          intro listed a wx i o hI hil ho hn he
          obtain ⟨b0, b1, b2, b3, b4, b5, b6, b7, b8, b9, b10, x89, x90, x91, x92, x93, x94, x95, x96, x97, x98, rfl, rfl, h⟩ := hI
          have hin : i = 0 ∨ i = 1 ∨ i = 2 ∨ i = 3 ∨ i = 4 ∨ i = 5 ∨ i = 6 ∨ i = 7 ∨ i = 8 ∨ i = 9 ∨ i = 10 := by
            have : i < 11 := hil
            omega
          have H := Lib.hid h
          clear h hil
          rcases hin with rfl | rfl | rfl | rfl | rfl | rfl | rfl | rfl | rfl | rfl | rfl <;> obtain rfl := Option.some.inj ho
          ·
            refine wpOp_hid rfl (fun K hK => ?_)
            simp only [List.setIfInBounds_toArray, List.set_cons_succ, List.set_cons_zero]
            go_simp
            refine hK.out _ _ ⟨true, b1, b2, b3, b4, b5, b6, b7, b8, b9, b10, (.pointer (some ⟨g9, 1, none⟩)), x90, x91, x92, x93, x94, x95, x96, x97, x98, rfl, ?_, ?_⟩
            · simp only [List.setIfInBounds_toArray, List.set_cons_succ, List.set_cons_zero]
            exact { H.out with
              k0 := fun _ => rfl
              c1_0 := fun _ => rfl }
          ·
            have hy8 : b8 = false := by
              cases h : b8 with
              | false => rfl
              | true =>
                have h1 := (H.out.c8_1 h)
                have h2 : b1 = false := hn
                rw [h2] at h1
                cases h1
            have d0 : b0 = true := he { on := 0, ground := .data } (by simp) (by kernel_rfl)
            obtain rfl := H.out.k0 d0
            refine wpOp_hid rfl (fun K hK => ?_)
            simp only [List.setIfInBounds_toArray, List.set_cons_succ, List.set_cons_zero]
            have hbl := H.out.kin hy8
            obtain ⟨⟨n0, n1⟩, _⟩ := box2 ((hbl.block _ (M.heap_lt HN9.out)).trans HN9.out)
            clear hbl
            go_simp
            refine hK.out _ _ ⟨b0, true, b2, b3, b4, b5, b6, b7, b8, b9, b10, (.pointer (some ⟨g9, 1, none⟩)), (.slice oo D.length cc2), x91, x92, x93, x94, x95, x96, x97, x98, rfl, ?_, ?_⟩
            · simp only [List.setIfInBounds_toArray, List.set_cons_succ, List.set_cons_zero]
            exact { H.out with
              k1 := fun _ => rfl
              c1_0 := fun _ => d0
              c8_1 := fun _ => rfl }
          ·
            refine wpOp_hid rfl (fun K hK => ?_)
            simp only [List.setIfInBounds_toArray, List.set_cons_succ, List.set_cons_zero]
            go_simp
            refine hK.out _ _ ⟨b0, b1, true, b3, b4, b5, b6, b7, b8, b9, b10, x89, x90, (.pointer (some ⟨w.heap.size, 1, none⟩)), x92, x93, x94, x95, x96, x97, x98, rfl, ?_, ?_⟩
            · simp only [List.setIfInBounds_toArray, List.set_cons_succ, List.set_cons_zero]
            exact { H.out with
              k2 := fun _ => rfl
              c3_2 := fun _ => rfl }
          ·
            have hy8 : b8 = false := by
              cases h : b8 with
              | false => rfl
              | true =>
                have h1 := (H.out.c5_3 (H.out.c6_5 (H.out.c7_6 (H.out.c8_7 h))))
                have h2 : b3 = false := hn
                rw [h2] at h1
                cases h1
            have d2 : b2 = true := he { on := 2, ground := .data } (by simp) (by kernel_rfl)
            obtain rfl := H.out.k2 d2
            refine wpOp_hid rfl (fun K hK => ?_)
            simp only [List.setIfInBounds_toArray, List.set_cons_succ, List.set_cons_zero]
            have hbl := H.out.kin hy8
            obtain ⟨⟨n0, n1⟩, _⟩ := box2 ((hbl.block _ (M.heap_lt HS2.out)).trans HS2.out)
            clear hbl
            go_simp
            refine hK.out _ _ ⟨b0, b1, b2, true, b4, b5, b6, b7, b8, b9, b10, x89, x90, (.pointer (some ⟨w.heap.size, 1, none⟩)), (.slice (some ⟨pb, po, none⟩) S.C.length cc), x93, x94, x95, x96, x97, x98, rfl, ?_, ?_⟩
            · simp only [List.setIfInBounds_toArray, List.set_cons_succ, List.set_cons_zero]
            exact { H.out with
              k3 := fun _ => rfl
              c3_2 := fun _ => d2
              c5_3 := fun _ => rfl }
          ·
            refine wpOp_hid rfl (fun K hK => ?_)
            simp only [List.setIfInBounds_toArray, List.set_cons_succ, List.set_cons_zero]
            go_simp
            refine hK.out _ _ ⟨b0, b1, b2, b3, true, b5, b6, b7, b8, b9, b10, x89, x90, x91, x92, (.int .i64 (k : Int)), x94, x95, x96, x97, x98, rfl, ?_, ?_⟩
            · simp only [List.setIfInBounds_toArray, List.set_cons_succ, List.set_cons_zero]
            exact { H.out with
              k4 := fun _ => rfl
              c5_4 := fun _ => rfl }
          ·
            have d3 : b3 = true := he { on := 3, ground := .data } (by simp) (by kernel_rfl)
            obtain rfl := H.out.k3 d3
            have d4 : b4 = true := he { on := 4, ground := .data } (by simp) (by kernel_rfl)
            obtain rfl := H.out.k4 d4
            refine wpOp_hid rfl (fun K hK => ?_)
            simp only [List.setIfInBounds_toArray, List.set_cons_succ, List.set_cons_zero]
            go_simp
            refine hK.out _ _ ⟨b0, b1, b2, b3, b4, true, b6, b7, b8, b9, b10, x89, x90, x91, (.slice (some ⟨pb, po, none⟩) S.C.length cc), (.int .i64 (k : Int)), (.pointer (some ⟨pb, po + k * 5, none⟩)), x95, x96, x97, x98, rfl, ?_, ?_⟩
            · simp only [List.setIfInBounds_toArray, List.set_cons_succ, List.set_cons_zero]
            exact { H.out with
              k5 := fun _ => rfl
              c5_3 := fun _ => d3
              c5_4 := fun _ => d4
              c6_5 := fun _ => rfl }
          ·
            have hy8 : b8 = false := by
              cases h : b8 with
              | false => rfl
              | true =>
                have h1 := (H.out.c7_6 (H.out.c8_7 h))
                have h2 : b6 = false := hn
                rw [h2] at h1
                cases h1
            have d5 : b5 = true := he { on := 5, ground := .data } (by simp) (by kernel_rfl)
            obtain rfl := H.out.k5 d5
            refine wpOp_hid rfl (fun K hK => ?_)
            simp only [List.setIfInBounds_toArray, List.set_cons_succ, List.set_cons_zero]
            have hbl := H.out.kin hy8
            obtain ⟨n0, n1, n2, n3, n4⟩ := HX.out _ hbl
            clear hbl
            go_simp
            refine hK.out _ _ ⟨b0, b1, b2, b3, b4, b5, true, b7, b8, b9, b10, x89, x90, x91, x92, x93, (.pointer (some ⟨pb, po + k * 5, none⟩)), (.agg #[.int .i64 x.client, .int .i64 x.seq, .int .i64 x.rep.code, .string x.rep.val, .int .i64 x.rep.rev]), x96, x97, x98, rfl, ?_, ?_⟩
            · simp only [List.setIfInBounds_toArray, List.set_cons_succ, List.set_cons_zero]
            exact { H.out with
              k6 := fun _ => rfl
              c6_5 := fun _ => d5
              c7_6 := fun _ => rfl }
          ·
            have hy8 : b8 = false := by
              cases h : b8 with
              | false => rfl
              | true =>
                have h1 := (H.out.c8_7 h)
                have h2 : b7 = false := hn
                rw [h2] at h1
                cases h1
            have hy10 : b10 = false := by
              cases h : b10 with
              | false => rfl
              | true =>
                have h1 := (H.out.c8_7 (H.out.c10_8 h))
                have h2 : b7 = false := hn
                rw [h2] at h1
                cases h1
            have d6 : b6 = true := he { on := 6, ground := .data } (by simp) (by kernel_rfl)
            obtain rfl := H.out.k6 d6
            subst hy8 hy10
            have HBL := Lib.hid ((H.out.kin rfl).trans (((Below.refl wx.heap.size wx).alloc (Nat.le_refl _) (.cells (lastC x).toArray 45)).mono (H.out.kin rfl).size))
            refine wpOp_hid rfl (fun K hK => ?_)
            simp only [List.setIfInBounds_toArray, List.set_cons_succ, List.set_cons_zero]
            go_simp
            refine hK.out _ _ ⟨b0, b1, b2, b3, b4, b5, b6, true, false, b9, false, x89, x90, x91, x92, x93, x94, (.agg #[.int .i64 x.client, .int .i64 x.seq, .int .i64 x.rep.code, .string x.rep.val, .int .i64 x.rep.rev]), (.slice (some ⟨wx.heap.size, 0, none⟩) 1 1), x97, x98, rfl, ?_, ?_⟩
            · simp only [List.setIfInBounds_toArray, List.set_cons_succ, List.set_cons_zero]
            exact { H.out with
              kin := fun _ => HBL.out
              kb := fun _ _ => ⟨wx.heap.size, rfl, heap_alloc_new wx _⟩
              ka := fun e => by cases e
              ks := fun e => by cases e
              c7_6 := fun _ => d6
              c8_7 := fun _ => rfl }
          ·
            have hap : b8 = false := hn
            have hy10 : b10 = false := by
              cases h : b10 with
              | false => rfl
              | true =>
                have h1 := (H.out.c10_8 h)
                have h2 : b8 = false := hn
                rw [h2] at h1
                cases h1
            have d1 : b1 = true := he { on := 1, ground := .data } (by simp) (by kernel_rfl)
            obtain rfl := H.out.k1 d1
            have d7 : b7 = true := he { on := 7, ground := .data } (by simp) (by kernel_rfl)
            subst hap hy10
            obtain ⟨gn, rfl, hgn⟩ := H.out.kb d7 rfl
            have hbl := H.out.kin rfl
            have HOW := Lib.hid (own_kept HOWN.out (S := fun _ => False) (Mods.of_below hbl) (fun _ _ h => h))
            have HM := Lib.hid (Mods.of_below (S := Owned oo) hbl)
            have HCL := Lib.hid (fun (j : Nat) (v : Value) (hv : (lastC x)[j]? = some v) => last_cell hgn hv)
            have hsz0 := hbl.size
            clear hbl hgn
            refine wpOp_hid rfl (fun K hK => ?_)
            simp only [List.setIfInBounds_toArray, List.set_cons_succ, List.set_cons_zero]
            rw [if_pos (by rfl)]
            refine wp_append_own wx (.tmp 90) (.tmp 96) 28 (by rfl) B 45 i0 _ 5 48 Tryz.underlying28 hii hz0 hz1 hz2 rfl (by decide) (.slice oo D.length cc2) D.length (cellsC D) (by rfl) (by exact HOW.out) ⟨gn, 0, none⟩ 1 1 (lastC x) (by rfl) (by rfl) (by exact fun j v hv => HCL.out j v hv) (by simp [Value.oneCell']) (by unfold maxLen; omega) (by omega) (by omega) (fun v2 w2 hown hgrow _ => ?_)
            obtain ⟨ao, cap, rfl, _⟩ := M.own_view hown
            refine hK.out _ _ ⟨b0, b1, b2, b3, b4, b5, b6, b7, true, b9, false, x89, (.slice oo D.length cc2), x91, x92, x93, x94, x95, (.slice (some ⟨gn, 0, none⟩) 1 1), (.slice ao (D.length + 1) cap), x98, rfl, ?_, ?_⟩
            · simp only [Act.put, List.getElem_toArray, List.getElem_cons_succ, List.getElem_cons_zero, List.setIfInBounds_toArray, List.set_cons_succ, List.set_cons_zero]
            exact { H.out with
              kin := fun e => by cases e
              kb := fun _ e => by cases e
              ka := fun _ _ => ⟨ao, cap, rfl, hown, HM.out.grown hgrow (fun j hj _ => owned_of hj)⟩
              ks := fun e => by cases e
              c8_1 := fun _ => d1
              c8_7 := fun _ => d7
              c10_8 := fun _ => rfl }
          ·
            refine wpOp_hid rfl (fun K hK => ?_)
            simp only [List.setIfInBounds_toArray, List.set_cons_succ, List.set_cons_zero]
            go_simp
            refine hK.out _ _ ⟨b0, b1, b2, b3, b4, b5, b6, b7, b8, true, b10, x89, x90, x91, x92, x93, x94, x95, x96, x97, (.pointer (some ⟨g9, 1, none⟩)), rfl, ?_, ?_⟩
            · simp only [List.setIfInBounds_toArray, List.set_cons_succ, List.set_cons_zero]
            exact { H.out with
              k9 := fun _ => rfl
              c10_9 := fun _ => rfl }
          ·
            have hst : b10 = false := hn
            have d9 : b9 = true := he { on := 9, ground := .data } (by simp) (by kernel_rfl)
            obtain rfl := H.out.k9 d9
            have d8 : b8 = true := he { on := 8, ground := .data } (by simp) (by kernel_rfl)
            subst hst
            obtain ⟨ao, cap, rfl, hown, hm⟩ := H.out.ka d8 rfl
            have HOWN2 := Lib.hid hown
            have HM2 := Lib.hid hm
            have hg9 := hm.heap HN9.out (fun e => absurd (HFAR.out _ e) (by omega))
            have HG9 := Lib.hid hg9
            obtain ⟨⟨n0, n1⟩, nf, _⟩ := box2 hg9
            clear hown hm hg9
            refine wpOp_hid rfl (fun K hK => ?_)
            simp only [List.setIfInBounds_toArray, List.set_cons_succ, List.set_cons_zero]
            go_simp
            refine hK.out _ _ ⟨b0, b1, b2, b3, b4, b5, b6, b7, b8, b9, true, x89, x90, x91, x92, x93, x94, x95, x96, (.slice ao (D.length + 1) cap), (.pointer (some ⟨g9, 1, none⟩)), rfl, ?_, ?_⟩
            · simp only [List.setIfInBounds_toArray, List.set_cons_succ, List.set_cons_zero]
            have ms : Mods (fun j => j = g9) wx (wx.setCell ⟨g9, 1, none⟩ (.slice ao (D.length + 1) cap)) := mods_set
            have hs9 := heap_set wx g9 1 (.slice ao (D.length + 1) cap) g9 _ _ _ HG9.out
            rw [if_pos rfl] at hs9
            exact { H.out with
              kin := fun e => by rw [d8] at e; cases e
              kb := fun _ e => by rw [d8] at e; cases e
              ka := fun _ e => by cases e
              ks := fun _ => ⟨ao, cap, own_kept HOWN2.out ms (fun j hj e => absurd (own_ge HOWN2.out hj) (by omega)), (HM2.out.mono (fun _ _ e => .inl e)).trans (ms.mono (fun _ _ e => .inr e)), hs9⟩
              c10_9 := fun _ => d9
              c10_8 := fun _ => d8 }
        · intro listed a wx hI hall
          obtain ⟨b0, b1, b2, b3, b4, b5, b6, b7, b8, b9, b10, x89, x90, x91, x92, x93, x94, x95, x96, x97, x98, rfl, rfl, h⟩ := hI
          obtain rfl : b10 = true := hall 10 (by decide)
          obtain ⟨ao, cap, ho, hm, hn⟩ := h.ks rfl
          have HMO := Lib.hid (HNA.out.more (by omega) ho hm hn)
          clear h ho hm hn
          simp only [List.setIfInBounds_toArray, List.set_cons_succ, List.set_cons_zero]
          go_wp2_with fail
          go_roundw
          case rel => exact ⟨k + 1, ao, cap, by go_num, by omega, by rw [HDT.out]; exact HMO.out⟩
          case measure => simp [intOf]; omega
    · obtain rfl : k = S.C.length := by omega
      have hkk : ¬ (S.C.length : Int) < (S.C.length : Int) := by omega
      rw [dropC_all] at HNA hDl
      obtain ⟨D, hD⟩ : ∃ D, D = dropC S.C c.client := ⟨_, rfl⟩
      rw [← hD] at HNA hDl
      have HDE := Lib.hid hD
      have hDlen : D.length ≤ 100000 := by omega
      obtain ⟨x, hx1, hx2, hx3⟩ : ∃ x : Lst, x.client = c.client ∧ x.seq = c.seq ∧ x.rep = R := ⟨⟨c.client, c.seq, R⟩, rfl, rfl, rfl⟩
      have HXE : Hid (x = ⟨c.client, c.seq, R⟩) := Lib.hid (by cases x; simp only at hx1 hx2 hx3; rw [hx1, hx2, hx3])
      have HN9 := Lib.hid HNA.out.nb
      have HOWN := Lib.hid HNA.out.own
      have HFAR := Lib.hid (show ∀ j, Owned oo j → B ≤ j from fun j ⟨a, ha, e⟩ => by rw [e]; exact (own_heap HNA.out.own a ha).choose_spec.2)
      have HC3 : Hid (u.heap[w.heap.size + 1]? = some (.cells #[.int .i64 c.kind, .int .i64 x.client, .int .i64 x.seq, .string c.key, .string c.val, .int .i64 c.rev] 38 (0, 0))) := Lib.hid (by rw [hx1, hx2]; exact HNA.out.mods.heap HD6.out.cb (by omega))
      have HR8 : Hid (u.heap[g8]? = some (repO x.rep)) := Lib.hid (by rw [hx3]; exact HNA.out.mods.heap HR6.out (by omega))
      have hgB : g9 < B := by omega
      have hBu : B ≤ u.heap.size := by omega
      obtain ⟨i0, hii, hz0, hz1, hz2⟩ := info_parts info_last
      clear hx1 hx2 hx3 hD hDl2
      go_upto_region 18 with fail
      clear s0 s1
      obtain ⟨⟨n0, n1⟩, nf, _⟩ := box2 HN9.out
      obtain ⟨⟨c0, c1, c2, c3, c4, c5⟩, _⟩ := box6 HC3.out
      obtain ⟨⟨r0, r1, r2⟩, _, _⟩ := box3 HR8.out
      go_upto_region 19 with (refine wpList_append_lies _ (by rfl) (.tmp 100) (.tmp 107) 28 (by rfl) B 45 i0 _ 5 48 Tryz.underlying28 hii hz0 hz1 hz2 rfl (by decide) (.slice oo D.length cc2) D.length (cellsC D) (by rfl) (by exact HOWN.out.alloc _) ⟨u.heap.size, 0, none⟩ 1 1 (lastC x) (by rfl) (by rfl) (World.news_of_block (cs := (lastC x).toArray) (t := 45) (fr := (0, 0)) (heap_alloc_new u _)) (by simp [Value.oneCell']) (by omega) (by unfold maxLen; omega) (by omega) (by simp; omega) (u.heap.size + 1) (by simp) ?_; intro gg cg w7 hown hgrow hat hlt7; have hM7 := ((Mods.refl (Owned oo) u).alloc (.cells (lastC x).toArray 45)).grown hgrow (fun j hj _ => owned_of hj); have HM7 := Lib.hid hM7; have HOW7 := Lib.hid hown; have hg9 := hM7.heap HN9.out (fun e => absurd (HFAR.out _ e) (by omega)); have HG9 := Lib.hid hg9; clear n0 n1 nf c0 c1 c2 c3 c4 c5 r0 r1 r2 hown hgrow hat hM7; obtain ⟨⟨n0, n1⟩, nf, _⟩ := box2 hg9; clear hg9)
      clear n0 n1 nf
      obtain ⟨wx, hwx⟩ : ∃ x, x = w7.setCell ⟨g9, 1, none⟩ (.slice (some ⟨gg, 0, none⟩) (D.length + 1) cg) := ⟨_, rfl⟩
      rw [← hwx]
      have ms : Mods (fun j => j = g9) w7 wx := by rw [hwx]; exact mods_set
      have hs9 := heap_set w7 g9 1 (.slice (some ⟨gg, 0, none⟩) (D.length + 1) cg) g9 _ _ _ HG9.out
      rw [if_pos rfl, ← hwx] at hs9
      have HMO := Lib.hid (HNA.out.more (by omega) (own_kept HOW7.out ms (fun j hj e => absurd (own_ge HOW7.out hj) (by omega))) ((HM7.out.mono (fun _ _ e => .inl e)).trans (ms.mono (fun _ _ e => .inr e))) hs9)
      clear hwx ms hs9
      have hbel : Below w.heap.size w wx := HD6.out.bel.trans (HMO.out.mods.below (B := w.heap.size) (fun j e => by omega) HD6.out.bel.size)
      have HBE := Lib.hid hbel
      have HDB := Lib.hid (HMO.out.mods.heap HD6.out.db (by omega))
      have hr8 := HMO.out.mods.heap HR6.out (by omega)
      have hn9 := HMO.out.nb
      have hb5x : Below w5.heap.size w5 wx := HB6.out.trans (HMO.out.mods.below (B := w5.heap.size) (fun j e => by omega) HB6.out.size)
      have HSE := Lib.hid (HSY.out.below hb5x)
      clear hb5x
      have HDB1 : Hid (wx.heap[w.heap.size + 1 + 1]? = some (.cells #[.slice none 0 0, .slice none 0 0, .int .i64 0, .string ⟨#[]⟩, .int .i64 0, .bool false] 35 (0, 0))) := Lib.hid HDB.out
      have m6 := mods6 (w := wx) (r := w.heap.size + 1 + 1) (u0 := .slice oy A2.length cy) (u1 := .slice (some ⟨gg, 0, none⟩) (D.length + 1) cg) (u2 := .int .i64 R.code) (u3 := .string R.val) (u4 := .int .i64 R.rev) (u5 := .bool true)
      have hown := own_kept HMO.out.own m6 (fun j hj e => absurd (own_ge HMO.out.own hj) (by omega))
      have HFIN := Lib.hid (show SPost ⟨A2, dropC S.C c.client ++ [⟨c.client, c.seq, R⟩]⟩ R true w (.returned (.agg #[.slice oy A2.length cy, .slice (some ⟨gg, 0, none⟩) (D.length + 1) cg, .int .i64 R.code, .string R.val, .int .i64 R.rev, .bool true])) _ from by
        have h1 := HDE.out
        have h2 := HXE.out
        refine ⟨oy, cy, some ⟨gg, 0, none⟩, cg, ?_, HSE.out.apart HDB1.out m6, ?_, set6_below (by omega) HBE.out⟩
        · subst h1 h2
          rw [List.length_append]
          rfl
        · have := LstV.of_own hown
          show LstV _ _ _ (dropC S.C c.client ++ [⟨c.client, c.seq, R⟩])
          rw [← h1, ← h2]
          exact this)
      clear m6 hown
      obtain ⟨n0, n1⟩ := boxS hn9
      obtain ⟨⟨r0, r1, r2⟩, _, _⟩ := box3 hr8
      obtain ⟨⟨d0, d1, d2, d3, d4, d5⟩, fd⟩ := box6 HDB.out
      clear hr8 hn9 hbel
      go_wp2_with fail
      refine ret_box (w.heap.size + 1 + 1) #[.slice oy A2.length cy, .slice (some ⟨gg, 0, none⟩) (D.length + 1) cg, .int .i64 R.code, .string R.val, .int .i64 R.rev, .bool true] 35 (.agg #[.slice oy A2.length cy, .slice (some ⟨gg, 0, none⟩) (D.length + 1) cg, .int .i64 R.code, .string R.val, .int .i64 R.rev, .bool true]) ?_ (fun W' h => ?_) rfl ?_
      · exact set6 HDB1.out
      · obtain ⟨⟨r0, r1, r2, r3, r4, r5⟩, _⟩ := box6 h
        clear HFIN HMO HNA HD6 HSY HOW7 HM7 HSE
        simp [results, Tryz.results8, go_sem, r0, r1, r2, r3, r4, r5]
      · exact HFIN.out
/-- THE CONTRACT OF the document's Do. -/
theorem sref_any (S : Ses) (oa oc : Option Addr) (ca cc : Nat) (c : Cmd) (w : World) (hA : SetsV w oa ca S.A) (hC : LstV w oc cc S.C) (hs : c.key.size ≤ 1000000) (N : Nat) (hG : SGood N S) (hN : N ≤ 90000) (S2 : Ses) (R : Rep) (F : Bool) (hd : sesDo S c = (S2, R, F)) : Calls Tryz.prog 8 #[.agg #[.slice oa S.A.length ca, .slice oc S.C.length cc], cmdV c] w (SPost S2 R F w) := by
  unfold sesDo at hd
  split at hd
  · rename_i h1
    cases hd
    exact sref_bad S oa oc ca cc c w hA hC hs _ rfl h1
  · rename_i h1
    have h1 : chk c = 0 := by simpa using h1
    obtain ⟨hcl, hpos⟩ := chk_client h1
    split at hd
    · rename_i h2
      cases hd
      exact sref_none S oa oc ca cc c w hA hC hs h1 (hcl.1 h2)
    · rename_i h2
      have hb : bare c = false := by
        cases h : bare c with
        | false => rfl
        | true => exact absurd (hcl.2 h) h2
      have hp := hpos h2
      have hlen := hG.len
      obtain ⟨A2, RR, hdo⟩ : ∃ A2 RR, appDo S.A c = (A2, RR) := ⟨_, _, rfl⟩
      cases hlk : lookC S.C c.client with
      | none =>
        have hat := look_atC.1 hlk
        rw [hlk] at hd
        rw [if_neg (show ¬ c.seq = seqL none by show ¬ c.seq = 0; omega), if_neg (show ¬ c.seq < seqL none by show ¬ c.seq < 0; omega)] at hd
        unfold sesNew at hd
        rw [hdo] at hd
        cases hd
        exact sref_new0 S oa oc ca cc c w hA hC hs h1 hb N hG.app (by omega) hG.nd (by omega) _ _ hdo _ hat (by decide)
      | some x =>
        obtain ⟨j, hj, hx⟩ := look_atC.2 x hlk
        rw [hlk] at hd
        split at hd
        · rename_i h3
          cases hd
          exact sref_same S oa oc ca cc c w hA hC hs h1 hb j x _ hj rfl hx h3.symm
        · rename_i h3
          split at hd
          · rename_i h4
            cases hd
            exact sref_old S oa oc ca cc c w hA hC hs h1 hb j x _ hj rfl hx h4
          · rename_i h4
            have h3 : ¬ c.seq = x.seq := h3
            have h4 : ¬ c.seq < x.seq := h4
            unfold sesNew at hd
            rw [hdo] at hd
            cases hd
            exact sref_new1 S oa oc ca cc c w hA hC hs h1 hb N hG.app (by omega) hG.nd (by omega) _ _ hdo _ hj j x rfl hx (by omega)
end Go.Proofs.YtpeiamllkddhiaaGreatDoor.P
