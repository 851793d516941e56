/- The reference's With and Without. -/
import Derived.Test.YtpeiamllkddhiaaGreatDoorAppG
namespace Go.Proofs.YtpeiamllkddhiaaGreatDoor.P
open Go.RowKit Go.Proofs.YtpeiamllkddhiaaGreatDoor.R Go.Proofs.YtpeiamllkddhiaaGreatDoor.M Go.BigFrame
set_option linter.unusedVariables false
set_option linter.unusedSimpArgs false

theorem less_lt (a b : ByteArray) : Op.bytesLess a.toList b.toList = decide (lt a b) := by
  rw [bytesLess_eq, ByteArray.toList_eq, ByteArray.toList_eq]
  rfl
theorem put_end {P : List Ent} {e : Ent} (h : ∀ y ∈ P, lt y.key e.key) : put P e = P ++ [e] := by
  induction P with
  | nil => rfl
  | cons a t ih =>
    unfold put
    rw [if_pos (h a List.mem_cons_self), ih (fun y hy => h y (List.mem_cons_of_mem _ hy))]
    rfl
theorem put_snoc_same {P : List Ent} {e x : Ent} (h : ∀ y ∈ P, lt y.key e.key) (hx : x.key = e.key) : put (P ++ [x]) e = P ++ [e] := by
  induction P with
  | nil =>
    show put [x] e = [e]
    unfold put
    rw [if_neg (show ¬ lt x.key e.key by rw [hx]; exact lt_irrefl _), if_pos hx]
  | cons a t ih =>
    show put (a :: (t ++ [x])) e = _
    unfold put
    rw [if_pos (h a List.mem_cons_self), ih (fun y hy => h y (List.mem_cons_of_mem _ hy))]
    rfl
theorem put_snoc_more {P : List Ent} {e x : Ent} (h : ∀ y ∈ P, lt y.key e.key) (hx : lt e.key x.key) : put (P ++ [x]) e = P ++ [e] ++ [x] := by
  induction P with
  | nil =>
    show put [x] e = [e, x]
    unfold put
    rw [if_neg (lt_asymm hx), if_neg (fun e2 => lt_ne hx e2.symm)]
  | cons a t ih =>
    show put (a :: (t ++ [x])) e = _
    unfold put
    rw [if_pos (h a List.mem_cons_self), ih (fun y hy => h y (List.mem_cons_of_mem _ hy))]
    rfl
theorem put_snoc_done {P : List Ent} {e x : Ent} (h : ∃ y ∈ P, ¬ lt y.key e.key) : put (P ++ [x]) e = put P e ++ [x] := by
  induction P with
  | nil => obtain ⟨y, hy, _⟩ := h; cases hy
  | cons a t ih =>
    show put (a :: (t ++ [x])) e = _
    unfold put
    by_cases h1 : lt a.key e.key
    · rw [if_pos h1, if_pos h1]
      obtain ⟨y, hy, hn⟩ := h
      rcases List.mem_cons.1 hy with rfl | hy
      · exact absurd h1 hn
      · rw [ih ⟨y, hy, hn⟩]; rfl
    · rw [if_neg h1, if_neg h1]
      by_cases h2 : a.key = e.key
      · rw [if_pos h2, if_pos h2]; rfl
      · rw [if_neg h2, if_neg h2]; rfl
/-- With, behind the settings P: has it been laid, and what is out -/
def wDone (P : List Ent) (k : ByteArray) : Bool := P.any fun y => decide (¬ lt y.key k)
def wOut (P : List Ent) (e : Ent) : List Ent := if wDone P e.key then put P e else P
theorem wDone_no {P : List Ent} {k : ByteArray} (h : wDone P k = false) : ∀ y ∈ P, lt y.key k := by
  unfold wDone at h
  rw [List.any_eq_false] at h
  intro y hy
  have := h y hy
  simpa using this
theorem wDone_yes {P : List Ent} {k : ByteArray} (h : wDone P k = true) : ∃ y ∈ P, ¬ lt y.key k := by
  unfold wDone at h
  rw [List.any_eq_true] at h
  obtain ⟨y, hy, h2⟩ := h
  exact ⟨y, hy, by simpa using h2⟩
theorem wDone_snoc (P : List Ent) (x : Ent) (k : ByteArray) : wDone (P ++ [x]) k = (wDone P k || decide (¬ lt x.key k)) := by
  unfold wDone; rw [List.any_append]; simp
theorem wOut_len (P : List Ent) (e : Ent) : (wOut P e).length ≤ P.length + 1 := by
  unfold wOut
  split
  · exact put_len
  · omega
/-- one setting more: nothing laid yet, and it is lower -/
theorem w_low {P : List Ent} {e x : Ent} (hd : wDone P e.key = false) (hx : lt x.key e.key) : wDone (P ++ [x]) e.key = false ∧ wOut P e = P ∧ wOut (P ++ [x]) e = P ++ [x] := by
  have h1 : wDone (P ++ [x]) e.key = false := by rw [wDone_snoc, hd]; simp [hx]
  refine ⟨h1, ?_, ?_⟩
  · unfold wOut; rw [hd]; rfl
  · unfold wOut; rw [h1]; rfl
theorem w_same {P : List Ent} {e x : Ent} (hd : wDone P e.key = false) (hx : x.key = e.key) : wDone (P ++ [x]) e.key = true ∧ wOut P e = P ∧ wOut (P ++ [x]) e = P ++ [e] := by
  have h1 : wDone (P ++ [x]) e.key = true := by rw [wDone_snoc, hd, hx]; simp [lt_irrefl]
  refine ⟨h1, ?_, ?_⟩
  · unfold wOut; rw [hd]; rfl
  · unfold wOut; rw [h1]; exact put_snoc_same (wDone_no hd) hx
theorem w_more {P : List Ent} {e x : Ent} (hd : wDone P e.key = false) (hx : lt e.key x.key) : wDone (P ++ [x]) e.key = true ∧ wOut P e = P ∧ wOut (P ++ [x]) e = P ++ [e] ++ [x] := by
  have h1 : wDone (P ++ [x]) e.key = true := by rw [wDone_snoc, hd]; simp [lt_asymm hx]
  refine ⟨h1, ?_, ?_⟩
  · unfold wOut; rw [hd]; rfl
  · unfold wOut; rw [h1]; exact put_snoc_more (wDone_no hd) hx
theorem w_done {P : List Ent} {e x : Ent} (hd : wDone P e.key = true) (hs : Srt (P ++ [x])) : wDone (P ++ [x]) e.key = true ∧ x.key ≠ e.key ∧ wOut (P ++ [x]) e = wOut P e ++ [x] := by
  have h1 : wDone (P ++ [x]) e.key = true := by rw [wDone_snoc, hd]; rfl
  obtain ⟨y, hy, hn⟩ := wDone_yes hd
  have hlt : lt y.key x.key := (List.pairwise_append.1 hs).2.2 y hy x (List.mem_singleton.2 rfl)
  refine ⟨h1, fun e2 => hn (by rw [← e2]; exact hlt), ?_⟩
  unfold wOut
  rw [h1, hd]
  exact put_snoc_done ⟨y, hy, hn⟩
theorem w_end (A : List Ent) (e : Ent) : (wDone A e.key = true → wOut A e = put A e) ∧ (wDone A e.key = false → wOut A e = A ∧ put A e = A ++ [e]) := by
  refine ⟨fun h => by unfold wOut; rw [h]; rfl, fun h => ⟨by unfold wOut; rw [h]; rfl, put_end (wDone_no h)⟩⟩
theorem own_heap {w : World} {B n cap size : Nat} {e : TypeId} {ao : Option Addr} {xs : List Value} (h : w.ownsRow B e size (.slice ao n cap) n xs) : ∀ a, ao = some a → ∃ cur, w.heap[a.block]? = some (.cells cur e (0, 0)) ∧ B ≤ a.block := by
  rintro a rfl
  obtain ⟨_, _, e0, _, _, _, h4⟩ := M.own_view h
  cases e0
  obtain ⟨g, cur, rfl, hB, hg, _⟩ := h4 a rfl
  exact ⟨cur, hg, hB⟩
theorem info_set : (Tryz.prog.info? 64).map (fun i => (i.zero, i.size, i.bytes)) = some (some (.agg #[.string ⟨#[]⟩, .string ⟨#[]⟩, .int .i64 0]), 3, 40) := by kernel_rfl
/-- settings of one's own grow by one -/
theorem sets_more {B : Nat} {w w2 : World} {ao : Option Addr} {cap gg cg : Nat} {A : List Ent} {e : Ent} {bx : Obj} (h : w.ownsRow B 64 3 (.slice ao A.length cap) A.length (cellsE A)) (hB : B ≤ w.heap.size)
    (ho : w2.ownsRow B 64 3 (.slice (some ⟨gg, 0, none⟩) (A.length + 1) cg) (A.length + 1) (cellsE A ++ [.string e.key, .string e.val, .int .i64 e.rev]))
    (hg : (w.alloc bx).grownBy w2 (Value.slice ao A.length cap).ownBlock) :
    w2.ownsRow B 64 3 (.slice (some ⟨gg, 0, none⟩) (A ++ [e]).length cg) (A ++ [e]).length (cellsE (A ++ [e])) ∧ Below B w w2 := by
  have hM : Mods (fun k => ∃ a, ao = some a ∧ k = a.block) w w2 := ((Mods.refl _ w).alloc bx).grown hg (fun k hk _ => by
    cases ao with
    | none => cases hk
    | some a => exact ⟨a, rfl, (Option.some.inj hk).symm⟩)
  refine ⟨by rw [List.length_append, cellsE_app]; exact ho, hM.below (fun k ⟨a, ha, e⟩ => ?_) hB⟩
  obtain ⟨_, _, hb⟩ := own_heap h a ha
  omega
/-- settings that come out, while they do -/
structure WS (W w : World) (oo : Option Addr) (oc : Nat) (O : List Ent) : Prop where
  bel : Below W.heap.size W w
  own : w.ownsRow W.heap.size 64 3 (.slice oo O.length oc) O.length (cellsE O)
theorem WS.more {W w w2 : World} {oo : Option Addr} {oc gg cg : Nat} {O : List Ent} {e : Ent} {bx : Obj} (h : WS W w oo oc O)
    (ho : w2.ownsRow W.heap.size 64 3 (.slice (some ⟨gg, 0, none⟩) (O.length + 1) cg) (O.length + 1) (cellsE O ++ [.string e.key, .string e.val, .int .i64 e.rev]))
    (hg : (w.alloc bx).grownBy w2 (Value.slice oo O.length oc).ownBlock) : WS W w2 (some ⟨gg, 0, none⟩) cg (O ++ [e]) := by
  obtain ⟨h1, h2⟩ := sets_more h.own h.bel.size ho hg
  exact ⟨h.bel.trans h2, h1⟩
theorem WS.drewN {W w : World} {oo : Option Addr} {oc : Nat} {O : List Ent} (h : WS W w oo oc O) (n : Nat) : WS W (w.drewN n) oo oc O :=
  ⟨h.bel.trans ⟨rfl, rfl, rfl, Nat.le_refl _, fun _ _ => rfl⟩, own_kept h.own (S := fun _ => False) ((Mods.refl _ w).drewN n) (fun _ _ h => h)⟩
set_option maxRecDepth 100000 in
set_option maxHeartbeats 2000000 in
theorem with_any (A : List Ent) (ao : Option Addr) (cap : Nat) (e : Ent) (w : World) (h : SetsV w ao cap A) (hA : A.length ≤ 100000) (hS : Srt A) :
    Calls Tryz.prog 23 #[.slice ao A.length cap, .agg #[.string e.key, .string e.val, .int .i64 e.rev]] w fun x w' => ∃ oo oc, x = .returned (.slice oo (put A e).length oc) ∧ (w'.ownsRow w.heap.size 64 3 (.slice oo (put A e).length oc) (put A e).length (cellsE (put A e)) ∧ Below w.heap.size w w') := by
  have HSV := Lib.hid h
  have HSR := Lib.hid hS
  obtain ⟨i0, hii, hz0, hz1, hz2⟩ := info_parts info_set
  obtain ⟨hl1, hl2⟩ := h.le
  unfold maxLen at hl2
  clear h hS
  go_enter Tryz.func23, Tryz.ntmps23
  go_upto_region 3 with fail
  obtain ⟨W, hW⟩ : ∃ W, W = w.alloc (.cells #[.string e.key, .string e.val, .int .i64 e.rev] 64) := ⟨_, rfl⟩
  rw [← hW]
  have hbx : W.heap[w.heap.size]? = some (.cells #[.string e.key, .string e.val, .int .i64 e.rev] 64 (0, 0)) := by rw [hW]; exact heap_alloc_new w _
  have HBX := Lib.hid hbx
  have HWW : Hid (Below w.heap.size w W) := Lib.hid (by rw [hW]; exact (Below.refl _ _).alloc (Nat.le_refl _) _)
  have HW0 : Hid (W.heap.size = w.heap.size + 1) := Lib.hid (by rw [hW]; simp)
  clear hW hbx
  have HWS0 : Hid (WS W W none 0 (wOut (A.take 0) e)) := Lib.hid ⟨Below.refl _ _, World.ownsRow_nil _ _ _ _⟩
  go_wp2_with fail
  go_loopw [5, 6, 7] (fun ov dv iv wr => ∃ (i : Nat) (oo : Option Addr) (oc : Nat), ov = .slice oo (wOut (A.take i) e).length oc ∧ dv = .bool (wDone (A.take i) e.key) ∧ iv = .int .i64 i ∧ i ≤ A.length ∧ WS W wr oo oc (wOut (A.take i) e)) (fun _ _ iv _ => A.length - (intOf iv).toNat)
  case atStart => exact ⟨0, none, 0, rfl, rfl, rfl, Nat.zero_le _, HWS0.out⟩
  case round =>
    clear HWS0
    obtain ⟨i, oo, oc, rfl, rfl, rfl, hi, hws⟩ := hrel
    have hlo := wOut_len (A.take i) e
    have hlt := List.length_take_le i A
    by_cases hil : i < A.length
    · have hii2 : (i : Int) < (A.length : Int) := by omega
      obtain ⟨x, hx⟩ : ∃ x, A[i]? = some x := ⟨_, List.getElem?_eq_getElem hil⟩
      have htk : A.take (i + 1) = A.take i ++ [x] := by rw [List.take_add_one, hx]; rfl
      have hsr : Srt (A.take i ++ [x]) := by rw [← htk]; exact HSR.out.sublist (List.take_sublist _ _)
      have hbw : Below w.heap.size w wr := HWW.out.trans (hws.bel.mono (by rw [HW0.out]; omega))
      obtain ⟨b, off, rfl, hbl, c0, c1, c2⟩ := (HSV.out.below hbw).row i x hx
      have hbx : wr.heap[w.heap.size]? = _ := (hws.bel.block _ (M.heap_lt HBX.out)).trans HBX.out
      obtain ⟨⟨d0, d1, d2⟩, _, _⟩ := box3 hbx
      have hws1 := hws.bel.size
      have HTK := Lib.hid htk
      have HWS := Lib.hid hws
      have HX := Lib.hid hx
      have l1 := less_lt x.key e.key
      have l2 := ba_eq x.key e.key
      obtain ⟨P, hP⟩ : ∃ P, P = A.take i := ⟨_, rfl⟩
      rw [← hP] at HWS HTK hsr hlo hlt ⊢
      clear hws hbx hx htk hP hbw
      cases hd : wDone P e.key with
      | true =>
        obtain ⟨hd2, hne, ho2⟩ := w_done hd hsr
        have HN := Lib.hid (And.intro hd2 ho2)
        rw [decide_eq_false hne] at l2
        have l3 : ¬ x.key.toList = e.key.toList := beq_eq_false_iff_ne.1 l2
        obtain ⟨O, hO⟩ : ∃ O, O = wOut P e := ⟨_, rfl⟩
        rw [← hO] at HWS hlo HN ⊢
        clear hd hd2 ho2 hne hsr hO l1
        go_wp2_with fail
        go_quiet (fail)
        obtain ⟨w1, hw1⟩ : ∃ w1, w1 = wr.drewN nq := ⟨_, rfl⟩
        rw [← hw1]
        have HWS1 : Hid (WS W w1 _ _ _) := Lib.hid (by rw [hw1]; exact HWS.out.drewN nq)
        clear hw1 c0 c1 c2 d0 d1 d2 hbl hws1
        have hbw : Below w.heap.size w w1 := HWW.out.trans (HWS1.out.bel.mono (by rw [HW0.out]; omega))
        obtain ⟨b1, off1, e9, hbl, c0, c1, c2⟩ := (HSV.out.below hbw).row i x HX.out
        cases e9
        obtain ⟨⟨d0, d1, d2⟩, _, _⟩ := box3 ((HWS1.out.bel.block _ (M.heap_lt HBX.out)).trans HBX.out)
        have hws1 := HWS1.out.bel.size
        clear hbw
        go_wp2_with fail
        go_quiet (fail)
        obtain ⟨w2, hw2⟩ : ∃ w2, w2 = w1.drewN nq := ⟨_, rfl⟩
        rw [← hw2]
        have HWS2 : Hid (WS W w2 _ _ _) := Lib.hid (by rw [hw2]; exact HWS1.out.drewN nq)
        clear hw2 c0 c1 c2 d0 d1 d2 hbl hws1
        have hbw : Below w.heap.size w w2 := HWW.out.trans (HWS2.out.bel.mono (by rw [HW0.out]; omega))
        obtain ⟨b1, off1, e9, hbl, c0, c1, c2⟩ := (HSV.out.below hbw).row i x HX.out
        cases e9
        obtain ⟨⟨d0, d1, d2⟩, _, _⟩ := box3 ((HWS2.out.bel.block _ (M.heap_lt HBX.out)).trans HBX.out)
        have hws1 := HWS2.out.bel.size
        clear hbw
        go_wp2_with (refine wpList_append_lies _ (by rfl) (.tmp 38) (.tmp 43) 27 (by rfl) W.heap.size 64 i0 _ 3 40 Tryz.underlying27 hii hz0 hz1 hz2 rfl (by decide) (.slice oo (O).length oc) (O).length (cellsE (O)) (by rfl) (by exact HWS2.out.own.alloc _) ⟨w2.heap.size, 0, none⟩ 1 1 [.string x.key, .string x.val, .int .i64 x.rev] (by rfl) (by rfl) (World.news_of_block (cs := #[.string x.key, .string x.val, .int .i64 x.rev]) (t := 64) (fr := (0, 0)) (heap_alloc_new w2 _)) (by simp [Value.oneCell']) (by omega) (by unfold maxLen; omega) (by omega) (by simp; omega) (w2.heap.size + 1) (by simp) ?_; intro gg cg w7 hown hgrow hat hlt7; have HG := Lib.hid (HWS2.out.more (e := x) hown hgrow); clear hown hgrow hat)
        go_roundw
        case rel => exact ⟨i + 1, some ⟨gg, 0, none⟩, cg, by rw [HTK.out, HN.out.2, List.length_append]; rfl, by rw [HTK.out, HN.out.1], by go_num, by omega, by rw [HTK.out, HN.out.2]; exact HG.out⟩
        case measure => simp [intOf]; omega
      | false =>
        by_cases hl : lt x.key e.key
        · obtain ⟨hd2, ho1, ho2⟩ := w_low hd hl
          have HN := Lib.hid (And.intro hd2 ho2)
          have hne : x.key ≠ e.key := lt_ne hl
          rw [decide_eq_false hne] at l2
          rw [decide_eq_true hl] at l1
          have l3 : ¬ x.key.toList = e.key.toList := beq_eq_false_iff_ne.1 l2
          rw [ho1] at HWS ⊢
          clear hd hd2 ho1 ho2 hne hsr hl hlo
          go_wp2_with fail
          go_quiet (fail)
          obtain ⟨w1, hw1⟩ : ∃ w1, w1 = wr.drewN nq := ⟨_, rfl⟩
          rw [← hw1]
          have HWS1 : Hid (WS W w1 _ _ _) := Lib.hid (by rw [hw1]; exact HWS.out.drewN nq)
          clear hw1 c0 c1 c2 d0 d1 d2 hbl hws1
          have hbw : Below w.heap.size w w1 := HWW.out.trans (HWS1.out.bel.mono (by rw [HW0.out]; omega))
          obtain ⟨b1, off1, e9, hbl, c0, c1, c2⟩ := (HSV.out.below hbw).row i x HX.out
          cases e9
          obtain ⟨⟨d0, d1, d2⟩, _, _⟩ := box3 ((HWS1.out.bel.block _ (M.heap_lt HBX.out)).trans HBX.out)
          have hws1 := HWS1.out.bel.size
          clear hbw
          go_wp2_with fail
          go_quiet (fail)
          obtain ⟨w2, hw2⟩ : ∃ w2, w2 = w1.drewN nq := ⟨_, rfl⟩
          rw [← hw2]
          have HWS2 : Hid (WS W w2 _ _ _) := Lib.hid (by rw [hw2]; exact HWS1.out.drewN nq)
          clear hw2 c0 c1 c2 d0 d1 d2 hbl hws1
          have hbw : Below w.heap.size w w2 := HWW.out.trans (HWS2.out.bel.mono (by rw [HW0.out]; omega))
          obtain ⟨b1, off1, e9, hbl, c0, c1, c2⟩ := (HSV.out.below hbw).row i x HX.out
          cases e9
          obtain ⟨⟨d0, d1, d2⟩, _, _⟩ := box3 ((HWS2.out.bel.block _ (M.heap_lt HBX.out)).trans HBX.out)
          have hws1 := HWS2.out.bel.size
          clear hbw
          go_wp2_with (refine wpList_append_lies _ (by rfl) (.tmp 38) (.tmp 43) 27 (by rfl) W.heap.size 64 i0 _ 3 40 Tryz.underlying27 hii hz0 hz1 hz2 rfl (by decide) (.slice oo (P).length oc) (P).length (cellsE (P)) (by rfl) (by exact HWS2.out.own.alloc _) ⟨w2.heap.size, 0, none⟩ 1 1 [.string x.key, .string x.val, .int .i64 x.rev] (by rfl) (by rfl) (World.news_of_block (cs := #[.string x.key, .string x.val, .int .i64 x.rev]) (t := 64) (fr := (0, 0)) (heap_alloc_new w2 _)) (by simp [Value.oneCell']) (by omega) (by unfold maxLen; omega) (by omega) (by simp; omega) (w2.heap.size + 1) (by simp) ?_; intro gg cg w7 hown hgrow hat hlt7; have HG := Lib.hid (HWS2.out.more (e := x) hown hgrow); clear hown hgrow hat)
          go_roundw
          case rel => exact ⟨i + 1, some ⟨gg, 0, none⟩, cg, by rw [HTK.out, HN.out.2, List.length_append]; rfl, by rw [HTK.out, HN.out.1], by go_num, by omega, by rw [HTK.out, HN.out.2]; exact HG.out⟩
          case measure => simp [intOf]; omega
        · rw [decide_eq_false hl] at l1
          by_cases hq : x.key = e.key
          · obtain ⟨hd2, ho1, ho2⟩ := w_same hd hq
            have HN := Lib.hid (And.intro hd2 ho2)
            rw [decide_eq_true hq] at l2
            have l3 : x.key.toList = e.key.toList := by rw [hq]
            have l4 := less_lt e.key e.key
            rw [decide_eq_false (lt_irrefl _)] at l4
            rw [ho1] at HWS ⊢
            clear hd hd2 ho1 ho2 hq hsr hl hlo
            go_wp2_with fail
            go_quiet (fail)
            obtain ⟨w1, hw1⟩ : ∃ w1, w1 = wr.drewN nq := ⟨_, rfl⟩
            rw [← hw1]
            have HWS1 : Hid (WS W w1 _ _ _) := Lib.hid (by rw [hw1]; exact HWS.out.drewN nq)
            clear hw1 c0 c1 c2 d0 d1 d2 hbl hws1
            have hbw : Below w.heap.size w w1 := HWW.out.trans (HWS1.out.bel.mono (by rw [HW0.out]; omega))
            obtain ⟨b1, off1, e9, hbl, c0, c1, c2⟩ := (HSV.out.below hbw).row i x HX.out
            cases e9
            obtain ⟨⟨d0, d1, d2⟩, _, _⟩ := box3 ((HWS1.out.bel.block _ (M.heap_lt HBX.out)).trans HBX.out)
            have hws1 := HWS1.out.bel.size
            clear hbw
            go_upto_region 8 with (refine wpList_append_lies _ (by rfl) (.tmp 26) (.tmp 28) 27 (by rfl) W.heap.size 64 i0 _ 3 40 Tryz.underlying27 hii hz0 hz1 hz2 rfl (by decide) (.slice oo (P).length oc) (P).length (cellsE (P)) (by rfl) (by exact HWS1.out.own.alloc _) ⟨w1.heap.size, 0, none⟩ 1 1 [.string e.key, .string e.val, .int .i64 e.rev] (by rfl) (by rfl) (World.news_of_block (cs := #[.string e.key, .string e.val, .int .i64 e.rev]) (t := 64) (fr := (0, 0)) (heap_alloc_new w1 _)) (by simp [Value.oneCell']) (by omega) (by unfold maxLen; omega) (by omega) (by simp; omega) (w1.heap.size + 1) (by simp) ?_; intro gg cg w7 hown hgrow hat hlt7; have HG := Lib.hid (HWS1.out.more (e := e) hown hgrow); clear hown hgrow hat)
            have hbw : Below w.heap.size w w7 := HWW.out.trans (HG.out.bel.mono (by rw [HW0.out]; omega))
            obtain ⟨b1, off1, e9, hbl, c0, c1, c2⟩ := (HSV.out.below hbw).row i x HX.out
            cases e9
            obtain ⟨⟨d0, d1, d2⟩, _, _⟩ := box3 ((HG.out.bel.block _ (M.heap_lt HBX.out)).trans HBX.out)
            have hws1 := HG.out.bel.size
            clear hbw
            go_wp2_with fail
            go_quiet (fail)
            obtain ⟨w8, hw8⟩ : ∃ w8, w8 = w7.drewN nq := ⟨_, rfl⟩
            rw [← hw8]
            have HG8 : Hid (WS W w8 _ _ _) := Lib.hid (by rw [hw8]; exact HG.out.drewN nq)
            clear hw8 c0 c1 c2 d0 d1 d2 hbl hws1
            go_wp2_with fail
            go_roundw
            case rel => exact ⟨i + 1, some ⟨gg, 0, none⟩, cg, by rw [HTK.out, HN.out.2, List.length_append]; rfl, by rw [HTK.out, HN.out.1], by go_num, by omega, by rw [HTK.out, HN.out.2]; exact HG8.out⟩
            case measure => simp [intOf]; omega
          · have hg : lt e.key x.key := by
              rcases lt_tri x.key e.key with h | h | h
              · exact absurd h hl
              · exact absurd h hq
              · exact h
            obtain ⟨hd2, ho1, ho2⟩ := w_more hd hg
            have HN := Lib.hid (And.intro hd2 ho2)
            rw [decide_eq_false hq] at l2
            have l3 : ¬ x.key.toList = e.key.toList := beq_eq_false_iff_ne.1 l2
            rw [ho1] at HWS ⊢
            clear hd hd2 ho1 ho2 hq hsr hl hlo hg
            go_wp2_with fail
            go_quiet (fail)
            obtain ⟨w1, hw1⟩ : ∃ w1, w1 = wr.drewN nq := ⟨_, rfl⟩
            rw [← hw1]
            have HWS1 : Hid (WS W w1 _ _ _) := Lib.hid (by rw [hw1]; exact HWS.out.drewN nq)
            clear hw1 c0 c1 c2 d0 d1 d2 hbl hws1
            have hbw : Below w.heap.size w w1 := HWW.out.trans (HWS1.out.bel.mono (by rw [HW0.out]; omega))
            obtain ⟨b1, off1, e9, hbl, c0, c1, c2⟩ := (HSV.out.below hbw).row i x HX.out
            cases e9
            obtain ⟨⟨d0, d1, d2⟩, _, _⟩ := box3 ((HWS1.out.bel.block _ (M.heap_lt HBX.out)).trans HBX.out)
            have hws1 := HWS1.out.bel.size
            clear hbw
            go_upto_region 8 with (refine wpList_append_lies _ (by rfl) (.tmp 26) (.tmp 28) 27 (by rfl) W.heap.size 64 i0 _ 3 40 Tryz.underlying27 hii hz0 hz1 hz2 rfl (by decide) (.slice oo (P).length oc) (P).length (cellsE (P)) (by rfl) (by exact HWS1.out.own.alloc _) ⟨w1.heap.size, 0, none⟩ 1 1 [.string e.key, .string e.val, .int .i64 e.rev] (by rfl) (by rfl) (World.news_of_block (cs := #[.string e.key, .string e.val, .int .i64 e.rev]) (t := 64) (fr := (0, 0)) (heap_alloc_new w1 _)) (by simp [Value.oneCell']) (by omega) (by unfold maxLen; omega) (by omega) (by simp; omega) (w1.heap.size + 1) (by simp) ?_; intro gg cg w7 hown hgrow hat hlt7; have HG := Lib.hid (HWS1.out.more (e := e) hown hgrow); clear hown hgrow hat)
            have hbw : Below w.heap.size w w7 := HWW.out.trans (HG.out.bel.mono (by rw [HW0.out]; omega))
            obtain ⟨b1, off1, e9, hbl, c0, c1, c2⟩ := (HSV.out.below hbw).row i x HX.out
            cases e9
            obtain ⟨⟨d0, d1, d2⟩, _, _⟩ := box3 ((HG.out.bel.block _ (M.heap_lt HBX.out)).trans HBX.out)
            have hws1 := HG.out.bel.size
            clear hbw
            have hlp : (P ++ [e]).length = P.length + 1 := by simp
            have hcst : (((P.length : Nat) : Int) + 1) = (((P ++ [e]).length : Nat) : Int) := by omega
            rw [← hlp]
            obtain ⟨O, hO⟩ : ∃ O, O = P ++ [e] := ⟨_, rfl⟩
            rw [← hO] at HG HN hlp ⊢
            have HLP := Lib.hid hlp
            clear hO hcst
            go_wp2_with fail
            go_quiet (fail)
            obtain ⟨w8, hw8⟩ : ∃ w8, w8 = w7.drewN nq := ⟨_, rfl⟩
            rw [← hw8]
            have HG8 : Hid (WS W w8 _ _ _) := Lib.hid (by rw [hw8]; exact HG.out.drewN nq)
            clear hw8 c0 c1 c2 d0 d1 d2 hbl hws1
            have hbw : Below w.heap.size w w8 := HWW.out.trans (HG8.out.bel.mono (by rw [HW0.out]; omega))
            obtain ⟨b1, off1, e9, hbl, c0, c1, c2⟩ := (HSV.out.below hbw).row i x HX.out
            cases e9
            obtain ⟨⟨d0, d1, d2⟩, _, _⟩ := box3 ((HG8.out.bel.block _ (M.heap_lt HBX.out)).trans HBX.out)
            have hws1 := HG8.out.bel.size
            clear hbw
            go_wp2_with (refine wpList_append_lies _ (by rfl) (.tmp 38) (.tmp 43) 27 (by rfl) W.heap.size 64 i0 _ 3 40 Tryz.underlying27 hii hz0 hz1 hz2 rfl (by decide) (.slice (some ⟨gg, 0, none⟩) (O).length cg) (O).length (cellsE (O)) (by rfl) (by exact HG8.out.own.alloc _) ⟨w8.heap.size, 0, none⟩ 1 1 [.string x.key, .string x.val, .int .i64 x.rev] (by rfl) (by rfl) (World.news_of_block (cs := #[.string x.key, .string x.val, .int .i64 x.rev]) (t := 64) (fr := (0, 0)) (heap_alloc_new w8 _)) (by simp [Value.oneCell']) (by omega) (by unfold maxLen; omega) (by omega) (by simp; omega) (w8.heap.size + 1) (by simp) ?_; intro g2 c2' w9 hown hgrow hat hlt7; have HG9 := Lib.hid (HG8.out.more (e := x) hown hgrow); clear hown hgrow hat)
            go_roundw
            case rel => exact ⟨i + 1, some ⟨g2, 0, none⟩, c2', by rw [HTK.out, HN.out.2, List.length_append, HLP.out]; rfl, by rw [HTK.out, HN.out.1], by go_num, by omega, by rw [HTK.out, HN.out.2]; exact HG9.out⟩
            case measure => simp [intOf]; omega
    · obtain rfl : i = A.length := by omega
      have hii2 : ¬ (A.length : Int) < (A.length : Int) := by omega
      rw [List.take_of_length_le (Nat.le_refl _)] at hws hlo ⊢
      have hwe := w_end A e
      have HWS := Lib.hid hws
      obtain ⟨⟨d0, d1, d2⟩, _, _⟩ := box3 ((hws.bel.block _ (M.heap_lt HBX.out)).trans HBX.out)
      have hws1 := hws.bel.size
      have HF : Hid (∀ (oo : Option Addr) (oc : Nat) (wx : World) (O : List Ent), WS W wx oo oc O → wx.ownsRow w.heap.size 64 3 (.slice oo O.length oc) O.length (cellsE O) ∧ Below w.heap.size w wx) := Lib.hid fun oo oc wx O h => ⟨own_base h.own (fun k hk => by
        cases oo with
        | none => cases hk
        | some a =>
          obtain ⟨_, _, hb⟩ := own_heap h.own a rfl
          obtain rfl := Option.some.inj hk
          have := HW0.out
          omega), HWW.out.trans (h.bel.mono (by rw [HW0.out]; omega))⟩
      clear hws
      cases hd : wDone A e.key with
      | true =>
        have HE := Lib.hid (hwe.1 hd)
        obtain ⟨O, hO⟩ : ∃ O, O = wOut A e := ⟨_, rfl⟩
        rw [← hO] at HWS HE ⊢
        clear hd hwe hO hlo
        go_wp2_with fail
        go_ret
        exact ⟨oo, oc, by rw [← HE.out]; rfl, by rw [← HE.out]; exact (HF.out _ _ _ _ HWS.out).1, (HF.out _ _ _ _ HWS.out).2⟩
      | false =>
        have HE := Lib.hid (hwe.2 hd)
        rw [(hwe.2 hd).1] at HWS ⊢
        clear hd hwe hlo
        go_wp2_with (refine wpList_append_lies _ (by rfl) (.tmp 47) (.tmp 49) 27 (by rfl) W.heap.size 64 i0 _ 3 40 Tryz.underlying27 hii hz0 hz1 hz2 rfl (by decide) (.slice oo (A).length oc) (A).length (cellsE (A)) (by rfl) (by exact HWS.out.own.alloc _) ⟨wr.heap.size, 0, none⟩ 1 1 [.string e.key, .string e.val, .int .i64 e.rev] (by rfl) (by rfl) (World.news_of_block (cs := #[.string e.key, .string e.val, .int .i64 e.rev]) (t := 64) (fr := (0, 0)) (heap_alloc_new wr _)) (by simp [Value.oneCell']) (by omega) (by unfold maxLen; omega) (by omega) (by simp; omega) (wr.heap.size + 1) (by simp) ?_; intro gg cg w7 hown hgrow hat hlt7; have HG := Lib.hid (HWS.out.more (e := e) hown hgrow); clear hown hgrow hat)
        go_ret
        exact ⟨some ⟨gg, 0, none⟩, cg, by rw [HE.out.2, List.length_append]; rfl, by rw [HE.out.2]; exact (HF.out _ _ _ _ HG.out).1, (HF.out _ _ _ _ HG.out).2⟩
end Go.Proofs.YtpeiamllkddhiaaGreatDoor.P
