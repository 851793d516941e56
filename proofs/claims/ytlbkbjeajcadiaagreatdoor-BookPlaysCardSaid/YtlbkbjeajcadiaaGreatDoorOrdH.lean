/- ids.Set, and the document's Set. -/
import Derived.Test.YtlbkbjeajcadiaaGreatDoorOrdG
import Derived.Deep.AppendLies
namespace Go.Proofs.YtlbkbjeajcadiaaGreatDoor.O
open Go.RowKit Go.Proofs.YtlbkbjeajcadiaaGreatDoor.M Go.BigFrame
set_option linter.unusedVariables false
set_option linter.unusedSimpArgs false

section
variable {P : Program} {w : World} {α : Type}
/-- append, of one element that lies in a new block, to a row of one's own -/
theorem wpList_app (enc : α → List Value) (k : Nat) (hk : ∀ x, (enc x).length = k) (h0 : 0 < k) (h1 : ∀ x, ∀ v ∈ enc x, v.oneCell' = true) {ops : Array Oper} {rest : List Oper} {o : Oper} {a : Act} {Q : Exit → Act → World → Prop} (hgd : o.guard = none) (s x : Operand) (t : TypeId)
    (ho : o.op = .call { callee := .builtin .append, args := #[s, x], argTypes := #[t, t] }) (B : Nat) (e : TypeId) (i : TypeInfo) (z : Value) (bytes : Nat) (ht : P.underlying t = some (.slice e)) (hi : P.info? e = some i) (hz : i.zero = some z)
    (hsize : i.size = k) (hby : i.bytes = bytes) (hb2 : bytes ≤ 1000) (hzs : z.cells.size = k) (oo : Option Addr) (oc : Nat) (M : List α) (y : α) (cs : Array Value) (hcs : cs.toList = enc y) (hs : a.eval s = .slice oo M.length oc)
    (hown : w.ownsRow B e k (.slice oo M.length oc) M.length (M.flatMap enc)) (hx : a.eval x = .slice (some ⟨w.heap.size, 0, none⟩) 1 1) (hM : M.length ≤ 100000000) (hB : B ≤ w.heap.size)
    (h : ∀ oo' oc' w', w'.ownsRow B e k (.slice oo' (M ++ [y]).length oc') (M ++ [y]).length ((M ++ [y]).flatMap enc) → Mods (fun j => ∃ a, oo = some a ∧ j = a.block) w w' → Below B w w' → wpList P ops Q rest (a.put o.dst (.slice oo' (M ++ [y]).length oc')) w') :
    wpList P ops Q (o :: rest) a (w.alloc (.cells cs e)) := by
  refine wpList_append_lies _ hgd s x t ho B e i z k bytes ht hi hz hsize hby hzs h0 (.slice oo M.length oc) M.length (M.flatMap enc) hs (hown.alloc _) ⟨w.heap.size, 0, none⟩ 1 1 (enc y) hx (by rw [hk]; omega)
    (by rw [← hcs]; exact World.news_of_block (cs := cs) (t := e) (fr := (0, 0)) (heap_alloc_new w _)) (h1 y) (by omega) (by unfold maxLen; omega) ?_ (by simp; omega) (w.heap.size + 1) (by simp) ?_
  · have : (M.length + 1) * bytes ≤ 100000001 * 1000 := Nat.mul_le_mul (by omega) hb2
    omega
  · intro g cap w' hown' hgrow _ _
    have hm : Mods (fun j => ∃ a, oo = some a ∧ j = a.block) w w' := ((Mods.refl _ w).alloc _).then (Mods.of_grown hgrow) (fun k _ hk => by
      cases oo with
      | none => cases hk
      | some a => exact ⟨a, rfl, (Option.some.inj hk).symm⟩)
    have hb : Below B w w' := hm.below (fun j ⟨a, e1, e2⟩ => by
      subst e1
      rw [e2]
      exact (hown.lt a.block rfl).1) hB
    have hl : (M ++ [y]).length = M.length + 1 := by simp
    have := h (some ⟨g, 0, none⟩) cap w' (by rw [hl, List.flatMap_append]; simpa using hown') hm hb
    rwa [hl] at this
end
theorem idC_one (x : Id) : ∀ v ∈ idC x, v.oneCell' = true := by
  intro v hv
  rcases List.mem_cons.1 hv with rfl | hv
  · rfl
  · rw [List.mem_singleton.1 hv]; rfl
abbrev OwnL (w : World) (B : Nat) (oo : Option Addr) (oc : Nat) (M : List Id) : Prop := w.ownsRow B 31 2 (.slice oo M.length oc) M.length (M.flatMap idC)
/-- the document's add: where it stands -/
def AddSt (o : List Id) (x : Id) (k : Nat) (done : Bool) (M : List Id) : Prop :=
  (done = false ∧ M = o.take k ∧ ∀ j y, j < k → o[j]? = some y → ilt x y = false) ∨ (done = true ∧ insE ilt x o = M ++ o.drop k)
theorem insE_front {o : List Id} {x : Id} : ∀ k, (∀ j y, j < k → o[j]? = some y → ilt x y = false) → insE ilt x o = o.take k ++ insE ilt x (o.drop k) := by
  induction o with
  | nil => intro k _; simp
  | cons a o ih =>
    intro k h
    cases k with
    | zero => simp
    | succ k =>
      have h0 := h 0 a (by omega) rfl
      show (if ilt x a then x :: a :: o else a :: insE ilt x o) = _
      rw [h0, if_neg (by simp), ih k (fun j y hj hy => h (j + 1) y (by omega) (by simpa using hy))]
      simp
theorem AddSt.start (o : List Id) (x : Id) : AddSt o x 0 false [] := .inl ⟨rfl, by simp, fun j y hj => absurd hj (by omega)⟩
theorem drop_at {o : List Id} {k : Nat} {y : Id} (hy : o[k]? = some y) : o.drop k = y :: o.drop (k + 1) := by
  have hk := (List.getElem?_eq_some_iff.1 hy).1
  rw [← List.getElem_cons_drop hk, (List.getElem?_eq_some_iff.1 hy).2]
theorem AddSt.put {o : List Id} {x y : Id} {k : Nat} {M : List Id} (h : AddSt o x k false M) (hy : o[k]? = some y) (hlt : ilt x y = true) : AddSt o x (k + 1) true (M ++ [x] ++ [y]) := by
  rcases h with ⟨_, rfl, hno⟩ | ⟨h, _⟩
  · refine .inr ⟨rfl, ?_⟩
    rw [insE_front k hno, drop_at hy]
    show o.take k ++ (if ilt x y then x :: y :: o.drop (k + 1) else y :: insE ilt x (o.drop (k + 1))) = _
    rw [hlt, if_pos rfl]
    simp
  · cases h
theorem AddSt.go {o : List Id} {x y : Id} {k : Nat} {M : List Id} (h : AddSt o x k false M) (hy : o[k]? = some y) (hlt : ilt x y = false) : AddSt o x (k + 1) false (M ++ [y]) := by
  rcases h with ⟨_, rfl, hno⟩ | ⟨h, _⟩
  · refine .inl ⟨rfl, by rw [List.take_add_one, hy]; rfl, fun j z hj hz => ?_⟩
    by_cases e : j = k
    · subst e; rw [hy] at hz; cases hz; exact hlt
    · exact hno j z (by omega) hz
  · cases h
theorem AddSt.more {o : List Id} {x y : Id} {k : Nat} {M : List Id} (h : AddSt o x k true M) (hy : o[k]? = some y) : AddSt o x (k + 1) true (M ++ [y]) := by
  rcases h with ⟨h, _⟩ | ⟨_, h⟩
  · cases h
  · refine .inr ⟨rfl, ?_⟩
    rw [h, drop_at hy]
    simp
theorem AddSt.end_yes {o : List Id} {x : Id} {M : List Id} (h : AddSt o x o.length true M) : M = insE ilt x o := by
  rcases h with ⟨h, _⟩ | ⟨_, h⟩
  · cases h
  · rw [h]; simp
theorem AddSt.end_no {o : List Id} {x : Id} {M : List Id} (h : AddSt o x o.length false M) : M ++ [x] = insE ilt x o := by
  rcases h with ⟨_, rfl, hno⟩ | ⟨h, _⟩
  · rw [insE_front o.length hno]
    simp [insE]
  · cases h
theorem AddSt.len {o : List Id} {x : Id} {k : Nat} {b : Bool} {M : List Id} (h : AddSt o x k b M) (hk : k ≤ o.length) : M.length ≤ o.length + 1 := by
  rcases h with ⟨_, rfl, _⟩ | ⟨_, h⟩
  · rw [List.length_take]; omega
  · have := (insE_perm (lt := ilt) x o).length_eq
    rw [h, List.length_append, List.length_cons] at this
    omega
set_option maxRecDepth 100000 in
set_option maxHeartbeats 4000000 in
theorem refadd_any (o : List Id) (ao : Option Addr) (cap : Nat) (x : Id) (w : World) (h : IdsV w ao cap o) (hl : o.length ≤ 1000000) :
    Calls Tryz.prog 77 #[.slice ao o.length cap, idV x] w fun e w' => ∃ oo oc, e = .returned (.slice oo (insE ilt x o).length oc) ∧ (OwnL w' w.heap.size oo oc (insE ilt x o) ∧ Below w.heap.size w w') := by
  obtain ⟨hl1, hl2⟩ := h.le
  unfold maxLen at hl2
  obtain ⟨i0, hi, hz0, hz1, hz2⟩ := info_parts info_id
  have H0 := Lib.hid h
  clear h
  go_enter Tryz.func77, Tryz.ntmps77
  go_upto_region 1 with fail
  obtain ⟨W, hW⟩ : ∃ W, W = w.alloc (idO x) := ⟨_, rfl⟩
  rw [← hW]
  have HB : Hid (Below w.heap.size w W) := Lib.hid (by rw [hW]; exact (Below.refl _ _).alloc (Nat.le_refl _) _)
  have HX : Hid (W.heap[w.heap.size]? = some (idO x)) := Lib.hid (by rw [hW]; exact heap_alloc_new w _)
  clear hW
  have H := Lib.hid (H0.out.below (B := 0) HB.out)
  have hlt := M.heap_lt HX.out
  have hwW := HB.out.size
  obtain ⟨B, hBe⟩ : ∃ B, B = w.heap.size := ⟨_, rfl⟩
  have HST := Lib.hid (World.ownsRow_nil W B 31 2)
  clear H0
  go_wp2_with fail
  go_loopw [5, 6, 7] (fun ov dv kv wr => ∃ (k : Nat) (done : Bool) (M : List Id) (oo : Option Addr) (oc : Nat), ov = .slice oo M.length oc ∧ dv = .bool done ∧ kv = .int .i64 k ∧ k ≤ o.length ∧ AddSt o x k done M ∧ OwnL wr W.heap.size oo oc M ∧ Below W.heap.size W wr) (fun _ _ kv _ => o.length - (intOf kv).toNat)
  case atStart => exact ⟨0, false, [], none, 0, rfl, rfl, rfl, Nat.zero_le _, AddSt.start o x, World.ownsRow_nil _ _ _ _, Below.refl _ _⟩
  case round =>
    obtain ⟨k, done, M, oo, oc, rfl, rfl, rfl, hk, hst, hown, hb⟩ := hrel
    have HS := Lib.hid hst
    have HOW := Lib.hid hown
    have HBR := Lib.hid hb
    have hMl := hst.len hk
    clear hst hown hb HST
    have hWr := HBR.out.size
    by_cases hkl : k < o.length
    · have hii : (k : Int) < (o.length : Int) := by omega
      obtain ⟨y, hy⟩ : ∃ x, o[k]? = some x := ⟨_, List.getElem?_eq_getElem hkl⟩
      have HY := Lib.hid hy
      obtain ⟨b, off, e0, hbl, c0, c1⟩ := H.out.row k y hy
      cases e0
      obtain ⟨⟨d0, d1⟩, _⟩ := box2 HX.out
      have HC := Lib.hid (show ∀ wx : World, Below W.heap.size W wx → (wx.cell? ⟨b, off + k * 2, none⟩ = some (.int .i64 y.r) ∧ wx.cell? ⟨b, off + k * 2 + 1, none⟩ = some (.int .i64 y.n)) ∧ (wx.cell? ⟨w.heap.size, 0, none⟩ = some (.int .i64 x.r) ∧ wx.cell? ⟨w.heap.size, 1, none⟩ = some (.int .i64 x.n)) from fun wx hb =>
        ⟨⟨(hb.cell (p := ⟨b, _, none⟩) hbl).trans c0, (hb.cell (p := ⟨b, _, none⟩) hbl).trans c1⟩, (hb.cell (p := ⟨w.heap.size, _, none⟩) hlt).trans d0, (hb.cell (p := ⟨w.heap.size, _, none⟩) hlt).trans d1⟩)
      obtain ⟨⟨a0, a1⟩, a2, a3⟩ := HC.out wr HBR.out
      have k0 := Kin.cell a0
      have k1 := Kin.cell a1
      have k2 := Kin.cell a2
      have k3 := Kin.cell a3
      clear hy c0 c1 d0 d1 a0 a1 a2 a3
      cases done with
      | true =>
        have HN := Lib.hid (HS.out.more HY.out)
        go_upto_region 6 with fail
        refine wp_region_kin (by kernel_rfl) (by kernel_rfl) ?_
        repeat (go_big_quiet_step (fail))
        refine wpQuiet_nil ?_
        intro _ hxx
        obtain ⟨xk, rfl⟩ := hxx
        obtain ⟨w1, hw1⟩ : ∃ w1, w1 = xk.w := ⟨_, rfl⟩
        have HO1 := Lib.hid (own_kept HOW.out (Mods.of_below (S := fun _ => False) xk.h) (fun _ _ h => h))
        have HB1 := Lib.hid (HBR.out.trans (xk.h.mono hWr))
        rw [← hw1] at HO1 HB1 ⊢
        clear k0 k1 k2 k3 hw1
        have hs1 := HB1.out.size
        obtain ⟨⟨a0, a1⟩, a2, a3⟩ := HC.out w1 HB1.out
        go_wp2_with (refine wpList_app idC 2 (fun _ => rfl) (by decide) idC_one (by rfl) (.tmp 28) (.tmp 33) 36 (by rfl) W.heap.size 31 i0 _ 16 Tryz.underlying36 hi hz0 hz1 hz2 (by decide) rfl oo oc M y #[.int .i64 (y).r, .int .i64 (y).n] rfl (by rfl) (by exact HO1.out) (by rfl) (by omega) (by omega) ?_; intro oo' oc' w7 hown hmod hbel; have HOW7 := Lib.hid hown; have HBE7 := Lib.hid hbel; clear hown hmod hbel)
        clear a0 a1 a2 a3
        go_roundw
        case rel => exact ⟨k + 1, true, M ++ [y], oo', oc', by simp, rfl, by go_num, by omega, HN.out, HOW7.out, HB1.out.trans HBE7.out⟩
        case measure => simp [intOf]; omega
      | false =>
        cases hlt2 : ilt x y with
        | false =>
          have HLT := Lib.hid hlt2
          have HN := Lib.hid (HS.out.go HY.out hlt2)
          clear hlt2
          go_upto_region 6 with fail
          refine wp_region_kin (by kernel_rfl) (by kernel_rfl) ?_
          repeat (go_big_quiet_step ((first | (go_at_call 71; with_reducible exact Kin.grew _ (refless_any x y _ _ HLT.out)))))
          refine wpQuiet_nil ?_
          intro _ hxx
          obtain ⟨xk, rfl⟩ := hxx
          obtain ⟨w1, hw1⟩ : ∃ w1, w1 = xk.w := ⟨_, rfl⟩
          have HO1 := Lib.hid (own_kept HOW.out (Mods.of_below (S := fun _ => False) xk.h) (fun _ _ h => h))
          have HB1 := Lib.hid (HBR.out.trans (xk.h.mono hWr))
          rw [← hw1] at HO1 HB1 ⊢
          clear k0 k1 k2 k3 hw1
          have hs1 := HB1.out.size
          obtain ⟨⟨a0, a1⟩, a2, a3⟩ := HC.out w1 HB1.out
          go_wp2_with (refine wpList_app idC 2 (fun _ => rfl) (by decide) idC_one (by rfl) (.tmp 28) (.tmp 33) 36 (by rfl) W.heap.size 31 i0 _ 16 Tryz.underlying36 hi hz0 hz1 hz2 (by decide) rfl oo oc M y #[.int .i64 (y).r, .int .i64 (y).n] rfl (by rfl) (by exact HO1.out) (by rfl) (by omega) (by omega) ?_; intro oo' oc' w7 hown hmod hbel; have HOW7 := Lib.hid hown; have HBE7 := Lib.hid hbel; clear hown hmod hbel)
          clear a0 a1 a2 a3
          go_roundw
          case rel => exact ⟨k + 1, false, M ++ [y], oo', oc', by simp, rfl, by go_num, by omega, HN.out, HOW7.out, HB1.out.trans HBE7.out⟩
          case measure => simp [intOf]; omega
        | true =>
          have HLT := Lib.hid hlt2
          have HN := Lib.hid (HS.out.put HY.out hlt2)
          clear hlt2
          go_upto_region 6 with fail
          refine wp_region_kin (by kernel_rfl) (by kernel_rfl) ?_
          repeat (go_big_quiet_step ((first | (go_at_call 71; with_reducible exact Kin.grew _ (refless_any x y _ _ HLT.out)))))
          refine wpQuiet_nil ?_
          intro _ hxx
          obtain ⟨xk, rfl⟩ := hxx
          obtain ⟨w1, hw1⟩ : ∃ w1, w1 = xk.w := ⟨_, rfl⟩
          have HO1 := Lib.hid (own_kept HOW.out (Mods.of_below (S := fun _ => False) xk.h) (fun _ _ h => h))
          have HB1 := Lib.hid (HBR.out.trans (xk.h.mono hWr))
          rw [← hw1] at HO1 HB1 ⊢
          clear k0 k1 k2 k3 hw1
          have hs1 := HB1.out.size
          obtain ⟨⟨a0, a1⟩, a2, a3⟩ := HC.out w1 HB1.out
          go_upto_region 9 with (refine wpList_app idC 2 (fun _ => rfl) (by decide) idC_one (by rfl) (.tmp 24) (.tmp 26) 36 (by rfl) W.heap.size 31 i0 _ 16 Tryz.underlying36 hi hz0 hz1 hz2 (by decide) rfl oo oc M x #[.int .i64 (x).r, .int .i64 (x).n] rfl (by rfl) (by exact HO1.out) (by rfl) (by omega) (by omega) ?_; intro oo' oc' w7 hown hmod hbel; have HOW7 := Lib.hid hown; have HBE7 := Lib.hid hbel; clear hown hmod hbel)
          obtain ⟨w2, rfl⟩ : ∃ w2, w2 = w7 := ⟨_, rfl⟩
          have HO2 := HOW7
          have HB2 := Lib.hid (HB1.out.trans HBE7.out)
          clear a0 a1 a2 a3 HOW7 HBE7 HO1
          obtain ⟨⟨a0, a1⟩, a2, a3⟩ := HC.out w2 HB2.out
          have hs2 := HB2.out.size
          obtain ⟨M2, hM2⟩ : ∃ M2, M2 = M ++ [x] := ⟨_, rfl⟩
          have hl2 : M.length + 1 = M2.length := by rw [hM2]; simp
          have hMl2 : M2.length ≤ 2000000 := by omega
          rw [← hM2] at HO2 HN
          rw [hl2]
          clear hM2 hl2
          go_wp2_with (refine wpList_app idC 2 (fun _ => rfl) (by decide) idC_one (by rfl) (.tmp 28) (.tmp 33) 36 (by rfl) W.heap.size 31 i0 _ 16 Tryz.underlying36 hi hz0 hz1 hz2 (by decide) rfl oo' oc' M2 y #[.int .i64 (y).r, .int .i64 (y).n] rfl (by rfl) (by exact HO2.out) (by rfl) (by omega) (by omega) ?_; intro oo' oc' w7 hown hmod hbel; have HOW7 := Lib.hid hown; have HBE7 := Lib.hid hbel; clear hown hmod hbel)
          clear a0 a1 a2 a3
          go_roundw
          case rel => exact ⟨k + 1, true, M2 ++ [y], _, _, by simp, rfl, by go_num, by omega, HN.out, HOW7.out, HB2.out.trans HBE7.out⟩
          case measure => simp [intOf]; omega
    · obtain rfl : k = o.length := by omega
      have hii : ¬ (o.length : Int) < (o.length : Int) := by omega
      cases done with
      | true =>
        have HE := Lib.hid HS.out.end_yes
        have HFIN := Lib.hid (show OwnL wr w.heap.size oo oc M ∧ Below w.heap.size w wr from ⟨own_base HOW.out (fun k hk => Nat.le_trans hwW (HOW.out.lt k hk).1), HB.out.trans (HBR.out.mono hwW)⟩)
        go_wp2_with fail
        go_ret
        refine ⟨oo, oc, ret_val (by rw [← HE.out]; rfl), ?_⟩
        rw [← HE.out]
        exact HFIN.out
      | false =>
        have HE := Lib.hid HS.out.end_no
        obtain ⟨⟨a2, a3⟩, _⟩ := box2 ((HBR.out.block _ hlt).trans HX.out)
        go_wp2_with (refine wpList_app idC 2 (fun _ => rfl) (by decide) idC_one (by rfl) (.tmp 37) (.tmp 39) 36 (by rfl) W.heap.size 31 i0 _ 16 Tryz.underlying36 hi hz0 hz1 hz2 (by decide) rfl oo oc M x #[.int .i64 (x).r, .int .i64 (x).n] rfl (by rfl) (by exact HOW.out) (by rfl) (by omega) (by omega) ?_; intro oo' oc' w7 hown hmod hbel; have HOW7 := Lib.hid hown; have HBE7 := Lib.hid hbel; clear hown hmod hbel)
        clear a2 a3
        have HFIN := Lib.hid (show OwnL w7 w.heap.size oo' oc' (M ++ [x]) ∧ Below w.heap.size w w7 from ⟨own_base HOW7.out (fun k hk => Nat.le_trans hwW (HOW7.out.lt k hk).1), HB.out.trans ((HBR.out.trans HBE7.out).mono hwW)⟩)
        go_ret
        refine ⟨oo', oc', ret_val (by rw [← HE.out]; simp), ?_⟩
        rw [← HE.out]
        exact HFIN.out
end Go.Proofs.YtlbkbjeajcadiaaGreatDoor.O
