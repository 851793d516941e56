/- Sets of ids: what is right with them, in the program and in the document. -/
import Derived.Test.YtlbkbjeajcadiaaGreatDoorOrdC
namespace Go.Proofs.YtlbkbjeajcadiaaGreatDoor.O
open Go.RowKit Go.Proofs.YtlbkbjeajcadiaaGreatDoor.M Go.BigFrame
set_option linter.unusedVariables false
set_option linter.unusedSimpArgs false

theorem Kin.grew {P : Program} {f : FuncId} {args : Array Value} {W : World} {v : Value} (x : Kin W) (h : Calls P f args x.w fun e w' => e = .returned v ∧ Grew x.w w') : Calls P f args x.w fun e w'' => e = .returned v ∧ ∃ y : Kin W, w'' = y.w :=
  Kin.call x (h.mono fun e w' ⟨he, hg⟩ => ⟨he, hg.below⟩)
/-- is an id right where it stands? -/
def stepB (l : List Id) (k : Nat) : Bool := match l[k]? with
  | some x => idOk x && (match k with
    | 0 => true
    | j + 1 => match l[j]? with
      | some y => ilt y x
      | none => true)
  | none => true
def setOk (l : List Id) : Bool := (List.range l.length).all (stepB l) && decide (l.length ≤ 4096)
theorem stepB_zero {l : List Id} {x : Id} (hx : l[0]? = some x) : stepB l 0 = idOk x := by unfold stepB; rw [hx]; simp
theorem stepB_succ {l : List Id} {k : Nat} {x y : Id} (hx : l[k + 1]? = some x) (hy : l[k]? = some y) : stepB l (k + 1) = (idOk x && ilt y x) := by unfold stepB; rw [hx]; simp [hy]
theorem setOk_no {l : List Id} {k : Nat} (hk : k < l.length) (h : stepB l k = false) : setOk l = false := by
  unfold setOk
  rw [Bool.and_eq_false_iff]
  left
  rw [List.all_eq_false]
  exact ⟨k, List.mem_range.2 hk, by rw [h]; simp⟩
theorem setOk_end {l : List Id} (h : ∀ j, j < l.length → stepB l j = true) : setOk l = decide (l.length ≤ 4096) := by
  unfold setOk
  have : (List.range l.length).all (stepB l) = true := by
    rw [List.all_eq_true]
    intro j hj
    exact h j (List.mem_range.1 hj)
  rw [this, Bool.true_and]
abbrev zeroI : Obj := .cells #[.int .i64 0, .int .i64 0] 31
theorem box_heap (w : World) (x : Id) : (((w.alloc zeroI).setCell ⟨w.heap.size, 0, none⟩ (.int .i64 x.r)).setCell ⟨w.heap.size, 1, none⟩ (.int .i64 x.n)).heap[w.heap.size]? = some (idO x) := by
  have s1 := heap_set (w.alloc zeroI) w.heap.size 0 (.int .i64 x.r) w.heap.size _ _ _ (heap_alloc_new w _)
  rw [if_pos rfl] at s1
  have s2 := heap_set _ w.heap.size 1 (.int .i64 x.n) w.heap.size _ _ _ s1
  rw [if_pos rfl] at s2
  exact s2
theorem mods_set {w : World} {g i : Nat} {u : Value} : Mods (fun k => k = g) w (w.setCell ⟨g, i, none⟩ u) := (Mods.refl (fun k => k = g) w).setCell (p := ⟨g, i, none⟩) (fun _ => rfl) u
theorem box_new (w : World) (x : Id) : Below w.heap.size w (((w.alloc zeroI).setCell ⟨w.heap.size, 0, none⟩ (.int .i64 x.r)).setCell ⟨w.heap.size, 1, none⟩ (.int .i64 x.n)) := by
  have hm : Mods (fun k => k = w.heap.size) (w.alloc zeroI) (((w.alloc zeroI).setCell ⟨w.heap.size, 0, none⟩ (.int .i64 x.r)).setCell ⟨w.heap.size, 1, none⟩ (.int .i64 x.n)) := (mods_set (w := w.alloc zeroI)).trans mods_set
  have ha : Below w.heap.size w (w.alloc zeroI) := (Below.refl _ _).alloc (Nat.le_refl _) _
  exact ha.trans (hm.below (B := w.heap.size) (fun j e => by omega) ha.size)
set_option maxRecDepth 100000 in
set_option maxHeartbeats 4000000 in
theorem refcheckI_any (l : List Id) (ao : Option Addr) (cap : Nat) (w : World) (h : IdsV w ao cap l) (hl : l.length ≤ 1000000) (v : Bool) (hv : setOk l = v) :
    Calls Tryz.prog 102 #[.slice ao l.length cap] w fun e w' => e = .returned (.bool v) ∧ Below w.heap.size w w' := by
  obtain ⟨hl1, hl2⟩ := h.le
  unfold maxLen at hl2
  have H := Lib.hid h
  have HV := Lib.hid hv
  clear h hv
  go_enter Tryz.func102, Tryz.ntmps102
  go_wp2_with fail
  go_loopw [3] (fun iv wr => ∃ k : Nat, iv = .int .i64 k ∧ k ≤ l.length ∧ Below w.heap.size w wr ∧ ∀ j, j < k → stepB l j = true) (fun iv _ => l.length - (intOf iv).toNat)
  case atStart => exact ⟨0, rfl, Nat.zero_le _, Below.refl _ _, fun j hj => absurd hj (by omega)⟩
  case round =>
    obtain ⟨k, rfl, hk, hb, hno⟩ := hrel
    have HNO := Lib.hid hno
    have HBR := Lib.hid hb
    clear hno hb
    by_cases hkl : k < l.length
    · have hii : (k : Int) < (l.length : Int) := by omega
      obtain ⟨x, hx⟩ : ∃ x, l[k]? = some x := ⟨_, List.getElem?_eq_getElem hkl⟩
      obtain ⟨b, off, rfl, hbl, c0, c1⟩ := H.out.row k x hx
      have c0 := (HBR.out.cell (p := ⟨b, _, none⟩) hbl).trans c0
      have c1 := (HBR.out.cell (p := ⟨b, _, none⟩) hbl).trans c1
      obtain ⟨r1, hr1⟩ : ∃ r, idOk x = r := ⟨_, rfl⟩
      have HR1 := Lib.hid hr1
      cases r1 with
      | false =>
        have HE := Lib.hid (show v = false by
          rw [← HV.out]
          refine setOk_no hkl ?_
          unfold stepB
          rw [hx]
          simp [HR1.out])
        clear hx hr1
        have HB4 := HBR
        have BX : ∀ {p : Addr} {u : Value}, wr.cell? p = some u → wr.cell? p = some u := fun h => h
        have k0 := Kin.cell c0
        have k1 := Kin.cell c1
        clear c0 c1
        go_upto_region 4 with fail
        refine wp_region_kin (by kernel_rfl) (by kernel_rfl) ?_
        repeat (go_big_quiet_step ((first | (go_at_call 65; with_reducible exact Kin.grew _ (refright_any x _ _ HR1.out)))))
        refine wpQuiet_nil ?_
        intro _ hxx
        obtain ⟨xk, rfl⟩ := hxx
        have HBK := Lib.hid (HB4.out.trans (xk.h.mono HB4.out.size))
        clear k0 k1
        go_wp2_with fail
        go_ret
        exact ⟨by rw [HE.out]; rfl, HBK.out⟩
      | true =>
        by_cases hk0 : k = 0
        · subst hk0
          have HN := Lib.hid (show ∀ j, j < 1 → stepB l j = true from fun j hj => by
            obtain rfl : j = 0 := by omega
            rw [stepB_zero hx]; exact HR1.out)
          clear hx hr1
          simp only [Nat.zero_mul, Nat.add_zero] at c0 c1
          have HB4 := HBR
          have BX : ∀ {p : Addr} {u : Value}, wr.cell? p = some u → wr.cell? p = some u := fun h => h
          have k0 := Kin.cell c0
          have k1 := Kin.cell c1
          clear c0 c1
          go_upto_region 4 with fail
          refine wp_region_kin (by kernel_rfl) (by kernel_rfl) ?_
          repeat (go_big_quiet_step ((first | (go_at_call 65; with_reducible exact Kin.grew _ (refright_any x _ _ HR1.out)))))
          refine wpQuiet_nil ?_
          intro _ hxx
          obtain ⟨xk, rfl⟩ := hxx
          have HBK := Lib.hid (HB4.out.trans (xk.h.mono HB4.out.size))
          clear k0 k1
          go_wp2_with fail
          go_roundw
          case rel => exact ⟨1, by go_num, by omega, HBK.out, HN.out⟩
          case measure => simp [intOf]; omega
        · obtain ⟨j, hj⟩ : ∃ j, k = j + 1 := ⟨k - 1, by omega⟩
          obtain ⟨y, hy⟩ : ∃ x, l[j]? = some x := ⟨_, List.getElem?_eq_getElem (by omega)⟩
          obtain ⟨b', off', e', _, d0, d1⟩ := H.out.row j y hy
          cases e'
          have d0 := (HBR.out.cell (p := ⟨b, _, none⟩) hbl).trans d0
          have d1 := (HBR.out.cell (p := ⟨b, _, none⟩) hbl).trans d1
          obtain ⟨r2, hr2⟩ : ∃ r, ilt y x = r := ⟨_, rfl⟩
          have HR2 := Lib.hid hr2
          have hjl : (j : Int) < (l.length : Int) := by omega
          have HS := Lib.hid (show stepB l k = (idOk x && ilt y x) by subst hj; exact stepB_succ hx hy)
          have hkj : (k : Int) - 1 = (j : Int) := by omega
          have hkn : decide (0 < k) = true := decide_eq_true (by omega)
          clear hx hy hr1 hr2 hj hk0
          have HB4 := HBR
          have BX : ∀ {p : Addr} {u : Value}, wr.cell? p = some u → wr.cell? p = some u := fun h => h
          have k0 := Kin.cell c0
          have k1 := Kin.cell c1
          clear c0 c1
          have k2 := Kin.cell (BX d0)
          have k3 := Kin.cell (BX d1)
          clear d0 d1
          cases r2 with
          | false =>
            have HE := Lib.hid (show v = false by
              rw [← HV.out]
              refine setOk_no hkl ?_
              rw [HS.out, HR1.out, HR2.out]
              rfl)
            go_upto_region 4 with fail
            refine wp_region_kin (by kernel_rfl) (by kernel_rfl) ?_
            repeat (go_big_quiet_step ((first | (go_at_call 65; with_reducible exact Kin.grew _ (refright_any x _ _ HR1.out)) | (go_at_call 71; with_reducible exact Kin.grew _ (refless_any y x _ _ HR2.out)))))
            refine wpQuiet_nil ?_
            intro _ hxx
            obtain ⟨xk, rfl⟩ := hxx
            have HBK := Lib.hid (HB4.out.trans (xk.h.mono HB4.out.size))
            clear k0 k1 k2 k3
            go_wp2_with fail
            go_ret
            exact ⟨by rw [HE.out]; rfl, HBK.out⟩
          | true =>
            have HN := Lib.hid (show ∀ i, i < k + 1 → stepB l i = true from fun i hi => by
              by_cases e : i = k
              · rw [e, HS.out, HR1.out, HR2.out]; rfl
              · exact HNO.out i (by omega))
            go_upto_region 4 with fail
            refine wp_region_kin (by kernel_rfl) (by kernel_rfl) ?_
            repeat (go_big_quiet_step ((first | (go_at_call 65; with_reducible exact Kin.grew _ (refright_any x _ _ HR1.out)) | (go_at_call 71; with_reducible exact Kin.grew _ (refless_any y x _ _ HR2.out)))))
            refine wpQuiet_nil ?_
            intro _ hxx
            obtain ⟨xk, rfl⟩ := hxx
            have HBK := Lib.hid (HB4.out.trans (xk.h.mono HB4.out.size))
            clear k0 k1 k2 k3
            go_wp2_with fail
            go_roundw
            case rel => exact ⟨k + 1, by go_num, by omega, HBK.out, HN.out⟩
            case measure => simp [intOf]; omega
    · obtain rfl : k = l.length := by omega
      have hii : ¬ (l.length : Int) < (l.length : Int) := by omega
      have HE := Lib.hid (setOk_end HNO.out)
      have hd : decide (l.length ≤ 4096) = decide ((l.length : Int) ≤ 4096) := decide_eq_decide.2 (by omega)
      have HE2 := Lib.hid (show v = decide ((l.length : Int) ≤ 4096) by rw [← HV.out, HE.out, hd])
      clear hd
      go_wp2_with fail
      go_ret
      exact ⟨by rw [HE2.out]; rfl, HBR.out⟩
set_option maxRecDepth 100000 in
set_option maxHeartbeats 4000000 in
theorem checkI_any (l : List Id) (ao : Option Addr) (cap : Nat) (w : World) (h : IdsV w ao cap l) (hl : l.length ≤ 1000000) (v : Bool) (hv : setOk l = v) :
    Calls Tryz.prog 83 #[.slice ao l.length cap] w fun e w' => e = .returned (.bool v) ∧ Below w.heap.size w w' := by
  obtain ⟨hl1, hl2⟩ := h.le
  unfold maxLen at hl2
  have H := Lib.hid h
  have HV := Lib.hid hv
  clear h hv
  go_enter Tryz.func83, Tryz.ntmps83
  go_wp2_with fail
  go_loopw [7] (fun iv wr => ∃ k : Nat, iv = .int .i64 k ∧ k ≤ l.length ∧ Below w.heap.size w wr ∧ ∀ j, j < k → stepB l j = true) (fun iv _ => l.length - (intOf iv).toNat)
  case atStart => exact ⟨0, rfl, Nat.zero_le _, Below.refl _ _, fun j hj => absurd hj (by omega)⟩
  case round =>
    obtain ⟨k, rfl, hk, hb, hno⟩ := hrel
    have HNO := Lib.hid hno
    have HBR := Lib.hid hb
    clear hno hb
    by_cases hkl : k < l.length
    · have hii : (k : Int) < (l.length : Int) := by omega
      obtain ⟨x, hx⟩ : ∃ x, l[k]? = some x := ⟨_, List.getElem?_eq_getElem hkl⟩
      obtain ⟨b, off, rfl, hbl, c0, c1⟩ := H.out.row k x hx
      have c0 := (HBR.out.cell (p := ⟨b, _, none⟩) hbl).trans c0
      have c1 := (HBR.out.cell (p := ⟨b, _, none⟩) hbl).trans c1
      obtain ⟨r1, hr1⟩ : ∃ r, idOk x = r := ⟨_, rfl⟩
      have HR1 := Lib.hid hr1
      cases r1 with
      | false =>
        have HE := Lib.hid (show v = false by
          rw [← HV.out]
          refine setOk_no hkl ?_
          unfold stepB
          rw [hx]
          simp [HR1.out])
        clear hx hr1
        go_upto_region 4 with fail
        obtain ⟨u4, hw⟩ : ∃ u, u = wr.alloc (idO x) := ⟨_, rfl⟩
        rw [← hw]
        have hb4 : Below wr.heap.size wr u4 := by rw [hw]; exact (Below.refl _ _).alloc (Nat.le_refl _) _
        have HB4 := Lib.hid (HBR.out.trans (hb4.mono HBR.out.size))
        have BX : ∀ {p : Addr} {u : Value}, wr.cell? p = some u → u4.cell? p = some u := fun h => (hb4.cell (World.block_lt_of_cell? wr _ h)).trans h
        have hx4 : u4.heap[wr.heap.size]? = some (idO x) := by rw [hw]; exact heap_alloc_new wr _
        obtain ⟨⟨e0, e1⟩, _⟩ := box2 hx4
        have k0 := Kin.cell e0
        have k1 := Kin.cell e1
        clear e0 e1 hx4 hw c0 c1
        go_upto_region 4 with fail
        refine wp_region_kin (by kernel_rfl) (by kernel_rfl) ?_
        repeat (go_big_quiet_step ((first | (go_at_call 47; with_reducible exact Kin.grew _ (right_any x _ _ HR1.out)))))
        refine wpQuiet_nil ?_
        intro _ hxx
        obtain ⟨xk, rfl⟩ := hxx
        have HBK := Lib.hid (HB4.out.trans (xk.h.mono HB4.out.size))
        clear k0 k1
        go_wp2_with fail
        go_ret
        exact ⟨by rw [HE.out]; rfl, HBK.out⟩
      | true =>
        by_cases hk0 : k = 0
        · subst hk0
          have HN := Lib.hid (show ∀ j, j < 1 → stepB l j = true from fun j hj => by
            obtain rfl : j = 0 := by omega
            rw [stepB_zero hx]; exact HR1.out)
          clear hx hr1
          simp only [Nat.zero_mul, Nat.add_zero] at c0 c1
          go_upto_region 4 with fail
          obtain ⟨u4, hw⟩ : ∃ u, u = wr.alloc (idO x) := ⟨_, rfl⟩
          rw [← hw]
          have hb4 : Below wr.heap.size wr u4 := by rw [hw]; exact (Below.refl _ _).alloc (Nat.le_refl _) _
          have HB4 := Lib.hid (HBR.out.trans (hb4.mono HBR.out.size))
          have BX : ∀ {p : Addr} {u : Value}, wr.cell? p = some u → u4.cell? p = some u := fun h => (hb4.cell (World.block_lt_of_cell? wr _ h)).trans h
          have hx4 : u4.heap[wr.heap.size]? = some (idO x) := by rw [hw]; exact heap_alloc_new wr _
          obtain ⟨⟨e0, e1⟩, _⟩ := box2 hx4
          have k0 := Kin.cell e0
          have k1 := Kin.cell e1
          clear e0 e1 hx4 hw c0 c1
          go_upto_region 4 with fail
          refine wp_region_kin (by kernel_rfl) (by kernel_rfl) ?_
          repeat (go_big_quiet_step ((first | (go_at_call 47; with_reducible exact Kin.grew _ (right_any x _ _ HR1.out)))))
          refine wpQuiet_nil ?_
          intro _ hxx
          obtain ⟨xk, rfl⟩ := hxx
          have HBK := Lib.hid (HB4.out.trans (xk.h.mono HB4.out.size))
          clear k0 k1
          go_wp2_with fail
          go_roundw
          case rel => exact ⟨1, by go_num, by omega, HBK.out, HN.out⟩
          case measure => simp [intOf]; omega
        · obtain ⟨j, hj⟩ : ∃ j, k = j + 1 := ⟨k - 1, by omega⟩
          obtain ⟨y, hy⟩ : ∃ x, l[j]? = some x := ⟨_, List.getElem?_eq_getElem (by omega)⟩
          obtain ⟨b', off', e', _, d0, d1⟩ := H.out.row j y hy
          cases e'
          have d0 := (HBR.out.cell (p := ⟨b, _, none⟩) hbl).trans d0
          have d1 := (HBR.out.cell (p := ⟨b, _, none⟩) hbl).trans d1
          obtain ⟨r2, hr2⟩ : ∃ r, ilt y x = r := ⟨_, rfl⟩
          have HR2 := Lib.hid hr2
          have hjl : (j : Int) < (l.length : Int) := by omega
          have HS := Lib.hid (show stepB l k = (idOk x && ilt y x) by subst hj; exact stepB_succ hx hy)
          have hkj : (k : Int) - 1 = (j : Int) := by omega
          have hkn : decide (0 < k) = true := decide_eq_true (by omega)
          clear hx hy hr1 hr2 hj hk0
          go_upto_region 4 with fail
          obtain ⟨u4, hw⟩ : ∃ u, u = wr.alloc (idO x) := ⟨_, rfl⟩
          rw [← hw]
          have hb4 : Below wr.heap.size wr u4 := by rw [hw]; exact (Below.refl _ _).alloc (Nat.le_refl _) _
          have HB4 := Lib.hid (HBR.out.trans (hb4.mono HBR.out.size))
          have BX : ∀ {p : Addr} {u : Value}, wr.cell? p = some u → u4.cell? p = some u := fun h => (hb4.cell (World.block_lt_of_cell? wr _ h)).trans h
          have hx4 : u4.heap[wr.heap.size]? = some (idO x) := by rw [hw]; exact heap_alloc_new wr _
          obtain ⟨⟨e0, e1⟩, _⟩ := box2 hx4
          have k0 := Kin.cell e0
          have k1 := Kin.cell e1
          clear e0 e1 hx4 hw c0 c1
          have k2 := Kin.cell (BX d0)
          have k3 := Kin.cell (BX d1)
          clear d0 d1
          cases r2 with
          | false =>
            have HE := Lib.hid (show v = false by
              rw [← HV.out]
              refine setOk_no hkl ?_
              rw [HS.out, HR1.out, HR2.out]
              rfl)
            go_upto_region 4 with fail
            refine wp_region_kin (by kernel_rfl) (by kernel_rfl) ?_
            repeat (go_big_quiet_step ((first | (go_at_call 47; with_reducible exact Kin.grew _ (right_any x _ _ HR1.out)) | (go_at_call 109; with_reducible exact Kin.grew _ (less_any y x _ _ HR2.out)))))
            refine wpQuiet_nil ?_
            intro _ hxx
            obtain ⟨xk, rfl⟩ := hxx
            have HBK := Lib.hid (HB4.out.trans (xk.h.mono HB4.out.size))
            clear k0 k1 k2 k3
            go_wp2_with fail
            go_ret
            exact ⟨by rw [HE.out]; rfl, HBK.out⟩
          | true =>
            have HN := Lib.hid (show ∀ i, i < k + 1 → stepB l i = true from fun i hi => by
              by_cases e : i = k
              · rw [e, HS.out, HR1.out, HR2.out]; rfl
              · exact HNO.out i (by omega))
            go_upto_region 4 with fail
            refine wp_region_kin (by kernel_rfl) (by kernel_rfl) ?_
            repeat (go_big_quiet_step ((first | (go_at_call 47; with_reducible exact Kin.grew _ (right_any x _ _ HR1.out)) | (go_at_call 109; with_reducible exact Kin.grew _ (less_any y x _ _ HR2.out)))))
            refine wpQuiet_nil ?_
            intro _ hxx
            obtain ⟨xk, rfl⟩ := hxx
            have HBK := Lib.hid (HB4.out.trans (xk.h.mono HB4.out.size))
            clear k0 k1 k2 k3
            go_wp2_with fail
            go_roundw
            case rel => exact ⟨k + 1, by go_num, by omega, HBK.out, HN.out⟩
            case measure => simp [intOf]; omega
    · obtain rfl : k = l.length := by omega
      have hii : ¬ (l.length : Int) < (l.length : Int) := by omega
      have HE := Lib.hid (setOk_end HNO.out)
      have hd : decide (l.length ≤ 4096) = decide ((l.length : Int) ≤ 4096) := decide_eq_decide.2 (by omega)
      have HE2 := Lib.hid (show v = decide ((l.length : Int) ≤ 4096) by rw [← HV.out, HE.out, hd])
      clear hd
      go_wp2_with fail
      go_ret
      exact ⟨by rw [HE2.out]; rfl, HBR.out⟩
end Go.Proofs.YtlbkbjeajcadiaaGreatDoor.O
