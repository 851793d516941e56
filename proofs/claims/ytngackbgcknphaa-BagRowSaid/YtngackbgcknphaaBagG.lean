/- The walk of BagRow. -/
import Derived.Test.YtngackbgcknphaaBagF
import Derived.StillTailTactics
namespace Go.Proofs.Ytngackbgcknphaa.B
open Go.RowKit M
set_option linter.unusedVariables false

theorem if_yes {c : Bool} {p q : Prop} (h : c = true) (hp : p) : if c = true then p else q := by rw [if_pos h]; exact hp
theorem if_no {c : Bool} {p q : Prop} (h : c = false) (hq : q) : if c = true then p else q := by rw [if_neg (by rw [h]; decide)]; exact hq
section
variable {P : Program} {ops : Array Oper} {Q : Act → Prop} {o : Oper} {rest : List Oper} {a : Act} {w : World}
theorem st_val (v : Value) (hw : Region.wanted o (yielded ops a.tmps) = true) (h : (execOp a.eval o).run P w = .ok (.value v) w) (hr : wpStill P ops w Q rest (a.put o.dst v)) : wpStill P ops w Q (o :: rest) a :=
  wpStill_step fun K hK => if_yes hw (by unfold Oper.still; rw [h]; exact ⟨rfl, hK _ hr⟩)
theorem st_skip (hw : Region.wanted o (yielded ops a.tmps) = false) (hr : wpStill P ops w Q rest (a.put o.dst undef)) : wpStill P ops w Q (o :: rest) a :=
  wpStill_step fun K hK => if_no hw (hK _ hr)
theorem st_pass (j : Nat) (want b : Bool) (hg : o.guard = some (j, want)) (hy : yielded ops a.tmps j = some b) (hne : b = !want) (hr : wpStill P ops w Q rest (a.put o.dst undef)) : wpStill P ops w Q (o :: rest) a :=
  st_skip (by unfold Region.wanted; rw [hg]; simp only [hy, hne]; cases want <;> rfl) hr
theorem st_call (f : FuncId) (args : Array Value) (v : Value) (hw : Region.wanted o (yielded ops a.tmps) = true) (h : (execOp a.eval o).run P w = .ok (.enter f args) w) (hc : Calls P f args w fun e w'' => e = .returned v ∧ w'' = w)
    (hr : wpStill P ops w Q rest (a.put o.dst v)) : wpStill P ops w Q (o :: rest) a :=
  wpStill_step fun K hK => if_yes hw (by unfold Oper.still; rw [h]; exact ⟨rfl, v, hc, hK _ hr⟩)
end
/-- the tail: what comes twice -/
def tailOf (X : List E) (twice : Int) : List (Int × Int × List UInt8) := if 0 ≤ twice ∧ twice < X.length then (keys X).drop twice.toNat |>.take 1 else []
theorem tail_none {X : List E} {twice : Int} (h : ¬ (0 ≤ twice ∧ twice < X.length)) : tailOf X twice = [] := by unfold tailOf; rw [if_neg h]
theorem tail_some {X : List E} {i : Nat} {x : E} (h : X[i]? = some x) : tailOf X i = [x.key] := by
  have hi := (List.getElem?_eq_some_iff.1 h)
  unfold tailOf
  rw [if_pos ⟨by omega, by have := hi.1; omega⟩]
  simp only [Int.toNat_natCast, keys]
  have hlen : i < (X.map E.key).length := by rw [List.length_map]; exact hi.1
  rw [List.drop_eq_getElem_cons hlen]
  simp [hi.2]

set_option maxRecDepth 100000 in
set_option maxHeartbeats 4000000 in
theorem row_in (W : World) (vo : Option Addr) (vc : Nat) (X : List E) (hX : Envs W.heap.size W vo vc X) (hl : X.length ≤ 40) (hcm : vc ≤ maxLen)
    (i : Nat) (x2 : E) (hx2 : X[i]? = some x2) :
    Calls Try.prog 4 #[.slice vo X.length vc, .int .i64 (i : Int)] W fun e w' => e = .returned (.bool true) ∧ Below W.heap.size W w' := by
  have HX := Lib.hid hX
  have hle : X.length ≤ vc := hX.le
  have hl0 : (X.length : Int) ≤ 40 := by omega
  clear hX
  unfold maxLen at hcm
  have hix : i < X.length := (List.getElem?_eq_some_iff.1 hx2).1
  have hi0 : (0 : Int) ≤ (i : Int) := by omega
  have hi1 : (i : Int) < (X.length : Int) := by omega
  obtain ⟨TL, hTL⟩ : ∃ TL, [x2.key] = TL := ⟨_, rfl⟩
  have HTL := Lib.hid hTL.symm
  have HX2 := Lib.hid hx2
  clear hTL hx2
  go_enter Try.func4, Try.ntmps4
  go_wp2_with fail
  refine (new_any 100 W (by decide) (by decide)).mono ?_
  rintro e w1 ⟨rfl, h1, b1⟩
  have h1 : BagAt W.heap.size w1 W.heap.size 100 [] none 0 := h1
  go_wp2_with fail
  go_loopw [6] (fun i wr => ∃ (k : Nat) (L : List E) (ao : Option Addr) (cap : Nat), i = .int .i64 k ∧ k ≤ X.length ∧ BagAt W.heap.size wr W.heap.size 100 L ao cap ∧ keys L = (keys X).take k ∧ Below W.heap.size W wr) (fun i _ => X.length - (intOf i).toNat)
  case atStart => exact ⟨0, [], none, 0, rfl, Nat.zero_le _, h1, rfl, b1⟩
  case round =>
    clear h1 b1
    obtain ⟨k, L, ao, cap, rfl, hk, hbag, hkeys, hbel⟩ := hrel
    have HB := Lib.hid hbag
    have HK := Lib.hid hkeys
    have HW := Lib.hid hbel
    have hLl : L.length = k := by have := congrArg List.length hkeys; rw [keys_length, List.length_take, keys_length] at this; omega
    clear hbag hkeys hbel
    by_cases hlt : k < X.length
    · obtain ⟨x, hx⟩ : ∃ x, X[k]? = some x := ⟨_, List.getElem?_eq_getElem hlt⟩
      have hE := HX.out.below (Nat.le_refl _) HW.out
      obtain ⟨g, off, rfl, hg, c0, c1, c2⟩ := hE.cell k x hx
      have HXX := Lib.hid hx
      have HBY := Lib.hid (hE.byt x (List.mem_of_getElem? hx)).1
      have hkl : (k : Int) < (X.length : Int) := by omega
      clear hE hx
      by_cases h100 : x.l.length ≤ 100
      · have h100' : ¬ (100 : Int) < (x.l.length : Int) := by omega
        have HKN := Lib.hid (show ∀ y : E, y.key = x.key → keys (L ++ [y]) = (keys X).take (k + 1) from fun y hy => by
          have hk2 : (keys X)[k]? = some x.key := by simp [keys, HXX.out]
          rw [List.take_add_one, hk2, ← HK.out]
          simp [keys, hy])
        go_wp2_with fail
        refine (put_any _ wr _ 100 L ao cap HB.out x HBY.out h100 (by omega) (by decide)).mono ?_
        rintro e w2 ⟨rfl, y, ao2, cap2, hy, hb2, _, hm2⟩
        have HB2 := Lib.hid hb2
        have HW2 := Lib.hid (HB.out.foot (Nat.le_refl _) HW.out hm2)
        have HY := Lib.hid hy
        clear hb2 hm2 hy
        go_wp2_with fail
        go_roundw
        case rel => exact ⟨k + 1, L ++ [y], ao2, cap2, by go_num, by omega, HB2.out, HKN.out y HY.out, HW2.out⟩
        case measure => simp [intOf]; omega
      · have h100' : (100 : Int) < (x.l.length : Int) := by omega
        go_wp2_with fail
        refine (awake_any wr).mono ?_
        rintro e w2 ⟨rfl, b2⟩
        have HW2 := Lib.hid (HW.out.trans (b2.mono HW.out.size))
        clear b2
        go_wp2_with fail
        go_ret
        exact ⟨rfl, HW2.out⟩
    · have hkl : ¬ (k : Int) < (X.length : Int) := by omega
      have hk2 : k = X.length := by omega
      obtain ⟨z, hz⟩ : ∃ z, L[i]? = some z := ⟨_, List.getElem?_eq_getElem (by omega)⟩
      have hzk : z.key = x2.key := by
        have h1 : (keys L)[i]? = some z.key := by simp [keys, hz]
        rw [HK.out, hk2, List.take_of_length_le (by rw [keys_length]; omega)] at h1
        have h2 : (keys X)[i]? = some x2.key := by simp [keys, HX2.out]
        exact Option.some.inj (h1.symm.trans h2)
      have HZ := Lib.hid hz
      have HZK := Lib.hid hzk
      clear hz hzk
      go_wp2_with fail
      refine (twice_in _ wr _ 100 L ao cap HB.out i z HZ.out (by omega) (by decide)).mono ?_
      rintro e w2 ⟨rfl, y2, ao2, cap2, hy2, hb2, _, hm2⟩
      have HB2 := Lib.hid hb2
      have HW2 := Lib.hid (HB.out.foot (Nat.le_refl _) HW.out hm2)
      obtain ⟨L2, hL2⟩ : ∃ L2, L ++ [y2] = L2 := ⟨_, rfl⟩
      have HK2 := Lib.hid (show keys L2 = keys X ++ TL by
        rw [← hL2, HTL.out, ← HZK.out, ← hy2]
        have h1 := HK.out
        rw [hk2, List.take_of_length_le (by rw [keys_length]; omega)] at h1
        simp [keys] at h1 ⊢
        exact h1)
      rw [hL2] at HB2
      clear hb2 hm2 hy2 hL2
      have HK0 := Lib.hid (show keys L2 = (keys X).drop 0 ++ TL from HK2.out)
      go_wp2_with fail
      go_loopw [8] (fun i wr => ∃ (k : Nat) (M : List E) (a : Option Addr) (c : Nat), i = .int .i64 k ∧ k ≤ X.length ∧ BagAt W.heap.size wr W.heap.size 100 M a c ∧ keys M = (keys X).drop k ++ TL ∧ Below W.heap.size W wr) (fun i _ => X.length - (intOf i).toNat)
      case atStart => exact ⟨0, L2, ao2, cap2, rfl, Nat.zero_le _, HB2.out, HK0.out, HW2.out⟩
      case round =>
        obtain ⟨k, M, a, c, rfl, hk, hbag, hkeys, hbel⟩ := hrel
        rename World => wr2
        have HB3 := Lib.hid hbag
        have HK3 := Lib.hid hkeys
        have HW3 := Lib.hid hbel
        clear hbag hkeys hbel
        by_cases hlt : k < X.length
        · obtain ⟨x, hx⟩ : ∃ x, X[k]? = some x := ⟨_, List.getElem?_eq_getElem hlt⟩
          have hkd : keys M = x.key :: ((keys X).drop (k + 1) ++ TL) := by
            have hlen : k < (keys X).length := by rw [keys_length]; exact hlt
            rw [HK3.out, List.drop_eq_getElem_cons hlen]
            simp [keys, (List.getElem?_eq_some_iff.1 hx).2]
          obtain ⟨y, M', rfl, hy, hM⟩ := keys_cons hkd
          have hE := HX.out.below (Nat.le_refl _) HW3.out
          obtain ⟨g, off, rfl, hg, c0, c1, c2⟩ := hE.cell k x hx
          have HBY := Lib.hid (hE.byt x (List.mem_of_getElem? hx)).1
          have hyl := (HB3.out.ok y (by simp)).2.2
          have hxl : x.l.length ≤ 100 := by have e : y.l = x.l := congrArg (fun p => p.2.2) hy; rw [← e]; exact hyl
          have hkl : (k : Int) < (X.length : Int) := by omega
          have HY := Lib.hid hy
          have HM := Lib.hid hM
          have hgW : g < wr2.heap.size := by have := HW3.out.size; omega
          have HXX := Lib.hid hx
          clear hE hx hkd hy hM
          go_wp2_with fail
          refine (take_in _ wr2 _ 100 _ a c HB3.out 0 y rfl).mono ?_
          rintro e w4 ⟨ao5, cap5, rfl, hbv, hfr, hb4, hm4⟩
          have HB4 := Lib.hid hb4
          have HW4 := Lib.hid (HB3.out.foot (Nat.le_refl _) HW3.out hm4)
          have HV4 := Lib.hid hbv
          have hE4 := HX.out.below (Nat.le_refl _) HW4.out
          have HVX := Lib.hid (show BytesV w4 x.v x.l from HBY.out.keep hm4 (fun q hq hne hF => by
            have h1 := (HB3.out.lt q hF).1
            exact (HX.out.byt x (List.mem_of_getElem? HXX.out)).2 q hq hne h1))
          have hgW4 : g < w4.heap.size := by have := HW4.out.size; omega
          have d0 := (HW4.out.cell (p := ⟨g, off + k * 3, none⟩) hg).trans ((HW3.out.cell (p := ⟨g, off + k * 3, none⟩) hg).symm.trans c0)
          have d1 := (HW4.out.cell (p := ⟨g, off + k * 3 + 1, none⟩) hg).trans ((HW3.out.cell (p := ⟨g, off + k * 3 + 1, none⟩) hg).symm.trans c1)
          have d2 := (HW4.out.cell (p := ⟨g, off + k * 3 + 2, none⟩) hg).trans ((HW3.out.cell (p := ⟨g, off + k * 3 + 2, none⟩) hg).symm.trans c2)
          have HEQ := Lib.hid (show decide ((⟨y.f, y.t, ao5, cap5, y.l⟩ : E).key = x.key) = true from decide_eq_true HY.out)
          clear hb4 hm4 hbv hfr hE4 c0 c1 c2
          go_wp2_with fail
          obtain ⟨W5, hW5⟩ : ∃ W5, W5 = w4.alloc (.cells #[.int .i64 y.f, .int .i64 y.t, .slice ao5 y.l.length cap5] 24) := ⟨_, rfl⟩
          have hM5 : Mods (fun _ => False) w4 W5 := by rw [hW5]; exact (Mods.refl _ w4).alloc _
          have hbx : W5.heap[w4.heap.size]? = some (.cells #[.int .i64 y.f, .int .i64 y.t, .slice ao5 y.l.length cap5] 24 (0, 0)) := by rw [hW5]; exact heap_alloc_new w4 _
          obtain ⟨⟨p0, p1, p2⟩, _, _⟩ := box3 hbx
          have q0 := (hM5.cell (p := ⟨g, off + k * 3, none⟩) hgW4 (fun h => h)).trans d0
          have q1 := (hM5.cell (p := ⟨g, off + k * 3 + 1, none⟩) hgW4 (fun h => h)).trans d1
          have q2 := (hM5.cell (p := ⟨g, off + k * 3 + 2, none⟩) hgW4 (fun h => h)).trans d2
          have HB5 := Lib.hid (HB4.out.keep hM5 (fun _ h => h.elim) (fun _ _ _ _ _ h => h))
          have HW5 := Lib.hid (show Below W.heap.size W W5 by rw [hW5]; exact HW4.out.alloc HW4.out.size _)
          have HV5 := Lib.hid (HV4.out.keep hM5 (fun _ _ _ h => h))
          have HVX5 := Lib.hid (HVX.out.keep hM5 (fun _ _ _ h => h))
          have hz5 : w4.heap.size < W5.heap.size := (Array.getElem?_eq_some_iff.1 hbx).1
          rw [← hW5]
          clear hW5 hbx hM5 d0 d1 d2
          have HST := Lib.hid (show ∀ w', Below W5.heap.size W5 w' → (fun w' => w'.cell? ⟨w4.heap.size, 0, none⟩ = some (.int .i64 y.f) ∧ w'.cell? ⟨w4.heap.size, 1, none⟩ = some (.int .i64 y.t) ∧ w'.cell? ⟨w4.heap.size, 2, none⟩ = some (.slice ao5 y.l.length cap5) ∧ w'.cell? ⟨g, off + k * 3, none⟩ = some (.int .i64 x.f) ∧ w'.cell? ⟨g, off + k * 3 + 1, none⟩ = some (.int .i64 x.t) ∧ w'.cell? ⟨g, off + k * 3 + 2, none⟩ = some (.slice x.ao x.l.length x.cap) ∧ Below W5.heap.size W5 w') w' from fun w' hb => ⟨(hb.cell (p := ⟨w4.heap.size, 0, none⟩) hz5).trans p0, (hb.cell (p := ⟨w4.heap.size, 1, none⟩) hz5).trans p1, (hb.cell (p := ⟨w4.heap.size, 2, none⟩) hz5).trans p2, (hb.cell (p := ⟨g, off + k * 3, none⟩) (by show g < _; omega)).trans q0, (hb.cell (p := ⟨g, off + k * 3 + 1, none⟩) (by show g < _; omega)).trans q1, (hb.cell (p := ⟨g, off + k * 3 + 2, none⟩) (by show g < _; omega)).trans q2, hb⟩)
          have HS0 := Lib.hid (HST.out W5.drew (Below.refl _ _).drew)
          have HSAME := Lib.hid (show ∀ w', Below W5.heap.size W5 w' → Calls Try.prog 12 #[.agg #[.int .i64 y.f, .int .i64 y.t, .slice ao5 y.l.length cap5], .agg #[.int .i64 x.f, .int .i64 x.t, .slice x.ao x.l.length x.cap]] w' fun e w2 => e = .returned (.bool true) ∧ (fun w' => w'.cell? ⟨w4.heap.size, 0, none⟩ = some (.int .i64 y.f) ∧ w'.cell? ⟨w4.heap.size, 1, none⟩ = some (.int .i64 y.t) ∧ w'.cell? ⟨w4.heap.size, 2, none⟩ = some (.slice ao5 y.l.length cap5) ∧ w'.cell? ⟨g, off + k * 3, none⟩ = some (.int .i64 x.f) ∧ w'.cell? ⟨g, off + k * 3 + 1, none⟩ = some (.int .i64 x.t) ∧ w'.cell? ⟨g, off + k * 3 + 2, none⟩ = some (.slice x.ao x.l.length x.cap) ∧ Below W5.heap.size W5 w') w2 from fun w' hb =>
            (same_any ⟨y.f, y.t, ao5, cap5, y.l⟩ x w' (fun _ => False) (fun _ => False) ⟨HV5.out.keep (Mods.of_below (S := fun _ => False) hb) (fun _ _ _ h => h), fun _ _ _ h => h, hyl⟩ ⟨HVX5.out.keep (Mods.of_below (S := fun _ => False) hb) (fun _ _ _ h => h), fun _ _ _ h => h, hxl⟩ true HEQ.out).mono fun e w2 hh => ⟨hh.1, HST.out w2 (hb.trans (hh.2.mono hb.size))⟩)
          clear p0 p1 p2 q0 q1 q2
          go_region_held3 (fun w' => w'.cell? ⟨w4.heap.size, 0, none⟩ = some (.int .i64 y.f) ∧ w'.cell? ⟨w4.heap.size, 1, none⟩ = some (.int .i64 y.t) ∧ w'.cell? ⟨w4.heap.size, 2, none⟩ = some (.slice ao5 y.l.length cap5) ∧ w'.cell? ⟨g, off + k * 3, none⟩ = some (.int .i64 x.f) ∧ w'.cell? ⟨g, off + k * 3 + 1, none⟩ = some (.int .i64 x.t) ∧ w'.cell? ⟨g, off + k * 3 + 2, none⟩ = some (.slice x.ao x.l.length x.cap) ∧ Below W5.heap.size W5 w')
            (first | exact HS0.out | exact h9)
            ((first
              | (go_at_call 12; refine (HSAME.out _ (by obtain ⟨_, _, _, _, _, _, hb⟩ := (by assumption : (fun w' => w'.cell? ⟨w4.heap.size, 0, none⟩ = some (.int .i64 y.f) ∧ w'.cell? ⟨w4.heap.size, 1, none⟩ = some (.int .i64 y.t) ∧ w'.cell? ⟨w4.heap.size, 2, none⟩ = some (.slice ao5 y.l.length cap5) ∧ w'.cell? ⟨g, off + k * 3, none⟩ = some (.int .i64 x.f) ∧ w'.cell? ⟨g, off + k * 3 + 1, none⟩ = some (.int .i64 x.t) ∧ w'.cell? ⟨g, off + k * 3 + 2, none⟩ = some (.slice x.ao x.l.length x.cap) ∧ Below W5.heap.size W5 w') _); exact hb)).mono ?_; rintro e w9 ⟨rfl, h9⟩)))
          have HB6 := Lib.hid (HB5.out.below h9.2.2.2.2.2.2)
          have HW6 := Lib.hid (HW5.out.trans (h9.2.2.2.2.2.2.mono HW5.out.size))
          clear h9
          go_wp2_with fail
          go_roundw
          case rel => exact ⟨k + 1, M', a, c, by go_num, by omega, HB6.out, HM.out, HW6.out⟩
          case measure => simp [intOf]; omega
        · have hkl : ¬ (k : Int) < (X.length : Int) := by omega
          have hk2 : k = X.length := by omega
          have hkd : keys M = TL := by rw [HK3.out, List.drop_of_length_le (by rw [keys_length]; omega)]; rfl
          obtain ⟨y, M', rfl, hy, hM⟩ := keys_cons (hkd.trans HTL.out)
          obtain rfl : M' = [] := by have := congrArg List.length hM; rw [keys_length] at this; exact List.eq_nil_of_length_eq_zero (by simpa using this)
          have hE := HX.out.below (Nat.le_refl _) HW3.out
          obtain ⟨g, off, rfl, hg, c0, c1, c2⟩ := hE.cell i x2 HX2.out
          have HBY := Lib.hid (hE.byt x2 (List.mem_of_getElem? HX2.out)).1
          have hyl := (HB3.out.ok y (by simp)).2.2
          have hxl : x2.l.length ≤ 100 := by have e : y.l = x2.l := congrArg (fun p => p.2.2) hy; rw [← e]; exact hyl
          have HY := Lib.hid hy
          clear hE hkd hy hM
          go_wp2_with fail
          refine (take_in _ wr2 _ 100 _ a c HB3.out 0 y rfl).mono ?_
          rintro e w4 ⟨ao5, cap5, rfl, hbv, hfr, hb4, hm4⟩
          have HB4 := Lib.hid hb4
          have HW4 := Lib.hid (HB3.out.foot (Nat.le_refl _) HW3.out hm4)
          have HV4 := Lib.hid hbv
          have HVX := Lib.hid (show BytesV w4 x2.v x2.l from HBY.out.keep hm4 (fun q hq hne hF => by
            have h1 := (HB3.out.lt q hF).1
            exact (HX.out.byt x2 (List.mem_of_getElem? HX2.out)).2 q hq hne h1))
          have hgW4 : g < w4.heap.size := by have := HW4.out.size; omega
          have d0 := (HW4.out.cell (p := ⟨g, off + i * 3, none⟩) hg).trans ((HW3.out.cell (p := ⟨g, off + i * 3, none⟩) hg).symm.trans c0)
          have d1 := (HW4.out.cell (p := ⟨g, off + i * 3 + 1, none⟩) hg).trans ((HW3.out.cell (p := ⟨g, off + i * 3 + 1, none⟩) hg).symm.trans c1)
          have d2 := (HW4.out.cell (p := ⟨g, off + i * 3 + 2, none⟩) hg).trans ((HW3.out.cell (p := ⟨g, off + i * 3 + 2, none⟩) hg).symm.trans c2)
          have HEQ := Lib.hid (show decide ((⟨y.f, y.t, ao5, cap5, y.l⟩ : E).key = x2.key) = true from decide_eq_true HY.out)
          clear hb4 hm4 hbv hfr c0 c1 c2
          go_wp2_with fail
          obtain ⟨W5, hW5⟩ : ∃ W5, W5 = w4.alloc (.cells #[.int .i64 y.f, .int .i64 y.t, .slice ao5 y.l.length cap5] 24) := ⟨_, rfl⟩
          have hM5 : Mods (fun _ => False) w4 W5 := by rw [hW5]; exact (Mods.refl _ w4).alloc _
          have hbx : W5.heap[w4.heap.size]? = some (.cells #[.int .i64 y.f, .int .i64 y.t, .slice ao5 y.l.length cap5] 24 (0, 0)) := by rw [hW5]; exact heap_alloc_new w4 _
          obtain ⟨⟨p0, p1, p2⟩, _, _⟩ := box3 hbx
          have q0 := (hM5.cell (p := ⟨g, off + i * 3, none⟩) hgW4 (fun h => h)).trans d0
          have q1 := (hM5.cell (p := ⟨g, off + i * 3 + 1, none⟩) hgW4 (fun h => h)).trans d1
          have q2 := (hM5.cell (p := ⟨g, off + i * 3 + 2, none⟩) hgW4 (fun h => h)).trans d2
          have HB5 := Lib.hid (HB4.out.keep hM5 (fun _ h => h.elim) (fun _ _ _ _ _ h => h))
          have HW5 := Lib.hid (show Below W.heap.size W W5 by rw [hW5]; exact HW4.out.alloc HW4.out.size _)
          have HV5 := Lib.hid (HV4.out.keep hM5 (fun _ _ _ h => h))
          have HVX5 := Lib.hid (HVX.out.keep hM5 (fun _ _ _ h => h))
          have hz5 : w4.heap.size < W5.heap.size := (Array.getElem?_eq_some_iff.1 hbx).1
          rw [← hW5]
          clear hW5 hbx hM5 d0 d1 d2
          have HST := Lib.hid (show ∀ w', Below W5.heap.size W5 w' → (fun w' => w'.cell? ⟨w4.heap.size, 0, none⟩ = some (.int .i64 y.f) ∧ w'.cell? ⟨w4.heap.size, 1, none⟩ = some (.int .i64 y.t) ∧ w'.cell? ⟨w4.heap.size, 2, none⟩ = some (.slice ao5 y.l.length cap5) ∧ w'.cell? ⟨g, off + i * 3, none⟩ = some (.int .i64 x2.f) ∧ w'.cell? ⟨g, off + i * 3 + 1, none⟩ = some (.int .i64 x2.t) ∧ w'.cell? ⟨g, off + i * 3 + 2, none⟩ = some (.slice x2.ao x2.l.length x2.cap) ∧ Below W5.heap.size W5 w') w' from fun w' hb => ⟨(hb.cell (p := ⟨w4.heap.size, 0, none⟩) hz5).trans p0, (hb.cell (p := ⟨w4.heap.size, 1, none⟩) hz5).trans p1, (hb.cell (p := ⟨w4.heap.size, 2, none⟩) hz5).trans p2, (hb.cell (p := ⟨g, off + i * 3, none⟩) (by show g < _; omega)).trans q0, (hb.cell (p := ⟨g, off + i * 3 + 1, none⟩) (by show g < _; omega)).trans q1, (hb.cell (p := ⟨g, off + i * 3 + 2, none⟩) (by show g < _; omega)).trans q2, hb⟩)
          have HS0 := Lib.hid (HST.out W5.drew (Below.refl _ _).drew)
          have HSAME := Lib.hid (show ∀ w', Below W5.heap.size W5 w' → Calls Try.prog 12 #[.agg #[.int .i64 y.f, .int .i64 y.t, .slice ao5 y.l.length cap5], .agg #[.int .i64 x2.f, .int .i64 x2.t, .slice x2.ao x2.l.length x2.cap]] w' fun e w2 => e = .returned (.bool true) ∧ (fun w' => w'.cell? ⟨w4.heap.size, 0, none⟩ = some (.int .i64 y.f) ∧ w'.cell? ⟨w4.heap.size, 1, none⟩ = some (.int .i64 y.t) ∧ w'.cell? ⟨w4.heap.size, 2, none⟩ = some (.slice ao5 y.l.length cap5) ∧ w'.cell? ⟨g, off + i * 3, none⟩ = some (.int .i64 x2.f) ∧ w'.cell? ⟨g, off + i * 3 + 1, none⟩ = some (.int .i64 x2.t) ∧ w'.cell? ⟨g, off + i * 3 + 2, none⟩ = some (.slice x2.ao x2.l.length x2.cap) ∧ Below W5.heap.size W5 w') w2 from fun w' hb =>
            (same_any ⟨y.f, y.t, ao5, cap5, y.l⟩ x2 w' (fun _ => False) (fun _ => False) ⟨HV5.out.keep (Mods.of_below (S := fun _ => False) hb) (fun _ _ _ h => h), fun _ _ _ h => h, hyl⟩ ⟨HVX5.out.keep (Mods.of_below (S := fun _ => False) hb) (fun _ _ _ h => h), fun _ _ _ h => h, hxl⟩ true HEQ.out).mono fun e w2 hh => ⟨hh.1, HST.out w2 (hb.trans (hh.2.mono hb.size))⟩)
          have HLEN := Lib.hid (show ∀ w', Below W5.heap.size W5 w' → Calls Try.prog 13 #[.pointer (some ⟨W.heap.size, 0, none⟩)] w' fun e w2 => e = .returned (.int .i64 0) ∧ (fun w' => w'.cell? ⟨w4.heap.size, 0, none⟩ = some (.int .i64 y.f) ∧ w'.cell? ⟨w4.heap.size, 1, none⟩ = some (.int .i64 y.t) ∧ w'.cell? ⟨w4.heap.size, 2, none⟩ = some (.slice ao5 y.l.length cap5) ∧ w'.cell? ⟨g, off + i * 3, none⟩ = some (.int .i64 x2.f) ∧ w'.cell? ⟨g, off + i * 3 + 1, none⟩ = some (.int .i64 x2.t) ∧ w'.cell? ⟨g, off + i * 3 + 2, none⟩ = some (.slice x2.ao x2.l.length x2.cap) ∧ Below W5.heap.size W5 w') w2 from fun w' hb =>
            (len_any _ w' _ 100 _ a c (HB5.out.below hb)).mono fun e w2 hh => ⟨hh.1, HST.out w2 (hh.2 ▸ hb)⟩)
          have HAW := Lib.hid (show ∀ w', Below W5.heap.size W5 w' → Calls Try.prog 6 #[] w' fun e w2 => e = .returned (.bool true) ∧ (fun w' => w'.cell? ⟨w4.heap.size, 0, none⟩ = some (.int .i64 y.f) ∧ w'.cell? ⟨w4.heap.size, 1, none⟩ = some (.int .i64 y.t) ∧ w'.cell? ⟨w4.heap.size, 2, none⟩ = some (.slice ao5 y.l.length cap5) ∧ w'.cell? ⟨g, off + i * 3, none⟩ = some (.int .i64 x2.f) ∧ w'.cell? ⟨g, off + i * 3 + 1, none⟩ = some (.int .i64 x2.t) ∧ w'.cell? ⟨g, off + i * 3 + 2, none⟩ = some (.slice x2.ao x2.l.length x2.cap) ∧ Below W5.heap.size W5 w') w2 from fun w' hb =>
            (awake_any w').mono fun e w2 hh => ⟨hh.1, HST.out w2 (hb.trans (hh.2.mono hb.size))⟩)
          clear p0 p1 p2 q0 q1 q2
          go_region_held3 (fun w' => w'.cell? ⟨w4.heap.size, 0, none⟩ = some (.int .i64 y.f) ∧ w'.cell? ⟨w4.heap.size, 1, none⟩ = some (.int .i64 y.t) ∧ w'.cell? ⟨w4.heap.size, 2, none⟩ = some (.slice ao5 y.l.length cap5) ∧ w'.cell? ⟨g, off + i * 3, none⟩ = some (.int .i64 x2.f) ∧ w'.cell? ⟨g, off + i * 3 + 1, none⟩ = some (.int .i64 x2.t) ∧ w'.cell? ⟨g, off + i * 3 + 2, none⟩ = some (.slice x2.ao x2.l.length x2.cap) ∧ Below W5.heap.size W5 w')
            (first | exact HS0.out | exact h9)
            ((first
              | (go_at_call 12; refine (HSAME.out _ (by obtain ⟨_, _, _, _, _, _, hb⟩ := (by assumption : (fun w' => w'.cell? ⟨w4.heap.size, 0, none⟩ = some (.int .i64 y.f) ∧ w'.cell? ⟨w4.heap.size, 1, none⟩ = some (.int .i64 y.t) ∧ w'.cell? ⟨w4.heap.size, 2, none⟩ = some (.slice ao5 y.l.length cap5) ∧ w'.cell? ⟨g, off + i * 3, none⟩ = some (.int .i64 x2.f) ∧ w'.cell? ⟨g, off + i * 3 + 1, none⟩ = some (.int .i64 x2.t) ∧ w'.cell? ⟨g, off + i * 3 + 2, none⟩ = some (.slice x2.ao x2.l.length x2.cap) ∧ Below W5.heap.size W5 w') _); exact hb)).mono ?_; rintro e w9 ⟨rfl, h9⟩)
              | (go_at_call 13; refine (HLEN.out _ (by obtain ⟨_, _, _, _, _, _, hb⟩ := (by assumption : (fun w' => w'.cell? ⟨w4.heap.size, 0, none⟩ = some (.int .i64 y.f) ∧ w'.cell? ⟨w4.heap.size, 1, none⟩ = some (.int .i64 y.t) ∧ w'.cell? ⟨w4.heap.size, 2, none⟩ = some (.slice ao5 y.l.length cap5) ∧ w'.cell? ⟨g, off + i * 3, none⟩ = some (.int .i64 x2.f) ∧ w'.cell? ⟨g, off + i * 3 + 1, none⟩ = some (.int .i64 x2.t) ∧ w'.cell? ⟨g, off + i * 3 + 2, none⟩ = some (.slice x2.ao x2.l.length x2.cap) ∧ Below W5.heap.size W5 w') _); exact hb)).mono ?_; rintro e w9 ⟨rfl, h9⟩)
              | (go_at_call 6; refine (HAW.out _ (by obtain ⟨_, _, _, _, _, _, hb⟩ := (by assumption : (fun w' => w'.cell? ⟨w4.heap.size, 0, none⟩ = some (.int .i64 y.f) ∧ w'.cell? ⟨w4.heap.size, 1, none⟩ = some (.int .i64 y.t) ∧ w'.cell? ⟨w4.heap.size, 2, none⟩ = some (.slice ao5 y.l.length cap5) ∧ w'.cell? ⟨g, off + i * 3, none⟩ = some (.int .i64 x2.f) ∧ w'.cell? ⟨g, off + i * 3 + 1, none⟩ = some (.int .i64 x2.t) ∧ w'.cell? ⟨g, off + i * 3 + 2, none⟩ = some (.slice x2.ao x2.l.length x2.cap) ∧ Below W5.heap.size W5 w') _); exact hb)).mono ?_; rintro e w9 ⟨rfl, h9⟩)))
          have HW8 := Lib.hid (HW5.out.trans (h9.2.2.2.2.2.2.mono HW5.out.size))
          clear h9
          go_wp2_with fail
          go_ret
          exact ⟨rfl, HW8.out⟩

set_option maxRecDepth 100000 in
set_option maxHeartbeats 4000000 in
theorem row_hi (W : World) (vo : Option Addr) (vc : Nat) (X : List E) (hX : Envs W.heap.size W vo vc X) (hl : X.length ≤ 40) (hcm : vc ≤ maxLen)
    (twice : Int) (ht0 : 0 ≤ twice) (ht1 : ¬ twice < (X.length : Int)) (t2 : twice ≤ 9223372036854775807) :
    Calls Try.prog 4 #[.slice vo X.length vc, .int .i64 twice] W fun e w' => e = .returned (.bool true) ∧ Below W.heap.size W w' := by
  have HX := Lib.hid hX
  have hle : X.length ≤ vc := hX.le
  have hl0 : (X.length : Int) ≤ 40 := by omega
  clear hX
  unfold maxLen at hcm
  obtain ⟨TL, hTL⟩ : ∃ TL : List (Int × Int × List UInt8), [] = TL := ⟨_, rfl⟩
  have HTL := Lib.hid hTL.symm
  clear hTL
  go_enter Try.func4, Try.ntmps4
  go_wp2_with fail
  refine (new_any 100 W (by decide) (by decide)).mono ?_
  rintro e w1 ⟨rfl, h1, b1⟩
  have h1 : BagAt W.heap.size w1 W.heap.size 100 [] none 0 := h1
  go_wp2_with fail
  go_loopw [6] (fun i wr => ∃ (k : Nat) (L : List E) (ao : Option Addr) (cap : Nat), i = .int .i64 k ∧ k ≤ X.length ∧ BagAt W.heap.size wr W.heap.size 100 L ao cap ∧ keys L = (keys X).take k ∧ Below W.heap.size W wr) (fun i _ => X.length - (intOf i).toNat)
  case atStart => exact ⟨0, [], none, 0, rfl, Nat.zero_le _, h1, rfl, b1⟩
  case round =>
    clear h1 b1
    obtain ⟨k, L, ao, cap, rfl, hk, hbag, hkeys, hbel⟩ := hrel
    have HB := Lib.hid hbag
    have HK := Lib.hid hkeys
    have HW := Lib.hid hbel
    have hLl : L.length = k := by have := congrArg List.length hkeys; rw [keys_length, List.length_take, keys_length] at this; omega
    clear hbag hkeys hbel
    by_cases hlt : k < X.length
    · obtain ⟨x, hx⟩ : ∃ x, X[k]? = some x := ⟨_, List.getElem?_eq_getElem hlt⟩
      have hE := HX.out.below (Nat.le_refl _) HW.out
      obtain ⟨g, off, rfl, hg, c0, c1, c2⟩ := hE.cell k x hx
      have HXX := Lib.hid hx
      have HBY := Lib.hid (hE.byt x (List.mem_of_getElem? hx)).1
      have hkl : (k : Int) < (X.length : Int) := by omega
      clear hE hx
      by_cases h100 : x.l.length ≤ 100
      · have h100' : ¬ (100 : Int) < (x.l.length : Int) := by omega
        have HKN := Lib.hid (show ∀ y : E, y.key = x.key → keys (L ++ [y]) = (keys X).take (k + 1) from fun y hy => by
          have hk2 : (keys X)[k]? = some x.key := by simp [keys, HXX.out]
          rw [List.take_add_one, hk2, ← HK.out]
          simp [keys, hy])
        go_wp2_with fail
        refine (put_any _ wr _ 100 L ao cap HB.out x HBY.out h100 (by omega) (by decide)).mono ?_
        rintro e w2 ⟨rfl, y, ao2, cap2, hy, hb2, _, hm2⟩
        have HB2 := Lib.hid hb2
        have HW2 := Lib.hid (HB.out.foot (Nat.le_refl _) HW.out hm2)
        have HY := Lib.hid hy
        clear hb2 hm2 hy
        go_wp2_with fail
        go_roundw
        case rel => exact ⟨k + 1, L ++ [y], ao2, cap2, by go_num, by omega, HB2.out, HKN.out y HY.out, HW2.out⟩
        case measure => simp [intOf]; omega
      · have h100' : (100 : Int) < (x.l.length : Int) := by omega
        go_wp2_with fail
        refine (awake_any wr).mono ?_
        rintro e w2 ⟨rfl, b2⟩
        have HW2 := Lib.hid (HW.out.trans (b2.mono HW.out.size))
        clear b2
        go_wp2_with fail
        go_ret
        exact ⟨rfl, HW2.out⟩
    · have hkl : ¬ (k : Int) < (X.length : Int) := by omega
      have hk2 : k = X.length := by omega
      go_wp2_with fail
      refine (twice_out _ wr _ 100 L ao cap HB.out twice (by omega)).mono ?_
      rintro e w2 ⟨rfl, b2⟩
      have HB2 := Lib.hid (HB.out.below b2)
      have HW2 := Lib.hid (HW.out.trans (b2.mono HW.out.size))
      have HK2 := Lib.hid (show keys L = keys X ++ TL by
        rw [HTL.out, List.append_nil, HK.out, hk2, List.take_of_length_le (by rw [keys_length]; omega)])
      clear b2
      have HK0 := Lib.hid (show keys L = (keys X).drop 0 ++ TL from HK2.out)
      go_wp2_with fail
      go_loopw [8] (fun i wr => ∃ (k : Nat) (M : List E) (a : Option Addr) (c : Nat), i = .int .i64 k ∧ k ≤ X.length ∧ BagAt W.heap.size wr W.heap.size 100 M a c ∧ keys M = (keys X).drop k ++ TL ∧ Below W.heap.size W wr) (fun i _ => X.length - (intOf i).toNat)
      case atStart => exact ⟨0, L, ao, cap, rfl, Nat.zero_le _, HB2.out, HK0.out, HW2.out⟩
      case round =>
        obtain ⟨k, M, a, c, rfl, hk, hbag, hkeys, hbel⟩ := hrel
        rename World => wr2
        have HB3 := Lib.hid hbag
        have HK3 := Lib.hid hkeys
        have HW3 := Lib.hid hbel
        clear hbag hkeys hbel
        by_cases hlt : k < X.length
        · obtain ⟨x, hx⟩ : ∃ x, X[k]? = some x := ⟨_, List.getElem?_eq_getElem hlt⟩
          have hkd : keys M = x.key :: ((keys X).drop (k + 1) ++ TL) := by
            have hlen : k < (keys X).length := by rw [keys_length]; exact hlt
            rw [HK3.out, List.drop_eq_getElem_cons hlen]
            simp [keys, (List.getElem?_eq_some_iff.1 hx).2]
          obtain ⟨y, M', rfl, hy, hM⟩ := keys_cons hkd
          have hE := HX.out.below (Nat.le_refl _) HW3.out
          obtain ⟨g, off, rfl, hg, c0, c1, c2⟩ := hE.cell k x hx
          have HBY := Lib.hid (hE.byt x (List.mem_of_getElem? hx)).1
          have hyl := (HB3.out.ok y (by simp)).2.2
          have hxl : x.l.length ≤ 100 := by have e : y.l = x.l := congrArg (fun p => p.2.2) hy; rw [← e]; exact hyl
          have hkl : (k : Int) < (X.length : Int) := by omega
          have HY := Lib.hid hy
          have HM := Lib.hid hM
          have hgW : g < wr2.heap.size := by have := HW3.out.size; omega
          have HXX := Lib.hid hx
          clear hE hx hkd hy hM
          go_wp2_with fail
          refine (take_in _ wr2 _ 100 _ a c HB3.out 0 y rfl).mono ?_
          rintro e w4 ⟨ao5, cap5, rfl, hbv, hfr, hb4, hm4⟩
          have HB4 := Lib.hid hb4
          have HW4 := Lib.hid (HB3.out.foot (Nat.le_refl _) HW3.out hm4)
          have HV4 := Lib.hid hbv
          have hE4 := HX.out.below (Nat.le_refl _) HW4.out
          have HVX := Lib.hid (show BytesV w4 x.v x.l from HBY.out.keep hm4 (fun q hq hne hF => by
            have h1 := (HB3.out.lt q hF).1
            exact (HX.out.byt x (List.mem_of_getElem? HXX.out)).2 q hq hne h1))
          have hgW4 : g < w4.heap.size := by have := HW4.out.size; omega
          have d0 := (HW4.out.cell (p := ⟨g, off + k * 3, none⟩) hg).trans ((HW3.out.cell (p := ⟨g, off + k * 3, none⟩) hg).symm.trans c0)
          have d1 := (HW4.out.cell (p := ⟨g, off + k * 3 + 1, none⟩) hg).trans ((HW3.out.cell (p := ⟨g, off + k * 3 + 1, none⟩) hg).symm.trans c1)
          have d2 := (HW4.out.cell (p := ⟨g, off + k * 3 + 2, none⟩) hg).trans ((HW3.out.cell (p := ⟨g, off + k * 3 + 2, none⟩) hg).symm.trans c2)
          have HEQ := Lib.hid (show decide ((⟨y.f, y.t, ao5, cap5, y.l⟩ : E).key = x.key) = true from decide_eq_true HY.out)
          clear hb4 hm4 hbv hfr hE4 c0 c1 c2
          go_wp2_with fail
          obtain ⟨W5, hW5⟩ : ∃ W5, W5 = w4.alloc (.cells #[.int .i64 y.f, .int .i64 y.t, .slice ao5 y.l.length cap5] 24) := ⟨_, rfl⟩
          have hM5 : Mods (fun _ => False) w4 W5 := by rw [hW5]; exact (Mods.refl _ w4).alloc _
          have hbx : W5.heap[w4.heap.size]? = some (.cells #[.int .i64 y.f, .int .i64 y.t, .slice ao5 y.l.length cap5] 24 (0, 0)) := by rw [hW5]; exact heap_alloc_new w4 _
          obtain ⟨⟨p0, p1, p2⟩, _, _⟩ := box3 hbx
          have q0 := (hM5.cell (p := ⟨g, off + k * 3, none⟩) hgW4 (fun h => h)).trans d0
          have q1 := (hM5.cell (p := ⟨g, off + k * 3 + 1, none⟩) hgW4 (fun h => h)).trans d1
          have q2 := (hM5.cell (p := ⟨g, off + k * 3 + 2, none⟩) hgW4 (fun h => h)).trans d2
          have HB5 := Lib.hid (HB4.out.keep hM5 (fun _ h => h.elim) (fun _ _ _ _ _ h => h))
          have HW5 := Lib.hid (show Below W.heap.size W W5 by rw [hW5]; exact HW4.out.alloc HW4.out.size _)
          have HV5 := Lib.hid (HV4.out.keep hM5 (fun _ _ _ h => h))
          have HVX5 := Lib.hid (HVX.out.keep hM5 (fun _ _ _ h => h))
          have hz5 : w4.heap.size < W5.heap.size := (Array.getElem?_eq_some_iff.1 hbx).1
          rw [← hW5]
          clear hW5 hbx hM5 d0 d1 d2
          have HST := Lib.hid (show ∀ w', Below W5.heap.size W5 w' → (fun w' => w'.cell? ⟨w4.heap.size, 0, none⟩ = some (.int .i64 y.f) ∧ w'.cell? ⟨w4.heap.size, 1, none⟩ = some (.int .i64 y.t) ∧ w'.cell? ⟨w4.heap.size, 2, none⟩ = some (.slice ao5 y.l.length cap5) ∧ w'.cell? ⟨g, off + k * 3, none⟩ = some (.int .i64 x.f) ∧ w'.cell? ⟨g, off + k * 3 + 1, none⟩ = some (.int .i64 x.t) ∧ w'.cell? ⟨g, off + k * 3 + 2, none⟩ = some (.slice x.ao x.l.length x.cap) ∧ Below W5.heap.size W5 w') w' from fun w' hb => ⟨(hb.cell (p := ⟨w4.heap.size, 0, none⟩) hz5).trans p0, (hb.cell (p := ⟨w4.heap.size, 1, none⟩) hz5).trans p1, (hb.cell (p := ⟨w4.heap.size, 2, none⟩) hz5).trans p2, (hb.cell (p := ⟨g, off + k * 3, none⟩) (by show g < _; omega)).trans q0, (hb.cell (p := ⟨g, off + k * 3 + 1, none⟩) (by show g < _; omega)).trans q1, (hb.cell (p := ⟨g, off + k * 3 + 2, none⟩) (by show g < _; omega)).trans q2, hb⟩)
          have HS0 := Lib.hid (HST.out W5.drew (Below.refl _ _).drew)
          have HSAME := Lib.hid (show ∀ w', Below W5.heap.size W5 w' → Calls Try.prog 12 #[.agg #[.int .i64 y.f, .int .i64 y.t, .slice ao5 y.l.length cap5], .agg #[.int .i64 x.f, .int .i64 x.t, .slice x.ao x.l.length x.cap]] w' fun e w2 => e = .returned (.bool true) ∧ (fun w' => w'.cell? ⟨w4.heap.size, 0, none⟩ = some (.int .i64 y.f) ∧ w'.cell? ⟨w4.heap.size, 1, none⟩ = some (.int .i64 y.t) ∧ w'.cell? ⟨w4.heap.size, 2, none⟩ = some (.slice ao5 y.l.length cap5) ∧ w'.cell? ⟨g, off + k * 3, none⟩ = some (.int .i64 x.f) ∧ w'.cell? ⟨g, off + k * 3 + 1, none⟩ = some (.int .i64 x.t) ∧ w'.cell? ⟨g, off + k * 3 + 2, none⟩ = some (.slice x.ao x.l.length x.cap) ∧ Below W5.heap.size W5 w') w2 from fun w' hb =>
            (same_any ⟨y.f, y.t, ao5, cap5, y.l⟩ x w' (fun _ => False) (fun _ => False) ⟨HV5.out.keep (Mods.of_below (S := fun _ => False) hb) (fun _ _ _ h => h), fun _ _ _ h => h, hyl⟩ ⟨HVX5.out.keep (Mods.of_below (S := fun _ => False) hb) (fun _ _ _ h => h), fun _ _ _ h => h, hxl⟩ true HEQ.out).mono fun e w2 hh => ⟨hh.1, HST.out w2 (hb.trans (hh.2.mono hb.size))⟩)
          clear p0 p1 p2 q0 q1 q2
          go_region_held3 (fun w' => w'.cell? ⟨w4.heap.size, 0, none⟩ = some (.int .i64 y.f) ∧ w'.cell? ⟨w4.heap.size, 1, none⟩ = some (.int .i64 y.t) ∧ w'.cell? ⟨w4.heap.size, 2, none⟩ = some (.slice ao5 y.l.length cap5) ∧ w'.cell? ⟨g, off + k * 3, none⟩ = some (.int .i64 x.f) ∧ w'.cell? ⟨g, off + k * 3 + 1, none⟩ = some (.int .i64 x.t) ∧ w'.cell? ⟨g, off + k * 3 + 2, none⟩ = some (.slice x.ao x.l.length x.cap) ∧ Below W5.heap.size W5 w')
            (first | exact HS0.out | exact h9)
            ((first
              | (go_at_call 12; refine (HSAME.out _ (by obtain ⟨_, _, _, _, _, _, hb⟩ := (by assumption : (fun w' => w'.cell? ⟨w4.heap.size, 0, none⟩ = some (.int .i64 y.f) ∧ w'.cell? ⟨w4.heap.size, 1, none⟩ = some (.int .i64 y.t) ∧ w'.cell? ⟨w4.heap.size, 2, none⟩ = some (.slice ao5 y.l.length cap5) ∧ w'.cell? ⟨g, off + k * 3, none⟩ = some (.int .i64 x.f) ∧ w'.cell? ⟨g, off + k * 3 + 1, none⟩ = some (.int .i64 x.t) ∧ w'.cell? ⟨g, off + k * 3 + 2, none⟩ = some (.slice x.ao x.l.length x.cap) ∧ Below W5.heap.size W5 w') _); exact hb)).mono ?_; rintro e w9 ⟨rfl, h9⟩)))
          have HB6 := Lib.hid (HB5.out.below h9.2.2.2.2.2.2)
          have HW6 := Lib.hid (HW5.out.trans (h9.2.2.2.2.2.2.mono HW5.out.size))
          clear h9
          go_wp2_with fail
          go_roundw
          case rel => exact ⟨k + 1, M', a, c, by go_num, by omega, HB6.out, HM.out, HW6.out⟩
          case measure => simp [intOf]; omega
        · have hkl : ¬ (k : Int) < (X.length : Int) := by omega
          have hk2 : k = X.length := by omega
          have hkd : keys M = TL := by rw [HK3.out, List.drop_of_length_le (by rw [keys_length]; omega)]; rfl
          obtain rfl : M = [] := by have := congrArg List.length (hkd.trans HTL.out); rw [keys_length] at this; exact List.eq_nil_of_length_eq_zero (by simpa using this)
          clear hkd
          go_wp2_with fail
          refine (take_out _ wr2 _ 100 _ a c HB3.out 0 (.inr (by simp))).mono ?_
          rintro e w4 ⟨rfl, b4⟩
          have HB4 := Lib.hid (HB3.out.below b4)
          have HW4 := Lib.hid (HW3.out.trans (b4.mono HW3.out.size))
          clear b4
          go_wp2_with fail
          obtain ⟨W5, hW5⟩ : ∃ W5, W5 = w4.alloc (.cells #[.int .i64 0, .int .i64 0, .slice none 0 0] 24) := ⟨_, rfl⟩
          have hM5 : Mods (fun _ => False) w4 W5 := by rw [hW5]; exact (Mods.refl _ w4).alloc _
          have HB5 := Lib.hid (HB4.out.keep hM5 (fun _ h => h.elim) (fun _ _ _ _ _ h => h))
          have HW5 := Lib.hid (show Below W.heap.size W W5 by rw [hW5]; exact HW4.out.alloc HW4.out.size _)
          rw [← hW5]
          clear hW5 hM5
          have HS0 := Lib.hid ((Below.refl W5.heap.size W5).drew)
          have HLEN := Lib.hid (show Calls Try.prog 13 #[.pointer (some ⟨W.heap.size, 0, none⟩)] W5.drew fun e w2 => e = .returned (.int .i64 0) ∧ w2 = W5.drew from
            (len_any _ W5.drew _ 100 _ a c (HB5.out.below HS0.out)).mono fun e w2 hh => ⟨hh.1, hh.2.symm⟩)
          have HAW := Lib.hid (show ∀ w', Below W5.heap.size W5 w' → Calls Try.prog 6 #[] w' fun e w2 => e = .returned (.bool true) ∧ Below W5.heap.size W5 w2 from fun w' hb =>
            (awake_any w').mono fun e w2 hh => ⟨hh.1, (hb.trans (hh.2.mono hb.size))⟩)
          refine wp_region_still_tail 21 (by kernel_rfl) (by kernel_rfl) ?_
          simp only [List.take_succ_cons, List.take_zero, List.drop_succ_cons, List.drop_zero]
          with_reducible refine st_val (.bool false) ?_ ?_ ?_
          · kernel_rfl
          · kernel_rfl
          simp only [Act.put, List.setIfInBounds_toArray, List.set_cons_succ, List.set_cons_zero]
          with_reducible refine st_val (.bool false) ?_ ?_ ?_
          · kernel_rfl
          · kernel_rfl
          simp only [Act.put, List.setIfInBounds_toArray, List.set_cons_succ, List.set_cons_zero]
          with_reducible refine st_val (.bool true) ?_ ?_ ?_
          · kernel_rfl
          · kernel_rfl
          simp only [Act.put, List.setIfInBounds_toArray, List.set_cons_succ, List.set_cons_zero]
          with_reducible refine st_val (.bool true) ?_ ?_ ?_
          · kernel_rfl
          · kernel_rfl
          simp only [Act.put, List.setIfInBounds_toArray, List.set_cons_succ, List.set_cons_zero]
          with_reducible refine st_val (.bool false) ?_ ?_ ?_
          · kernel_rfl
          · kernel_rfl
          simp only [Act.put, List.setIfInBounds_toArray, List.set_cons_succ, List.set_cons_zero]
          with_reducible refine st_val (.bool true) ?_ ?_ ?_
          · kernel_rfl
          · kernel_rfl
          simp only [Act.put, List.setIfInBounds_toArray, List.set_cons_succ, List.set_cons_zero]
          with_reducible refine st_val (.bool true) ?_ ?_ ?_
          · kernel_rfl
          · kernel_rfl
          simp only [Act.put, List.setIfInBounds_toArray, List.set_cons_succ, List.set_cons_zero]
          with_reducible refine st_skip ?_ ?_
          · kernel_rfl
          simp only [Act.put, List.setIfInBounds_toArray, List.set_cons_succ, List.set_cons_zero]
          with_reducible refine st_skip ?_ ?_
          · kernel_rfl
          simp only [Act.put, List.setIfInBounds_toArray, List.set_cons_succ, List.set_cons_zero]
          with_reducible refine st_skip ?_ ?_
          · kernel_rfl
          simp only [Act.put, List.setIfInBounds_toArray, List.set_cons_succ, List.set_cons_zero]
          with_reducible refine st_skip ?_ ?_
          · kernel_rfl
          simp only [Act.put, List.setIfInBounds_toArray, List.set_cons_succ, List.set_cons_zero]
          with_reducible refine st_skip ?_ ?_
          · kernel_rfl
          simp only [Act.put, List.setIfInBounds_toArray, List.set_cons_succ, List.set_cons_zero]
          with_reducible refine st_skip ?_ ?_
          · kernel_rfl
          simp only [Act.put, List.setIfInBounds_toArray, List.set_cons_succ, List.set_cons_zero]
          with_reducible refine st_val (.bool true) ?_ ?_ ?_
          · kernel_rfl
          · kernel_rfl
          simp only [Act.put, List.setIfInBounds_toArray, List.set_cons_succ, List.set_cons_zero]
          with_reducible refine st_val (.bool true) ?_ ?_ ?_
          · kernel_rfl
          · kernel_rfl
          simp only [Act.put, List.setIfInBounds_toArray, List.set_cons_succ, List.set_cons_zero]
          with_reducible refine st_val (.bool true) ?_ ?_ ?_
          · kernel_rfl
          · kernel_rfl
          simp only [Act.put, List.setIfInBounds_toArray, List.set_cons_succ, List.set_cons_zero]
          with_reducible refine st_val (.pointer (some ⟨W.heap.size, 0, none⟩)) ?_ ?_ ?_
          · kernel_rfl
          · kernel_rfl
          simp only [Act.put, List.setIfInBounds_toArray, List.set_cons_succ, List.set_cons_zero]
          with_reducible refine st_call 13 #[.pointer (some ⟨W.heap.size, 0, none⟩)] (.int .i64 0) ?_ ?_ ?_ ?_
          · kernel_rfl
          · kernel_rfl
          · exact HLEN.out
          simp only [Act.put, List.setIfInBounds_toArray, List.set_cons_succ, List.set_cons_zero]
          with_reducible refine st_val (.bool true) ?_ ?_ ?_
          · kernel_rfl
          · kernel_rfl
          simp only [Act.put, List.setIfInBounds_toArray, List.set_cons_succ, List.set_cons_zero]
          with_reducible refine st_val (.bool true) ?_ ?_ ?_
          · kernel_rfl
          · kernel_rfl
          simp only [Act.put, List.setIfInBounds_toArray, List.set_cons_succ, List.set_cons_zero]
          with_reducible refine st_val (.bool true) ?_ ?_ ?_
          · kernel_rfl
          · kernel_rfl
          simp only [Act.put, List.setIfInBounds_toArray, List.set_cons_succ, List.set_cons_zero]
          with_reducible refine wpStill_nil ?_
          change wpList _ _ _ _ _ W5.drew
          go_wp2_with fail
          refine (HAW.out _ HS0.out).mono ?_
          rintro e w9 ⟨rfl, h9⟩
          have HW8 := Lib.hid (HW5.out.trans (h9.mono HW5.out.size))
          clear h9
          go_wp2_with fail
          go_ret
          exact ⟨rfl, HW8.out⟩

set_option maxRecDepth 100000 in
set_option maxHeartbeats 4000000 in
theorem row_lo (W : World) (vo : Option Addr) (vc : Nat) (X : List E) (hX : Envs W.heap.size W vo vc X) (hl : X.length ≤ 40) (hcm : vc ≤ maxLen)
    (twice : Int) (ht0 : ¬ 0 ≤ twice) (t2 : -9223372036854775808 ≤ twice) :
    Calls Try.prog 4 #[.slice vo X.length vc, .int .i64 twice] W fun e w' => e = .returned (.bool true) ∧ Below W.heap.size W w' := by
  have HX := Lib.hid hX
  have hle : X.length ≤ vc := hX.le
  have hl0 : (X.length : Int) ≤ 40 := by omega
  clear hX
  unfold maxLen at hcm
  obtain ⟨TL, hTL⟩ : ∃ TL : List (Int × Int × List UInt8), [] = TL := ⟨_, rfl⟩
  have HTL := Lib.hid hTL.symm
  clear hTL
  go_enter Try.func4, Try.ntmps4
  go_wp2_with fail
  refine (new_any 100 W (by decide) (by decide)).mono ?_
  rintro e w1 ⟨rfl, h1, b1⟩
  have h1 : BagAt W.heap.size w1 W.heap.size 100 [] none 0 := h1
  go_wp2_with fail
  go_loopw [6] (fun i wr => ∃ (k : Nat) (L : List E) (ao : Option Addr) (cap : Nat), i = .int .i64 k ∧ k ≤ X.length ∧ BagAt W.heap.size wr W.heap.size 100 L ao cap ∧ keys L = (keys X).take k ∧ Below W.heap.size W wr) (fun i _ => X.length - (intOf i).toNat)
  case atStart => exact ⟨0, [], none, 0, rfl, Nat.zero_le _, h1, rfl, b1⟩
  case round =>
    clear h1 b1
    obtain ⟨k, L, ao, cap, rfl, hk, hbag, hkeys, hbel⟩ := hrel
    have HB := Lib.hid hbag
    have HK := Lib.hid hkeys
    have HW := Lib.hid hbel
    have hLl : L.length = k := by have := congrArg List.length hkeys; rw [keys_length, List.length_take, keys_length] at this; omega
    clear hbag hkeys hbel
    by_cases hlt : k < X.length
    · obtain ⟨x, hx⟩ : ∃ x, X[k]? = some x := ⟨_, List.getElem?_eq_getElem hlt⟩
      have hE := HX.out.below (Nat.le_refl _) HW.out
      obtain ⟨g, off, rfl, hg, c0, c1, c2⟩ := hE.cell k x hx
      have HXX := Lib.hid hx
      have HBY := Lib.hid (hE.byt x (List.mem_of_getElem? hx)).1
      have hkl : (k : Int) < (X.length : Int) := by omega
      clear hE hx
      by_cases h100 : x.l.length ≤ 100
      · have h100' : ¬ (100 : Int) < (x.l.length : Int) := by omega
        have HKN := Lib.hid (show ∀ y : E, y.key = x.key → keys (L ++ [y]) = (keys X).take (k + 1) from fun y hy => by
          have hk2 : (keys X)[k]? = some x.key := by simp [keys, HXX.out]
          rw [List.take_add_one, hk2, ← HK.out]
          simp [keys, hy])
        go_wp2_with fail
        refine (put_any _ wr _ 100 L ao cap HB.out x HBY.out h100 (by omega) (by decide)).mono ?_
        rintro e w2 ⟨rfl, y, ao2, cap2, hy, hb2, _, hm2⟩
        have HB2 := Lib.hid hb2
        have HW2 := Lib.hid (HB.out.foot (Nat.le_refl _) HW.out hm2)
        have HY := Lib.hid hy
        clear hb2 hm2 hy
        go_wp2_with fail
        go_roundw
        case rel => exact ⟨k + 1, L ++ [y], ao2, cap2, by go_num, by omega, HB2.out, HKN.out y HY.out, HW2.out⟩
        case measure => simp [intOf]; omega
      · have h100' : (100 : Int) < (x.l.length : Int) := by omega
        go_wp2_with fail
        refine (awake_any wr).mono ?_
        rintro e w2 ⟨rfl, b2⟩
        have HW2 := Lib.hid (HW.out.trans (b2.mono HW.out.size))
        clear b2
        go_wp2_with fail
        go_ret
        exact ⟨rfl, HW2.out⟩
    · have hkl : ¬ (k : Int) < (X.length : Int) := by omega
      have hk2 : k = X.length := by omega
      go_wp2_with fail
      refine (twice_out _ wr _ 100 L ao cap HB.out twice (by omega)).mono ?_
      rintro e w2 ⟨rfl, b2⟩
      have HB2 := Lib.hid (HB.out.below b2)
      have HW2 := Lib.hid (HW.out.trans (b2.mono HW.out.size))
      have HK2 := Lib.hid (show keys L = keys X ++ TL by
        rw [HTL.out, List.append_nil, HK.out, hk2, List.take_of_length_le (by rw [keys_length]; omega)])
      clear b2
      have HK0 := Lib.hid (show keys L = (keys X).drop 0 ++ TL from HK2.out)
      go_wp2_with fail
      go_loopw [8] (fun i wr => ∃ (k : Nat) (M : List E) (a : Option Addr) (c : Nat), i = .int .i64 k ∧ k ≤ X.length ∧ BagAt W.heap.size wr W.heap.size 100 M a c ∧ keys M = (keys X).drop k ++ TL ∧ Below W.heap.size W wr) (fun i _ => X.length - (intOf i).toNat)
      case atStart => exact ⟨0, L, ao, cap, rfl, Nat.zero_le _, HB2.out, HK0.out, HW2.out⟩
      case round =>
        obtain ⟨k, M, a, c, rfl, hk, hbag, hkeys, hbel⟩ := hrel
        rename World => wr2
        have HB3 := Lib.hid hbag
        have HK3 := Lib.hid hkeys
        have HW3 := Lib.hid hbel
        clear hbag hkeys hbel
        by_cases hlt : k < X.length
        · obtain ⟨x, hx⟩ : ∃ x, X[k]? = some x := ⟨_, List.getElem?_eq_getElem hlt⟩
          have hkd : keys M = x.key :: ((keys X).drop (k + 1) ++ TL) := by
            have hlen : k < (keys X).length := by rw [keys_length]; exact hlt
            rw [HK3.out, List.drop_eq_getElem_cons hlen]
            simp [keys, (List.getElem?_eq_some_iff.1 hx).2]
          obtain ⟨y, M', rfl, hy, hM⟩ := keys_cons hkd
          have hE := HX.out.below (Nat.le_refl _) HW3.out
          obtain ⟨g, off, rfl, hg, c0, c1, c2⟩ := hE.cell k x hx
          have HBY := Lib.hid (hE.byt x (List.mem_of_getElem? hx)).1
          have hyl := (HB3.out.ok y (by simp)).2.2
          have hxl : x.l.length ≤ 100 := by have e : y.l = x.l := congrArg (fun p => p.2.2) hy; rw [← e]; exact hyl
          have hkl : (k : Int) < (X.length : Int) := by omega
          have HY := Lib.hid hy
          have HM := Lib.hid hM
          have hgW : g < wr2.heap.size := by have := HW3.out.size; omega
          have HXX := Lib.hid hx
          clear hE hx hkd hy hM
          go_wp2_with fail
          refine (take_in _ wr2 _ 100 _ a c HB3.out 0 y rfl).mono ?_
          rintro e w4 ⟨ao5, cap5, rfl, hbv, hfr, hb4, hm4⟩
          have HB4 := Lib.hid hb4
          have HW4 := Lib.hid (HB3.out.foot (Nat.le_refl _) HW3.out hm4)
          have HV4 := Lib.hid hbv
          have hE4 := HX.out.below (Nat.le_refl _) HW4.out
          have HVX := Lib.hid (show BytesV w4 x.v x.l from HBY.out.keep hm4 (fun q hq hne hF => by
            have h1 := (HB3.out.lt q hF).1
            exact (HX.out.byt x (List.mem_of_getElem? HXX.out)).2 q hq hne h1))
          have hgW4 : g < w4.heap.size := by have := HW4.out.size; omega
          have d0 := (HW4.out.cell (p := ⟨g, off + k * 3, none⟩) hg).trans ((HW3.out.cell (p := ⟨g, off + k * 3, none⟩) hg).symm.trans c0)
          have d1 := (HW4.out.cell (p := ⟨g, off + k * 3 + 1, none⟩) hg).trans ((HW3.out.cell (p := ⟨g, off + k * 3 + 1, none⟩) hg).symm.trans c1)
          have d2 := (HW4.out.cell (p := ⟨g, off + k * 3 + 2, none⟩) hg).trans ((HW3.out.cell (p := ⟨g, off + k * 3 + 2, none⟩) hg).symm.trans c2)
          have HEQ := Lib.hid (show decide ((⟨y.f, y.t, ao5, cap5, y.l⟩ : E).key = x.key) = true from decide_eq_true HY.out)
          clear hb4 hm4 hbv hfr hE4 c0 c1 c2
          go_wp2_with fail
          obtain ⟨W5, hW5⟩ : ∃ W5, W5 = w4.alloc (.cells #[.int .i64 y.f, .int .i64 y.t, .slice ao5 y.l.length cap5] 24) := ⟨_, rfl⟩
          have hM5 : Mods (fun _ => False) w4 W5 := by rw [hW5]; exact (Mods.refl _ w4).alloc _
          have hbx : W5.heap[w4.heap.size]? = some (.cells #[.int .i64 y.f, .int .i64 y.t, .slice ao5 y.l.length cap5] 24 (0, 0)) := by rw [hW5]; exact heap_alloc_new w4 _
          obtain ⟨⟨p0, p1, p2⟩, _, _⟩ := box3 hbx
          have q0 := (hM5.cell (p := ⟨g, off + k * 3, none⟩) hgW4 (fun h => h)).trans d0
          have q1 := (hM5.cell (p := ⟨g, off + k * 3 + 1, none⟩) hgW4 (fun h => h)).trans d1
          have q2 := (hM5.cell (p := ⟨g, off + k * 3 + 2, none⟩) hgW4 (fun h => h)).trans d2
          have HB5 := Lib.hid (HB4.out.keep hM5 (fun _ h => h.elim) (fun _ _ _ _ _ h => h))
          have HW5 := Lib.hid (show Below W.heap.size W W5 by rw [hW5]; exact HW4.out.alloc HW4.out.size _)
          have HV5 := Lib.hid (HV4.out.keep hM5 (fun _ _ _ h => h))
          have HVX5 := Lib.hid (HVX.out.keep hM5 (fun _ _ _ h => h))
          have hz5 : w4.heap.size < W5.heap.size := (Array.getElem?_eq_some_iff.1 hbx).1
          rw [← hW5]
          clear hW5 hbx hM5 d0 d1 d2
          have HST := Lib.hid (show ∀ w', Below W5.heap.size W5 w' → (fun w' => w'.cell? ⟨w4.heap.size, 0, none⟩ = some (.int .i64 y.f) ∧ w'.cell? ⟨w4.heap.size, 1, none⟩ = some (.int .i64 y.t) ∧ w'.cell? ⟨w4.heap.size, 2, none⟩ = some (.slice ao5 y.l.length cap5) ∧ w'.cell? ⟨g, off + k * 3, none⟩ = some (.int .i64 x.f) ∧ w'.cell? ⟨g, off + k * 3 + 1, none⟩ = some (.int .i64 x.t) ∧ w'.cell? ⟨g, off + k * 3 + 2, none⟩ = some (.slice x.ao x.l.length x.cap) ∧ Below W5.heap.size W5 w') w' from fun w' hb => ⟨(hb.cell (p := ⟨w4.heap.size, 0, none⟩) hz5).trans p0, (hb.cell (p := ⟨w4.heap.size, 1, none⟩) hz5).trans p1, (hb.cell (p := ⟨w4.heap.size, 2, none⟩) hz5).trans p2, (hb.cell (p := ⟨g, off + k * 3, none⟩) (by show g < _; omega)).trans q0, (hb.cell (p := ⟨g, off + k * 3 + 1, none⟩) (by show g < _; omega)).trans q1, (hb.cell (p := ⟨g, off + k * 3 + 2, none⟩) (by show g < _; omega)).trans q2, hb⟩)
          have HS0 := Lib.hid (HST.out W5.drew (Below.refl _ _).drew)
          have HSAME := Lib.hid (show ∀ w', Below W5.heap.size W5 w' → Calls Try.prog 12 #[.agg #[.int .i64 y.f, .int .i64 y.t, .slice ao5 y.l.length cap5], .agg #[.int .i64 x.f, .int .i64 x.t, .slice x.ao x.l.length x.cap]] w' fun e w2 => e = .returned (.bool true) ∧ (fun w' => w'.cell? ⟨w4.heap.size, 0, none⟩ = some (.int .i64 y.f) ∧ w'.cell? ⟨w4.heap.size, 1, none⟩ = some (.int .i64 y.t) ∧ w'.cell? ⟨w4.heap.size, 2, none⟩ = some (.slice ao5 y.l.length cap5) ∧ w'.cell? ⟨g, off + k * 3, none⟩ = some (.int .i64 x.f) ∧ w'.cell? ⟨g, off + k * 3 + 1, none⟩ = some (.int .i64 x.t) ∧ w'.cell? ⟨g, off + k * 3 + 2, none⟩ = some (.slice x.ao x.l.length x.cap) ∧ Below W5.heap.size W5 w') w2 from fun w' hb =>
            (same_any ⟨y.f, y.t, ao5, cap5, y.l⟩ x w' (fun _ => False) (fun _ => False) ⟨HV5.out.keep (Mods.of_below (S := fun _ => False) hb) (fun _ _ _ h => h), fun _ _ _ h => h, hyl⟩ ⟨HVX5.out.keep (Mods.of_below (S := fun _ => False) hb) (fun _ _ _ h => h), fun _ _ _ h => h, hxl⟩ true HEQ.out).mono fun e w2 hh => ⟨hh.1, HST.out w2 (hb.trans (hh.2.mono hb.size))⟩)
          clear p0 p1 p2 q0 q1 q2
          go_region_held3 (fun w' => w'.cell? ⟨w4.heap.size, 0, none⟩ = some (.int .i64 y.f) ∧ w'.cell? ⟨w4.heap.size, 1, none⟩ = some (.int .i64 y.t) ∧ w'.cell? ⟨w4.heap.size, 2, none⟩ = some (.slice ao5 y.l.length cap5) ∧ w'.cell? ⟨g, off + k * 3, none⟩ = some (.int .i64 x.f) ∧ w'.cell? ⟨g, off + k * 3 + 1, none⟩ = some (.int .i64 x.t) ∧ w'.cell? ⟨g, off + k * 3 + 2, none⟩ = some (.slice x.ao x.l.length x.cap) ∧ Below W5.heap.size W5 w')
            (first | exact HS0.out | exact h9)
            ((first
              | (go_at_call 12; refine (HSAME.out _ (by obtain ⟨_, _, _, _, _, _, hb⟩ := (by assumption : (fun w' => w'.cell? ⟨w4.heap.size, 0, none⟩ = some (.int .i64 y.f) ∧ w'.cell? ⟨w4.heap.size, 1, none⟩ = some (.int .i64 y.t) ∧ w'.cell? ⟨w4.heap.size, 2, none⟩ = some (.slice ao5 y.l.length cap5) ∧ w'.cell? ⟨g, off + k * 3, none⟩ = some (.int .i64 x.f) ∧ w'.cell? ⟨g, off + k * 3 + 1, none⟩ = some (.int .i64 x.t) ∧ w'.cell? ⟨g, off + k * 3 + 2, none⟩ = some (.slice x.ao x.l.length x.cap) ∧ Below W5.heap.size W5 w') _); exact hb)).mono ?_; rintro e w9 ⟨rfl, h9⟩)))
          have HB6 := Lib.hid (HB5.out.below h9.2.2.2.2.2.2)
          have HW6 := Lib.hid (HW5.out.trans (h9.2.2.2.2.2.2.mono HW5.out.size))
          clear h9
          go_wp2_with fail
          go_roundw
          case rel => exact ⟨k + 1, M', a, c, by go_num, by omega, HB6.out, HM.out, HW6.out⟩
          case measure => simp [intOf]; omega
        · have hkl : ¬ (k : Int) < (X.length : Int) := by omega
          have hk2 : k = X.length := by omega
          have hkd : keys M = TL := by rw [HK3.out, List.drop_of_length_le (by rw [keys_length]; omega)]; rfl
          obtain rfl : M = [] := by have := congrArg List.length (hkd.trans HTL.out); rw [keys_length] at this; exact List.eq_nil_of_length_eq_zero (by simpa using this)
          clear hkd
          go_wp2_with fail
          refine (take_out _ wr2 _ 100 _ a c HB3.out 0 (.inr (by simp))).mono ?_
          rintro e w4 ⟨rfl, b4⟩
          have HB4 := Lib.hid (HB3.out.below b4)
          have HW4 := Lib.hid (HW3.out.trans (b4.mono HW3.out.size))
          clear b4
          go_wp2_with fail
          obtain ⟨W5, hW5⟩ : ∃ W5, W5 = w4.alloc (.cells #[.int .i64 0, .int .i64 0, .slice none 0 0] 24) := ⟨_, rfl⟩
          have hM5 : Mods (fun _ => False) w4 W5 := by rw [hW5]; exact (Mods.refl _ w4).alloc _
          have HB5 := Lib.hid (HB4.out.keep hM5 (fun _ h => h.elim) (fun _ _ _ _ _ h => h))
          have HW5 := Lib.hid (show Below W.heap.size W W5 by rw [hW5]; exact HW4.out.alloc HW4.out.size _)
          rw [← hW5]
          clear hW5 hM5
          have HS0 := Lib.hid ((Below.refl W5.heap.size W5).drew)
          have HLEN := Lib.hid (show Calls Try.prog 13 #[.pointer (some ⟨W.heap.size, 0, none⟩)] W5.drew fun e w2 => e = .returned (.int .i64 0) ∧ w2 = W5.drew from
            (len_any _ W5.drew _ 100 _ a c (HB5.out.below HS0.out)).mono fun e w2 hh => ⟨hh.1, hh.2.symm⟩)
          have HAW := Lib.hid (show ∀ w', Below W5.heap.size W5 w' → Calls Try.prog 6 #[] w' fun e w2 => e = .returned (.bool true) ∧ Below W5.heap.size W5 w2 from fun w' hb =>
            (awake_any w').mono fun e w2 hh => ⟨hh.1, (hb.trans (hh.2.mono hb.size))⟩)
          refine wp_region_still_tail 21 (by kernel_rfl) (by kernel_rfl) ?_
          simp only [List.take_succ_cons, List.take_zero, List.drop_succ_cons, List.drop_zero]
          with_reducible refine st_val (.bool false) ?_ ?_ ?_
          · kernel_rfl
          · kernel_rfl
          simp only [Act.put, List.setIfInBounds_toArray, List.set_cons_succ, List.set_cons_zero]
          with_reducible refine st_val (.bool false) ?_ ?_ ?_
          · kernel_rfl
          · kernel_rfl
          simp only [Act.put, List.setIfInBounds_toArray, List.set_cons_succ, List.set_cons_zero]
          with_reducible refine st_val (.bool true) ?_ ?_ ?_
          · kernel_rfl
          · kernel_rfl
          simp only [Act.put, List.setIfInBounds_toArray, List.set_cons_succ, List.set_cons_zero]
          with_reducible refine st_val (.bool true) ?_ ?_ ?_
          · kernel_rfl
          · kernel_rfl
          simp only [Act.put, List.setIfInBounds_toArray, List.set_cons_succ, List.set_cons_zero]
          with_reducible refine st_val (.bool false) ?_ ?_ ?_
          · kernel_rfl
          · kernel_rfl
          simp only [Act.put, List.setIfInBounds_toArray, List.set_cons_succ, List.set_cons_zero]
          with_reducible refine st_val (.bool true) ?_ ?_ ?_
          · kernel_rfl
          · kernel_rfl
          simp only [Act.put, List.setIfInBounds_toArray, List.set_cons_succ, List.set_cons_zero]
          with_reducible refine st_val (.bool true) ?_ ?_ ?_
          · kernel_rfl
          · kernel_rfl
          simp only [Act.put, List.setIfInBounds_toArray, List.set_cons_succ, List.set_cons_zero]
          with_reducible refine st_skip ?_ ?_
          · kernel_rfl
          simp only [Act.put, List.setIfInBounds_toArray, List.set_cons_succ, List.set_cons_zero]
          with_reducible refine st_skip ?_ ?_
          · kernel_rfl
          simp only [Act.put, List.setIfInBounds_toArray, List.set_cons_succ, List.set_cons_zero]
          with_reducible refine st_skip ?_ ?_
          · kernel_rfl
          simp only [Act.put, List.setIfInBounds_toArray, List.set_cons_succ, List.set_cons_zero]
          with_reducible refine st_skip ?_ ?_
          · kernel_rfl
          simp only [Act.put, List.setIfInBounds_toArray, List.set_cons_succ, List.set_cons_zero]
          with_reducible refine st_skip ?_ ?_
          · kernel_rfl
          simp only [Act.put, List.setIfInBounds_toArray, List.set_cons_succ, List.set_cons_zero]
          with_reducible refine st_skip ?_ ?_
          · kernel_rfl
          simp only [Act.put, List.setIfInBounds_toArray, List.set_cons_succ, List.set_cons_zero]
          with_reducible refine st_val (.bool true) ?_ ?_ ?_
          · kernel_rfl
          · kernel_rfl
          simp only [Act.put, List.setIfInBounds_toArray, List.set_cons_succ, List.set_cons_zero]
          with_reducible refine st_val (.bool true) ?_ ?_ ?_
          · kernel_rfl
          · kernel_rfl
          simp only [Act.put, List.setIfInBounds_toArray, List.set_cons_succ, List.set_cons_zero]
          with_reducible refine st_val (.bool true) ?_ ?_ ?_
          · kernel_rfl
          · kernel_rfl
          simp only [Act.put, List.setIfInBounds_toArray, List.set_cons_succ, List.set_cons_zero]
          with_reducible refine st_val (.pointer (some ⟨W.heap.size, 0, none⟩)) ?_ ?_ ?_
          · kernel_rfl
          · kernel_rfl
          simp only [Act.put, List.setIfInBounds_toArray, List.set_cons_succ, List.set_cons_zero]
          with_reducible refine st_call 13 #[.pointer (some ⟨W.heap.size, 0, none⟩)] (.int .i64 0) ?_ ?_ ?_ ?_
          · kernel_rfl
          · kernel_rfl
          · exact HLEN.out
          simp only [Act.put, List.setIfInBounds_toArray, List.set_cons_succ, List.set_cons_zero]
          with_reducible refine st_val (.bool true) ?_ ?_ ?_
          · kernel_rfl
          · kernel_rfl
          simp only [Act.put, List.setIfInBounds_toArray, List.set_cons_succ, List.set_cons_zero]
          with_reducible refine st_val (.bool true) ?_ ?_ ?_
          · kernel_rfl
          · kernel_rfl
          simp only [Act.put, List.setIfInBounds_toArray, List.set_cons_succ, List.set_cons_zero]
          with_reducible refine st_val (.bool true) ?_ ?_ ?_
          · kernel_rfl
          · kernel_rfl
          simp only [Act.put, List.setIfInBounds_toArray, List.set_cons_succ, List.set_cons_zero]
          with_reducible refine wpStill_nil ?_
          change wpList _ _ _ _ _ W5.drew
          go_wp2_with fail
          refine (HAW.out _ HS0.out).mono ?_
          rintro e w9 ⟨rfl, h9⟩
          have HW8 := Lib.hid (HW5.out.trans (h9.mono HW5.out.size))
          clear h9
          go_wp2_with fail
          go_ret
          exact ⟨rfl, HW8.out⟩

theorem row_any (W : World) (vo : Option Addr) (vc : Nat) (X : List E) (twice : Int) (hX : Envs W.heap.size W vo vc X) (hcm : vc ≤ maxLen) (t1 : -9223372036854775808 ≤ twice) (t2 : twice ≤ 9223372036854775807) :
    Calls Try.prog 4 #[.slice vo X.length vc, .int .i64 twice] W fun e w' => e = .returned (.bool true) ∧ Below W.heap.size W w' := by
  by_cases hl : X.length ≤ 40
  · by_cases h0 : 0 ≤ twice
    · by_cases h1 : twice < X.length
      · obtain ⟨i, rfl⟩ := Int.eq_ofNat_of_zero_le h0
        exact row_in W vo vc X hX hl hcm i _ (List.getElem?_eq_getElem (by omega))
      · exact row_hi W vo vc X hX hl hcm twice h0 h1 t2
    · exact row_lo W vo vc X hX hl hcm twice h0 t1
  · have hl0 : (40 : Int) < (X.length : Int) := by omega
    clear hX
    go_enter Try.func4, Try.ntmps4
    go_wp2_with fail
    refine (awake_any W).mono ?_
    rintro e w1 ⟨rfl, b1⟩
    go_wp2_with fail
    go_ret
    exact ⟨rfl, b1⟩
end Go.Proofs.Ytngackbgcknphaa.B
