/- Several texts in one. -/
import Derived.Test.YtndfhejfhfhbdaaGreatDoorMrg33
import Derived.Test.YtndfhejfhfhbdaaGreatDoorMrg34
import Derived.Test.YtndfhejfhfhbdaaGreatDoorMrg5
import Derived.Test.YtndfhejfhfhbdaaGreatDoorCards
import Derived.Lib.LaidU8
import Derived.Lib.LaidTab
import Derived.LaidLaws
import Derived.PinnedBridge

/- The walk of EnginePlays. -/
namespace Go.Proofs.YtndfhejfhfhbdaaGreatDoor.O
open Go.RowKit Go.Proofs.YtndfhejfhfhbdaaGreatDoor.M Go.BigFrame Go.Proofs.YtndfhejfhfhbdaaGreatDoor.K
set_option linter.unusedVariables false
set_option linter.unusedSimpArgs false

theorem rec_keep {w w' : World} {g off k : Nat} {x : Rv} (h : RecAt w g (off + k * 16) x) (hg : g < w.heap.size) (hb : Below w.heap.size w w') : (fun w' => w'.cell? ⟨g, off + k * 16, none⟩ = some (.int .i64 x.id.r) ∧ w'.cell? ⟨g, off + k * 16 + 1, none⟩ = some (.int .i64 x.id.n) ∧ w'.cell? ⟨g, off + k * 16 + 2, none⟩ = some (.int .i64 x.st) ∧ w'.cell? ⟨g, off + k * 16 + 3, none⟩ = some (.int .i64 x.bal.round) ∧ w'.cell? ⟨g, off + k * 16 + 4, none⟩ = some (.int .i64 x.bal.by_) ∧ w'.cell? ⟨g, off + k * 16 + 5, none⟩ = some (.int .i64 x.took.round) ∧ w'.cell? ⟨g, off + k * 16 + 6, none⟩ = some (.int .i64 x.took.by_) ∧ w'.cell? ⟨g, off + k * 16 + 7, none⟩ = some (.int .i64 x.cmd.kind) ∧ w'.cell? ⟨g, off + k * 16 + 8, none⟩ = some (.int .i64 x.cmd.client) ∧ w'.cell? ⟨g, off + k * 16 + 9, none⟩ = some (.int .i64 x.cmd.seq) ∧ w'.cell? ⟨g, off + k * 16 + 10, none⟩ = some (.string x.cmd.key) ∧ w'.cell? ⟨g, off + k * 16 + 11, none⟩ = some (.string x.cmd.val) ∧ w'.cell? ⟨g, off + k * 16 + 12, none⟩ = some (.int .i64 x.cmd.rev) ∧ w'.cell? ⟨g, off + k * 16 + 13, none⟩ = some (.slice x.ao x.deps.length x.cap) ∧ w'.cell? ⟨g, off + k * 16 + 14, none⟩ = some (.int .i64 x.seq) ∧ w'.cell? ⟨g, off + k * 16 + 15, none⟩ = some (.int .i64 x.tag)) w' := by
  obtain ⟨c0, c1, c2, c3, c4, c5, c6, c7, c8, c9, c10, c11, c12, c13, c14, c15⟩ := h.below hb hg
  exact ⟨c0, c1, c2, c3, c4, c5, c6, c7, c8, c9, c10, c11, c12, c13, c14, c15⟩
theorem eng_has (p n : Nat) (L : List Rv) (D : List Id) (F : Nat → Prop) (i : Id) (w : World) (h : Eng w p n L D F) (hi : IdI i) (v : Bool) (hv : thereB L D i = v) :
    Calls Tryz.prog 36 #[.pointer (some ⟨p, 0, none⟩), idV i] w fun e w' => e = .returned (.bool v) ∧ Below w.heap.size w w' := by
  obtain ⟨b1, b2, ro, rc, h1, _⟩ := h.ex
  exact enghas_any p b1 b2 n D.length ro rc L D i w h1 hi v hv
theorem eng_needs (p n : Nat) (L : List Rv) (D : List Id) (F : Nat → Prop) (w : World) (h : Eng w p n L D F) (hL : L.length ≤ 100) (hdl : ∀ x ∈ L, x.deps.length ≤ 1000) :
    Calls Tryz.prog 34 #[.pointer (some ⟨p, 0, none⟩)] w fun e w' => ∃ oo oc S, e = .returned (.slice oo (S : List Id).length oc) ∧ (S = setI (needsL L D L) ∧ IdsV w' oo oc S ∧ Below w.heap.size w w') := by
  obtain ⟨b1, b2, ro, rc, h1, _⟩ := h.ex
  refine (engneeds_any p b1 b2 n D.length ro rc L D w h1 hL hdl).mono ?_
  rintro e w' ⟨oo, oc, S, rfl, k1, k2, k3⟩
  refine ⟨oo, oc, S, rfl, k1, IdsV.of_own k2 (fun d hd => ?_), k3⟩
  rw [k1] at hd
  obtain ⟨y, hy, h2⟩ := List.mem_flatMap.1 ((setI_mem _ _).1 hd)
  exact (h1.ok y hy).1.deps.ok d (List.mem_filter.1 h2).1
theorem ref_needs (w0 : World) (p : Nat) (Y : List Rv) (D : List Id) (G : Nat → Prop) (w : World) (h : RefE w0 w p Y D G) (hY : Y.length ≤ 100) (hdl : ∀ x ∈ Y, x.deps.length ≤ 10000) :
    Calls Tryz.prog 35 #[.pointer (some ⟨p, 0, none⟩)] w fun e w' => ∃ oo oc S, e = .returned (.slice oo (S : List Id).length oc) ∧ (S = setI (needR Y D Y) ∧ IdsV w' oo oc S ∧ Below w.heap.size w w') := by
  refine (refneeds_any w0 p Y D G w h hY hdl).mono ?_
  rintro e w' ⟨oo, oc, S, rfl, k1, k2, k3⟩
  refine ⟨oo, oc, S, rfl, k1, IdsV.of_own k2 (fun d hd => ?_), k3⟩
  rw [k1] at hd
  obtain ⟨y, hy, h2⟩ := List.mem_flatMap.1 ((setI_mem _ _).1 hd)
  exact (h.ok y (List.mem_filter.1 hy).1).deps.ok d (List.mem_filter.1 h2).1
theorem keep4b {W w' : World} {p1 p2 p3 p4 : Addr} {v1 v2 v3 v4 : Value} (hb : Below W.heap.size W w') (h1 : W.cell? p1 = some v1) (h2 : W.cell? p2 = some v2) (h3 : W.cell? p3 = some v3) (h4 : W.cell? p4 = some v4) : w'.cell? p1 = some v1 ∧ w'.cell? p2 = some v2 ∧ w'.cell? p3 = some v3 ∧ w'.cell? p4 = some v4 :=
  ⟨(hb.cell (World.block_lt_of_cell? W _ h1)).trans h1, (hb.cell (World.block_lt_of_cell? W _ h2)).trans h2, (hb.cell (World.block_lt_of_cell? W _ h3)).trans h3, (hb.cell (World.block_lt_of_cell? W _ h4)).trans h4⟩
theorem ids_kept {w5 w6 : World} {B : Nat} {oo : Option Addr} {oc : Nat} {out : List Id} {G : Nat → Prop} (h : OwnL w5 B oo oc out) (hg : ∀ j, G j → j < B) (hm : Mods G w5 w6) (hi : ∀ d ∈ out, IdI d) : IdsV w6 oo oc out :=
  IdsV.of_own (B := B) (by
    have := own_kept2 h hm (fun a e hj => by have := (h.lt a.block (by rw [e]; rfl)).1; have := hg _ hj; omega)
    unfold OwnL at this
    exact this) hi
set_option maxRecDepth 100000 in
set_option maxHeartbeats 4000000 in
theorem plays_law (X : List Rv) (ao : Option Addr) (cap : Nat) (rn : List Bool) (ro : Option Addr) (rc : Nat) (w : World) (hV : RecsV w ao cap X) (hV2 : OneV boolV w ro rc rn) (hT : Go.Proofs.YtndfhejfhfhbdaaGreatDoor.R.Tabs w) :
    Calls Tryz.prog 7 #[.slice ao X.length cap, .slice ro rn.length rc] w fun e w' => e = .returned (.bool true) ∧ Below w.heap.size w w' := by
  have HV := Lib.hid hV
  have HT := Lib.hid hT
  have HR := Lib.hid hV2
  clear hV hT hV2
  obtain ⟨hr1, hr2⟩ := HR.out.le
  obtain ⟨hl1, hl2⟩ := HV.out.le
  unfold maxLen at hr2 hl2
  go_enter Tryz.func7, Tryz.ntmps7
  obtain ⟨gr, hgr⟩ : ∃ g, greatR X 20 = g := ⟨_, rfl⟩
  have HG := Lib.hid (refgreat_any X 20 ao cap w HV.out (by omega) gr hgr)
  cases gr with
  | true =>
    clear hgr
    go_wp2_with fail
    refine HG.out.mono ?_
    rintro e w1 ⟨rfl, rfl⟩
    go_wp2_with fail
    refine (engawake_any _ (HT.out)).mono ?_
    rintro e wz ⟨rfl, hbz⟩
    have HBZ := Lib.hid ((Below.refl w.heap.size w).trans (hbz.mono (Below.refl w.heap.size w).size))
    clear hbz
    go_wp2_with fail
    go_ret
    exact ⟨rfl, HBZ.out⟩
  | false =>
    obtain ⟨hl20, hsz⟩ := greatR_no hgr
    have HSZ := Lib.hid hsz
    clear hgr hsz
    by_cases hrl : 20 < rn.length
    · have e2 : (20 : Int) < (rn.length : Int) := by omega
      go_wp2_with fail
      refine HG.out.mono ?_
      rintro e w1 ⟨rfl, rfl⟩
      go_wp2_with fail
      refine (engawake_any _ (HT.out)).mono ?_
      rintro e wz ⟨rfl, hbz⟩
      have HBZ := Lib.hid ((Below.refl w.heap.size w).trans (hbz.mono (Below.refl w.heap.size w).size))
      clear hbz
      go_wp2_with fail
      go_ret
      exact ⟨rfl, HBZ.out⟩
    · have e2 : ¬ (20 : Int) < (rn.length : Int) := by omega
      go_wp2_with fail
      refine HG.out.mono ?_
      rintro e w1 ⟨rfl, rfl⟩
      clear HG
      have HNEW := Lib.hid (eng_new w)
      go_wp2_with fail
      refine HNEW.out.mono ?_
      rintro e w2 ⟨px, F, rfl, he, hf, hb⟩
      have HE := Lib.hid he
      have HF := Lib.hid hf
      have HB := Lib.hid hb
      clear he hf hb HNEW e2 hrl
      go_upto_region 4 with fail
      obtain ⟨w3, hw3⟩ : ∃ w3, w3 = w2.alloc (refO none 0 0 none 0 0) := ⟨_, rfl⟩
      obtain ⟨py, hpy⟩ : ∃ py, py = w2.heap.size := ⟨_, rfl⟩
      have hb3 : Below w2.heap.size w2 w3 := by rw [hw3]; exact (Below.refl _ _).alloc (Nat.le_refl _) _
      have hx3 : w3.heap[py]? = some (refO none 0 0 none 0 0) := by rw [hw3, hpy]; exact heap_alloc_new w2 _
      rw [show w2.alloc (Obj.cells #[Value.slice none 0 0, Value.slice none 0 0] 61) = w3 from hw3.symm, ← hpy]
      have hsz2 := HB.out.size
      have HP0 := Lib.hid (show PlSt w w3 px py X 0 [] [] [] 0 F (fun j => j = py) from
        ⟨HE.out.below hb3, ⟨⟨none, 0, none, 0, hx3, World.ownsRow_nil _ _ _ _, World.ownsRow_nil _ _ _ _, fun a e => (by cases e), fun a e => (by cases e)⟩, rfl, fun x hx => (by cases hx), fun x hx => (by cases hx), fun j e => by omega, fun j e => by rw [e]; exact M.heap_lt hx3, HB.out.trans (hb3.mono hsz2)⟩, EP.new,
          fun j hj e => by have := HE.out.lt j hj; omega, HF.out, Nat.le_refl _, Nat.le_refl _, fun y hy => (by cases hy)⟩)
      clear hw3 hpy hb3 hx3 HE HF HB
      go_wp2_with fail
      go_loopw [7] (fun iv wr => ∃ (k : Nat) (L Y : List Rv) (D : List Id) (n : Nat) (F G : Nat → Prop), iv = .int .i64 k ∧ k ≤ X.length ∧ PlSt w wr px py X k L Y D n F G) (fun iv _ => X.length - (intOf iv).toNat)
      case atStart => exact ⟨0, [], [], [], 0, F, _, rfl, Nat.zero_le _, HP0.out⟩
      case round =>
        obtain ⟨k, L, Y, D, n, F', G, rfl, hk, hp⟩ := hrel
        have HP := Lib.hid hp
        clear hp HP0
        by_cases hkl : k < X.length
        · have hii : (k : Int) < (X.length : Int) := by omega
          obtain ⟨x, hx⟩ : ∃ x, X[k]? = some x := ⟨_, List.getElem?_eq_getElem hkl⟩
          have hxm := List.mem_of_getElem? hx
          have HXM := Lib.hid hxm
          obtain ⟨g, off, e0, hgl, hrec⟩ := HV.out.row k x hx
          subst e0
          have HREC := Lib.hid hrec
          have HXS := Lib.hid (HSZ.out x hxm)
          have HXO := Lib.hid (HV.out.ok x hxm)
          have HSR := Lib.hid (fun (wz : World) (hb : Below w.heap.size w wz) => rec_keep hrec hgl hb)
          clear hx hxm hrec
          go_upto_region 7 with fail
          go_cut [37] (fun u wx => u = .bool false ∧ ∃ (L Y : List Rv) (D : List Id) (n : Nat) (F G : Nat → Prop), PlSt w wx px py X (k + 1) L Y D n F G)
          case first =>
            as_aux_lemma =>
              cases hac : (goodR x && !decide (x.id ∈ idsX Y)) with
              | false =>
                have HC1 := Lib.hid (fun (wz : World) (hb : Below wr.heap.size wr wz) => pl_cx_no (HP.out.below hb) HXO.out HT.out (by have := HXS.out; omega) (by have := HXS.out; omega) hac)
                have HC2 := Lib.hid (fun (wz : World) (hb : Below wr.heap.size wr wz) => pl_cy_no (HP.out.below hb) HXO.out (by have := HXS.out; omega) (by have := HXS.out; omega) hac)
                have HB0 := Lib.hid (show Below wr.heap.size wr wr.drew from (Below.refl _ _).drew)
                clear hac
                go_region_held3 (fun w' => w'.cell? ⟨g, off + k * 16, none⟩ = some (.int .i64 x.id.r) ∧ w'.cell? ⟨g, off + k * 16 + 1, none⟩ = some (.int .i64 x.id.n) ∧ w'.cell? ⟨g, off + k * 16 + 2, none⟩ = some (.int .i64 x.st) ∧ w'.cell? ⟨g, off + k * 16 + 3, none⟩ = some (.int .i64 x.bal.round) ∧ w'.cell? ⟨g, off + k * 16 + 4, none⟩ = some (.int .i64 x.bal.by_) ∧ w'.cell? ⟨g, off + k * 16 + 5, none⟩ = some (.int .i64 x.took.round) ∧ w'.cell? ⟨g, off + k * 16 + 6, none⟩ = some (.int .i64 x.took.by_) ∧ w'.cell? ⟨g, off + k * 16 + 7, none⟩ = some (.int .i64 x.cmd.kind) ∧ w'.cell? ⟨g, off + k * 16 + 8, none⟩ = some (.int .i64 x.cmd.client) ∧ w'.cell? ⟨g, off + k * 16 + 9, none⟩ = some (.int .i64 x.cmd.seq) ∧ w'.cell? ⟨g, off + k * 16 + 10, none⟩ = some (.string x.cmd.key) ∧ w'.cell? ⟨g, off + k * 16 + 11, none⟩ = some (.string x.cmd.val) ∧ w'.cell? ⟨g, off + k * 16 + 12, none⟩ = some (.int .i64 x.cmd.rev) ∧ w'.cell? ⟨g, off + k * 16 + 13, none⟩ = some (.slice x.ao x.deps.length x.cap) ∧ w'.cell? ⟨g, off + k * 16 + 14, none⟩ = some (.int .i64 x.seq) ∧ w'.cell? ⟨g, off + k * 16 + 15, none⟩ = some (.int .i64 x.tag))
                  (first | exact HSR.out _ (HP.out.rf.bl.trans (HB2.out.mono HP.out.rf.bl.size)) | exact HSR.out _ (HP.out.rf.bl.trans (HB1.out.mono HP.out.rf.bl.size)) | exact HSR.out _ (HP.out.rf.bl.trans (HB0.out.mono HP.out.rf.bl.size)))
                  ((first
                    | (go_at_call 29
                       refine (HC1.out _ HB0.out).mono ?_
                       rintro e w5 ⟨rfl, hb5⟩
                       have HB1 := Lib.hid (HB0.out.trans (hb5.mono HB0.out.size))
                       clear hb5)
                    | (go_at_call 30
                       refine (HC2.out _ HB1.out).mono ?_
                       rintro e w6 ⟨rfl, hb6⟩
                       have HB2 := Lib.hid (HB1.out.trans (hb6.mono HB1.out.size))
                       clear hb6)))
                all_goals
                  go_wp2_with fail
                  go_meet
                  exact ⟨rfl, L, Y, D, n, F', G, (HP.out.below HB2.out).more⟩
              | true =>
                have hac2 : goodR x = true ∧ x.id ∉ idsX Y := by simpa using hac
                have HC1 := Lib.hid (pl_cx_yes (HP.out.below ((Below.refl _ _).drew)) HXO.out HT.out (by have := HXS.out; omega) (by have := HXS.out; omega) (by omega) hac2.1 hac2.2)
                have HC2 := Lib.hid (fun (wz : World) (y : Rv) (F2 : Nat → Prop) (h : PlMid w wz px py X k L Y D n F2 G x y) => pl_cy_yes h HXO.out HXM.out (by have := HXS.out; omega) (by have := HXS.out; omega) (by omega) hac2.1 hac2.2)
                clear hac hac2
                go_region_held3 (fun w' => w'.cell? ⟨g, off + k * 16, none⟩ = some (.int .i64 x.id.r) ∧ w'.cell? ⟨g, off + k * 16 + 1, none⟩ = some (.int .i64 x.id.n) ∧ w'.cell? ⟨g, off + k * 16 + 2, none⟩ = some (.int .i64 x.st) ∧ w'.cell? ⟨g, off + k * 16 + 3, none⟩ = some (.int .i64 x.bal.round) ∧ w'.cell? ⟨g, off + k * 16 + 4, none⟩ = some (.int .i64 x.bal.by_) ∧ w'.cell? ⟨g, off + k * 16 + 5, none⟩ = some (.int .i64 x.took.round) ∧ w'.cell? ⟨g, off + k * 16 + 6, none⟩ = some (.int .i64 x.took.by_) ∧ w'.cell? ⟨g, off + k * 16 + 7, none⟩ = some (.int .i64 x.cmd.kind) ∧ w'.cell? ⟨g, off + k * 16 + 8, none⟩ = some (.int .i64 x.cmd.client) ∧ w'.cell? ⟨g, off + k * 16 + 9, none⟩ = some (.int .i64 x.cmd.seq) ∧ w'.cell? ⟨g, off + k * 16 + 10, none⟩ = some (.string x.cmd.key) ∧ w'.cell? ⟨g, off + k * 16 + 11, none⟩ = some (.string x.cmd.val) ∧ w'.cell? ⟨g, off + k * 16 + 12, none⟩ = some (.int .i64 x.cmd.rev) ∧ w'.cell? ⟨g, off + k * 16 + 13, none⟩ = some (.slice x.ao x.deps.length x.cap) ∧ w'.cell? ⟨g, off + k * 16 + 14, none⟩ = some (.int .i64 x.seq) ∧ w'.cell? ⟨g, off + k * 16 + 15, none⟩ = some (.int .i64 x.tag))
                  (first | exact HSR.out _ HM2.out.rf.bl | exact HSR.out _ HM1.out.rf.bl | exact HSR.out _ HP.out.rf.bl.drew)
                  ((first
                    | (go_at_call 29
                       refine HC1.out.mono ?_
                       rintro e w5 ⟨rfl, y, F2, hm5⟩
                       have HM1 := Lib.hid hm5
                       clear hm5)
                    | (go_at_call 30
                       refine (HC2.out _ y F2 HM1.out).mono ?_
                       rintro e w6 ⟨rfl, G2, hm6⟩
                       have HM2 := Lib.hid hm6
                       clear hm6)))
                all_goals
                  go_wp2_with fail
                  go_meet
                  exact ⟨rfl, _, _, _, _, _, _, HM2.out⟩
          obtain ⟨rfl, L1, Y1, D1, n1, F1, G1, hp1⟩ := hcut
          have HP1 := Lib.hid hp1
          clear hp1 HP
          obtain ⟨wb, rfl⟩ : ∃ wb, wb = wc := ⟨_, rfl⟩
          go_upto_region 9 with fail
          go_cut [55] (fun u wx => u = .bool false ∧ ∃ (L Y : List Rv) (D : List Id) (n : Nat) (F G : Nat → Prop), PlSt w wx px py X (k + 1) L Y D n F G)
          case first =>
            as_aux_lemma =>
              by_cases hrk : k < rn.length
              · have hri : (k : Int) < (rn.length : Int) := by omega
                obtain ⟨v9, hv9⟩ : ∃ v, rn[k]? = some v := ⟨_, List.getElem?_eq_getElem hrk⟩
                obtain ⟨gb, ob, e9, hbl, q0⟩ := HR.out.row k v9 hv9
                subst e9
                have c0 := (HP1.out.rf.bl.cell (p := ⟨gb, _, none⟩) hbl).trans q0
                clear q0 hv9
                cases v9 with
                | false =>
                  go_wp2_with fail
                  go_meet
                  exact ⟨rfl, _, _, _, _, _, _, HP1.out⟩
                | true =>
                  have HRX := Lib.hid (pl_runx HP1.out HT.out (by omega) (fun x hx => by have := HSZ.out x hx; omega))
                  go_wp2_with fail
                  refine HRX.out.mono ?_
                  rintro e w5 ⟨oo, oc, out, rfl, O, F5, hr5, ho5, hg5⟩
                  have HR5 := Lib.hid hr5
                  have HO5 := Lib.hid ho5
                  have HG5 := Lib.hid hg5
                  clear hr5 ho5 hg5 HRX c0
                  have HRY := Lib.hid (pl_runy HR5.out (by omega) (fun x hx => by have := HSZ.out x hx; omega))
                  go_wp2_with fail
                  refine HRY.out.mono ?_
                  rintro e w6 ⟨oo2, oc2, rfl, G6, hp6, hv6, hm6⟩
                  have HP6 := Lib.hid hp6
                  have HEQ := Lib.hid (refequal_any out out oo oo2 oc oc2 w6 (ids_kept HO5.out HG5.out hm6 hv6.ok) hv6 true (decide_eq_true rfl))
                  clear hp6 hv6 hm6 HRY
                  go_wp2_with fail
                  refine HEQ.out.mono ?_
                  rintro e w7 ⟨rfl, hb7⟩
                  have HP7 := Lib.hid (HP6.out.below hb7)
                  clear hb7 HEQ
                  go_wp2_with fail
                  go_meet
                  exact ⟨rfl, _, _, _, _, _, _, HP7.out⟩
              · have hri : ¬ (k : Int) < (rn.length : Int) := by omega
                go_wp2_with fail
                go_meet
                exact ⟨rfl, _, _, _, _, _, _, HP1.out⟩
          obtain ⟨rfl, L2, Y2, D2, n2, F2, G2, hp2⟩ := hcut
          have HP2 := Lib.hid hp2
          clear hp2 HP1
          obtain ⟨wd, rfl⟩ : ∃ wd, wd = wc := ⟨_, rfl⟩
          go_upto_region 11 with fail
          obtain ⟨lo, lc, dn, dc, g0, g1, g2, g3, g4, _⟩ := HP2.out.rf.view
          have HLV := Lib.hid g3
          have HDV := Lib.hid g4
          have hpl := HP2.out.rf.lt py HP2.out.rf.gp
          have HYL := Lib.hid HP2.out.yk
          have HLL := Lib.hid HP2.out.ll
          have HLX := Lib.hid (HP2.out.lx (a := 40) (b := 200) (fun x hx => by have := HSZ.out x hx; omega))
          have HYX := Lib.hid (show ∀ y ∈ Y2, y.deps.length ≤ 10000 from fun y hy => by have := HSZ.out y (HP2.out.yx y hy); omega)
          have hrr := HREC.out.below HP2.out.rf.bl hgl
          have HS := Lib.hid (fun (wz : World) (hb : Below wd.heap.size wd wz) => keep4b hb g1 g2 hrr.c0 hrr.c1)
          have HB0 := Lib.hid (show Below wd.heap.size wd wd.drew from (Below.refl _ _).drew)
          obtain ⟨bh, hbh⟩ : ∃ b, decide (x.id ∈ idsX Y2) = b := ⟨_, rfl⟩
          obtain ⟨bd, hbd⟩ : ∃ b, decide (x.id ∈ D2) = b := ⟨_, rfl⟩
          obtain ⟨v, hv⟩ : ∃ v, atI (idsX Y2) x.id = v := ⟨_, rfl⟩
          have hvb : decide (0 ≤ v) = bh := by
            rw [← hbh, Bool.eq_iff_iff, decide_eq_true_eq, decide_eq_true_eq, ← hv]
            have := atI_neg (l := idsX Y2) (i := x.id)
            constructor
            · intro h; exact Classical.byContradiction fun hn => by have := this.2 hn; omega
            · intro h; have : ¬ atI (idsX Y2) x.id < 0 := fun h2 => this.1 h2 h; omega
          have HTH := Lib.hid (show thereB L2 D2 x.id = bh from (HP2.out.ep.there _).trans hbh)
          have HBD := Lib.hid hbd
          have HVV := Lib.hid hv
          clear g0 g1 g2 g3 g4 hrr hbh hbd hv
          go_region_held3 (fun w' => w'.cell? ⟨py, 0, none⟩ = some (.slice lo Y2.length lc) ∧ w'.cell? ⟨py, 1, none⟩ = some (.slice dn D2.length dc) ∧ w'.cell? ⟨g, off + k * 16, none⟩ = some (.int .i64 x.id.r) ∧ w'.cell? ⟨g, off + k * 16 + 1, none⟩ = some (.int .i64 x.id.n))
            (first | exact HS.out _ HZ9.out | exact HS.out _ HZ8.out | exact HS.out _ HZ7.out | exact HS.out _ HZ6.out | exact HS.out _ HZ5.out | exact HS.out _ HZ4.out | exact HS.out _ HZ3.out | exact HS.out _ HZ2.out | exact HS.out _ HZ1.out | exact HS.out _ HB0.out)
            ((first
              | (go_at_call 33
                 refine (eng_exec px n2 L2 D2 F2 _ (HP2.out.en.below HB0.out) (by have := HP2.out.dl; have := HYL.out; omega)).mono ?_
                 rintro e q1 ⟨xo, xc, rfl, hx1, hb1⟩
                 have HZ1 := Lib.hid (HB0.out.trans (hb1.mono HB0.out.size))
                 have HX1 := Lib.hid hx1
                 clear hb1 hx1)
              | (go_at_call 18
                 with_reducible refine (refequal_any D2 D2 xo dn xc dc q1 HX1.out (HDV.out.below (B := 0) HZ1.out) true (decide_eq_true rfl)).mono ?_
                 rintro e q2 ⟨rfl, hb2⟩
                 have HZ2 := Lib.hid (HZ1.out.trans (hb2.mono HZ1.out.size))
                 clear hb2)
              | (go_at_call 34
                 refine (eng_needs px n2 L2 D2 F2 q2 (HP2.out.en.below HZ2.out) (by have := HLL.out; have := HYL.out; omega) (fun x hx => by have := HLX.out x hx; omega)).mono ?_
                 rintro e q3 ⟨so, sc, S3, rfl, hS3, hv3, hb3⟩
                 have HZ3 := Lib.hid (HZ2.out.trans (hb3.mono HZ2.out.size))
                 have HS3 := Lib.hid hS3
                 have HV3 := Lib.hid hv3
                 clear hb3 hS3 hv3)
              | (go_at_call 35
                 refine (ref_needs w py Y2 D2 G2 q3 (HP2.out.rf.below HZ3.out) (by have := HYL.out; omega) HYX.out).mono ?_
                 rintro e q4 ⟨tz, tc, S4, rfl, hS4, hv4, hb4⟩
                 have HZ4 := Lib.hid (HZ3.out.trans (hb4.mono HZ3.out.size))
                 have HE4 := Lib.hid (show decide (S3 = S4) = true from decide_eq_true (by rw [HS3.out, hS4, HP2.out.ep.needs]; rfl))
                 have HV4 := Lib.hid hv4
                 have HV3B := Lib.hid (HV3.out.below (B := 0) hb4)
                 clear hb4 hS4 hv4)
              | (go_at_call 18
                 with_reducible refine (refequal_any S3 S4 so tz sc tc q4 HV3B.out HV4.out true HE4.out).mono ?_
                 rintro e q5 ⟨rfl, hb5⟩
                 have HZ5 := Lib.hid (HZ4.out.trans (hb5.mono HZ4.out.size))
                 clear hb5)
              | (go_at_call 36
                 refine (eng_has px n2 L2 D2 F2 x.id q5 (HP2.out.en.below HZ5.out) HXO.out.id bh HTH.out).mono ?_
                 rintro e q6 ⟨rfl, hb6⟩
                 have HZ6 := Lib.hid (HZ5.out.trans (hb6.mono HZ5.out.size))
                 clear hb6)
              | (go_at_call 14
                 refine (refat_any Y2 lo lc x.id q6 (HLV.out.below HZ6.out) v HVV.out).mono ?_
                 rintro e q7 ⟨rfl, hb7⟩
                 have HZ7 := Lib.hid (HZ6.out.trans (hb7.mono HZ6.out.size))
                 clear hb7)
              | (go_at_call 37
                 refine (eng_done px n2 L2 D2 F2 x.id q7 (HP2.out.en.below HZ7.out) HXO.out.id bd HBD.out).mono ?_
                 rintro e q8 ⟨rfl, hb8⟩
                 have HZ8 := Lib.hid (HZ7.out.trans (hb8.mono HZ7.out.size))
                 clear hb8)
              | (go_at_call 38
                 refine (refhas_any D2 dn dc x.id q8 (HDV.out.below (B := 0) HZ8.out) bd HBD.out).mono ?_
                 rintro e q9 ⟨rfl, hb9⟩
                 have HZ9 := Lib.hid (HZ8.out.trans (hb9.mono HZ8.out.size))
                 clear hb9)))
          all_goals
            go_wp2_with fail
            go_roundw
            case rel => exact ⟨k + 1, L2, Y2, D2, n2, F2, G2, by go_num, by omega, HP2.out.below HZ9.out⟩
            case measure => simp [intOf]; omega
        · as_aux_lemma =>
            obtain rfl : k = X.length := by omega
            have hii : ¬ (X.length : Int) < (X.length : Int) := by omega
            have HRX := Lib.hid (fun (wz : World) (hb : Below wr.heap.size wr wz) => pl_runx (HP.out.below hb) HT.out (by omega) (fun x hx => by have := HSZ.out x hx; omega))
            have HB0 := Lib.hid (show Below wr.heap.size wr wr.drew from (Below.refl _ _).drew)
            go_upto_region 13 with fail
            go_region_with (first
              | (go_at_call 31
                 refine (HRX.out _ HB0.out).mono ?_
                 rintro e w5 ⟨oo, oc, out, rfl, O, F5, hr5, ho5, hg5⟩
                 have HRY := Lib.hid (pl_runy hr5 (by omega) (fun x hx => by have := HSZ.out x hx; omega))
                 have HO5 := Lib.hid ho5
                 have HG5 := Lib.hid hg5
                 clear hr5 ho5 hg5)
              | (go_at_call 32
                 refine HRY.out.mono ?_
                 rintro e w6 ⟨oo2, oc2, rfl, G6, hp6, hv6, hm6⟩
                 have HP6 := Lib.hid hp6
                 have HEQ := Lib.hid (refequal_any out out oo oo2 oc oc2 w6 (ids_kept HO5.out HG5.out hm6 hv6.ok) hv6 true (decide_eq_true rfl))
                 obtain ⟨lo, lc, dn, dc, g0, g1, g2, g3, g4, _⟩ := hp6.rf.view
                 have HD6 := Lib.hid g4
                 have HG6 := Lib.hid g2
                 clear hp6 hv6 hm6 g0 g1 g2 g3 g4)
              | (go_at_call 18
                 with_reducible refine HEQ.out.mono ?_
                 rintro e w7 ⟨rfl, hb7⟩
                 have HB7 := Lib.hid hb7
                 have c7 := (hb7.cell (p := ⟨py, 1, none⟩) (World.block_lt_of_cell? w6 _ HG6.out)).trans HG6.out
                 clear hb7)
              | (go_at_call 33
                 refine (eng_exec px _ _ _ _ w7 (HP6.out.en.below HB7.out) (by have := HP6.out.dl; have := HP6.out.yk; omega)).mono ?_
                 rintro e w8 ⟨xo, xc, rfl, hx8, hb8⟩
                 have HB8 := Lib.hid (HB7.out.trans (hb8.mono HB7.out.size))
                 have HX8 := Lib.hid hx8
                 have c8 := (HB8.out.cell (p := ⟨py, 1, none⟩) (World.block_lt_of_cell? w6 _ HG6.out)).trans HG6.out
                 clear hb8 hx8)
              | (go_at_call 18
                 have he9 := refequal_any (D ++ out) (D ++ out) xo dn xc dc w8 HX8.out (HD6.out.below (B := 0) HB8.out) true (decide_eq_true rfl)
                 rw [List.length_append] at he9
                 with_reducible refine he9.mono ?_
                 clear he9
                 rintro e w9 ⟨rfl, hb9⟩
                 have HB9 := Lib.hid (HB8.out.trans (hb9.mono HB8.out.size))
                 clear hb9)
              | (go_at_call 27
                 refine (engawake_any w9 (HT.out.next (HP6.out.rf.bl.trans (HB9.out.mono HP6.out.rf.bl.size)))).mono ?_
                 rintro e wA ⟨rfl, hbA⟩
                 have HBF := Lib.hid (HP6.out.rf.bl.trans ((HB9.out.trans (hbA.mono HB9.out.size)).mono HP6.out.rf.bl.size))
                 clear hbA))
            all_goals
              go_wp2_with fail
              go_ret
              exact ⟨rfl, HBF.out⟩
end Go.Proofs.YtndfhejfhfhbdaaGreatDoor.O

/- From the listed variables of the rows to the tables that the walks take. -/
namespace Go.Proofs.YtndfhejfhfhbdaaGreatDoor.O
open Go.RowKit Go.PlainAid Go.Lib Go.Proofs.YtndfhejfhfhbdaaGreatDoor.R

theorem u8x : Go.Proofs.U8Extra Tryz.prog Tryz.lays260_ren := ⟨by kernel_rfl, by kernel_rfl, by kernel_rfl, by kernel_rfl, by kernel_rfl, by kernel_rfl, by kernel_rfl⟩
theorem accept_eq : Rows.laid_unicode_utf8_acceptRanges (H := Unit) = Go.Lib.acceptData := by kernel_rfl
theorem tabs_mk {W : World} (hu : Lib.Utf8Tabs 0 1 W) : Tabs W :=
  ⟨hu, World.block_lt_of_cell? W _ (hu.1 0 (by decide)), World.block_lt_of_cell? W _ (hu.2 0 (by decide)).1⟩
theorem tabsR_of {W : World} (hL : laidMet Tryz.prog Rows.orderPartsRow.laid W) : Tabs W :=
  tabs_mk (Go.Proofs.utf8Tabs_of_reads Tryz.lays260 u8x (Pinned.utf8First_eq ▸ Go.Lib.laidMet.reads hL (.tail _ (.head _))) (accept_eq ▸ Go.Lib.laidMet.reads hL (.head _)))
end Go.Proofs.YtndfhejfhfhbdaaGreatDoor.O
