/- Several texts in one. -/
import Derived.Test.YtlbkbjeajcadiaaGreatDoorMrg16
import Derived.Test.YtlbkbjeajcadiaaGreatDoorMrg10

/- Records: the document's Right. -/
namespace Go.Proofs.YtlbkbjeajcadiaaGreatDoor.O
open Go.RowKit Go.Proofs.YtlbkbjeajcadiaaGreatDoor.M Go.BigFrame Go.Proofs.YtlbkbjeajcadiaaGreatDoor.R
set_option linter.unusedVariables false
set_option linter.unusedSimpArgs false

/-- where a record's box stands, and what holds of it -/
structure Box2 (x : Rv) (b : Nat) (w : World) : Prop where
  box : w.heap[b]? = some (recO x)
  deps : IdsV w x.ao x.cap x.deps
theorem Box2.next {x : Rv} {b : Nat} {w w' : World} (h : Box2 x b w) (hb : Below w.heap.size w w') : Box2 x b w' :=
  ⟨(hb.block _ (M.heap_lt h.box)).trans h.box, h.deps.below (B := 0) hb⟩
set_option maxRecDepth 100000 in
set_option maxHeartbeats 4000000 in
theorem refright9_any (x : Rv) (w : World) (h : RvOk w x) (hl : x.deps.length ≤ 1000000) (hk : x.cmd.key.size ≤ 1000000) (v : Bool) (hv : recOk x = v) :
    Calls Tryz.prog 37 #[recV x] w fun e w' => e = .returned (.bool v) ∧ Below w.heap.size w w' := by
  have HV0 := Lib.hid hv
  have H0 := Lib.hid h
  clear hv h
  go_enter Tryz.func37, Tryz.ntmps37
  go_upto_region 1 with fail
  obtain ⟨W0, hW⟩ : ∃ W, W = w.alloc (recO x) := ⟨_, rfl⟩
  have HG0 : Hid (Below w.heap.size w W0) := Lib.hid (by rw [hW]; exact (Below.refl _ _).alloc (Nat.le_refl _) _)
  have HX0 : Hid (Box2 x w.heap.size W0) := Lib.hid ⟨by rw [hW]; exact heap_alloc_new w _, H0.out.deps.below (B := 0) HG0.out⟩
  rw [← hW]
  clear hW H0
  obtain ⟨b1, hb1⟩ : ∃ b, idOk x.id = b := ⟨_, rfl⟩
  obtain ⟨b2, hb2⟩ : ∃ b, decide (x.st < 0) = b := ⟨_, rfl⟩
  obtain ⟨b3, hb3⟩ : ∃ b, decide (3 < x.st) = b := ⟨_, rfl⟩
  obtain ⟨b4, hb4⟩ : ∃ b, balOk x.bal = b := ⟨_, rfl⟩
  obtain ⟨b5, hb5⟩ : ∃ b, balOk x.took = b := ⟨_, rfl⟩
  obtain ⟨b6, hb6⟩ : ∃ b, balLt x.bal x.took = b := ⟨_, rfl⟩
  have HB1 := Lib.hid hb1
  have HB4 := Lib.hid hb4
  have HB5 := Lib.hid hb5
  have HB6 := Lib.hid hb6
  have HH := Lib.hid (show (headBad x || balBad x) = (!b1 || (b2 || b3) || (!b4 || (!b5 || b6))) by unfold headBad balBad; rw [hb1, hb2, hb3, hb4, hb5, hb6])
  obtain ⟨hd, hhd⟩ : ∃ hd, hd = (!b1 || (b2 || b3) || (!b4 || (!b5 || b6))) := ⟨_, rfl⟩
  rw [← hhd] at HH
  have HD := Lib.hid hhd
  clear hb1 hb4 hb5 hb6 hhd
  go_cut [35] (fun u wx => u = .bool hd ∧ Below W0.heap.size W0 wx)
  case first =>
    obtain ⟨c0, c1, c2, c3, c4, c5, c6, c7, c8, c9, c10, c11, c12, c13, c14, c15⟩ := box16 (HX0.out).box
    go_wp2_with fail
    refine (refright_any x.id W0 b1 HB1.out).mono ?_
    rintro e w1 ⟨rfl, hg1⟩
    have HBB := Lib.hid hg1.below
    have HX1 := Lib.hid (HX0.out.next hg1.below)
    clear hg1
    clear c0 c1 c2 c3 c4 c5 c6 c7 c8 c9 c10 c11 c12 c13 c14 c15
    obtain ⟨c0, c1, c2, c3, c4, c5, c6, c7, c8, c9, c10, c11, c12, c13, c14, c15⟩ := box16 (HX1.out).box
    cases b1 with
    | false =>
      have HE := Lib.hid (show hd = true from HD.out)
      go_wp2_with fail
      go_meet
      case rel => exact ⟨by rw [HE.out], HBB.out⟩
    | true =>
      cases b2 with
      | true =>
        have HE := Lib.hid (show hd = true from HD.out)
        go_wp2_with fail
        go_meet
        case rel => exact ⟨by rw [HE.out], HBB.out⟩
      | false =>
        cases b3 with
        | true =>
          have HE := Lib.hid (show hd = true from HD.out)
          go_wp2_with fail
          go_meet
          case rel => exact ⟨by rw [HE.out], HBB.out⟩
        | false =>
          go_wp2_with fail
          refine (refbalright_any x.bal w1 b4 HB4.out).mono ?_
          rintro e w2 ⟨rfl, hcall⟩
          have HR2 := Lib.hid (HBB.out.trans ((hcall).mono HBB.out.size))
          have HX2 := Lib.hid (HX1.out.next (hcall))
          clear hcall
          clear c0 c1 c2 c3 c4 c5 c6 c7 c8 c9 c10 c11 c12 c13 c14 c15
          obtain ⟨c0, c1, c2, c3, c4, c5, c6, c7, c8, c9, c10, c11, c12, c13, c14, c15⟩ := box16 (HX2.out).box
          cases b4 with
          | false =>
            have HE := Lib.hid (show hd = true from HD.out)
            go_wp2_with fail
            go_meet
            case rel => exact ⟨by rw [HE.out], HR2.out⟩
          | true =>
            go_wp2_with fail
            refine (refbalright_any x.took w2 b5 HB5.out).mono ?_
            rintro e w3 ⟨rfl, hcall⟩
            have HR3 := Lib.hid (HR2.out.trans ((hcall).mono HR2.out.size))
            have HX3 := Lib.hid (HX2.out.next (hcall))
            clear hcall
            clear c0 c1 c2 c3 c4 c5 c6 c7 c8 c9 c10 c11 c12 c13 c14 c15
            obtain ⟨c0, c1, c2, c3, c4, c5, c6, c7, c8, c9, c10, c11, c12, c13, c14, c15⟩ := box16 (HX3.out).box
            cases b5 with
            | false =>
              have HE := Lib.hid (show hd = true from HD.out)
              go_wp2_with fail
              go_meet
              case rel => exact ⟨by rw [HE.out], HR3.out⟩
            | true =>
              have HE := Lib.hid (show hd = b6 from HD.out)
              go_wp2_with fail
              refine (refballess_any x.bal x.took w3 b6 HB6.out).mono ?_
              rintro e w4 ⟨rfl, hcall⟩
              have HR4 := Lib.hid (HR3.out.trans ((hcall).mono HR3.out.size))
              have HX4 := Lib.hid (HX3.out.next (hcall))
              clear hcall
              clear c0 c1 c2 c3 c4 c5 c6 c7 c8 c9 c10 c11 c12 c13 c14 c15
              obtain ⟨c0, c1, c2, c3, c4, c5, c6, c7, c8, c9, c10, c11, c12, c13, c14, c15⟩ := box16 (HX4.out).box
              go_wp2_with fail
              go_meet
              case rel => exact ⟨by rw [HE.out], HR4.out⟩
  case rest =>
    obtain ⟨rfl, hbc⟩ := hcut
    obtain ⟨W, rfl⟩ : ∃ w1, w1 = wc := ⟨_, rfl⟩
    have HG := Lib.hid (HG0.out.trans (hbc.mono HG0.out.size))
    have HX := Lib.hid (HX0.out.next hbc)
    clear hbc hb2 hb3 HX0 HG0 HD HB1 HB4 HB5 HB6
    cases hd with
    | true =>
      have HE := Lib.hid (show v = false by
        rw [← HV0.out]
        unfold recOk
        have := HH.out
        cases e1 : headBad x <;> cases e2 : balBad x <;> simp_all)
      go_wp2_with fail
      go_ret
      exact ⟨by rw [HE.out]; rfl, HG.out⟩
    | false =>
      have HQ := Lib.hid (show restOk x = v by
        rw [← HV0.out]
        unfold recOk
        have := HH.out
        cases e1 : headBad x <;> cases e2 : balBad x <;> simp_all)
      clear HH HV0
      go_upto_region 3 with fail
      obtain ⟨c0, c1, c2, c3, c4, c5, c6, c7, c8, c9, c10, c11, c12, c13, c14, c15⟩ := box16 (HX.out).box
      cases hz : (x.st == 0) with
      | false =>
        have hz2 : ¬ x.st = 0 := by simpa using hz
        obtain ⟨k1, hk1⟩ : ∃ k, P.chk x.cmd = k := ⟨_, rfl⟩
        obtain ⟨k2, hk2⟩ : ∃ k, attrChk x.deps x.seq x.tag = k := ⟨_, rfl⟩
        obtain ⟨b3, hb3⟩ : ∃ b, decide (x.id ∈ x.deps) = b := ⟨_, rfl⟩
        have HK1 := Lib.hid hk1
        have HK2 := Lib.hid hk2
        have HB3 := Lib.hid hb3
        have HE := Lib.hid (show ((k1 == 0) && ((k2 == 0) && !b3)) = v by rw [← HQ.out, ← hk1, ← hk2, ← hb3]; unfold restOk; rw [if_neg hz2])
        clear hz2 hk1 hk2 hb3
        go_wp2_with fail
        refine (P.refcheck_any x.cmd W hk).mono ?_
        rintro e w3 ⟨rfl, hcall⟩
        have HG3 := Lib.hid (HG.out.trans ((hcall).mono HG.out.size))
        have HX3 := Lib.hid (HX.out.next (hcall))
        clear hcall
        clear c0 c1 c2 c3 c4 c5 c6 c7 c8 c9 c10 c11 c12 c13 c14 c15
        obtain ⟨c0, c1, c2, c3, c4, c5, c6, c7, c8, c9, c10, c11, c12, c13, c14, c15⟩ := box16 (HX3.out).box
        rw [HK1.out]
        cases e1 : (k1 == 0) with
        | false =>
          have HE2 := Lib.hid (show v = false by rw [← HE.out, e1]; rfl)
          go_wp2_with fail
          go_ret
          exact ⟨by rw [HE2.out]; rfl, HG3.out⟩
        | true =>
          have HE2 := Lib.hid (show ((k2 == 0) && !b3) = v by rw [← HE.out, e1]; rfl)
          go_wp2_with fail
          refine (refattrchk_any x.ao x.cap x.deps x.seq x.tag w3 HX3.out.deps hl k2 HK2.out).mono ?_
          rintro e w4 ⟨rfl, hcall⟩
          have HG4 := Lib.hid (HG3.out.trans ((hcall).mono HG3.out.size))
          have HX4 := Lib.hid (HX3.out.next (hcall))
          clear hcall
          clear c0 c1 c2 c3 c4 c5 c6 c7 c8 c9 c10 c11 c12 c13 c14 c15
          obtain ⟨c0, c1, c2, c3, c4, c5, c6, c7, c8, c9, c10, c11, c12, c13, c14, c15⟩ := box16 (HX4.out).box
          cases e3 : (k2 == 0) with
          | false =>
            have HE3 := Lib.hid (show v = false by rw [← HE2.out, e3]; rfl)
            go_wp2_with fail
            go_ret
            exact ⟨by rw [HE3.out]; rfl, HG4.out⟩
          | true =>
            have HE3 := Lib.hid (show (!b3) = v by rw [← HE2.out, e3]; rfl)
            go_wp2_with fail
            refine (refhas_any x.deps x.ao x.cap x.id w4 HX4.out.deps b3 HB3.out).mono ?_
            rintro e w5 ⟨rfl, hcall⟩
            have HG5 := Lib.hid (HG4.out.trans ((hcall).mono HG4.out.size))
            have HX5 := Lib.hid (HX4.out.next (hcall))
            clear hcall
            clear c0 c1 c2 c3 c4 c5 c6 c7 c8 c9 c10 c11 c12 c13 c14 c15
            obtain ⟨c0, c1, c2, c3, c4, c5, c6, c7, c8, c9, c10, c11, c12, c13, c14, c15⟩ := box16 (HX5.out).box
            go_wp2_with fail
            go_ret
            exact ⟨by rw [← HE3.out]; rfl, HG5.out⟩
      | true =>
        have hz2 : x.st = 0 := by simpa using hz
        have HV := Lib.hid (show bareB x = v by rw [← HQ.out]; unfold restOk; rw [if_pos hz2])
        clear hz2 HQ HX c0 c1 c3 c4
        obtain ⟨⟨ir, i_n⟩, st, bal, ⟨tr, tb⟩, ⟨kind, client, cseq, key, val, rev⟩, deps, sq, tg, ao, cap⟩ := x
        dsimp only at c2 c5 c6 c7 c8 c9 c10 c11 c12 c13 c14 c15 hl hz
        by_cases h0 : tr = 0
        · subst h0
          by_cases h1 : tb = 0
          · subst h1
            by_cases h2 : kind = 0
            · subst h2
              by_cases h3 : client = 0
              · subst h3
                by_cases h4 : cseq = 0
                · subst h4
                  by_cases h5 : key = P.nul
                  · subst h5
                    replace c10 : W.cell? ⟨w.heap.size, 10, none⟩ = some (.string ⟨#[]⟩) := c10
                    by_cases h6 : val = P.nul
                    · subst h6
                      replace c11 : W.cell? ⟨w.heap.size, 11, none⟩ = some (.string ⟨#[]⟩) := c11
                      by_cases h7 : rev = 0
                      · subst h7
                        cases e8 : ((deps.length : Int) == 0) with
                        | false =>
                          have hd : deps ≠ [] := by rintro rfl; simp at e8
                          have HE := Lib.hid (show v = false by rw [← HV.out]; unfold bareB atSame; simp [hd])
                          clear hd
                          go_wp2_with fail
                          go_ret
                          exact ⟨by rw [HE.out]; rfl, HG.out⟩
                        | true =>
                          have hd : deps = [] := by have := List.length_eq_zero_iff.1 (Int.ofNat_inj.1 (by simpa using e8)); exact this
                          cases e9 : (sq == 0) with
                          | false =>
                            have HE := Lib.hid (show v = false by rw [← HV.out]; unfold bareB atSame; simp [e9])
                            clear hd
                            go_wp2_with fail
                            go_ret
                            exact ⟨by rw [HE.out]; rfl, HG.out⟩
                          | true =>
                            cases e10 : (tg == 0) with
                            | false =>
                              have HE := Lib.hid (show v = false by rw [← HV.out]; unfold bareB atSame; simp [e10])
                              clear hd
                              go_wp2_with fail
                              go_ret
                              exact ⟨by rw [HE.out]; rfl, HG.out⟩
                            | true =>
                              have HE := Lib.hid (show v = true by rw [← HV.out]; unfold bareB atSame; simp [e9, e10, hd])
                              clear hd
                              go_wp2_with fail
                              go_ret
                              exact ⟨by rw [HE.out]; rfl, HG.out⟩
                      · have HE := Lib.hid (show v = false by rw [← HV.out]; unfold bareB; simp [h7])
                        have e7 : (rev == 0) = false := by rw [beq_eq_false_iff_ne]; exact h7
                        clear h7
                        go_wp2_with fail
                        go_ret
                        exact ⟨by rw [HE.out]; rfl, HG.out⟩
                    · have HE := Lib.hid (show v = false by rw [← HV.out]; exact bareB_val h6)
                      have e6 : (val.toList == []) = false := toList_no h6
                      clear h6
                      go_wp2_with fail
                      go_ret
                      exact ⟨by rw [HE.out]; rfl, HG.out⟩
                  · have HE := Lib.hid (show v = false by rw [← HV.out]; exact bareB_key h5)
                    have e5 : (key.toList == []) = false := toList_no h5
                    clear h5
                    go_wp2_with fail
                    go_ret
                    exact ⟨by rw [HE.out]; rfl, HG.out⟩
                · have HE := Lib.hid (show v = false by rw [← HV.out]; unfold bareB; simp [h4])
                  have e4 : (cseq == 0) = false := by rw [beq_eq_false_iff_ne]; exact h4
                  clear h4
                  go_wp2_with fail
                  go_ret
                  exact ⟨by rw [HE.out]; rfl, HG.out⟩
              · have HE := Lib.hid (show v = false by rw [← HV.out]; unfold bareB; simp [h3])
                have e3 : (client == 0) = false := by rw [beq_eq_false_iff_ne]; exact h3
                clear h3
                go_wp2_with fail
                go_ret
                exact ⟨by rw [HE.out]; rfl, HG.out⟩
            · have HE := Lib.hid (show v = false by rw [← HV.out]; unfold bareB; simp [h2])
              have e2 : (kind == 0) = false := by rw [beq_eq_false_iff_ne]; exact h2
              clear h2
              go_wp2_with fail
              go_ret
              exact ⟨by rw [HE.out]; rfl, HG.out⟩
          · have HE := Lib.hid (show v = false by rw [← HV.out]; unfold bareB; simp [h1])
            have e1 : (tb == 0) = false := by rw [beq_eq_false_iff_ne]; exact h1
            clear h1
            go_wp2_with fail
            go_ret
            exact ⟨by rw [HE.out]; rfl, HG.out⟩
        · have HE := Lib.hid (show v = false by rw [← HV.out]; unfold bareB; simp [h0])
          have e0 : (tr == 0) = false := by rw [beq_eq_false_iff_ne]; exact h0
          clear h0
          go_wp2_with fail
          go_ret
          exact ⟨by rw [HE.out]; rfl, HG.out⟩
end Go.Proofs.YtlbkbjeajcadiaaGreatDoor.O

/- The document's Same of records, SameRecs: where all is the same. -/
namespace Go.Proofs.YtlbkbjeajcadiaaGreatDoor.O
open Go.RowKit Go.Proofs.YtlbkbjeajcadiaaGreatDoor.M Go.BigFrame Go.Proofs.YtlbkbjeajcadiaaGreatDoor.K
set_option linter.unusedVariables false
set_option linter.unusedSimpArgs false

theorem two_recs (x y : Rv) (w : World) : (((w.alloc (recO x)).alloc (recO y)).heap[w.heap.size]? = some (recO x)) ∧ (((w.alloc (recO x)).alloc (recO y)).heap[w.heap.size + 1]? = some (recO y)) ∧ Grew w ((w.alloc (recO x)).alloc (recO y)) :=
  ⟨by rw [heap_al, if_neg (by simp), heap_alloc_new], by rw [heap_al, if_pos (by simp)], (Grew.alloc _ _).trans (Grew.alloc _ _)⟩
/-- the same record, whose row lies elsewhere -/
structure Alike (x y : Rv) : Prop where
  id : x.id = y.id
  st : x.st = y.st
  bal : x.bal = y.bal
  took : x.took = y.took
  cmd : x.cmd = y.cmd
  deps : x.deps = y.deps
  seq : x.seq = y.seq
  tag : x.tag = y.tag
theorem Alike.refl (x : Rv) : Alike x x := ⟨rfl, rfl, rfl, rfl, rfl, rfl, rfl, rfl⟩
set_option maxRecDepth 100000 in
set_option maxHeartbeats 4000000 in
theorem refsame_any (x y : Rv) (w : World) (ha : Alike x y) (hx : IdsV w x.ao x.cap x.deps) (hy : IdsV w y.ao y.cap y.deps) (hl : x.deps.length ≤ 1000000) :
    Calls Tryz.prog 19 #[recV x, recV y] w fun e w' => e = .returned (.bool true) ∧ Below w.heap.size w w' := by
  have HX := Lib.hid hx
  have HY := Lib.hid hy
  have e0 := congrArg Id.r ha.id
  have e1 := congrArg Id.n ha.id
  have e2 := ha.st
  have e3 := congrArg Bal.round ha.bal
  have e4 := congrArg Bal.by_ ha.bal
  have e5 := congrArg Bal.round ha.took
  have e6 := congrArg Bal.by_ ha.took
  have e7 := congrArg P.Cmd.kind ha.cmd
  have e8 := congrArg P.Cmd.client ha.cmd
  have e9 := congrArg P.Cmd.seq ha.cmd
  have e10 := congrArg P.Cmd.key ha.cmd
  have e11 := congrArg P.Cmd.val ha.cmd
  have e12 := congrArg P.Cmd.rev ha.cmd
  have HAS := Lib.hid (show atSame x.deps x.seq x.tag y.deps y.seq y.tag = true by unfold atSame; rw [ha.deps, ha.seq, ha.tag]; simp)
  clear hx hy ha
  go_enter Tryz.func19, Tryz.ntmps19
  go_upto_region 1 with fail
  obtain ⟨hba, hbb, hg⟩ := two_recs x y w
  obtain ⟨W, hW⟩ : ∃ W, W = (w.alloc (recO x)).alloc (recO y) := ⟨_, rfl⟩
  rw [← hW] at hba hbb hg ⊢
  have HG := Lib.hid hg
  have HBA := Lib.hid hba
  have HBB := Lib.hid hbb
  clear hW hg hba hbb
  obtain ⟨c0, c1, c2, c3, c4, c5, c6, c7, c8, c9, c10, c11, c12, c13, c14, c15⟩ := box16 (HBA.out)
  obtain ⟨d0, d1, d2, d3, d4, d5, d6, d7, d8, d9, d10, d11, d12, d13, d14, d15⟩ := box16 (HBB.out)
  rw [← e0] at d0
  rw [← e1] at d1
  rw [← e2] at d2
  rw [← e3] at d3
  rw [← e4] at d4
  rw [← e5] at d5
  rw [← e6] at d6
  rw [← e7] at d7
  rw [← e8] at d8
  rw [← e9] at d9
  rw [← e10] at d10
  rw [← e11] at d11
  rw [← e12] at d12
  clear e0 e1 e2 e3 e4 e5 e6 e7 e8 e9 e10 e11 e12
  go_wp2_with fail
  refine (refasame_any x.ao y.ao x.cap y.cap x.deps y.deps x.seq x.tag y.seq y.tag W (HX.out.below (B := 0) HG.out.below) (HY.out.below (B := 0) HG.out.below) hl true HAS.out).mono ?_
  rintro e w1 ⟨rfl, hb1⟩
  have HB1 := Lib.hid (HG.out.below.trans (hb1.mono HG.out.below.size))
  clear hb1
  clear c0 c1 c2 c3 c4 c5 c6 c7 c8 c9 c10 c11 c12 c13 c14 c15 d0 d1 d2 d3 d4 d5 d6 d7 d8 d9 d10 d11 d12 d13 d14 d15
  go_wp2_with fail
  go_ret
  exact ⟨rfl, HB1.out⟩
set_option maxRecDepth 100000 in
set_option maxHeartbeats 4000000 in
theorem refsamerecs_any (X Y : List Rv) (ao bo : Option Addr) (cap bap : Nat) (w : World) (h : RecsV w ao cap X) (h2 : RecsV w bo bap Y) (hlen : Y.length = X.length) (hal : ∀ (i : Nat) (x y : Rv), X[i]? = some x → Y[i]? = some y → Alike x y) (hdl : ∀ x ∈ X, x.deps.length ≤ 1000000) :
    Calls Tryz.prog 17 #[.slice ao X.length cap, .slice bo X.length bap] w fun e w' => e = .returned (.bool true) ∧ Below w.heap.size w w' := by
  obtain ⟨hl1, hl2⟩ := h.le
  unfold maxLen at hl2
  have hle2 := h2.le
  rw [hlen] at hle2
  obtain ⟨hl3, hl4⟩ := hle2
  unfold maxLen at hl4
  have H := Lib.hid h
  have H2 := Lib.hid h2
  have HLN := Lib.hid hlen
  have HAL := Lib.hid hal
  have HDL := Lib.hid hdl
  clear h h2 hal hdl hlen
  go_enter Tryz.func17, Tryz.ntmps17
  go_wp2_with fail
  go_loopw [5] (fun iv wr => ∃ k : Nat, iv = .int .i64 k ∧ k ≤ X.length ∧ Below w.heap.size w wr) (fun iv _ => X.length - (intOf iv).toNat)
  case atStart => exact ⟨0, rfl, Nat.zero_le _, Below.refl _ _⟩
  case round =>
    obtain ⟨k, rfl, hk, hb⟩ := hrel
    have HBR := Lib.hid hb
    clear hb
    by_cases hkl : k < X.length
    · have hii : (k : Int) < (X.length : Int) := by omega
      obtain ⟨x, hx⟩ : ∃ x, X[k]? = some x := ⟨_, List.getElem?_eq_getElem hkl⟩
      obtain ⟨y, hy⟩ : ∃ y, Y[k]? = some y := ⟨_, List.getElem?_eq_getElem (by rw [HLN.out]; exact hkl)⟩
      obtain ⟨b, off, e0, hbl, hrec⟩ := H.out.row k x hx
      subst e0
      obtain ⟨b2, off2, e2, hbl2, hrec2⟩ := H2.out.row k y hy
      subst e2
      have hrx := hrec.below HBR.out hbl
      have hry := hrec2.below HBR.out hbl2
      have HC := Lib.hid (fun v : Kin wr => refsame_any x y v.w (HAL.out k x y hx hy) ((H.out.ok x (List.mem_of_getElem? hx)).deps.below (B := 0) (HBR.out.trans (v.h.mono HBR.out.size))) ((H2.out.ok y (List.mem_of_getElem? hy)).deps.below (B := 0) (HBR.out.trans (v.h.mono HBR.out.size))) (HDL.out x (List.mem_of_getElem? hx)))
      have k0 := Kin.cell (hrx).c0
      have k1 := Kin.cell (hrx).c1
      have k2 := Kin.cell (hrx).c2
      have k3 := Kin.cell (hrx).c3
      have k4 := Kin.cell (hrx).c4
      have k5 := Kin.cell (hrx).c5
      have k6 := Kin.cell (hrx).c6
      have k7 := Kin.cell (hrx).c7
      have k8 := Kin.cell (hrx).c8
      have k9 := Kin.cell (hrx).c9
      have k10 := Kin.cell (hrx).c10
      have k11 := Kin.cell (hrx).c11
      have k12 := Kin.cell (hrx).c12
      have k13 := Kin.cell (hrx).c13
      have k14 := Kin.cell (hrx).c14
      have k15 := Kin.cell (hrx).c15
      have q0 := Kin.cell (hry).c0
      have q1 := Kin.cell (hry).c1
      have q2 := Kin.cell (hry).c2
      have q3 := Kin.cell (hry).c3
      have q4 := Kin.cell (hry).c4
      have q5 := Kin.cell (hry).c5
      have q6 := Kin.cell (hry).c6
      have q7 := Kin.cell (hry).c7
      have q8 := Kin.cell (hry).c8
      have q9 := Kin.cell (hry).c9
      have q10 := Kin.cell (hry).c10
      have q11 := Kin.cell (hry).c11
      have q12 := Kin.cell (hry).c12
      have q13 := Kin.cell (hry).c13
      have q14 := Kin.cell (hry).c14
      have q15 := Kin.cell (hry).c15
      clear hx hy hrec hrec2 hrx hry
      go_upto_region 6 with fail
      refine wp_region_kin (by kernel_rfl) (by kernel_rfl) ?_
      repeat (go_big_quiet_step ((go_at_call 19; with_reducible exact Kin.call _ (HC.out _))))
      refine wpQuiet_nil ?_
      intro _ hxx
      obtain ⟨xk, rfl⟩ := hxx
      have HBK := Lib.hid (HBR.out.trans (xk.h.mono HBR.out.size))
      clear k0 k1 k2 k3 k4 k5 k6 k7 k8 k9 k10 k11 k12 k13 k14 k15 q0 q1 q2 q3 q4 q5 q6 q7 q8 q9 q10 q11 q12 q13 q14 q15
      clear HC
      go_wp2_with fail
      go_roundw
      case rel => exact ⟨k + 1, by go_num, by omega, HBK.out⟩
      case measure => simp [intOf]; omega
    · obtain rfl : k = X.length := by omega
      have hii : ¬ (X.length : Int) < (X.length : Int) := by omega
      go_wp2_with fail
      go_ret
      exact ⟨rfl, HBR.out⟩
end Go.Proofs.YtlbkbjeajcadiaaGreatDoor.O
