/- Several texts in one. -/
import Derived.Test.YtkgjfagejnppbaaGreatDoorChkB

/- check.called and check.answered. -/
namespace Go.Proofs.YtkgjfagejnppbaaGreatDoor.X
open Go.RowKit Go.Proofs.YtkgjfagejnppbaaGreatDoor.M Go.BigFrame Go.Proofs.YtkgjfagejnppbaaGreatDoor.O Go.Proofs.YtkgjfagejnppbaaGreatDoor.P Go.Proofs.YtkgjfagejnppbaaGreatDoor.Mp Go.Proofs.YtkgjfagejnppbaaGreatDoor.Rw
set_option linter.unusedVariables false
set_option linter.unusedSimpArgs false

theorem callsL_next {H : List Ev} {k : Nat} {e : Ev} (h : H[k]? = some e) : callsL (H.take (k + 1)) = stepCall (callsL (H.take k)) e := foldl_take _ _ h
theorem called_yes {R : List Cmd} {H : List Ev} (h : ∀ i c, i < R.length → R[i]? = some c → lookD (callsL H) c false = true) : calledB R H = true := by
  unfold calledB
  rw [List.all_eq_true]
  intro c hc
  obtain ⟨i, hi⟩ := List.mem_iff_getElem?.1 hc
  rw [← calls_at]
  exact h i c (List.getElem?_eq_some_iff.1 hi).1 hi
theorem called_no {R : List Cmd} {H : List Ev} {i : Nat} {c : Cmd} (hi : R[i]? = some c) (h : lookD (callsL H) c false = false) : calledB R H = false := by
  unfold calledB
  rw [List.all_eq_false]
  exact ⟨c, List.mem_of_getElem? hi, by rw [← calls_at, h]; simp⟩
set_option maxRecDepth 100000 in
set_option maxHeartbeats 4000000 in
theorem called_any (R : List Cmd) (H : List Ev) (ro ho : Option Addr) (rc hc : Nat) (w : World) (hR : RowV sRC w ro rc R) (hH : RowV sRE w ho hc H) (hok : ∀ e ∈ H, CmdOk e.cmd) (hokR : ∀ c ∈ R, CmdOk c) (hl : H.length ≤ 1000000) (v : Bool) (hv : calledB R H = v) :
    Calls Tryz.prog 16 #[.slice ro R.length rc, .slice ho H.length hc] w fun e w' => e = .returned (.bool v) ∧ Below w.heap.size w w' := by
  obtain ⟨hr1, hr2⟩ := hR.le
  obtain ⟨hh1, hh2⟩ := hH.le
  unfold maxLen at hr2 hh2
  have HR := Lib.hid hR
  have HH := Lib.hid hH
  have HOK := Lib.hid hok
  have HOR := Lib.hid hokR
  have HV := Lib.hid hv
  clear hR hH hok hokR hv
  go_enter Tryz.func16, Tryz.ntmps16
  have hmk := run_makeMap (P := Tryz.prog) 80 w
  go_upto_region 2 with fail
  clear hmk
  obtain ⟨W, hW⟩ : ∃ W, W = w.alloc (.map #[] 0) := ⟨_, rfl⟩
  have HP := Lib.hid (show MapL sCB W w.heap.size 0 (callsL (H.take 0)) by rw [hW]; exact MapL.made w)
  have HB := Lib.hid (show Below w.heap.size w W by rw [hW]; exact (Below.refl _ _).alloc (Nat.le_refl _) _)
  rw [← hW]
  clear hW
  obtain ⟨g, hg⟩ : ∃ g, g = w.heap.size := ⟨_, rfl⟩
  rw [← hg] at HP ⊢
  have HG := Lib.hid (show w.heap.size ≤ g by omega)
  clear hg
  go_wp2_with fail
  go_loopw [13] (fun kv wr => ∃ (k : Nat), kv = .int .i64 k ∧ k ≤ H.length ∧ MapL sCB wr g k (callsL (H.take k)) ∧ Below w.heap.size w wr) (fun kv _ => H.length - (intOf kv).toNat)
  case atStart => exact ⟨0, rfl, Nat.zero_le _, HP.out, HB.out⟩
  case round =>
    obtain ⟨k, rfl, hk, hp, hb⟩ := hrel
    have HM := Lib.hid hp
    have HBR := Lib.hid hb
    clear hp hb HP HB
    by_cases hkl : k < H.length
    · have hii : (k : Int) < (H.length : Int) := by omega
      obtain ⟨x, hx⟩ : ∃ x, H[k]? = some x := ⟨_, List.getElem?_eq_getElem hkl⟩
      have HX := Lib.hid hx
      obtain ⟨b, off, e0, hbl, hrec⟩ := ev_of (HH.out.below HBR.out) hx
      subst e0
      obtain ⟨c0, c1, c2, c3, c4, c5, c6, c7, c8, c9, c10, c11, c12⟩ := hrec
      clear hx
      go_upto_region 5 with fail
      obtain ⟨w1, hw1⟩ : ∃ w1, w1 = wr.alloc (evO x) := ⟨_, rfl⟩
      have HB1 := Lib.hid (show Below w.heap.size w w1 by rw [hw1]; exact HBR.out.alloc HBR.out.size _)
      have HM1 := Lib.hid (show MapL sCB w1 g k (callsL (H.take k)) by rw [hw1]; exact HM.out.below ((Below.refl _ _).alloc (Nat.le_refl _) _))
      have hba : w1.heap[wr.heap.size]? = some (evO x) := by rw [hw1]; exact heap_alloc_new wr _
      rw [← hw1]
      clear hw1 c0 c1 c2 c3 c4 c5 c6 c7 c8 c9 c10 c11 c12
      obtain ⟨c0, c1, c2, c3, c4, c5, c6, c7, c8, c9, c10, c11, c12⟩ := box13 hba
      clear hba
      cases hkk : (x.kind == 1) with
      | true =>
        have HK := Lib.hid (show x.kind = 1 by simpa using hkk)
        go_wp2_with (at_mapUpdate; refine wpList_putL lCB HM1.out (by unfold maxLen; omega) x.cmd (HOK.out x (List.mem_of_getElem? HX.out)) true (by rfl) _ _ _ (by rfl) (by rfl) (by rfl) (by rfl) ?_
                     intro w2 hm2 hM2
                     have HM2 := Lib.hid hm2
                     have HB2 := Lib.hid (HB1.out.trans ((hM2.below (B := w.heap.size) (fun j e => by rw [e]; exact HG.out) HB1.out.size)))
                     clear hm2 hM2)
        clear c0 c1 c2 c3 c4 c5 c6 c7 c8 c9 c10 c11 c12 hkk
        go_roundw
        case rel =>
          refine ⟨k + 1, by go_num, by omega, ?_, HB2.out⟩
          rw [callsL_next HX.out]
          unfold stepCall
          rw [if_pos HK.out]
          exact HM2.out
        case measure => simp [intOf]; omega
      | false =>
        have HK := Lib.hid (show ¬ x.kind = 1 by simpa using hkk)
        go_wp2_with fail
        clear c0 c1 c2 c3 c4 c5 c6 c7 c8 c9 c10 c11 c12 hkk
        go_roundw
        case rel =>
          refine ⟨k + 1, by go_num, by omega, ?_, HB1.out⟩
          rw [callsL_next HX.out]
          unfold stepCall
          rw [if_neg HK.out]
          exact HM1.out.mono (Nat.le_succ k)
        case measure => simp [intOf]; omega
    · obtain rfl : k = H.length := by omega
      have hii : ¬ (H.length : Int) < (H.length : Int) := by omega
      go_wp2_with fail
      clear hii hk
      obtain ⟨wa, rfl⟩ : ∃ wa, wa = wr := ⟨_, rfl⟩
      go_loopw [26] (fun kv wr2 => ∃ (i : Nat), kv = .int .i64 i ∧ i ≤ R.length ∧ (∀ j c, j < i → R[j]? = some c → lookD (callsL H) c false = true) ∧ MapL sCB wr2 g H.length (callsL H) ∧ Below w.heap.size w wr2) (fun kv _ => R.length - (intOf kv).toNat)
      case atStart => exact ⟨0, rfl, Nat.zero_le _, fun j c h => absurd h (by omega), by have := HM.out; rwa [List.take_length] at this, HBR.out⟩
      case round =>
        obtain ⟨i, rfl, hi, hall, hp, hb⟩ := hrel
        have HA := Lib.hid hall
        have HM2 := Lib.hid hp
        have HB2 := Lib.hid hb
        clear hall hp hb
        by_cases hil : i < R.length
        · have hjj : (i : Int) < (R.length : Int) := by omega
          obtain ⟨c, hx⟩ : ∃ c, R[i]? = some c := ⟨_, List.getElem?_eq_getElem hil⟩
          have HX := Lib.hid hx
          obtain ⟨b, off, e0, hbl, hrec⟩ := cmd_of (HR.out.below HB2.out) hx
          subst e0
          obtain ⟨c0, c1, c2, c3, c4, c5⟩ := hrec
          clear hx
          go_upto_region 11 with fail
          obtain ⟨w1, hw1⟩ : ∃ w1, w1 = wr.alloc (.cells (cmdA c) 30) := ⟨_, rfl⟩
          have HB1 := Lib.hid (show Below w.heap.size w w1 by rw [hw1]; exact HB2.out.alloc HB2.out.size _)
          have HM1 := Lib.hid (show MapL sCB w1 g H.length (callsL H) by rw [hw1]; exact HM2.out.below ((Below.refl _ _).alloc (Nat.le_refl _) _))
          have hba : w1.heap[wr.heap.size]? = some (.cells (cmdA c) 30 (0, 0)) := by rw [hw1]; exact heap_alloc_new wr _
          rw [← hw1]
          clear hw1 c0 c1 c2 c3 c4 c5
          obtain ⟨⟨c0, c1, c2, c3, c4, c5⟩, _⟩ := box6 hba
          clear hba
          obtain ⟨bv, hbv⟩ : ∃ bv, lookD (callsL H) c false = bv := ⟨_, rfl⟩
          have HBV := Lib.hid hbv
          have hlk : (Instr.lookup 80 (.map (some g)) (cmdV c) false).run Tryz.prog w1 = .ok (.bool bv) w1 := HM1.out.look lCB (i := c) (HOR.out c (List.mem_of_getElem? HX.out)) hbv
          clear hbv
          cases bv with
          | true =>
            go_wp2_with fail
            clear c0 c1 c2 c3 c4 c5 hlk
            go_roundw
            case rel =>
              refine ⟨i + 1, by go_num, by omega, fun j d hj hd => ?_, HM1.out, HB1.out⟩
              by_cases e : j = i
              · subst e
                rw [HX.out] at hd
                cases hd
                exact HBV.out
              · exact HA.out j d (by omega) hd
            case measure => simp [intOf]; omega
          | false =>
            go_wp2_with fail
            go_ret
            exact ⟨by rw [← HV.out, called_no HX.out HBV.out]; rfl, HB1.out⟩
        · have hjj : ¬ (i : Int) < (R.length : Int) := by omega
          go_wp2_with fail
          go_ret
          exact ⟨by rw [← HV.out, called_yes (fun j c hj => HA.out j c (by omega))]; rfl, HB2.out⟩
theorem run_rep_neq (c d : Rep) (w : World) : (binOp .neq 33 (repV c) (repV d)).run Tryz.prog w = .ok (.bool (decide (c ≠ d))) w := by
  have h1 : Tryz.prog.underlying 33 = some (.struct (Tryz.prog.fieldsOf 33)) := by kernel_rfl
  have h2 : Tryz.prog.stoodInHeld 33 = false := by kernel_rfl
  have hd : decide (c ≠ d) = !((c.code == d.code) && ((c.val.toList == d.val.toList) && (c.rev == d.rev))) := by
    rw [ba_eq, Bool.eq_iff_iff]
    simp only [decide_eq_true_eq, Bool.not_eq_true', Bool.and_eq_false_iff, beq_eq_false_iff_ne, decide_eq_false_iff_not]
    constructor
    · intro h
      by_cases h1 : c.code = d.code
      · by_cases h2 : c.val = d.val
        · right; right; intro h3; apply h
          cases c; cases d; simp only at h1 h2 h3; rw [h1, h2, h3]
        · exact .inr (.inl h2)
      · exact .inl h1
    · rintro (h | h | h) rfl <;> exact h rfl
  rw [hd]
  rw [run_neq_struct, show (10000 : Nat) = 9999 + 1 from rfl, run_equalIn_struct _ _ _ _ _ h1 h2]
  cases e1 : (c.code == d.code)
  · simp [go_sem, e1, Result.andThen]
  cases e2 : (c.val.toList == d.val.toList)
  · simp [go_sem, e1, e2, Result.andThen]
  cases e3 : (c.rev == d.rev)
  · simp [go_sem, e1, e2, e3, Result.andThen]
  simp [go_sem, e1, e2, e3, Result.andThen]
theorem run_cmd_eql (c d : Cmd) (w : World) : (binOp .eql 30 (cmdV c) (cmdV d)).run Tryz.prog w = .ok (.bool (decide (c = d))) w := by
  have h1 : Tryz.prog.underlying 30 = some (.struct (Tryz.prog.fieldsOf 30)) := by kernel_rfl
  have h2 : Tryz.prog.stoodInHeld 30 = false := by kernel_rfl
  have hd : decide (c = d) = cmdEq c d := by rw [Bool.eq_iff_iff, decide_eq_true_eq, cmdEq_iff]
  rw [hd]
  unfold cmdEq
  rw [run_eql_struct, show (10000 : Nat) = 9999 + 1 from rfl, run_equalIn_struct _ _ _ _ _ h1 h2]
  cases e1 : (c.kind == d.kind)
  · simp [go_sem, e1, Result.andThen]
  cases e2 : (c.client == d.client)
  · simp [go_sem, e1, e2, Result.andThen]
  cases e3 : (c.seq == d.seq)
  · simp [go_sem, e1, e2, e3, Result.andThen]
  cases e4 : (c.key.toList == d.key.toList)
  · simp [go_sem, e1, e2, e3, e4, Result.andThen]
  cases e5 : (c.val.toList == d.val.toList)
  · simp [go_sem, e1, e2, e3, e4, e5, Result.andThen]
  cases e6 : (c.rev == d.rev)
  · simp [go_sem, e1, e2, e3, e4, e5, e6, Result.andThen]
  simp [go_sem, e1, e2, e3, e4, e5, e6, Result.andThen]
end Go.Proofs.YtkgjfagejnppbaaGreatDoor.X

/- check.answered. -/
namespace Go.Proofs.YtkgjfagejnppbaaGreatDoor.X
open Go.RowKit Go.Proofs.YtkgjfagejnppbaaGreatDoor.M Go.BigFrame Go.Proofs.YtkgjfagejnppbaaGreatDoor.O Go.Proofs.YtkgjfagejnppbaaGreatDoor.P Go.Proofs.YtkgjfagejnppbaaGreatDoor.Mp Go.Proofs.YtkgjfagejnppbaaGreatDoor.Rw
set_option linter.unusedVariables false
set_option linter.unusedSimpArgs false

structure EvOkM (e : Ev) : Prop where
  kind : InI e.kind
  cmd : CmdOk e.cmd
  client : InI e.client
  seq : InI e.seq
theorem rep_of {w : World} {ao : Option Addr} {cap i : Nat} {R : List Rep} {c : Rep} (h : RowV sRP w ao cap R) (hi : R[i]? = some c) : ∃ b off, ao = some ⟨b, off, none⟩ ∧ b < w.heap.size ∧ w.cell? ⟨b, off + i * 3, none⟩ = some (.int .i64 c.code) ∧ w.cell? ⟨b, off + i * 3 + 1, none⟩ = some (.string c.val) ∧ w.cell? ⟨b, off + i * 3 + 2, none⟩ = some (.int .i64 c.rev) := by
  obtain ⟨b, off, e, hb, hc⟩ := h.row i c hi
  exact ⟨b, off, e, hb, hc 0 (by decide), hc 1 (by decide), hc 2 (by decide)⟩
/-- the maps of answered -/
structure AnSt (w wr : World) (g1 g2 k : Nat) (R : List Cmd) : Prop where
  at_ : MapL sWI wr g1 k (atL R k)
  last : MapL sII wr g2 k (lastL R k)
  bel : Below w.heap.size w wr
  ge1 : w.heap.size ≤ g1
  ge2 : w.heap.size ≤ g2
  ne : g1 ≠ g2
theorem AnSt.below {w wr w2 : World} {g1 g2 k : Nat} {R : List Cmd} (h : AnSt w wr g1 g2 k R) (hb : Below wr.heap.size wr w2) : AnSt w w2 g1 g2 k R :=
  ⟨h.at_.below hb, h.last.below hb, h.bel.trans (hb.mono h.bel.size), h.ge1, h.ge2, h.ne⟩
theorem ans_drop {R : List Cmd} {RP : List Rep} {H : List Ev} {k : Nat} {e : Ev} (h : H[k]? = some e) (wr : Int) : ansF R RP (H.drop k) wr = ansF R RP (e :: H.drop (k + 1)) wr := by
  have := List.getElem?_eq_some_iff.1 h
  obtain ⟨h1, h2⟩ := this
  rw [List.drop_eq_getElem_cons h1, h2]
theorem at_found {R : List Cmd} {w : Who} {v : Int} (h1 : lookD (atL R R.length) w 0 = v) (h2 : hasD (atL R R.length) w = true) : ∃ (j : Nat) (d : Cmd), j < R.length ∧ R[j]? = some d ∧ whoC d = w ∧ v = (j : Int) ∧ findD (atL R R.length) w = some (j : Int) := by
  rw [findD_has] at h2
  obtain ⟨u, hu⟩ := Option.isSome_iff_exists.1 h2
  obtain ⟨j, c, a1, a2, a3, a4⟩ := at_of hu
  unfold lookD at h1
  rw [hu] at h1
  exact ⟨j, c, a1, a2, a3, by rw [← h1, a4]; rfl, by rw [hu, a4]⟩
set_option maxRecDepth 100000 in
set_option maxHeartbeats 4000000 in
theorem answered_any (R : List Cmd) (RP : List Rep) (H : List Ev) (ro po ho : Option Addr) (rc pc hc : Nat) (w : World) (hR : RowV sRC w ro rc R) (hP : RowV sRP w po pc RP) (hH : RowV sRE w ho hc H) (hlen : RP.length = R.length) (hok : ∀ e ∈ H, EvOkM e) (hokR : ∀ c ∈ R, CmdOk c) (v : Int) (hv : ansF R RP H 0 = v) :
    Calls Tryz.prog 17 #[.slice ro R.length rc, .slice po RP.length pc, .slice ho H.length hc] w fun e w' => e = .returned (.int .i64 v) ∧ Below w.heap.size w w' := by
  obtain ⟨hr1, hr2⟩ := hR.le
  obtain ⟨hh1, hh2⟩ := hH.le
  obtain ⟨hp1, hp2⟩ := hP.le
  unfold maxLen at hr2 hh2 hp2
  have HR := Lib.hid hR
  have HPP := Lib.hid hP
  have HH := Lib.hid hH
  have HOK := Lib.hid hok
  have HOR := Lib.hid hokR
  have HV := Lib.hid hv
  have HLEN := Lib.hid hlen
  clear hR hH hP hok hokR hv hlen
  go_enter Tryz.func17, Tryz.ntmps17
  have hmm := @run_makeMap Tryz.prog
  go_upto_region 2 with fail
  clear hmm
  obtain ⟨W, hW⟩ : ∃ W, W = (w.alloc (.map #[] 0)).alloc (.map #[] 0) := ⟨_, rfl⟩
  have HP := Lib.hid (show AnSt w W w.heap.size (w.heap.size + 1) 0 R by
    rw [hW]
    refine ⟨(MapL.made w).below ((Below.refl _ _).alloc (Nat.le_refl _) _), ?_, ((Below.refl _ _).alloc (Nat.le_refl _) _).alloc (by simp) _, Nat.le_refl _, by omega, by omega⟩
    have := MapL.made (S := sII) (w.alloc (.map #[] 0))
    rw [World.size_alloc] at this
    exact this)
  rw [← hW]
  clear hW
  obtain ⟨g1, hg1⟩ : ∃ g, g = w.heap.size := ⟨_, rfl⟩
  obtain ⟨g2, hg2⟩ : ∃ g, g = w.heap.size + 1 := ⟨_, rfl⟩
  rw [← hg2, ← hg1] at HP ⊢
  clear hg1 hg2
  go_wp2_with fail
  go_loopw [20] (fun kv wr => ∃ (k : Nat), kv = .int .i64 k ∧ k ≤ R.length ∧ AnSt w wr g1 g2 k R) (fun kv _ => R.length - (intOf kv).toNat)
  case atStart => exact ⟨0, rfl, Nat.zero_le _, HP.out⟩
  case round =>
    obtain ⟨k, rfl, hk, hp⟩ := hrel
    have HM := Lib.hid hp
    clear hp HP
    by_cases hkl : k < R.length
    · have hii : (k : Int) < (R.length : Int) := by omega
      obtain ⟨x, hx⟩ : ∃ x, R[k]? = some x := ⟨_, List.getElem?_eq_getElem hkl⟩
      have HX := Lib.hid hx
      obtain ⟨b, off, e0, hbl, hrec⟩ := cmd_of (HR.out.below HM.out.bel) hx
      subst e0
      obtain ⟨c0, c1, c2, c3, c4, c5⟩ := hrec
      clear hx
      go_upto_region 5 with fail
      obtain ⟨w1, hw1⟩ : ∃ w1, w1 = wr.alloc (.cells (cmdA x) 30) := ⟨_, rfl⟩
      have HM1 := Lib.hid (show AnSt w w1 g1 g2 k R by rw [hw1]; exact HM.out.below ((Below.refl _ _).alloc (Nat.le_refl _) _))
      have hba : w1.heap[wr.heap.size]? = some (.cells (cmdA x) 30 (0, 0)) := by rw [hw1]; exact heap_alloc_new wr _
      have HBA := Lib.hid hba
      rw [← hw1]
      clear hw1 c0 c1 c2 c3 c4 c5
      obtain ⟨⟨c0, c1, c2, c3, c4, c5⟩, _⟩ := box6 hba
      clear hba
      have HXO := Lib.hid (HOR.out x (List.mem_of_getElem? HX.out))
      go_upto_region 6 with (first
        | (go_at_call 33
           refine (of_any x w1).mono ?_
           rintro e w2 ⟨rfl, hb2⟩
           have HM2 := Lib.hid (HM1.out.below hb2)
           have HBA2 := Lib.hid ((hb2.block _ (M.heap_lt HBA.out)).trans HBA.out)
           clear hb2)
        | (at_mapUpdate
           refine wpList_putL lWI HM2.out.at_ (by unfold maxLen; omega) (x.client, x.seq) ⟨HXO.out.client, HXO.out.seq⟩ (k : Int) (by rfl) _ _ _ (by rfl) (by rfl) (by rfl) (by rfl) ?_
           intro w3 hm3 hM3
           have HMA := Lib.hid (show MapL sWI w3 g1 (k + 1) (atL R (k + 1)) by rw [atL_succ HX.out]; exact hm3)
           have HML := Lib.hid (HM2.out.last.keep hM3 (fun e => HM2.out.ne e.symm))
           have HMB := Lib.hid (HM2.out.bel.trans (hM3.below (fun j e => by rw [e]; exact HM2.out.ge1) HM2.out.bel.size))
           have HBA3 := Lib.hid (hM3.heap HBA2.out (fun e => by have h1 := HBA2.out; rw [e] at h1; exact HM2.out.at_.nocells h1))
           clear hm3 hM3))
      clear c0 c1 c2 c3 c4 c5
      obtain ⟨⟨c0, c1, c2, c3, c4, c5⟩, _⟩ := box6 HBA3.out
      obtain ⟨lv, hlv⟩ : ∃ lv, lookD (lastL R k) x.client 0 = lv := ⟨_, rfl⟩
      have hlk : (Instr.lookup 82 (.map (some g2)) (.int .i64 x.client) false).run Tryz.prog w3 = .ok (.int .i64 lv) w3 := HML.out.look lII (i := x.client) HXO.out.client hlv
      have HLV := Lib.hid hlv
      clear hlv
      go_wp2_with (at_mapUpdate
                   refine wpList_putL lII HML.out (by unfold maxLen; omega) x.client HXO.out.client (max lv x.seq) (by rfl) _ _ _ (by rfl) (by rfl) (by rfl) (by rfl) ?_
                   intro w4 hm4 hM4
                   have HM4 := Lib.hid (show AnSt w w4 g1 g2 (k + 1) R from ⟨HMA.out.keep hM4 HM2.out.ne, (by rw [lastL_succ HX.out, HLV.out]; exact hm4), HMB.out.trans (hM4.below (fun j e => by rw [e]; exact HM2.out.ge2) HMB.out.size), HM2.out.ge1, HM2.out.ge2, HM2.out.ne⟩)
                   clear hm4 hM4)
      clear c0 c1 c2 c3 c4 c5 hlk
      go_roundw
      case rel => exact ⟨k + 1, by go_num, by omega, HM4.out⟩
      case measure => simp [intOf]; omega
    · obtain rfl : k = R.length := by omega
      have hii : ¬ (R.length : Int) < (R.length : Int) := by omega
      go_wp2_with fail
      clear hii hk
      obtain ⟨wa, rfl⟩ : ∃ wa, wa = wr := ⟨_, rfl⟩
      go_loopw [11, 42] (fun wv kv wr2 => ∃ (k : Nat) (z : Int), kv = .int .i64 k ∧ wv = .int .i64 z ∧ k ≤ H.length ∧ ansF R RP (H.drop k) z = v ∧ AnSt w wr2 g1 g2 R.length R) (fun _ kv _ => H.length - (intOf kv).toNat)
      case atStart => exact ⟨0, 0, rfl, rfl, Nat.zero_le _, HV.out, HM.out⟩
      case round =>
        obtain ⟨k, z, rfl, rfl, hk, ha, hp⟩ := hrel
        have HM := Lib.hid hp
        have HA := Lib.hid ha
        clear hp ha
        by_cases hkl : k < H.length
        · have hii : (k : Int) < (H.length : Int) := by omega
          obtain ⟨x, hx⟩ : ∃ x, H[k]? = some x := ⟨_, List.getElem?_eq_getElem hkl⟩
          have HX := Lib.hid hx
          have HXO := Lib.hid (HOK.out x (List.mem_of_getElem? hx))
          have hans := HA.out
          rw [ans_drop hx, ansF] at hans
          have HN := Lib.hid hans
          clear hans
          obtain ⟨b, off, e0, hbl, hrec⟩ := ev_of (HH.out.below HM.out.bel) hx
          subst e0
          obtain ⟨c0, c1, c2, c3, c4, c5, c6, c7, c8, c9, c10, c11, c12⟩ := hrec
          clear hx
          go_upto_region 12 with fail
          obtain ⟨w1, hw1⟩ : ∃ w1, w1 = wr.alloc (evO x) := ⟨_, rfl⟩
          have HM1 := Lib.hid (show AnSt w w1 g1 g2 R.length R by rw [hw1]; exact HM.out.below ((Below.refl _ _).alloc (Nat.le_refl _) _))
          have hba : w1.heap[wr.heap.size]? = some (evO x) := by rw [hw1]; exact heap_alloc_new wr _
          rw [← hw1]
          clear hw1 c0 c1 c2 c3 c4 c5 c6 c7 c8 c9 c10 c11 c12
          obtain ⟨c0, c1, c2, c3, c4, c5, c6, c7, c8, c9, c10, c11, c12⟩ := box13 hba
          clear hba
          cases hkk : (x.kind != 2) with
          | true =>
            have HAN := Lib.hid (show ansF R RP (H.drop (k + 1)) z = v by
              have h1 := HN.out
              rwa [if_pos (by simpa using hkk)] at h1)
            go_wp2_with fail
            clear c0 c1 c2 c3 c4 c5 c6 c7 c8 c9 c10 c11 c12 hkk
            go_roundw
            case rel => exact ⟨k + 1, z, by go_num, by rfl, by omega, HAN.out, (HM1).out⟩
            case measure => simp [intOf]; omega
          | false =>
            have HN2 := Lib.hid (show _ from by
              have h1 := HN.out
              rw [if_neg (by simpa using hkk)] at h1
              exact h1)
            obtain ⟨iv, hiv⟩ : ∃ iv, lookD (atL R R.length) x.who 0 = iv := ⟨_, rfl⟩
            obtain ⟨bv, hbv⟩ : ∃ bv, hasD (atL R R.length) x.who = bv := ⟨_, rfl⟩
            obtain ⟨lv, hlv⟩ : ∃ lv, lookD (lastL R R.length) x.client 0 = lv := ⟨_, rfl⟩
            have hlk : (Instr.lookup 81 (.map (some g1)) (.agg #[.int .i64 x.client, .int .i64 x.seq]) true).run Tryz.prog w1 = .ok (.tuple #[.int .i64 iv, .bool bv]) w1 := HM1.out.at_.look_ok lWI (i := x.who) ⟨HXO.out.client, HXO.out.seq⟩ hiv hbv
            have hll : (Instr.lookup 82 (.map (some g2)) (.int .i64 x.client) false).run Tryz.prog w1 = .ok (.int .i64 lv) w1 := HM1.out.last.look lII (i := x.client) HXO.out.client hlv
            rw [hiv, hbv, hlv] at HN2
            have HIV := Lib.hid hiv
            have HBV := Lib.hid hbv
            clear HN hiv hbv hlv
            cases hc14 : (x.rep.code == 14) with
            | true =>
              by_cases hlt : x.seq < lv
              · have HAN := Lib.hid (show ansF R RP (H.drop (k + 1)) z = v by
                  have h1 := HN2.out
                  rwa [if_pos ⟨by simpa using hc14, hlt⟩] at h1)
                go_wp2_with fail
                clear c0 c1 c2 c3 c4 c5 c6 c7 c8 c9 c10 c11 c12 hkk hlk hll hc14 hlt
                go_roundw
                case rel => exact ⟨k + 1, z, by go_num, by rfl, by omega, HAN.out, (HM1).out⟩
                case measure => simp [intOf]; omega
              · have HE := Lib.hid (show 8 = v by
                  have h1 := HN2.out
                  rwa [if_neg (fun h => hlt h.2), if_pos (.inl (by simpa using hc14))] at h1)
                go_wp2_with fail
                go_ret
                exact ⟨by rw [← HE.out]; rfl, HM1.out.bel⟩
            | false =>
              cases bv with
              | false =>
                have HE := Lib.hid (show 8 = v by
                  have h1 := HN2.out
                  rwa [if_neg (fun h => by have := h.1; simp [this] at hc14), if_pos (.inr rfl)] at h1)
                go_wp2_with fail
                go_ret
                exact ⟨by rw [← HE.out]; rfl, HM1.out.bel⟩
              | true =>
                obtain ⟨j, d, hjl, hjd, hw, rfl, hfj⟩ := at_found HIV.out HBV.out
                obtain ⟨rj, hrj⟩ : ∃ rj, RP[j]? = some rj := ⟨_, List.getElem?_eq_getElem (by have := HLEN.out; omega)⟩
                obtain ⟨pb, poff, pe, hpb, p0, p1, p2⟩ := rep_of (HPP.out.below HM1.out.bel) hrj
                subst pe
                have hjl2 : (j : Int) < (RP.length : Int) := by have := HLEN.out; omega
                have HRJ := Lib.hid hrj
                have HN3 := Lib.hid (show (if some rj ≠ some x.rep then ansF R RP (H.drop (k + 1)) 10 else ansF R RP (H.drop (k + 1)) z) = v by
                  have h1 := HN2.out
                  rwa [if_neg (fun h => by have := h.1; simp [this] at hc14), if_neg (by simp; intro h; simp [h] at hc14), Int.toNat_natCast, hrj] at h1)
                clear HN2 hrj HIV HBV hfj hjd hw hjl
                have hne := run_rep_neq rj x.rep
                obtain ⟨nv, hnv⟩ : ∃ nv, decide (rj ≠ x.rep) = nv := ⟨_, rfl⟩
                rw [hnv] at hne
                go_upto_region 17 with fail
                have k0 := Kin.cell p0
                have k1 := Kin.cell p1
                have k2 := Kin.cell p2
                have k10 := Kin.cell c10
                have k11 := Kin.cell c11
                have k12 := Kin.cell c12
                clear p0 p1 p2 c0 c1 c2 c3 c4 c5 c6 c7 c8 c9 c10 c11 c12 hlk hll hkk hc14
                refine wp_region_kin (by kernel_rfl) (by kernel_rfl) ?_
                repeat (go_big_quiet_step (fail))
                refine wpQuiet_nil ?_
                intro _ hxx
                obtain ⟨xk, rfl⟩ := hxx
                have HM3 := Lib.hid (HM1.out.below xk.h)
                clear k0 k1 k2 k10 k11 k12 hne
                cases nv with
                | true =>
                  have HAN := Lib.hid (show ansF R RP (H.drop (k + 1)) 10 = v by
                    have h1 := HN3.out
                    rwa [if_pos (fun h => by cases h; simp at hnv)] at h1)
                  clear hnv
                  go_wp2_with fail
                  go_roundw
                  case rel => exact ⟨k + 1, 10, by go_num, by rfl, by omega, HAN.out, (HM3).out⟩
                  case measure => simp [intOf]; omega
                | false =>
                  have HAN := Lib.hid (show ansF R RP (H.drop (k + 1)) z = v by
                    have h1 := HN3.out
                    have h2 : rj = x.rep := by simpa using hnv
                    rwa [if_neg (fun h => h (by rw [h2]))] at h1)
                  clear hnv
                  go_wp2_with fail
                  go_roundw
                  case rel => exact ⟨k + 1, z, by go_num, by rfl, by omega, HAN.out, (HM3).out⟩
                  case measure => simp [intOf]; omega
        · obtain rfl : k = H.length := by omega
          have hii : ¬ (H.length : Int) < (H.length : Int) := by omega
          have HE := Lib.hid (show z = v by
            have h1 := HA.out
            rw [List.drop_length] at h1
            exact h1)
          go_wp2_with fail
          go_ret
          exact ⟨by rw [← HE.out]; rfl, HM.out.bel⟩
end Go.Proofs.YtkgjfagejnppbaaGreatDoor.X

/- check.first. -/
namespace Go.Proofs.YtkgjfagejnppbaaGreatDoor.X
open Go.RowKit Go.Proofs.YtkgjfagejnppbaaGreatDoor.M Go.BigFrame Go.Proofs.YtkgjfagejnppbaaGreatDoor.O Go.Proofs.YtkgjfagejnppbaaGreatDoor.P Go.Proofs.YtkgjfagejnppbaaGreatDoor.Mp Go.Proofs.YtkgjfagejnppbaaGreatDoor.Rw
set_option linter.unusedVariables false
set_option linter.unusedSimpArgs false

theorem flatN (X : List Int) : X.flatMap (fun n => [Value.int .i64 n]) = X.map fun n => Value.int .i64 n := by
  induction X with
  | nil => rfl
  | cons a t ih => rw [List.flatMap_cons, ih]; rfl
/-- a number of a row of one's own is set -/
theorem own_setN {w : World} {B g oc i : Nat} {X : List Int} (h : OwnG sRN w B (some ⟨g, 0, none⟩) oc X) (hi : i < X.length) (v : Int) : OwnG sRN (w.setCell ⟨g, i, none⟩ (.int .i64 v)) B (some ⟨g, 0, none⟩) oc (X.set i v) := by
  obtain ⟨h1, h2⟩ := h
  rcases h2 with ⟨h3, _⟩ | ⟨g', cap, cur, h3, hB, hg, hn, hm, hs, ht⟩
  · cases h3
  · cases h3
    have ht : cur.toList.take (X.length * 1) = X.flatMap (fun n => [Value.int .i64 n]) := ht
    rw [Nat.mul_one, flatN] at ht
    have hgs := heap_set w g i (.int .i64 v) g _ _ _ hg
    rw [if_pos rfl] at hgs
    have hlen : (X.set i v).length = X.length := List.length_set
    unfold OwnG
    rw [hlen]
    refine ⟨?_, .inr ⟨g, oc, _, rfl, hB, hgs, hn, hm, by simpa using hs, ?_⟩⟩
    · show ((X.set i v).flatMap fun n => [Value.int .i64 n]).length = _
      rw [flatN]; simp [sRN]
    · show _ = (X.set i v).flatMap fun n => [Value.int .i64 n]
      rw [flatN, List.map_set, ← ht]
      show (cur.setIfInBounds i (.int .i64 v)).toList.take (X.length * 1) = _
      rw [Nat.mul_one, Array.toList_setIfInBounds, List.take_set]
theorem num_of {w : World} {ao : Option Addr} {cap i : Nat} {R : List Int} {c : Int} (h : RowV sRN w ao cap R) (hi : R[i]? = some c) : ∃ b off, ao = some ⟨b, off, none⟩ ∧ b < w.heap.size ∧ w.cell? ⟨b, off + i, none⟩ = some (.int .i64 c) := by
  obtain ⟨b, off, e, hb, hc⟩ := h.row i c hi
  have := hc 0 (by decide)
  have e2 : off + i * sRN.k + 0 = off + i := by simp [sRN]
  rw [e2] at this
  exact ⟨b, off, e, hb, this⟩
theorem own_at0 {α : Type} {S : RowS α} {w : World} {B oc : Nat} {oo : Option Addr} {X : List α} (h : OwnG S w B oo oc X) (hX : 0 < X.length) : ∃ g, oo = some ⟨g, 0, none⟩ := by
  obtain ⟨ao', cap', e0, h1, h2, h3, h4⟩ := own_view h
  cases e0
  cases oo with
  | none => have := (h3 rfl).1; omega
  | some a =>
    obtain ⟨g, cur, rfl, _⟩ := h4 a rfl
    exact ⟨g, rfl⟩
theorem own_noFrozen {α : Type} {S : RowS α} {w : World} {B oc g : Nat} {X : List α} (h : OwnG S w B (some ⟨g, 0, none⟩) oc X) (i : Nat) : w.frozen? ⟨g, i, none⟩ = false := by
  obtain ⟨cur, hg, _⟩ := h.cells _ rfl
  simp [World.frozen?, hg]
/-- how often first is, as a row -/
noncomputable def tabF (q : Ev → Nat → Prop) (H : List Ev) (n k : Nat) : List Int := (List.range n).map fun i => (firstF q H k i : Int)
theorem tabF_len (q : Ev → Nat → Prop) (H : List Ev) (n k : Nat) : (tabF q H n k).length = n := by unfold tabF; simp
theorem tabF_zero (q : Ev → Nat → Prop) (H : List Ev) (n : Nat) : tabF q H n 0 = List.replicate n (H.length : Int) := by
  unfold tabF
  apply List.ext_getElem?
  intro i
  by_cases h : i < n
  · simp [h, firstF]
  · simp [h]
theorem tabF_get {q : Ev → Nat → Prop} {H : List Ev} {n k i : Nat} (h : i < n) : (tabF q H n k)[i]? = some (firstF q H k i : Int) := by unfold tabF; simp [h]
theorem tabF_same {q : Ev → Nat → Prop} {H : List Ev} {n k : Nat} {e : Ev} (h : H[k]? = some e) (hq : ∀ i, ¬ q e i) : tabF q H n (k + 1) = tabF q H n k := by
  unfold tabF
  refine List.map_congr_left fun i _ => ?_
  rw [firstF_succ h, if_neg (hq i)]
theorem tabF_set {q : Ev → Nat → Prop} {H : List Ev} {n k i : Nat} {e : Ev} (h : H[k]? = some e) (hi : i < n) (hq : ∀ j, q e j ↔ j = i) : tabF q H n (k + 1) = (tabF q H n k).set i (min (firstF q H k i : Int) (k : Int)) := by
  apply List.ext_getElem?
  intro j
  by_cases hj : j < n
  · rw [tabF_get hj, firstF_succ h, List.getElem?_set]
    by_cases e : i = j
    · subst e
      rw [if_pos ((hq i).2 rfl), if_pos rfl, if_pos (by rw [tabF_len]; exact hi)]
      congr 1
      omega
    · rw [if_neg e, if_neg (fun h => e ((hq j).1 h).symm), tabF_get hj]
  · have h1 : (tabF q H n (k + 1)).length ≤ j := by rw [tabF_len]; omega
    rw [List.getElem?_eq_none h1, List.getElem?_eq_none (by rw [List.length_set, tabF_len]; omega)]
/-- the two rows of first, and its map -/
structure FrSt (w wr : World) (g n : Nat) (co ao : Option Addr) (cc ac : Nat) (M : List (Who × Int)) (C A : List Int) : Prop where
  at_ : MapL sWI wr g n M
  cal : OwnG sRN wr w.heap.size co cc C
  ans : OwnG sRN wr w.heap.size ao ac A
  ap : ∀ a, co = some a → ∀ b, ao = some b → a.block ≠ b.block
  ge : w.heap.size ≤ g
  bel : Below w.heap.size w wr
section
variable {w wr w2 : World} {g n : Nat} {co ao : Option Addr} {cc ac : Nat} {M : List (Who × Int)} {C A : List Int}
theorem FrSt.below (h : FrSt w wr g n co ao cc ac M C A) (hb : Below wr.heap.size wr w2) : FrSt w w2 g n co ao cc ac M C A :=
  ⟨h.at_.below hb, h.cal.below hb, h.ans.below hb, h.ap, h.ge, h.bel.trans (hb.mono h.bel.size)⟩
theorem FrSt.put (h : FrSt w wr g n co ao cc ac M C A) {m : Nat} {M2 : List (Who × Int)} (hm : MapL sWI w2 g m M2) (hM : Mods (fun j => j = g) wr w2) : FrSt w w2 g m co ao cc ac M2 C A :=
  ⟨hm, h.cal.keep hM (fun a e eg => by
      obtain ⟨cs, hc, _⟩ := h.cal.cells a e
      rw [eg] at hc
      exact h.at_.nocells hc), h.ans.keep hM (fun a e eg => by
      obtain ⟨cs, hc, _⟩ := h.ans.cells a e
      rw [eg] at hc
      exact h.at_.nocells hc), h.ap, h.ge, h.bel.trans (hM.below (fun j e => by rw [e]; exact h.ge) h.bel.size)⟩
theorem FrSt.calN (h : FrSt w wr g n co ao cc ac M C A) {co' : Option Addr} {cc' : Nat} {C' : List Int} (ho : OwnG sRN w2 w.heap.size co' cc' C') (hM : Mods (fun j => ∃ a, co = some a ∧ j = a.block) wr w2) (hb : Below w.heap.size wr w2) (hf : ∀ a, co' = some a → (∃ a0, co = some a0 ∧ a.block = a0.block) ∨ wr.heap.size ≤ a.block) : FrSt w w2 g n co' ao cc' ac M C' A :=
  ⟨h.at_.keep hM (fun ⟨a, e, eg⟩ => by
      obtain ⟨cs, hc, _⟩ := h.cal.cells a e
      rw [← eg] at hc
      exact h.at_.nocells hc), ho, h.ans.keep hM (fun b e ⟨a, ea, eb⟩ => h.ap a ea b e eb.symm), fun a ea b eb => by
      rcases hf a ea with ⟨a0, e0, e1⟩ | hn
      · rw [e1]; exact h.ap a0 e0 b eb
      · obtain ⟨_, _, _, hl⟩ := h.ans.cells b eb
        omega, h.ge, h.bel.trans hb⟩
theorem FrSt.ansN (h : FrSt w wr g n co ao cc ac M C A) {ao' : Option Addr} {ac' : Nat} {A' : List Int} (ho : OwnG sRN w2 w.heap.size ao' ac' A') (hM : Mods (fun j => ∃ a, ao = some a ∧ j = a.block) wr w2) (hb : Below w.heap.size wr w2) (hf : ∀ a, ao' = some a → (∃ a0, ao = some a0 ∧ a.block = a0.block) ∨ wr.heap.size ≤ a.block) : FrSt w w2 g n co ao' cc ac' M C A' :=
  ⟨h.at_.keep hM (fun ⟨a, e, eg⟩ => by
      obtain ⟨cs, hc, _⟩ := h.ans.cells a e
      rw [← eg] at hc
      exact h.at_.nocells hc), h.cal.keep hM (fun b e ⟨a, ea, eb⟩ => h.ap b e a ea eb), ho, fun a ea b eb => by
      rcases hf b eb with ⟨a0, e0, e1⟩ | hn
      · rw [e1]; exact h.ap a ea a0 e0
      · obtain ⟨_, _, _, hl⟩ := h.cal.cells a ea
        omega, h.ge, h.bel.trans hb⟩
/-- a number is set -/
theorem FrSt.setC {gc : Nat} (h : FrSt w wr g n (some ⟨gc, 0, none⟩) ao cc ac M C A) {i : Nat} (hi : i < C.length) (v : Int) : FrSt w (wr.setCell ⟨gc, i, none⟩ (.int .i64 v)) g n (some ⟨gc, 0, none⟩) ao cc ac M (C.set i v) A := by
  obtain ⟨_, _, hB, _⟩ := h.cal.cells _ rfl
  refine h.calN (own_setN h.cal hi v) ((Mods.refl _ wr).setCell (p := ⟨gc, i, none⟩) (fun _ => ⟨_, rfl, rfl⟩) _) ((Below.refl _ _).setCell (p := ⟨gc, i, none⟩) hB _) (fun a e => .inl ⟨_, rfl, by cases e; rfl⟩)
theorem FrSt.setA {gc : Nat} (h : FrSt w wr g n co (some ⟨gc, 0, none⟩) cc ac M C A) {i : Nat} (hi : i < A.length) (v : Int) : FrSt w (wr.setCell ⟨gc, i, none⟩ (.int .i64 v)) g n co (some ⟨gc, 0, none⟩) cc ac M C (A.set i v) := by
  obtain ⟨_, _, hB, _⟩ := h.ans.cells _ rfl
  refine h.ansN (own_setN h.ans hi v) ((Mods.refl _ wr).setCell (p := ⟨gc, i, none⟩) (fun _ => ⟨_, rfl, rfl⟩) _) ((Below.refl _ _).setCell (p := ⟨gc, i, none⟩) hB _) (fun a e => .inl ⟨_, rfl, by cases e; rfl⟩)
end
end Go.Proofs.YtkgjfagejnppbaaGreatDoor.X
