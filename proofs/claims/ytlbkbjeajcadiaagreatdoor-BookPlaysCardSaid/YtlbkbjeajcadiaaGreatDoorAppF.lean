/- The contract of the reference's Check. -/
import Derived.Test.YtlbkbjeajcadiaaGreatDoorMrg14
namespace Go.Proofs.YtlbkbjeajcadiaaGreatDoor.P
open Go.RowKit Go.Proofs.YtlbkbjeajcadiaaGreatDoor.R Go.Proofs.YtlbkbjeajcadiaaGreatDoor.M Go.BigFrame
set_option linter.unusedVariables false
set_option linter.unusedSimpArgs false

def BoolAt (b : Bool) (W : World) (v : Value) (wx : World) : Prop := v = .bool b ∧ W = wx
theorem nul_toList (s : ByteArray) : (s = nul) ↔ s.toList = [] := by
  constructor
  · intro h; rw [h, ByteArray.toList_eq]; rfl
  · intro h
    apply ba_ext
    rw [ByteArray.toList_eq] at h
    rw [h]; rfl
theorem size0 (s : ByteArray) : (s = nul) ↔ s.size = 0 := by
  constructor
  · intro h; rw [h]; rfl
  · intro h
    apply ba_ext
    have : s.data.toList.length = 0 := by simpa using h
    rw [List.length_eq_zero_iff.1 this]; rfl
theorem refBegin_u (s : ByteArray) (w : World) (hs : s.size ≤ 1000000) (v : Bool) (hv : beginV s = v) :
    Calls Tryz.prog 100 #[.string s] w fun e w' => e = .returned (.bool v) ∧ Below w.heap.size w w' := by subst hv; exact refBeginning_any s w hs
theorem refKey_u (s : ByteArray) (w : World) (hs : s.size ≤ 1000000) (v : Bool) (hv : keyV s = v) :
    Calls Tryz.prog 101 #[.string s] w fun e w' => e = .returned (.bool v) ∧ Below w.heap.size w w' := by subst hv; exact refKey_any s w hs
set_option maxRecDepth 100000 in
set_option maxHeartbeats 4000000 in
theorem refcheck_any (c : Cmd) (w : World) (hs : c.key.size ≤ 1000000) :
    Calls Tryz.prog 68 #[cmdV c] w fun e w' => e = .returned (.int .i64 (chk c)) ∧ Below w.heap.size w w' := by
  go_enter Tryz.func68, Tryz.ntmps68
  go_upto_region 1 with fail
  obtain ⟨W, hW⟩ : ∃ W, W = w.alloc (.cells (cmdA c) 24) := ⟨_, rfl⟩
  rw [← hW]
  have hbx : W.heap[w.heap.size]? = some (.cells (cmdA c) 24 (0, 0)) := by rw [hW]; exact heap_alloc_new w _
  obtain ⟨⟨d0, d1, d2, d3, d4, d5⟩, _⟩ := box6 hbx
  have HBX := Lib.hid hbx
  have HWW : Hid (Below w.heap.size w W) := Lib.hid (by rw [hW]; exact (Below.refl _ _).alloc (Nat.le_refl _) _)
  clear hW hbx
  go_cut [11] (fun v wx => BoolAt (out c.kind 6) W v wx)
  case first =>
    by_cases h1 : c.kind < 0
    · have HV := Lib.hid (show out c.kind 6 = true by unfold out; simp [h1])
      go_wp2_with fail
      go_meet
      exact ⟨by rw [HV.out], rfl⟩
    · by_cases h2 : 6 < c.kind
      · have HV := Lib.hid (show out c.kind 6 = true by unfold out; simp [h2])
        go_wp2_with fail
        go_meet
        exact ⟨by rw [HV.out], rfl⟩
      · have HV := Lib.hid (show out c.kind 6 = false by unfold out; simp [h1, h2])
        go_wp2_with fail
        go_meet
        exact ⟨by rw [HV.out], rfl⟩
  case rest =>
    obtain ⟨rfl, rfl⟩ := hcut
    cases ho : out c.kind 6 with
    | true =>
      have HV : Hid (chk c = 4) := Lib.hid (by unfold chk; rw [formBad_out ho]; rfl)
      clear ho
      go_wp2_with fail
      go_ret
      exact ⟨by rw [HV.out]; rfl, HWW.out⟩
    | false =>
      have HO := Lib.hid ho
      clear ho
      go_upto_region 3 with fail
      go_cut [3] (fun v wx => BoolAt (!bare c) W v wx)
      case first =>
        by_cases h1 : c.kind = 0
        · have HV := Lib.hid (show (!bare c) = false by unfold bare; simp [h1])
          have e1 : (c.kind != 0) = false := by rw [bne_eq_false_iff_eq]; exact h1
          clear h1
          go_wp2_with fail
          go_meet
          exact ⟨by rw [HV.out], rfl⟩
        · have e1 : (c.kind != 0) = true := by rw [bne_iff_ne]; exact h1
          obtain ⟨b, hb⟩ : ∃ b, b = (c.kind != 6) := ⟨_, rfl⟩
          have HV := Lib.hid (show (!bare c) = b by unfold bare; rw [hb, decide_eq_false h1, Bool.false_or]; rw [Bool.eq_iff_iff]; simp)
          have e2 := hb.symm
          clear h1 hb
          go_wp2_with fail
          go_meet
          exact ⟨by rw [HV.out], rfl⟩
      case rest =>
        obtain ⟨rfl, rfl⟩ := hcut
        obtain ⟨bb, hbb⟩ : ∃ bb, bb = bare c := ⟨_, rfl⟩
        rw [← hbb]
        have HBB := Lib.hid hbb
        clear hbb
        go_upto_region 4 with fail
        go_cut [49] (fun v wx => BoolAt ((bb && (decide (c.client ≠ 0) || decide (c.seq ≠ 0) || decide (c.key ≠ nul))) || (!bb && (decide (c.client = 0) || decide (c.seq = 0)))) W v wx)
        case first =>
          cases bb with
          | true =>
            by_cases h1 : c.client = 0
            · have e1 : (c.client != 0) = false := by rw [bne_eq_false_iff_eq]; exact h1
              by_cases h2 : c.seq = 0
              · have e2 : (c.seq != 0) = false := by rw [bne_eq_false_iff_eq]; exact h2
                by_cases h3 : c.key = nul
                · have e3 := (nul_toList _).1 h3
                  have HV := Lib.hid (show ((true && (decide (c.client ≠ 0) || decide (c.seq ≠ 0) || decide (c.key ≠ nul))) || (!true && (decide (c.client = 0) || decide (c.seq = 0)))) = false by simp [h1, h2, h3])
                  clear h1 h2 h3
                  go_wp2_with fail
                  go_meet
                  exact ⟨by rw [HV.out], rfl⟩
                · have e3 := fun h => h3 ((nul_toList _).2 h)
                  have HV := Lib.hid (show ((true && (decide (c.client ≠ 0) || decide (c.seq ≠ 0) || decide (c.key ≠ nul))) || (!true && (decide (c.client = 0) || decide (c.seq = 0)))) = true by simp [h1, h2, h3])
                  clear h1 h2 h3
                  go_wp2_with fail
                  go_meet
                  exact ⟨by rw [HV.out], rfl⟩
              · have e2 : (c.seq != 0) = true := by rw [bne_iff_ne]; exact h2
                have HV := Lib.hid (show ((true && (decide (c.client ≠ 0) || decide (c.seq ≠ 0) || decide (c.key ≠ nul))) || (!true && (decide (c.client = 0) || decide (c.seq = 0)))) = true by simp [h1, h2])
                clear h1 h2
                go_wp2_with fail
                go_meet
                exact ⟨by rw [HV.out], rfl⟩
            · have e1 : (c.client != 0) = true := by rw [bne_iff_ne]; exact h1
              have HV := Lib.hid (show ((true && (decide (c.client ≠ 0) || decide (c.seq ≠ 0) || decide (c.key ≠ nul))) || (!true && (decide (c.client = 0) || decide (c.seq = 0)))) = true by simp [h1])
              clear h1
              go_wp2_with fail
              go_meet
              exact ⟨by rw [HV.out], rfl⟩
          | false =>
            by_cases h4 : c.client = 0
            · have e4 : (c.client == 0) = true := by rw [beq_iff_eq]; exact h4
              have HV := Lib.hid (show ((false && (decide (c.client ≠ 0) || decide (c.seq ≠ 0) || decide (c.key ≠ nul))) || (!false && (decide (c.client = 0) || decide (c.seq = 0)))) = true by simp [h4])
              clear h4
              go_wp2_with fail
              go_meet
              exact ⟨by rw [HV.out], rfl⟩
            · have e4 : (c.client == 0) = false := by rw [beq_eq_false_iff_ne]; exact h4
              by_cases h5 : c.seq = 0
              · have e5 : (c.seq == 0) = true := by rw [beq_iff_eq]; exact h5
                have HV := Lib.hid (show ((false && (decide (c.client ≠ 0) || decide (c.seq ≠ 0) || decide (c.key ≠ nul))) || (!false && (decide (c.client = 0) || decide (c.seq = 0)))) = true by simp [h4, h5])
                clear h4 h5
                go_wp2_with fail
                go_meet
                exact ⟨by rw [HV.out], rfl⟩
              · have e5 : (c.seq == 0) = false := by rw [beq_eq_false_iff_ne]; exact h5
                have HV := Lib.hid (show ((false && (decide (c.client ≠ 0) || decide (c.seq ≠ 0) || decide (c.key ≠ nul))) || (!false && (decide (c.client = 0) || decide (c.seq = 0)))) = false by simp [h4, h5])
                clear h4 h5
                go_wp2_with fail
                go_meet
                exact ⟨by rw [HV.out], rfl⟩
        case rest =>
          obtain ⟨rfl, rfl⟩ := hcut
          obtain ⟨b4, hb4⟩ : ∃ b4, b4 = ((bb && (decide (c.client ≠ 0) || decide (c.seq ≠ 0) || decide (c.key ≠ nul))) || (!bb && (decide (c.client = 0) || decide (c.seq = 0)))) := ⟨_, rfl⟩
          rw [← hb4]
          have HB4 := Lib.hid hb4
          clear hb4
          cases b4 with
          | true =>
            have HV : Hid (chk c = 4) := Lib.hid (by
              have h := HB4.out
              rw [HBB.out] at h
              unfold chk formBad
              unfold out at HO
              rw [HO.out, ← h]
              rfl)
            go_wp2_with fail
            go_ret
            exact ⟨by rw [HV.out]; rfl, HWW.out⟩
          | false =>
            go_upto_region 6 with fail
            go_cut [72] (fun v wx => BoolAt ((decide (c.kind ≠ 2) && decide (c.kind ≠ 4) && decide (c.val ≠ nul)) || (decide (c.kind ≠ 4) && decide (c.rev ≠ 0))) W v wx)
            case first =>
              by_cases h6 : c.kind = 2
              · have e6 : (c.kind != 2) = false := by rw [bne_eq_false_iff_eq]; exact h6
                have e7 : (c.kind != 4) = true := by rw [bne_iff_ne]; omega
                by_cases h8 : c.rev = 0
                · have e8 : (c.rev != 0) = false := by rw [bne_eq_false_iff_eq]; exact h8
                  have HV := Lib.hid (show ((decide (c.kind ≠ 2) && decide (c.kind ≠ 4) && decide (c.val ≠ nul)) || (decide (c.kind ≠ 4) && decide (c.rev ≠ 0))) = false by simp [h6, h8])
                  clear h6 h8
                  go_wp2_with fail
                  go_meet
                  exact ⟨by rw [HV.out], rfl⟩
                · have e8 : (c.rev != 0) = true := by rw [bne_iff_ne]; exact h8
                  have HV := Lib.hid (show ((decide (c.kind ≠ 2) && decide (c.kind ≠ 4) && decide (c.val ≠ nul)) || (decide (c.kind ≠ 4) && decide (c.rev ≠ 0))) = true by simp [h6, h8])
                  clear h6 h8
                  go_wp2_with fail
                  go_meet
                  exact ⟨by rw [HV.out], rfl⟩
              · have e6 : (c.kind != 2) = true := by rw [bne_iff_ne]; exact h6
                by_cases h9 : c.kind = 4
                · have e9 : (c.kind != 4) = false := by rw [bne_eq_false_iff_eq]; exact h9
                  have HV := Lib.hid (show ((decide (c.kind ≠ 2) && decide (c.kind ≠ 4) && decide (c.val ≠ nul)) || (decide (c.kind ≠ 4) && decide (c.rev ≠ 0))) = false by simp [h6, h9])
                  clear h6 h9
                  go_wp2_with fail
                  go_meet
                  exact ⟨by rw [HV.out], rfl⟩
                · have e9 : (c.kind != 4) = true := by rw [bne_iff_ne]; exact h9
                  by_cases h10 : c.val = nul
                  · have e10 := (nul_toList _).1 h10
                    by_cases h11 : c.rev = 0
                    · have e11 : (c.rev != 0) = false := by rw [bne_eq_false_iff_eq]; exact h11
                      have HV := Lib.hid (show ((decide (c.kind ≠ 2) && decide (c.kind ≠ 4) && decide (c.val ≠ nul)) || (decide (c.kind ≠ 4) && decide (c.rev ≠ 0))) = false by simp [h6, h9, h10, h11])
                      clear h6 h9 h10 h11
                      go_wp2_with fail
                      go_meet
                      exact ⟨by rw [HV.out], rfl⟩
                    · have e11 : (c.rev != 0) = true := by rw [bne_iff_ne]; exact h11
                      have HV := Lib.hid (show ((decide (c.kind ≠ 2) && decide (c.kind ≠ 4) && decide (c.val ≠ nul)) || (decide (c.kind ≠ 4) && decide (c.rev ≠ 0))) = true by simp [h6, h9, h10, h11])
                      clear h6 h9 h10 h11
                      go_wp2_with fail
                      go_meet
                      exact ⟨by rw [HV.out], rfl⟩
                  · have e10 := fun h => h10 ((nul_toList _).2 h)
                    have HV := Lib.hid (show ((decide (c.kind ≠ 2) && decide (c.kind ≠ 4) && decide (c.val ≠ nul)) || (decide (c.kind ≠ 4) && decide (c.rev ≠ 0))) = true by simp [h6, h9, h10])
                    clear h6 h9 h10
                    go_wp2_with fail
                    go_meet
                    exact ⟨by rw [HV.out], rfl⟩
            case rest =>
              obtain ⟨rfl, rfl⟩ := hcut
              obtain ⟨b6, hb6⟩ : ∃ b6, b6 = ((decide (c.kind ≠ 2) && decide (c.kind ≠ 4) && decide (c.val ≠ nul)) || (decide (c.kind ≠ 4) && decide (c.rev ≠ 0))) := ⟨_, rfl⟩
              rw [← hb6]
              have HFB : Hid (formBad c = b6) := Lib.hid (by
                have h := HB4.out
                rw [HBB.out] at h
                unfold formBad
                unfold out at HO
                rw [HO.out, ← h, ← hb6]
                rfl)
              clear hb6
              cases b6 with
              | true =>
                have HV : Hid (chk c = 4) := Lib.hid (by unfold chk; rw [HFB.out]; rfl)
                go_wp2_with fail
                go_ret
                exact ⟨by rw [HV.out]; rfl, HWW.out⟩
              | false =>
                go_upto_region 8 with fail
                go_cut [100] (fun v wx => BoolAt (rangeBad c) W v wx)
                case first =>
                  by_cases h12 : c.client < 0
                  · have HV := Lib.hid (show rangeBad c = true by unfold rangeBad P.out; simp [h12])
                    go_wp2_with fail
                    go_meet
                    exact ⟨by rw [HV.out], rfl⟩
                  · by_cases h13 : 1048576 < c.client
                    · have HV := Lib.hid (show rangeBad c = true by unfold rangeBad P.out; simp [h12, h13])
                      go_wp2_with fail
                      go_meet
                      exact ⟨by rw [HV.out], rfl⟩
                    · by_cases h14 : c.seq < 0
                      · have HV := Lib.hid (show rangeBad c = true by unfold rangeBad P.out; simp [h12, h13, h14])
                        go_wp2_with fail
                        go_meet
                        exact ⟨by rw [HV.out], rfl⟩
                      · by_cases h15 : 1099511627776 < c.seq
                        · have HV := Lib.hid (show rangeBad c = true by unfold rangeBad P.out; simp [h12, h13, h14, h15])
                          go_wp2_with fail
                          go_meet
                          exact ⟨by rw [HV.out], rfl⟩
                        · by_cases h16 : c.rev < 0
                          · have HV := Lib.hid (show rangeBad c = true by unfold rangeBad P.out; simp [h12, h13, h14, h15, h16])
                            go_wp2_with fail
                            go_meet
                            exact ⟨by rw [HV.out], rfl⟩
                          · by_cases h17 : 1099511627776 < c.rev
                            · have HV := Lib.hid (show rangeBad c = true by unfold rangeBad P.out; simp [h12, h13, h14, h15, h16, h17])
                              go_wp2_with fail
                              go_meet
                              exact ⟨by rw [HV.out], rfl⟩
                            · have HV := Lib.hid (show rangeBad c = false by unfold rangeBad P.out; simp [h12, h13, h14, h15, h16, h17])
                              go_wp2_with fail
                              go_meet
                              exact ⟨by rw [HV.out], rfl⟩
                case rest =>
                  obtain ⟨rfl, rfl⟩ := hcut
                  cases hrb : rangeBad c with
                  | true =>
                    have HV : Hid (chk c = 6) := Lib.hid (by unfold chk; rw [HFB.out, hrb]; rfl)
                    clear hrb
                    go_wp2_with fail
                    go_ret
                    exact ⟨by rw [HV.out]; rfl, HWW.out⟩
                  | false =>
                    have hch : chk c = if 1024 < c.val.size then 12 else if bare c then 0 else if c.kind = 5 then errV (beginV c.key) else errV (keyV c.key) := by
                      unfold chk
                      rw [HFB.out, hrb]
                      rfl
                    clear hrb
                    by_cases hv : 1024 < c.val.size
                    · have HV : Hid (chk c = 12) := Lib.hid (by rw [hch, if_pos hv])
                      have hvi : (1024 : Int) < (c.val.size : Int) := by omega
                      clear hch
                      go_wp2_with fail
                      go_ret
                      exact ⟨by rw [HV.out]; rfl, HWW.out⟩
                    · rw [if_neg hv] at hch
                      have hvi : ¬ (1024 : Int) < (c.val.size : Int) := by omega
                      rw [← HBB.out] at hch
                      clear hv
                      cases bb with
                      | true =>
                        have HV : Hid (chk c = 0) := Lib.hid (by rw [hch]; rfl)
                        clear hch
                        go_wp2_with fail
                        go_ret
                        exact ⟨by rw [HV.out]; rfl, HWW.out⟩
                      | false =>
                        by_cases h5 : c.kind = 5
                        · have e5 : (c.kind == 5) = true := by rw [beq_iff_eq]; exact h5
                          have e55 : (c.kind != 5) = false := by rw [bne_eq_false_iff_eq]; exact h5
                          obtain ⟨bv, hbv⟩ : ∃ bv, beginV c.key = bv := ⟨_, rfl⟩
                          have HV : Hid (chk c = errV bv) := Lib.hid (by rw [hch, ← hbv]; simp [h5])
                          have HBV := Lib.hid hbv
                          clear hch h5 hbv
                          cases bv with
                          | true =>
                            go_wp2_with fail
                            refine (refBegin_u c.key W hs _ HBV.out).mono ?_
                            rintro e w3 ⟨rfl, hb3⟩
                            obtain ⟨⟨g0, g1, g2, g3, g4, g5⟩, _⟩ := box6 ((hb3.block _ (M.heap_lt HBX.out)).trans HBX.out)
                            have HB3 := Lib.hid (HWW.out.trans (hb3.mono HWW.out.size))
                            clear hb3
                            go_wp2_with fail
                            go_ret
                            exact ⟨by rw [HV.out]; rfl, HB3.out⟩
                          | false =>
                            go_wp2_with fail
                            refine (refBegin_u c.key W hs _ HBV.out).mono ?_
                            rintro e w3 ⟨rfl, hb3⟩
                            obtain ⟨⟨g0, g1, g2, g3, g4, g5⟩, _⟩ := box6 ((hb3.block _ (M.heap_lt HBX.out)).trans HBX.out)
                            have HB3 := Lib.hid (HWW.out.trans (hb3.mono HWW.out.size))
                            clear hb3
                            go_wp2_with fail
                            go_ret
                            exact ⟨by rw [HV.out]; rfl, HB3.out⟩
                        · have e5 : (c.kind == 5) = false := by rw [beq_eq_false_iff_ne]; exact h5
                          have e55 : (c.kind != 5) = true := by rw [bne_iff_ne]; exact h5
                          obtain ⟨bv, hbv⟩ : ∃ bv, keyV c.key = bv := ⟨_, rfl⟩
                          have HV : Hid (chk c = errV bv) := Lib.hid (by rw [hch, ← hbv]; simp [h5])
                          have HBV := Lib.hid hbv
                          clear hch h5 hbv
                          cases bv with
                          | true =>
                            go_wp2_with fail
                            refine (refKey_u c.key W hs _ HBV.out).mono ?_
                            rintro e w3 ⟨rfl, hb3⟩
                            obtain ⟨⟨g0, g1, g2, g3, g4, g5⟩, _⟩ := box6 ((hb3.block _ (M.heap_lt HBX.out)).trans HBX.out)
                            have HB3 := Lib.hid (HWW.out.trans (hb3.mono HWW.out.size))
                            clear hb3
                            go_wp2_with fail
                            go_ret
                            exact ⟨by rw [HV.out]; rfl, HB3.out⟩
                          | false =>
                            go_wp2_with fail
                            refine (refKey_u c.key W hs _ HBV.out).mono ?_
                            rintro e w3 ⟨rfl, hb3⟩
                            obtain ⟨⟨g0, g1, g2, g3, g4, g5⟩, _⟩ := box6 ((hb3.block _ (M.heap_lt HBX.out)).trans HBX.out)
                            have HB3 := Lib.hid (HWW.out.trans (hb3.mono HWW.out.size))
                            clear hb3
                            go_wp2_with fail
                            go_ret
                            exact ⟨by rw [HV.out]; rfl, HB3.out⟩
end Go.Proofs.YtlbkbjeajcadiaaGreatDoor.P
