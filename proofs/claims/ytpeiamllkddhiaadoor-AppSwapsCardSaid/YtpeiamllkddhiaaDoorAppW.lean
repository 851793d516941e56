/- What the App laws call beside: Great, Writes, keys, Meet. -/
import Derived.Test.YtpeiamllkddhiaaDoorAppX
import Derived.Test.YtpeiamllkddhiaaDoorAppV
namespace Go.Proofs.YtpeiamllkddhiaaDoor.P
open Go.RowKit Go.Proofs.YtpeiamllkddhiaaDoor.R Go.Proofs.YtpeiamllkddhiaaDoor.M Go.BigFrame
set_option linter.unusedVariables false
set_option linter.unusedSimpArgs false

set_option maxRecDepth 100000 in
set_option maxHeartbeats 2000000 in
theorem great_any (B : Nat) (L : List Cmd) (m : Nat) (ao : Option Addr) (cap : Nat) (w : World) (h : CmdsV B w ao cap L) (hm : m ≤ 100) :
    Calls Tryd.prog 11 #[.slice ao L.length cap, .int .i64 m] w fun e w' => e = .returned (.bool (greatB L m)) ∧ w = w' := by
  obtain ⟨hc1, hc2⟩ := h.le
  unfold maxLen at hc2
  have H := Lib.hid h
  clear h
  go_enter Tryd.func11, Tryd.ntmps11
  go_wp2_with fail
  have HGE := Lib.hid (fun (i : Nat) (h1 : i = L.length ∨ i = m) (h2 : ∀ j x, j < i → L[j]? = some x → big x = false) => great_end h1 h2)
  have HGY := Lib.hid (fun (i : Nat) (c : Cmd) (h1 : i < m) (h2 : L[i]? = some c) (h3 : big c = true) => great_yes h1 h2 h3)
  go_loopw [5] (fun iv wr => ∃ i : Nat, iv = .int .i64 i ∧ i ≤ L.length ∧ i ≤ m ∧ w = wr ∧ (∀ j x, j < i → L[j]? = some x → big x = false)) (fun iv _ => L.length - (intOf iv).toNat)
  case atStart => exact ⟨0, rfl, Nat.zero_le _, Nat.zero_le _, rfl, fun _ _ h => absurd h (by omega)⟩
  case round =>
    obtain ⟨i, rfl, hi, him, rfl, hno⟩ := hrel
    have HNO := Lib.hid hno
    clear hno
    by_cases hlt : i < L.length
    · have e1 : (i : Int) < (L.length : Int) := by omega
      by_cases hlm : i < m
      · have e2 : (i : Int) < (m : Int) := by omega
        obtain ⟨c, hx⟩ : ∃ c, L[i]? = some c := ⟨_, List.getElem?_eq_getElem hlt⟩
        obtain ⟨b, off, rfl, hl, hc⟩ := H.out.row i c hx
        have c3 := hc.c3
        have c4 := hc.c4
        have hok := H.out.ok c (List.mem_of_getElem? hx)
        have hk1 := hok.key
        have hk2 := hok.val
        unfold maxLen at hk1 hk2
        have HX := Lib.hid hx
        clear hx hc hok
        by_cases g1 : 100 < c.key.size
        · have e3 : (100 : Int) < (c.key.size : Int) := by omega
          have HB := Lib.hid (HGY.out _ _ hlm HX.out (by unfold big; rw [decide_eq_true g1]; rfl))
          go_wp2_with fail
          go_ret
          exact ⟨by rw [HB.out]; rfl, rfl⟩
        · have e3 : ¬ (100 : Int) < (c.key.size : Int) := by omega
          by_cases g2 : 1100 < c.val.size
          · have e4 : (1100 : Int) < (c.val.size : Int) := by omega
            have HB := Lib.hid (HGY.out _ _ hlm HX.out (by unfold big; rw [decide_eq_true g2, Bool.or_true]))
            go_wp2_with fail
            go_ret
            exact ⟨by rw [HB.out]; rfl, rfl⟩
          · have e4 : ¬ (1100 : Int) < (c.val.size : Int) := by omega
            have HB := Lib.hid (show big c = false by unfold big; rw [decide_eq_false g1, decide_eq_false g2]; rfl)
            go_wp2_with fail
            go_roundw
            case rel =>
              refine ⟨i + 1, by go_num, by omega, by omega, by trivial, fun j x hj hjx => ?_⟩
              by_cases e : j = i
              · subst e
                have := HX.out.symm.trans hjx
                cases this
                exact HB.out
              · exact HNO.out j x (by omega) hjx
            case measure => simp [intOf]; omega
      · have e2 : ¬ (i : Int) < (m : Int) := by omega
        obtain rfl : i = m := by omega
        have HE := Lib.hid (HGE.out _ (.inr rfl) HNO.out)
        have e3 : (i : Int) < (L.length : Int) := by omega
        have HD := Lib.hid (decide_eq_true hlt)
        go_wp2_with fail
        go_ret
        exact ⟨by rw [HE.out, HD.out]; rfl, rfl⟩
    · have e1 : ¬ (i : Int) < (L.length : Int) := by omega
      obtain rfl : i = L.length := by omega
      have HE := Lib.hid (HGE.out _ (.inl rfl) HNO.out)
      have e2 : ¬ (m : Int) < (L.length : Int) := by omega
      have HD := Lib.hid (decide_eq_false (show ¬ m < L.length by omega))
      go_wp2_with fail
      go_ret
      exact ⟨by rw [HE.out, HD.out]; rfl, rfl⟩
theorem dec_beq (a b : Int) : decide (a = b) = (a == b) := by rw [Bool.eq_iff_iff, decide_eq_true_eq, beq_iff_eq]
set_option maxRecDepth 100000 in
set_option maxHeartbeats 2000000 in
theorem writes_any (c : Cmd) (w : World) (v : Bool) (hv : writes c = v) : Calls Tryd.prog 16 #[cmdV c] w fun e w' => e = .returned (.bool v) ∧ Below w.heap.size w w' := by
  subst hv
  have HB : Hid (Below w.heap.size w (w.alloc (.cells #[.int .i64 c.kind, .int .i64 c.client, .int .i64 c.seq, .string c.key, .string c.val, .int .i64 c.rev] 32))) := Lib.hid ((Below.refl _ _).alloc (Nat.le_refl _) _)
  have hw : writes c = ((c.kind == 2) || (c.kind == 3) || (c.kind == 4)) := by unfold writes; rw [dec_beq, dec_beq, dec_beq]
  obtain ⟨b2, h2⟩ : ∃ b, b = (c.kind == 2) := ⟨_, rfl⟩
  obtain ⟨b3, h3⟩ : ∃ b, b = (c.kind == 3) := ⟨_, rfl⟩
  obtain ⟨b4, h4⟩ : ∃ b, b = (c.kind == 4) := ⟨_, rfl⟩
  rw [← h2, ← h3, ← h4] at hw
  have HV := Lib.hid hw
  have e2 := h2.symm
  have e3 := h3.symm
  have e4 := h4.symm
  clear h2 h3 h4 hw
  cases b2 <;> cases b3
  all_goals
    go_enter Tryd.func16, Tryd.ntmps16
    go_wp2_with fail
    go_ret
    exact ⟨by rw [HV.out]; rfl, HB.out⟩
/-- two commands in their boxes -/
structure PairAt (a b : Cmd) (w wx : World) : Prop where
  bel : Below w.heap.size w wx
  ba : wx.heap[w.heap.size]? = some (.cells (cmdA a) 32 (0, 0))
  bb : wx.heap[w.heap.size + 1]? = some (.cells (cmdA b) 32 (0, 0))
theorem PairAt.next {a b : Cmd} {w w1 w2 : World} (h : PairAt a b w w1) (hb : Below w1.heap.size w1 w2) : PairAt a b w w2 :=
  ⟨h.bel.trans (hb.mono h.bel.size), (hb.block _ (M.heap_lt h.ba)).trans h.ba, (hb.block _ (M.heap_lt h.bb)).trans h.bb⟩
theorem pair_start (a b : Cmd) (w : World) : PairAt a b w ((w.alloc (.cells (cmdA a) 32)).alloc (.cells (cmdA b) 32)) := by
  refine ⟨((Below.refl _ _).alloc (Nat.le_refl _) _).alloc (by simp) _, ?_, ?_⟩
  · rw [heap_al, if_neg (by simp), heap_alloc_new]
  · rw [heap_al, if_pos (by simp)]
set_option maxRecDepth 100000 in
set_option maxHeartbeats 2000000 in
theorem keys_meet (a b : Cmd) (w : World) (v : Bool) (hv : keysMeet a b = v) : Calls Tryd.prog 49 #[cmdV a, cmdV b] w fun e w' => e = .returned (.bool v) ∧ Below w.heap.size w w' := by
  subst hv
  have hw : keysMeet a b = ((a.key.toList == b.key.toList) || ((a.kind == 5) && begs b.key a.key) || ((b.kind == 5) && begs a.key b.key)) := by unfold keysMeet; rw [ba_eq, dec_beq, dec_beq]
  obtain ⟨x, hx⟩ : ∃ x, x = (a.key.toList == b.key.toList) := ⟨_, rfl⟩
  obtain ⟨a5, ha5⟩ : ∃ x, x = (a.kind == 5) := ⟨_, rfl⟩
  obtain ⟨b5, hb5⟩ : ∃ x, x = (b.kind == 5) := ⟨_, rfl⟩
  obtain ⟨u, hu⟩ : ∃ x, begs b.key a.key = x := ⟨_, rfl⟩
  obtain ⟨t, ht⟩ : ∃ x, begs a.key b.key = x := ⟨_, rfl⟩
  rw [← hx, ← ha5, ← hb5, hu, ht] at hw
  have HV := Lib.hid hw
  have HU := Lib.hid (fun W => begins_t b.key a.key W u hu)
  have HT := Lib.hid (fun W => begins_t a.key b.key W t ht)
  have e1 := hx.symm
  have e2 := ha5.symm
  have e3 := hb5.symm
  clear hx ha5 hb5 hu ht hw
  go_enter Tryd.func49, Tryd.ntmps49
  go_upto_region 1 with fail
  obtain ⟨W, hW⟩ : ∃ W, W = (w.alloc (.cells (cmdA a) 32)).alloc (.cells (cmdA b) 32) := ⟨_, rfl⟩
  rw [← hW]
  have HP : Hid (PairAt a b w W) := Lib.hid (by rw [hW]; exact pair_start a b w)
  clear hW
  obtain ⟨⟨c0, _, _, c3, _, _⟩, _⟩ := box6 HP.out.ba
  obtain ⟨⟨d0, _, _, d3, _, _⟩, _⟩ := box6 HP.out.bb
  cases x with
  | true =>
    go_wp2_with fail
    go_ret
    exact ⟨by rw [HV.out]; rfl, HP.out.bel⟩
  | false =>
    cases a5 with
    | true =>
      go_wp2_with fail
      refine (HU.out _).mono ?_
      rintro e w1 ⟨rfl, rfl⟩
      cases u with
      | true =>
        go_wp2_with fail
        go_ret
        exact ⟨by rw [HV.out]; rfl, HP.out.bel⟩
      | false =>
        cases b5 with
        | true =>
          go_wp2_with fail
          refine (HT.out _).mono ?_
          rintro e w1 ⟨rfl, rfl⟩
          go_wp2_with fail
          go_ret
          exact ⟨by rw [HV.out]; rfl, HP.out.bel⟩
        | false =>
          go_wp2_with fail
          go_ret
          exact ⟨by rw [HV.out]; rfl, HP.out.bel⟩
    | false =>
      cases b5 with
      | true =>
        go_wp2_with fail
        refine (HT.out _).mono ?_
        rintro e w1 ⟨rfl, rfl⟩
        go_wp2_with fail
        go_ret
        exact ⟨by rw [HV.out]; rfl, HP.out.bel⟩
      | false =>
        go_wp2_with fail
        go_ret
        exact ⟨by rw [HV.out]; rfl, HP.out.bel⟩
set_option maxRecDepth 100000 in
set_option maxHeartbeats 4000000 in
theorem meet_any (a b : Cmd) (w : World) (v : Bool) (hv : meet a b = v) : Calls Tryd.prog 25 #[cmdV a, cmdV b] w fun e w' => e = .returned (.bool v) ∧ Below w.heap.size w w' := by
  subst hv
  have hw : meet a b = (if ((a.kind == 0) || (b.kind == 0)) = true then false else if (((a.kind == 6) || (b.kind == 6)) || (a.client == b.client)) = true then true else (writes a || writes b) && keysMeet a b) := by
    unfold meet; rw [dec_beq, dec_beq, dec_beq, dec_beq, dec_beq]
  obtain ⟨a0, ha0⟩ : ∃ x, x = (a.kind == 0) := ⟨_, rfl⟩
  obtain ⟨b0, hb0⟩ : ∃ x, x = (b.kind == 0) := ⟨_, rfl⟩
  obtain ⟨a6, ha6⟩ : ∃ x, x = (a.kind == 6) := ⟨_, rfl⟩
  obtain ⟨b6, hb6⟩ : ∃ x, x = (b.kind == 6) := ⟨_, rfl⟩
  obtain ⟨cc, hcc⟩ : ∃ x, x = (a.client == b.client) := ⟨_, rfl⟩
  obtain ⟨u, hu⟩ : ∃ x, writes a = x := ⟨_, rfl⟩
  obtain ⟨t, ht⟩ : ∃ x, writes b = x := ⟨_, rfl⟩
  obtain ⟨k, hk⟩ : ∃ x, keysMeet a b = x := ⟨_, rfl⟩
  rw [← ha0, ← hb0, ← ha6, ← hb6, ← hcc, hu, ht, hk] at hw
  have HV := Lib.hid hw
  have HU := Lib.hid (fun W => writes_any a W u hu)
  have HT := Lib.hid (fun W => writes_any b W t ht)
  have HK := Lib.hid (fun W => keys_meet a b W k hk)
  have e1 := ha0.symm
  have e2 := hb0.symm
  have e3 := ha6.symm
  have e4 := hb6.symm
  have e5 := hcc.symm
  clear ha0 hb0 ha6 hb6 hcc hu ht hk hw
  go_enter Tryd.func25, Tryd.ntmps25
  go_upto_region 1 with fail
  obtain ⟨W, hW⟩ : ∃ W, W = (w.alloc (.cells (cmdA a) 32)).alloc (.cells (cmdA b) 32) := ⟨_, rfl⟩
  rw [← hW]
  have HP : Hid (PairAt a b w W) := Lib.hid (by rw [hW]; exact pair_start a b w)
  clear hW
  obtain ⟨⟨c0, c1, c2, c3, c4, c5⟩, _⟩ := box6 HP.out.ba
  obtain ⟨⟨d0, d1, d2, d3, d4, d5⟩, _⟩ := box6 HP.out.bb
  have key : (a0 = true) ∨ (a0 = false ∧ b0 = true) ∨ (a0 = false ∧ b0 = false ∧ a6 = true) ∨ (a0 = false ∧ b0 = false ∧ a6 = false ∧ b6 = true) ∨ (a0 = false ∧ b0 = false ∧ a6 = false ∧ b6 = false ∧ cc = true) ∨ (a0 = false ∧ b0 = false ∧ a6 = false ∧ b6 = false ∧ cc = false) := by
    cases a0 <;> cases b0 <;> cases a6 <;> cases b6 <;> cases cc <;> simp
  rcases key with rfl | ⟨rfl, rfl⟩ | ⟨rfl, rfl, rfl⟩ | ⟨rfl, rfl, rfl, rfl⟩ | ⟨rfl, rfl, rfl, rfl, rfl⟩ | ⟨rfl, rfl, rfl, rfl, rfl⟩
  case inr.inr.inr.inr.inr =>
    go_wp2_with fail
    refine (HU.out _).mono ?_
    rintro e w1 ⟨rfl, hb1⟩
    have HP1 := Lib.hid (HP.out.next hb1)
    clear c0 c1 c2 c3 c4 c5 d0 d1 d2 d3 d4 d5 hb1
    obtain ⟨⟨c0, c1, c2, c3, c4, c5⟩, _⟩ := box6 HP1.out.ba
    obtain ⟨⟨d0, d1, d2, d3, d4, d5⟩, _⟩ := box6 HP1.out.bb
    cases u with
    | true =>
      go_wp2_with fail
      refine (HK.out _).mono ?_
      rintro e w2 ⟨rfl, hb2⟩
      have HP2 := Lib.hid (HP1.out.next hb2)
      go_wp2_with fail
      go_ret
      exact ⟨by rw [HV.out]; rfl, HP2.out.bel⟩
    | false =>
      go_wp2_with fail
      refine (HT.out _).mono ?_
      rintro e w2 ⟨rfl, hb2⟩
      have HP2 := Lib.hid (HP1.out.next hb2)
      clear c0 c1 c2 c3 c4 c5 d0 d1 d2 d3 d4 d5 hb2
      obtain ⟨⟨c0, c1, c2, c3, c4, c5⟩, _⟩ := box6 HP2.out.ba
      obtain ⟨⟨d0, d1, d2, d3, d4, d5⟩, _⟩ := box6 HP2.out.bb
      cases t with
      | true =>
        go_wp2_with fail
        refine (HK.out _).mono ?_
        rintro e w3 ⟨rfl, hb3⟩
        have HP3 := Lib.hid (HP2.out.next hb3)
        go_wp2_with fail
        go_ret
        exact ⟨by rw [HV.out]; rfl, HP3.out.bel⟩
      | false =>
        go_wp2_with fail
        go_ret
        exact ⟨by rw [HV.out]; rfl, HP2.out.bel⟩
  all_goals
    go_wp2_with fail
    go_ret
    exact ⟨by rw [HV.out]; rfl, HP.out.bel⟩
end Go.Proofs.YtpeiamllkddhiaaDoor.P
