/- The walk of AppRevs. -/
import Derived.Test.YtpeiamllkddhiaaDoorAppZ
namespace Go.Proofs.YtpeiamllkddhiaaDoor.P
open Go.RowKit Go.Proofs.YtpeiamllkddhiaaDoor.R Go.Proofs.YtpeiamllkddhiaaDoor.M Go.BigFrame
set_option linter.unusedVariables false
set_option linter.unusedSimpArgs false

set_option maxRecDepth 100000 in
set_option maxHeartbeats 4000000 in
theorem revs_no (L : List Cmd) (ao : Option Addr) (cap : Nat) (key : ByteArray) (w : World) (hV : CmdsV w.heap.size w ao cap L) (hT : TabsI w) (h : greatB L 60 = true ∨ 100 < key.size) :
    Calls Tryd.prog 3 #[.slice ao L.length cap, .string key] w fun e w' => e = .returned (.bool true) ∧ Below w.heap.size w w' := by
  have hgr := great60 w.heap.size L ao cap w hV
  have HT := Lib.hid hT
  clear hV hT
  obtain ⟨gb, hgb⟩ : ∃ gb, greatB L 60 = gb := ⟨_, rfl⟩
  rw [hgb] at hgr h
  clear hgb
  cases gb with
  | true =>
    clear h
    go_enter Tryd.func3, Tryd.ntmps3
    go_wp2_with fail
    refine hgr.mono ?_
    rintro e w1 ⟨rfl, rfl⟩
    go_wp2_with fail
    refine (awake_any _ (HT.out.next (Below.refl w.heap.size w))).mono ?_
    rintro e wz ⟨rfl, hbz⟩
    have HBZ := Lib.hid (((Below.refl w.heap.size w)).trans (hbz.mono ((Below.refl w.heap.size w)).size))
    clear hbz
    go_wp2_with fail
    go_ret
    exact ⟨rfl, HBZ.out⟩
  | false =>
    have e1 : (100 : Int) < (key.size : Int) := by simp at h; omega
    clear h
    go_enter Tryd.func3, Tryd.ntmps3
    go_wp2_with fail
    refine hgr.mono ?_
    rintro e w1 ⟨rfl, rfl⟩
    go_wp2_with fail
    refine (awake_any _ (HT.out.next (Below.refl w.heap.size w))).mono ?_
    rintro e wz ⟨rfl, hbz⟩
    have HBZ := Lib.hid (((Below.refl w.heap.size w)).trans (hbz.mono ((Below.refl w.heap.size w)).size))
    clear hbz
    go_wp2_with fail
    go_ret
    exact ⟨rfl, HBZ.out⟩
set_option maxRecDepth 100000 in
set_option maxHeartbeats 4000000 in
theorem revs_all (L : List Cmd) (ao : Option Addr) (cap : Nat) (key : ByteArray) (w : World) (hV : CmdsV w.heap.size w ao cap L) (hT : TabsI w) (hg : greatB L 60 = false) (hk : ¬ 100 < key.size) :
    Calls Tryd.prog 3 #[.slice ao L.length cap, .string key] w fun e w' => e = .returned (.bool true) ∧ Below w.heap.size w w' := by
  have hgr := great60 w.heap.size L ao cap w hV
  rw [hg] at hgr
  obtain ⟨hl60, hsz⟩ := great_no hg
  have HV := Lib.hid hV
  have HT := Lib.hid hT
  have HSZ := Lib.hid hsz
  clear hV hT hg hsz
  have e1 : ¬ (100 : Int) < (key.size : Int) := by omega
  go_enter Tryd.func3, Tryd.ntmps3
  go_wp2_with fail
  refine hgr.mono ?_
  rintro e w1 ⟨rfl, rfl⟩
  clear hgr e1
  go_wp2_with fail
  refine (new_run w).mono ?_
  rintro e w1 ⟨p, b, rfl, hr⟩
  have HR1 := Lib.hid hr
  clear hr
  go_wp2_with fail
  go_loopw [6, 7] (fun nv iv wr => ∃ i : Nat, nv = .int .i64 (revOf (run [] (L.take i)) key) ∧ iv = .int .i64 i ∧ i ≤ L.length ∧ RunAt w wr p b i (run [] (L.take i))) (fun _ iv _ => L.length - (intOf iv).toNat)
  case atStart => exact ⟨0, by rw [List.take_zero]; rfl, rfl, Nat.zero_le _, by rw [List.take_zero]; exact HR1.out⟩
  case round =>
    clear HR1
    obtain ⟨i, rfl, rfl, hi, hr⟩ := hrel
    by_cases hlt : i < L.length
    · have hii : (i : Int) < (L.length : Int) := by omega
      obtain ⟨c, hx⟩ : ∃ c, L[i]? = some c := ⟨_, List.getElem?_eq_getElem hlt⟩
      have HN0 := Lib.hid (run_take [] L i c hx)
      obtain ⟨A, hA⟩ : ∃ A, A = run [] (L.take i) := ⟨_, rfl⟩
      have hG : Good i A := by rw [hA]; exact good_take L i
      rw [← hA] at HN0 hr ⊢
      obtain ⟨B, R, hd⟩ : ∃ B R, appDo A c = (B, R) := ⟨_, _, rfl⟩
      have hrs := revs_step hG c key
      have hb0 := hG.rev key
      rw [hd] at HN0 hrs
      have HN : Hid (run [] (L.take (i + 1)) = B) := HN0
      obtain ⟨n, hn⟩ : ∃ n, n = revOf A key := ⟨_, rfl⟩
      rw [← hn] at hrs hb0 ⊢
      have HH := Lib.hid hrs
      have HR := Lib.hid hr
      have HD := Lib.hid (fun wx (h : RunAt w wx p b i A) (hs : c.key.size ≤ 1000000) => do_run h hG (by omega) HT.out c hs B R hd)
      clear HN0 hA hG hd hrs hn hr
      obtain ⟨g, off, rfl, hgl, hcm⟩ := HV.out.row i c hx
      have HCM := Lib.hid hcm
      have hszc := HSZ.out c (List.mem_of_getElem? hx)
      have HX := Lib.hid hx
      obtain ⟨hcp1, hcp2⟩ := HV.out.le
      unfold maxLen at hcp2
      obtain ⟨c0, c1, c2, c3, c4, c5⟩ := HCM.out.below HR.out.bel hgl
      clear hx hcm
      go_wp2_with fail
      refine (HD.out _ HR.out (by omega)).mono ?_
      rintro e w2 ⟨rfl, hr2, hm2⟩
      have HR2 := Lib.hid hr2
      clear hr2 hm2 c0 c1 c2 c3 c4 c5 HD
      go_upto_region 9 with fail
      obtain ⟨w3, hw3⟩ : ∃ w3, w3 = w2.alloc (.cells #[.int .i64 R.code, .string R.val, .int .i64 R.rev] 29) := ⟨_, rfl⟩
      rw [← hw3]
      have HR3 := Lib.hid (HR2.out.next (w2 := w3) (by rw [hw3]; exact (Below.refl _ _).alloc (Nat.le_refl _) _))
      obtain ⟨⟨r0, r1, r2⟩, _, _⟩ := box3 (w := w3) (b := w2.heap.size) (by rw [hw3]; exact heap_alloc_new w2 _)
      clear hw3
      obtain ⟨c0, c1, c2, c3, c4, c5⟩ := HCM.out.below HR3.out.bel hgl
      have l2 := ba_eq c.key key
      by_cases hq : c.key = key
      · rw [decide_eq_true hq] at l2
        have l3 : c.key.toList = key.toList := by rw [hq]
        have hwr : IntKind.i64.wrap (n + 1) = n + 1 := IntWalk.i64_in _ (by omega)
        by_cases hz : R.code = 0
        · rw [hz] at r0
          have hs := (HH.out.2 hq hz)
          have hkk : c.kind = 1 ∨ c.kind = 2 ∨ c.kind = 3 ∨ c.kind = 4 ∨ (c.kind ≠ 1 ∧ c.kind ≠ 2 ∧ c.kind ≠ 3 ∧ c.kind ≠ 4) := by omega
          rcases hkk with hk1 | hk1 | hk1 | hk1 | ⟨k1, k2, k3, k4⟩
          · obtain ⟨h1, h2, h3⟩ := hs.2.2.1 hk1
            rw [hk1] at c0
            have e5 : (R.rev != n) = false := by rw [bne_eq_false_iff_eq]; exact h1
            have e6 : (n == 0) = false := by rw [beq_eq_false_iff_ne]; exact h2
            have HN2 := Lib.hid (show revOf (run [] (L.take (i + 1))) key = n by rw [HN.out]; exact h3)
            clear hs h1 h2 h3 hz hq hk1
            clear HH
            go_wp2_with fail
            go_roundw
            case rel => exact ⟨i + 1, by rw [HN2.out], by go_num, by omega, by rw [HN.out]; exact HR3.out⟩
            case measure => simp [intOf]; omega
          · obtain ⟨h1, h2⟩ := hs.1 (.inl hk1)
            rw [hk1] at c0
            have e5 : (R.rev != n + 1) = false := by rw [bne_eq_false_iff_eq]; exact h1
            have HN2 := Lib.hid (show revOf (run [] (L.take (i + 1))) key = (n + 1) by rw [HN.out]; exact h2)
            clear hs h1 h2 hz hq hk1
            clear HH
            go_wp2_with fail
            go_roundw
            case rel => exact ⟨i + 1, by rw [HN2.out], by go_num, by omega, by rw [HN.out]; exact HR3.out⟩
            case measure => simp [intOf]; omega
          · obtain ⟨h1, h2⟩ := hs.2.1 hk1
            rw [hk1] at c0
            have e5 : (R.rev != n) = false := by rw [bne_eq_false_iff_eq]; exact h1
            have HN2 := Lib.hid (show revOf (run [] (L.take (i + 1))) key = 0 by rw [HN.out]; exact h2)
            clear hs h1 h2 hz hq hk1
            clear HH
            go_wp2_with fail
            go_roundw
            case rel => exact ⟨i + 1, by rw [HN2.out], by go_num, by omega, by rw [HN.out]; exact HR3.out⟩
            case measure => simp [intOf]; omega
          · obtain ⟨h1, h2⟩ := hs.1 (.inr hk1)
            rw [hk1] at c0
            have e5 : (R.rev != n + 1) = false := by rw [bne_eq_false_iff_eq]; exact h1
            have HN2 := Lib.hid (show revOf (run [] (L.take (i + 1))) key = (n + 1) by rw [HN.out]; exact h2)
            clear hs h1 h2 hz hq hk1
            clear HH
            go_wp2_with fail
            go_roundw
            case rel => exact ⟨i + 1, by rw [HN2.out], by go_num, by omega, by rw [HN.out]; exact HR3.out⟩
            case measure => simp [intOf]; omega
          · have h2 := hs.2.2.2 k1 k2 k3 k4
            have e1 : (c.kind == 1) = false := by rw [beq_eq_false_iff_ne]; exact k1
            have e2 : (c.kind == 2) = false := by rw [beq_eq_false_iff_ne]; exact k2
            have e3 : (c.kind == 3) = false := by rw [beq_eq_false_iff_ne]; exact k3
            have e4 : (c.kind == 4) = false := by rw [beq_eq_false_iff_ne]; exact k4
            have HN2 := Lib.hid (show revOf (run [] (L.take (i + 1))) key = n by rw [HN.out]; exact h2)
            clear hs h2 hz hq k1 k2 k3 k4
            clear HH
            go_wp2_with fail
            go_roundw
            case rel => exact ⟨i + 1, by rw [HN2.out], by go_num, by omega, by rw [HN.out]; exact HR3.out⟩
            case measure => simp [intOf]; omega
        · have e4 : (R.code != 0) = true := by rw [bne_iff_ne]; exact hz
          have h2 := HH.out.1 (.inr hz)
          have HN2 := Lib.hid (show revOf (run [] (L.take (i + 1))) key = n by rw [HN.out]; exact h2)
          clear h2 hz hq
          clear HH
          go_wp2_with fail
          go_roundw
          case rel => exact ⟨i + 1, by rw [HN2.out], by go_num, by omega, by rw [HN.out]; exact HR3.out⟩
          case measure => simp [intOf]; omega
      · rw [decide_eq_false hq] at l2
        have l3 : ¬ c.key.toList = key.toList := beq_eq_false_iff_ne.1 l2
        have h2 := HH.out.1 (.inl hq)
        have HN2 := Lib.hid (show revOf (run [] (L.take (i + 1))) key = n by rw [HN.out]; exact h2)
        clear h2 hq
        clear HH
        go_wp2_with fail
        go_roundw
        case rel => exact ⟨i + 1, by rw [HN2.out], by go_num, by omega, by rw [HN.out]; exact HR3.out⟩
        case measure => simp [intOf]; omega
    · obtain rfl : i = L.length := by omega
      have hii : ¬ (L.length : Int) < (L.length : Int) := by omega
      have HR := Lib.hid hr
      clear hr
      go_wp2_with fail
      refine (awake_any _ (HT.out.next HR.out.bel)).mono ?_
      rintro e wz ⟨rfl, hbz⟩
      have HBZ := Lib.hid ((HR.out.bel).trans (hbz.mono (HR.out.bel).size))
      clear hbz
      go_wp2_with fail
      go_ret
      exact ⟨rfl, HBZ.out⟩
theorem revs_law (L : List Cmd) (ao : Option Addr) (cap : Nat) (key : ByteArray) (w : World) (hV : CmdsV w.heap.size w ao cap L) (hT : TabsI w) :
    Calls Tryd.prog 3 #[.slice ao L.length cap, .string key] w fun e w' => e = .returned (.bool true) ∧ Below w.heap.size w w' := by
  by_cases h : greatB L 60 = true ∨ 100 < key.size
  · exact revs_no L ao cap key w hV hT h
  · simp only [not_or] at h
    exact revs_all L ao cap key w hV hT (by simpa using h.1) h.2
end Go.Proofs.YtpeiamllkddhiaaDoor.P
