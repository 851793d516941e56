/- The walk of SessionPlays (under way). -/
import Derived.Test.YtpeiamllkddhiaaGreatDoorMrg13
import Derived.Test.YtpeiamllkddhiaaGreatDoorMrg3
import Derived.Deep.RegionHeld3
import Derived.Deep.DeepCutAuto
namespace Go.Proofs.YtpeiamllkddhiaaGreatDoor.P
open Go.RowKit Go.Proofs.YtpeiamllkddhiaaGreatDoor.R Go.Proofs.YtpeiamllkddhiaaGreatDoor.M Go.BigFrame
set_option linter.unusedVariables false
set_option linter.unusedSimpArgs false

set_option maxRecDepth 100000 in
set_option maxHeartbeats 4000000 in
theorem splays_no (L : List Cmd) (ao : Option Addr) (cap : Nat) (at_ client : Int) (w : World) (hV : CmdsV w.heap.size w ao cap L) (hT : TabsI w) (hI : InI client) (h : greatB L 60 = true) : Calls Tryz.prog 3 #[.slice ao L.length cap, .int .i64 at_, .int .i64 client] w fun e w' => e = .returned (.bool true) ∧ Below w.heap.size w w' := by
  have hgr := great60 w.heap.size L ao cap w hV
  have HT := Lib.hid hT
  rw [h] at hgr
  clear hV hT h
  go_enter Tryz.func3, Tryz.ntmps3
  go_wp2_with fail
  refine hgr.mono ?_
  rintro e w1 ⟨rfl, rfl⟩
  go_wp2_with fail
  refine (sawake_any _ HT.out).mono ?_
  rintro e wz ⟨rfl, hbz⟩
  have HBZ := Lib.hid hbz
  clear hbz
  go_wp2_with fail
  go_ret
  exact ⟨rfl, HBZ.out⟩
set_option maxRecDepth 100000 in
set_option maxHeartbeats 4000000 in
theorem splays_all (L : List Cmd) (ao : Option Addr) (cap : Nat) (at_ client : Int) (w : World) (hV : CmdsV w.heap.size w ao cap L) (hT : TabsI w) (hI : InI client) (hg : greatB L 60 = false) : Calls Tryz.prog 3 #[.slice ao L.length cap, .int .i64 at_, .int .i64 client] w fun e w' => e = .returned (.bool true) ∧ Below w.heap.size w w' := by
  have hgr := great60 w.heap.size L ao cap w hV
  rw [hg] at hgr
  obtain ⟨hl60, hsz⟩ := great_no hg
  have HV := Lib.hid hV
  have HT := Lib.hid hT
  have HSZ := Lib.hid hsz
  clear hV hT hg hsz
  have HI := Lib.hid hI
  clear hI
  go_enter Tryz.func3, Tryz.ntmps3
  go_wp2_with fail
  refine hgr.mono ?_
  rintro e w1 ⟨rfl, rfl⟩
  clear hgr
  go_wp2_with fail
  refine (snew_run w).mono ?_
  rintro e w1 ⟨s, p, b, q, rfl, hr⟩
  have HR1 := Lib.hid hr
  clear hr
  go_upto_region 5 with fail
  obtain ⟨u, hw⟩ : ∃ x, x = w1.alloc (.cells #[.slice none 0 0, .slice none 0 0] 30) := ⟨_, rfl⟩
  rw [← hw]
  obtain ⟨g8, hg8⟩ : ∃ g, g = w1.heap.size := ⟨_, rfl⟩
  rw [← hg8]
  have hsz : g8 < u.heap.size := by rw [hw, hg8]; simp
  have HR := Lib.hid (HR1.out.next (w2 := u) (by rw [hw]; exact (Below.refl _ _).alloc (Nat.le_refl _) _))
  have HX8 : Hid (u.heap[g8]? = some (.cells #[.slice none 0 0, .slice none 0 0] 30 (0, 0))) := Lib.hid (by rw [hw, hg8]; exact heap_alloc_new w1 _)
  have hgw : w.heap.size ≤ g8 := by rw [hg8]; exact HR1.out.bel.size
  clear hw hg8 HR1
  refine wp_region_inv (R5I w u s p b q g8) (by kernel_rfl) (by kernel_rfl) ?_ ?_ ?_
  · refine R5_start _ _ _ _ _ _ _ _ _ (fun _ _ _ _ _ => ?_)
    constructor
    all_goals (first | exact below_drawn u | (intro e; cases e))
  ·
    intro listed a wx i o hI hil ho hn he
    obtain ⟨b0, b1, b2, b3, b4, b5, x28, x29, x30, x10, x9, rfl, rfl, h⟩ := hI
    have hin : i = 0 ∨ i = 1 ∨ i = 2 ∨ i = 3 ∨ i = 4 ∨ i = 5 := by
      have : i < 6 := hil
      omega
    have H := Lib.hid h
    clear h hil
    rcases hin with rfl | rfl | rfl | rfl | rfl | rfl <;> obtain rfl := Option.some.inj ho
    ·
      refine wpOp_hid rfl (fun K hK => ?_)
      simp only [List.setIfInBounds_toArray, List.set_cons_succ, List.set_cons_zero]
      go_simp
      refine hK.out _ _ ⟨true, b1, b2, b3, b4, b5, (.pointer (some ⟨s, 0, none⟩)), x29, x30, x10, x9, rfl, ?_, ?_⟩
      · simp only [List.setIfInBounds_toArray, List.set_cons_succ, List.set_cons_zero]
      exact { H.out with
        k0 := fun _ => rfl
        c1_0 := fun _ => rfl }
    ·
      have hy4 : b4 = false := by
        cases h : b4 with
        | false => rfl
        | true =>
          have h1 := (H.out.c4_1 h)
          have h2 : b1 = false := hn
          rw [h2] at h1
          cases h1
      have d0 : b0 = true := he { on := 0, ground := .data } (by simp) (by kernel_rfl)
      obtain rfl := H.out.k0 d0
      subst hy4
      refine wpOp_hid rfl (fun K hK => ?_)
      simp only [List.setIfInBounds_toArray, List.set_cons_succ, List.set_cons_zero]
      go_simp
      go_at_call 7
      refine (scopy_run (HR.out.next H.out.kin)).mono ?_
      rintro e w7 ⟨s2, p2, bb, q2, rfl, hr, hap, hb⟩
      refine hK.out _ _ ⟨b0, true, b2, b3, false, b5, (.pointer (some ⟨s, 0, none⟩)), (.pointer (some ⟨s2, 0, none⟩)), x30, x10, x9, rfl, ?_, ?_⟩
      · simp only [List.setIfInBounds_toArray, List.set_cons_succ, List.set_cons_zero]
      exact { H.out with
        kin := H.out.kin.trans (hb.mono H.out.kin.size)
        kc := fun _ => ⟨s2, p2, bb, q2, rfl, hr, hap⟩
        kb := fun e => (by obtain ⟨g, e1, e2, e3⟩ := H.out.kb e; exact ⟨g, e1, e2, (hb.block _ (M.heap_lt e3)).trans e3⟩)
        k4 := fun e => by cases e
        c1_0 := fun _ => d0
        c4_1 := fun _ => rfl }
    ·
      refine wpOp_hid rfl (fun K hK => ?_)
      simp only [List.setIfInBounds_toArray, List.set_cons_succ, List.set_cons_zero]
      obtain ⟨n0, n1⟩ := boxS ((H.out.kin.block _ (M.heap_lt HX8.out)).trans HX8.out)
      go_simp
      refine hK.out _ _ ⟨b0, b1, true, b3, b4, b5, x28, x29, (.agg #[.slice none 0 0, .slice none 0 0]), x10, x9, rfl, ?_, ?_⟩
      · simp only [List.setIfInBounds_toArray, List.set_cons_succ, List.set_cons_zero]
      exact { H.out with
        k2 := fun _ => rfl
        c5_2 := fun _ => rfl }
    ·
      have HB := Lib.hid (show Below wx.heap.size wx (wx.alloc (.cells #[.slice none 0 0, .slice none 0 0] 30)) from (Below.refl _ _).alloc (Nat.le_refl _) _)
      refine wpOp_hid rfl (fun K hK => ?_)
      simp only [List.setIfInBounds_toArray, List.set_cons_succ, List.set_cons_zero]
      go_simp
      refine hK.out _ _ ⟨b0, b1, b2, true, b4, b5, x28, x29, x30, (.pointer (some ⟨wx.heap.size, 0, none⟩)), x9, rfl, ?_, ?_⟩
      · simp only [List.setIfInBounds_toArray, List.set_cons_succ, List.set_cons_zero]
      exact { H.out with
        kin := H.out.kin.trans (HB.out.mono H.out.kin.size)
        kc := fun e => (by obtain ⟨s2, p2, b2, q2, e1, e2, e3⟩ := H.out.kc e; exact ⟨s2, p2, b2, q2, e1, e2.next HB.out, e3⟩)
        kb := fun _ => ⟨wx.heap.size, rfl, H.out.kin.size, heap_alloc_new wx _⟩
        c5_3 := fun _ => rfl }
    ·
      have d1 : b1 = true := he { on := 1, ground := .data } (by simp) (by kernel_rfl)
      refine wpOp_hid rfl (fun K hK => ?_)
      simp only [List.setIfInBounds_toArray, List.set_cons_succ, List.set_cons_zero]
      go_simp
      refine hK.out _ _ ⟨b0, b1, b2, b3, true, b5, x28, x29, x30, x10, x29, rfl, ?_, ?_⟩
      · simp only [List.setIfInBounds_toArray, List.set_cons_succ, List.set_cons_zero]
      exact { H.out with
        k4 := fun _ => rfl
        c4_1 := fun _ => d1
        c5_4 := fun _ => rfl }
    ·
      have d3 : b3 = true := he { on := 3, ground := .data } (by simp) (by kernel_rfl)
      have d2 : b2 = true := he { on := 2, ground := .data } (by simp) (by kernel_rfl)
      obtain rfl := H.out.k2 d2
      have d4 : b4 = true := he { on := 4, ground := .chain } (by simp) (by kernel_rfl)
      obtain ⟨g, rfl, hg1, hg2⟩ := H.out.kb d3
      have HG := Lib.hid hg2
      obtain ⟨⟨n0, n1⟩, nf, _⟩ := box2 hg2
      clear hg2
      refine wpOp_hid rfl (fun K hK => ?_)
      simp only [List.setIfInBounds_toArray, List.set_cons_succ, List.set_cons_zero]
      go_simp
      refine hK.out _ _ ⟨b0, b1, b2, b3, b4, true, x28, x29, (.agg #[.slice none 0 0, .slice none 0 0]), (.pointer (some ⟨g, 0, none⟩)), x9, rfl, ?_, ?_⟩
      · simp only [List.setIfInBounds_toArray, List.set_cons_succ, List.set_cons_zero]
      have ms : Mods (fun j => j = g) wx ((wx.setCell ⟨g, 0, none⟩ (.slice none 0 0)).setCell ⟨g, 1, none⟩ (.slice none 0 0)) := (mods_set (w := wx)).trans mods_set
      have s1 := heap_set wx g 0 (.slice none 0 0) g _ _ _ HG.out
      rw [if_pos rfl] at s1
      have s2' := heap_set _ g 1 (.slice none 0 0) g _ _ _ s1
      rw [if_pos rfl] at s2'
      exact { H.out with
        kin := H.out.kin.trans ((ms.below (B := u.heap.size) (fun j e => by omega) H.out.kin.size).mono (Nat.le_refl _))
        kc := fun e => (by obtain ⟨s2, p2, b2, q2, e1, e2, e3⟩ := H.out.kc e; exact ⟨s2, p2, b2, q2, e1, e2.far HG.out ms (by have := HR.out.bel.size; omega), e3⟩)
        kb := fun _ => ⟨g, rfl, hg1, s2'⟩
        c5_3 := fun _ => d3
        c5_2 := fun _ => d2
        c5_4 := fun _ => d4 }
  · intro listed a wx hI hall
    obtain ⟨b0, b1, b2, b3, b4, b5, x28, x29, x30, x10, x9, rfl, rfl, h⟩ := hI
    obtain rfl : b1 = true := hall 1 (by decide)
    obtain rfl : b3 = true := hall 3 (by decide)
    obtain rfl : b4 = true := hall 4 (by decide)
    obtain ⟨s2, p2, b2', q2, rfl, hc, hap⟩ := h.kc rfl
    obtain ⟨gt, rfl, hgt1, hgt2⟩ := h.kb rfl
    obtain rfl := h.k4 rfl
    have HPL : Hid (PlaySt w wx s p b q 0 ⟨[], []⟩ s2 p2 b2' q2 0 ⟨[], []⟩ g8 gt) := Lib.hid ⟨HR.out.next h.kin, hc, ⟨none, 0, none, 0, (h.kin.block _ hsz).trans HX8.out, SetsV.nil _, LstV.nil _⟩, ⟨none, 0, none, 0, hgt2, SetsV.nil _, LstV.nil _⟩, SGood.nil, by omega, hap, by omega⟩
    clear h hc hap hgt2
    simp only [List.setIfInBounds_toArray, List.set_cons_succ, List.set_cons_zero]
    go_wp2_with fail
    go_loopw [9, 11] (fun cv iv wr => ∃ (i s2 p2 b2 q2 nc : Nat) (C : Ses), cv = .pointer (some ⟨s2, 0, none⟩) ∧ iv = .int .i64 i ∧ i ≤ L.length ∧ PlaySt w wr s p b q i (sesRun ⟨[], []⟩ (L.take i)) s2 p2 b2 q2 nc C g8 gt) (fun _ iv _ => L.length - (intOf iv).toNat)
    case atStart => exact ⟨0, s2, p2, b2', q2, 0, ⟨[], []⟩, rfl, rfl, Nat.zero_le _, by rw [List.take_zero]; exact HPL.out⟩
    case round =>
      clear HPL
      obtain ⟨i, s3, p3, y3, q3, nc, C, rfl, rfl, hi, hp⟩ := hrel
      by_cases hlt : i < L.length
      · have hii : (i : Int) < (L.length : Int) := by omega
        obtain ⟨c, hx⟩ : ∃ c, L[i]? = some c := ⟨_, List.getElem?_eq_getElem hlt⟩
        have HN0 := Lib.hid (sesRun_take ⟨[], []⟩ L i c hx)
        obtain ⟨S, hS⟩ : ∃ S, S = sesRun ⟨[], []⟩ (L.take i) := ⟨_, rfl⟩
        have HG : Hid (SGood i S) := Lib.hid (by rw [hS]; exact sgood_take L i)
        rw [← hS] at HN0 hp
        obtain ⟨S2, R, F, hd⟩ : ∃ S2 R F, sesDo S c = (S2, R, F) := ⟨_, _, _, rfl⟩
        rw [hd] at HN0
        have HN : Hid (sesRun ⟨[], []⟩ (L.take (i + 1)) = S2) := HN0
        have HD := Lib.hid hd
        have HP := Lib.hid hp
        clear HN0 hS hd hp
        obtain ⟨g, off, rfl, hgl, hcm⟩ := HV.out.row i c hx
        have HCU : Hid (CmdAt wr g (off + i * 6) c) := Lib.hid (hcm.below HP.out.run.bel hgl)
        have hgu : g < wr.heap.size := Nat.lt_of_lt_of_le hgl HP.out.run.bel.size
        have hszc := HSZ.out c (List.mem_of_getElem? hx)
        have HINC := Lib.hid (HV.out.ok c (List.mem_of_getElem? hx))
        have HX := Lib.hid hx
        obtain ⟨hcp1, hcp2⟩ := HV.out.le
        unfold maxLen at hcp2
        clear hx
        have hsm : c.key.size ≤ 1000000 := by omega
        obtain ⟨oa, ca, oc, cc, hx8, hsa, hsc⟩ := HP.out.x.ex
        have HX9 := Lib.hid hx8
        have HSA := Lib.hid hsa
        have HSC := Lib.hid hsc
        have hg8 : g8 < wr.heap.size := M.heap_lt hx8
        clear hx8 hsa hsc HX8
        have HX8 := HX9
        clear HX9
        go_upto_region 9 with fail
        refine wp_region_inv (R9I wr g8 g off i L.length cap oa oc ca cc S S2 R F c) (by kernel_rfl) (by kernel_rfl) ?_ ?_ ?_
        · refine R9_start _ _ _ _ _ _ _ _ _ _ _ _ _ _ _ _ _ _ (fun _ _ _ _ _ _ _ => ?_)
          constructor
          all_goals (first | exact below_drawn wr | (intro e; cases e))
        ·
          intro listed a wx i o hI hil ho hn he
          obtain ⟨b0, b1, b2, b3, b4, b5, b6, b7, x37, x38, x39, x40, x41, x42, x12, rfl, rfl, h⟩ := hI
          have hin : i = 0 ∨ i = 1 ∨ i = 2 ∨ i = 3 ∨ i = 4 ∨ i = 5 ∨ i = 6 ∨ i = 7 := by
            have : i < 8 := hil
            omega
          have H := Lib.hid h
          clear h hil
          rcases hin with rfl | rfl | rfl | rfl | rfl | rfl | rfl | rfl <;> obtain rfl := Option.some.inj ho
          ·
            refine wpOp_hid rfl (fun K hK => ?_)
            simp only [List.setIfInBounds_toArray, List.set_cons_succ, List.set_cons_zero]
            obtain ⟨n0, n1⟩ := boxS ((H.out.kin.block _ hg8).trans HX8.out)
            go_simp
            refine hK.out _ _ ⟨true, b1, b2, b3, b4, b5, b6, b7, (.agg #[.slice oa S.A.length ca, .slice oc S.C.length cc]), x38, x39, x40, x41, x42, x12, rfl, ?_, ?_⟩
            · simp only [List.setIfInBounds_toArray, List.set_cons_succ, List.set_cons_zero]
            exact { H.out with
              k0 := fun _ => rfl
              c5_0 := fun _ => rfl }
          ·
            refine wpOp_hid rfl (fun K hK => ?_)
            simp only [List.setIfInBounds_toArray, List.set_cons_succ, List.set_cons_zero]
            go_simp
            refine hK.out _ _ ⟨b0, true, b2, b3, b4, b5, b6, b7, x37, (.slice (some ⟨g, off, none⟩) L.length cap), x39, x40, x41, x42, x12, rfl, ?_, ?_⟩
            · simp only [List.setIfInBounds_toArray, List.set_cons_succ, List.set_cons_zero]
            exact { H.out with
              k1 := fun _ => rfl
              c3_1 := fun _ => rfl }
          ·
            refine wpOp_hid rfl (fun K hK => ?_)
            simp only [List.setIfInBounds_toArray, List.set_cons_succ, List.set_cons_zero]
            go_simp
            refine hK.out _ _ ⟨b0, b1, true, b3, b4, b5, b6, b7, x37, x38, (.int .i64 (i : Int)), x40, x41, x42, x12, rfl, ?_, ?_⟩
            · simp only [List.setIfInBounds_toArray, List.set_cons_succ, List.set_cons_zero]
            exact { H.out with
              k2 := fun _ => rfl
              c3_2 := fun _ => rfl }
          ·
            have d1 : b1 = true := he { on := 1, ground := .data } (by simp) (by kernel_rfl)
            obtain rfl := H.out.k1 d1
            have d2 : b2 = true := he { on := 2, ground := .data } (by simp) (by kernel_rfl)
            obtain rfl := H.out.k2 d2
            refine wpOp_hid rfl (fun K hK => ?_)
            simp only [List.setIfInBounds_toArray, List.set_cons_succ, List.set_cons_zero]
            go_simp
            refine hK.out _ _ ⟨b0, b1, b2, true, b4, b5, b6, b7, x37, (.slice (some ⟨g, off, none⟩) L.length cap), (.int .i64 (i : Int)), (.pointer (some ⟨g, off + i * 6, none⟩)), x41, x42, x12, rfl, ?_, ?_⟩
            · simp only [List.setIfInBounds_toArray, List.set_cons_succ, List.set_cons_zero]
            exact { H.out with
              k3 := fun _ => rfl
              c3_1 := fun _ => d1
              c3_2 := fun _ => d2
              c4_3 := fun _ => rfl }
          ·
            have d3 : b3 = true := he { on := 3, ground := .data } (by simp) (by kernel_rfl)
            obtain rfl := H.out.k3 d3
            refine wpOp_hid rfl (fun K hK => ?_)
            simp only [List.setIfInBounds_toArray, List.set_cons_succ, List.set_cons_zero]
            obtain ⟨c0, c1, c2, c3, c4, c5⟩ := HCU.out.below H.out.kin hgu
            go_simp
            refine hK.out _ _ ⟨b0, b1, b2, b3, true, b5, b6, b7, x37, x38, x39, (.pointer (some ⟨g, off + i * 6, none⟩)), (cmdV c), x42, x12, rfl, ?_, ?_⟩
            · simp only [List.setIfInBounds_toArray, List.set_cons_succ, List.set_cons_zero]
            exact { H.out with
              k4 := fun _ => rfl
              c4_3 := fun _ => d3
              c5_4 := fun _ => rfl }
          ·
            have hy7 : b7 = false := by
              cases h : b7 with
              | false => rfl
              | true =>
                have h1 := (H.out.c7_5 h)
                have h2 : b5 = false := hn
                rw [h2] at h1
                cases h1
            have d0 : b0 = true := he { on := 0, ground := .data } (by simp) (by kernel_rfl)
            obtain rfl := H.out.k0 d0
            have d4 : b4 = true := he { on := 4, ground := .data } (by simp) (by kernel_rfl)
            obtain rfl := H.out.k4 d4
            subst hy7
            refine wpOp_hid rfl (fun K hK => ?_)
            simp only [List.setIfInBounds_toArray, List.set_cons_succ, List.set_cons_zero]
            go_simp
            go_at_call 8
            refine (sref_any S oa oc ca cc c wx (HSA.out.below H.out.kin) (HSC.out.below H.out.kin) hsm i HG.out (by omega) S2 R F HD.out).mono ?_
            rintro e w7 ⟨oy, cy, oz, cz, rfl, hy, hz, hb⟩
            refine hK.out _ _ ⟨b0, b1, b2, b3, b4, true, b6, false, (.agg #[.slice oa S.A.length ca, .slice oc S.C.length cc]), x38, x39, x40, (cmdV c), (.agg #[.slice oy S2.A.length cy, .slice oz S2.C.length cz, .int .i64 R.code, .string R.val, .int .i64 R.rev, .bool F]), x12, rfl, ?_, ?_⟩
            · simp only [List.setIfInBounds_toArray, List.set_cons_succ, List.set_cons_zero]
            exact { H.out with
              kin := H.out.kin.trans (hb.mono H.out.kin.size)
              kt := fun _ _ => ⟨oy, cy, oz, cz, rfl, hy, hz⟩
              kb := fun e1 e2 => (by obtain ⟨g9, e3, e4, e5⟩ := H.out.kb e1 e2; exact ⟨g9, e3, e4, (hb.block _ (M.heap_lt e5)).trans e5⟩)
              kz := fun e => by cases e
              c5_0 := fun _ => d0
              c5_4 := fun _ => d4
              c7_5 := fun _ => rfl }
          ·
            have hy7 : b7 = false := by
              cases h : b7 with
              | false => rfl
              | true =>
                have h1 := (H.out.c7_6 h)
                have h2 : b6 = false := hn
                rw [h2] at h1
                cases h1
            subst hy7
            have HB := Lib.hid (show Below wx.heap.size wx (wx.alloc (.cells #[.slice none 0 0, .slice none 0 0, .int .i64 0, .string ⟨#[]⟩, .int .i64 0, .bool false] 35)) from (Below.refl _ _).alloc (Nat.le_refl _) _)
            refine wpOp_hid rfl (fun K hK => ?_)
            simp only [List.setIfInBounds_toArray, List.set_cons_succ, List.set_cons_zero]
            go_simp
            refine hK.out _ _ ⟨b0, b1, b2, b3, b4, b5, true, false, x37, x38, x39, x40, x41, x42, (.pointer (some ⟨wx.heap.size, 0, none⟩)), rfl, ?_, ?_⟩
            · simp only [List.setIfInBounds_toArray, List.set_cons_succ, List.set_cons_zero]
            exact { H.out with
              kin := H.out.kin.trans (HB.out.mono H.out.kin.size)
              kt := fun e1 e2 => (by obtain ⟨oy, cy, oz, cz, e3, e4, e5⟩ := H.out.kt e1 e2; exact ⟨oy, cy, oz, cz, e3, e4.below HB.out, e5.below HB.out⟩)
              kb := fun _ _ => ⟨wx.heap.size, rfl, H.out.kin.size, heap_alloc_new wx _⟩
              kz := fun e => by cases e
              c7_6 := fun _ => rfl }
          ·
            have hst : b7 = false := hn
            have d6 : b6 = true := he { on := 6, ground := .data } (by simp) (by kernel_rfl)
            have d5 : b5 = true := he { on := 5, ground := .data } (by simp) (by kernel_rfl)
            subst hst
            obtain ⟨oy, cy, oz, cz, rfl, hy, hz⟩ := H.out.kt d5 rfl
            obtain ⟨g9, rfl, hg1, hg9⟩ := H.out.kb d6 rfl
            have HG9 := Lib.hid hg9
            have HY := Lib.hid hy
            have HZ := Lib.hid hz
            obtain ⟨⟨n0, n1, n2, n3, n4, n5⟩, nf⟩ := box6 hg9
            clear hg9 hy hz
            refine wpOp_hid rfl (fun K hK => ?_)
            simp only [List.setIfInBounds_toArray, List.set_cons_succ, List.set_cons_zero]
            go_simp
            refine hK.out _ _ ⟨b0, b1, b2, b3, b4, b5, b6, true, x37, x38, x39, x40, x41, (.agg #[.slice oy S2.A.length cy, .slice oz S2.C.length cz, .int .i64 R.code, .string R.val, .int .i64 R.rev, .bool F]), (.pointer (some ⟨g9, 0, none⟩)), rfl, ?_, ?_⟩
            · simp only [List.setIfInBounds_toArray, List.set_cons_succ, List.set_cons_zero]
            have ms : Mods (fun j => j = g9) wx ((((((wx.setCell ⟨g9, 0, none⟩ (.slice oy S2.A.length cy)).setCell ⟨g9, 1, none⟩ (.slice oz S2.C.length cz)).setCell ⟨g9, 2, none⟩ (.int .i64 R.code)).setCell ⟨g9, 3, none⟩ (.string R.val)).setCell ⟨g9, 4, none⟩ (.int .i64 R.rev)).setCell ⟨g9, 5, none⟩ (.bool F)) := mods6
            have s1 := heap_set _ g9 0 (.slice oy S2.A.length cy) g9 _ _ _ HG9.out
            rw [if_pos rfl] at s1
            have s2 := heap_set _ g9 1 (.slice oz S2.C.length cz) g9 _ _ _ s1
            rw [if_pos rfl] at s2
            have s3 := heap_set _ g9 2 (.int .i64 R.code) g9 _ _ _ s2
            rw [if_pos rfl] at s3
            have s4 := heap_set _ g9 3 (.string R.val) g9 _ _ _ s3
            rw [if_pos rfl] at s4
            have s5 := heap_set _ g9 4 (.int .i64 R.rev) g9 _ _ _ s4
            rw [if_pos rfl] at s5
            have s6 := heap_set _ g9 5 (.bool F) g9 _ _ _ s5
            rw [if_pos rfl] at s6
            exact { H.out with
              kin := H.out.kin.trans ((ms.below (B := wr.heap.size) (fun j e => by omega) H.out.kin.size).mono (Nat.le_refl _))
              kt := fun _ e => by cases e
              kb := fun _ e => by cases e
              kz := fun _ => ⟨g9, oy, cy, oz, cz, rfl, hg1, s6, HY.out.apart HG9.out ms, HZ.out.apart9 HG9.out ms⟩
              c7_6 := fun _ => d6
              c7_5 := fun _ => d5 }
        · intro listed a wy hI hall
          obtain ⟨b0, b1, b2, b3, b4, b5, b6, b7, x37, x38, x39, x40, x41, x42, x12, rfl, rfl, h⟩ := hI
          obtain rfl : b7 = true := hall 7 (by decide)
          obtain ⟨g9, oy, cy, oz, cz, rfl, hg1, hg9, hy, hz⟩ := h.kz rfl
          have HP2 := Lib.hid (HP.out.next h.kin)
          have HK := Lib.hid h.kin
          have HG9 := Lib.hid hg9
          have HY := Lib.hid hy
          have HZ := Lib.hid hz
          clear h hg9 hy hz hall
          simp only [List.setIfInBounds_toArray, List.set_cons_succ, List.set_cons_zero]
          have hx8 := (HK.out.block _ hg8).trans HX8.out
          obtain ⟨⟨n0, n1⟩, nf, _⟩ := box2 hx8
          obtain ⟨⟨m0, m1, m2, m3, m4, m5⟩, mf⟩ := box6 HG9.out
          go_upto_region 11 with fail
          obtain ⟨u3, hw⟩ : ∃ x, x = (wy.setCell ⟨g8, 0, none⟩ (.slice oy S2.A.length cy)).setCell ⟨g8, 1, none⟩ (.slice oz S2.C.length cz) := ⟨_, rfl⟩
          rw [← hw]
          have ms : Mods (fun j => j = g8) wy u3 := by rw [hw]; exact (mods_set (w := wy)).trans mods_set
          have s1 := heap_set wy g8 0 (.slice oy S2.A.length cy) g8 _ _ _ hx8
          rw [if_pos rfl] at s1
          have s2' := heap_set _ g8 1 (.slice oz S2.C.length cz) g8 _ _ _ s1
          rw [if_pos rfl, ← hw] at s2'
          have HPR := Lib.hid (play_ref HP2.out hgw HY.out HZ.out ms s2')
          have HG9b := Lib.hid (ms.heap HG9.out (by omega))
          have HPL2 := Lib.hid HP2.out
          clear hw hx8 s1 s2' n0 n1 nf m0 m1 m2 m3 m4 m5 mf
          obtain ⟨c0, c1, c2, c3, c4, c5⟩ := hcm.below HPR.out.1.bel hgl
          have hin := HINC.out.client
          go_wp2_with fail
          refine (sdo_run HPR.out.1 HG.out (by omega) HT.out c hsm hin S2 R F HD.out).mono ?_
          rintro e u4 ⟨rfl, hr4, hm4⟩
          have HP4 : Hid (PlaySt w u4 s p b q (i + 1) S2 s3 p3 y3 q3 nc C g8 gt) := Lib.hid (PlaySt.did HPR.out.1 HPR.out.2.1 HPR.out.2.2.1 HPR.out.2.2.2 HPL2.out.g HPL2.out.le HPL2.out.ap HPL2.out.gg hr4 hm4)
          have HG94 := Lib.hid (box_mods HPR.out.1 HG9b.out hm4)
          clear hr4 hm4 c0 c1 c2 c3 c4 c5 HG9b HPR HPL2 HP2 ms HG9 HY HZ
          go_upto_region 12 with fail
          obtain ⟨u5, hw⟩ : ∃ x, x = u4.alloc (repO R) := ⟨_, rfl⟩
          rw [← hw]
          have HP5 := Lib.hid (HP4.out.next (wy := u5) (by rw [hw]; exact (Below.refl _ _).alloc (Nat.le_refl _) _))
          have HX5 : Hid (u5.heap[u4.heap.size]? = some (repO R)) := Lib.hid (by rw [hw]; exact heap_alloc_new u4 _)
          have hg95 := ((show Below u4.heap.size u4 u5 by rw [hw]; exact (Below.refl _ _).alloc (Nat.le_refl _) _).block _ (M.heap_lt HG94.out)).trans HG94.out
          clear hw
          obtain ⟨⟨m0, m1, m2, m3, m4, m5⟩, mf⟩ := box6 hg95
          obtain ⟨⟨n0, n1, n2⟩, nf⟩ := box3 HX5.out
          have q1 := rep_same_not R.code R.val R.rev
          have q2 : (!(F == F)) = false := by cases F <;> rfl
          go_upto_region 14 with fail
          clear HP4 hg95 HX5 HG94 m0 m1 m2 m3 m4 m5 mf n0 n1 n2 nf q1 q2
          by_cases hat : (i : Int) = at_
          · have e1 : ((i : Int) == at_) = true := by rw [beq_iff_eq]; exact hat
            clear hat
            have hgtw : w.heap.size ≤ gt := by have := HR.out.bel.size; omega
            obtain ⟨oa5, ca5, oc5, cc5, hx8, hsa, hsc⟩ := HP5.out.x.ex
            obtain ⟨ta, ka, tc, kc, hxt, _, _⟩ := HP5.out.t.ex
            have hg8u : g8 < u5.heap.size := M.heap_lt hx8
            have hgtu : gt < u5.heap.size := M.heap_lt hxt
            have HX9 := Lib.hid hx8
            have HXT := Lib.hid hxt
            have HSA5 := Lib.hid hsa
            have HSC5 := Lib.hid hsc
            clear hx8 hxt hsa hsc HX8
            have HX8 := HX9
            clear HX9 HSA HSC HCU HK
            go_upto_region 15 with fail
            refine wp_region_inv (R15I w u5 s p b q (i + 1) gt oa5 oc5 ca5 cc5 S2) (by kernel_rfl) (by kernel_rfl) ?_ ?_ ?_
            · refine R15_start _ _ _ _ _ _ _ _ _ _ _ _ _ _ _ (fun _ _ _ _ => ?_)
              constructor
              all_goals (first | exact below_drawn u5 | exact fun _ => below_drawn u5 | exact Mods.of_below (below_drawn u5) | (intro e; cases e))
            ·
              intro listed a wx i o hI hil ho hn he
              obtain ⟨b0, b1, b2, b3, b4, x67, x68, x69, x9, rfl, rfl, h⟩ := hI
              have hin : i = 0 ∨ i = 1 ∨ i = 2 ∨ i = 3 ∨ i = 4 := by
                have : i < 5 := hil
                omega
              have H := Lib.hid h
              clear h hil
              rcases hin with rfl | rfl | rfl | rfl | rfl <;> obtain rfl := Option.some.inj ho
              ·
                refine wpOp_hid rfl (fun K hK => ?_)
                simp only [List.setIfInBounds_toArray, List.set_cons_succ, List.set_cons_zero]
                go_simp
                refine hK.out _ _ ⟨true, b1, b2, b3, b4, (.pointer (some ⟨s, 0, none⟩)), x68, x69, x9, rfl, ?_, ?_⟩
                · simp only [List.setIfInBounds_toArray, List.set_cons_succ, List.set_cons_zero]
                exact { H.out with
                  k0 := fun _ => rfl
                  c1_0 := fun _ => rfl }
              ·
                have hy3 : b3 = false := by
                  cases h : b3 with
                  | false => rfl
                  | true =>
                    have h1 := (H.out.c3_1 h)
                    have h2 : b1 = false := hn
                    rw [h2] at h1
                    cases h1
                have hy4 : b4 = false := by
                  cases h : b4 with
                  | false => rfl
                  | true =>
                    have h1 := (H.out.c3_1 (H.out.c4_3 h))
                    have h2 : b1 = false := hn
                    rw [h2] at h1
                    cases h1
                have d0 : b0 = true := he { on := 0, ground := .data } (by simp) (by kernel_rfl)
                obtain rfl := H.out.k0 d0
                subst hy3 hy4
                have HKQ := Lib.hid (H.out.kq rfl)
                refine wpOp_hid rfl (fun K hK => ?_)
                simp only [List.setIfInBounds_toArray, List.set_cons_succ, List.set_cons_zero]
                go_simp
                go_at_call 7
                refine (scopy_run (HP5.out.run.next HKQ.out)).mono ?_
                rintro e w7 ⟨s2, p2, y2, q2, rfl, hr, hap, hb⟩
                refine hK.out _ _ ⟨b0, true, b2, false, false, (.pointer (some ⟨s, 0, none⟩)), (.pointer (some ⟨s2, 0, none⟩)), x69, x9, rfl, ?_, ?_⟩
                · simp only [List.setIfInBounds_toArray, List.set_cons_succ, List.set_cons_zero]
                exact { H.out with
                  kq := fun _ => HKQ.out.trans (hb.mono HKQ.out.size)
                  km := Mods.of_below (HKQ.out.trans (hb.mono HKQ.out.size))
                  kc := fun _ => ⟨s2, p2, y2, q2, rfl, hr, hap⟩
                  kz := fun e => by cases e
                  k3 := fun e => by cases e
                  c1_0 := fun _ => d0
                  c3_1 := fun _ => rfl }
              ·
                have hy4 : b4 = false := by
                  cases h : b4 with
                  | false => rfl
                  | true =>
                    have h1 := (H.out.c4_2 h)
                    have h2 : b2 = false := hn
                    rw [h2] at h1
                    cases h1
                refine wpOp_hid rfl (fun K hK => ?_)
                simp only [List.setIfInBounds_toArray, List.set_cons_succ, List.set_cons_zero]
                obtain ⟨n0, n1⟩ := boxS (((H.out.kq hy4).block _ hg8u).trans HX8.out)
                go_simp
                refine hK.out _ _ ⟨b0, b1, true, b3, b4, x67, x68, (.agg #[.slice oa5 S2.A.length ca5, .slice oc5 S2.C.length cc5]), x9, rfl, ?_, ?_⟩
                · simp only [List.setIfInBounds_toArray, List.set_cons_succ, List.set_cons_zero]
                exact { H.out with
                  k2 := fun _ => rfl
                  c4_2 := fun _ => rfl }
              ·
                have d1 : b1 = true := he { on := 1, ground := .data } (by simp) (by kernel_rfl)
                refine wpOp_hid rfl (fun K hK => ?_)
                simp only [List.setIfInBounds_toArray, List.set_cons_succ, List.set_cons_zero]
                go_simp
                refine hK.out _ _ ⟨b0, b1, b2, true, b4, x67, x68, x69, x68, rfl, ?_, ?_⟩
                · simp only [List.setIfInBounds_toArray, List.set_cons_succ, List.set_cons_zero]
                exact { H.out with
                  k3 := fun _ => rfl
                  c3_1 := fun _ => d1
                  c4_3 := fun _ => rfl }
              ·
                have hst : b4 = false := hn
                have d2 : b2 = true := he { on := 2, ground := .data } (by simp) (by kernel_rfl)
                obtain rfl := H.out.k2 d2
                have d3 : b3 = true := he { on := 3, ground := .chain } (by simp) (by kernel_rfl)
                subst hst
                have HKQ := Lib.hid (H.out.kq rfl)
                have hgt := (HKQ.out.block _ hgtu).trans HXT.out
                have HGT := Lib.hid hgt
                obtain ⟨⟨n0, n1⟩, nf, _⟩ := box2 hgt
                clear hgt
                refine wpOp_hid rfl (fun K hK => ?_)
                simp only [List.setIfInBounds_toArray, List.set_cons_succ, List.set_cons_zero]
                go_simp
                refine hK.out _ _ ⟨b0, b1, b2, b3, true, x67, x68, (.agg #[.slice oa5 S2.A.length ca5, .slice oc5 S2.C.length cc5]), x9, rfl, ?_, ?_⟩
                · simp only [List.setIfInBounds_toArray, List.set_cons_succ, List.set_cons_zero]
                have ms : Mods (fun j => j = gt) wx ((wx.setCell ⟨gt, 0, none⟩ (.slice oa5 S2.A.length ca5)).setCell ⟨gt, 1, none⟩ (.slice oc5 S2.C.length cc5)) := (mods_set (w := wx)).trans mods_set
                have s1 := heap_set wx gt 0 (.slice oa5 S2.A.length ca5) gt _ _ _ HGT.out
                rw [if_pos rfl] at s1
                have s2' := heap_set _ gt 1 (.slice oc5 S2.C.length cc5) gt _ _ _ s1
                rw [if_pos rfl] at s2'
                exact { H.out with
                  kq := fun e => by cases e
                  km := H.out.km.trans ms
                  kc := fun e => (by obtain ⟨s2, p2, y2, q2, e1, e2, e3⟩ := H.out.kc e; exact ⟨s2, p2, y2, q2, e1, e2.far HGT.out ms hgtw, e3⟩)
                  kz := fun _ => s2'
                  c4_2 := fun _ => d2
                  c4_3 := fun _ => d3 }
            · intro listed a wz hI hall
              obtain ⟨b0, b1, b2, b3, b4, x67, x68, x69, x9, rfl, rfl, h⟩ := hI
              obtain rfl : b1 = true := hall 1 (by decide)
              obtain rfl : b3 = true := hall 3 (by decide)
              obtain rfl : b4 = true := hall 4 (by decide)
              obtain ⟨s4, p4, y4, q4, rfl, hc, hap⟩ := h.kc rfl
              obtain rfl := h.k3 rfl
              have HP6 := Lib.hid (play_copy HP5.out hgtw HX8.out HSA5.out HSC5.out h.km (h.kz rfl) hc hap (by have := sgood_take L (i + 1); rw [HN.out] at this; exact this) (by omega))
              clear h hc hap hall
              simp only [List.setIfInBounds_toArray, List.set_cons_succ, List.set_cons_zero]
              go_wp2_with fail
              go_roundw
              case rel => exact ⟨i + 1, s4, p4, y4, q4, i + 1, S2, rfl, by go_num, by omega, by rw [HN.out]; exact HP6.out⟩
              case measure => simp [intOf]; omega
          · have e1 : ((i : Int) == at_) = false := by rw [beq_eq_false_iff_ne]; exact hat
            clear hat
            go_wp2_with fail
            go_roundw
            case rel => exact ⟨i + 1, s3, p3, y3, q3, nc, C, rfl, by go_num, by omega, by rw [HN.out]; exact HP5.out⟩
            case measure => simp [intOf]; omega
      · obtain rfl : i = L.length := by omega
        have hii : ¬ (L.length : Int) < (L.length : Int) := by omega
        rw [List.take_of_length_le (Nat.le_refl _)] at hp
        obtain ⟨S, hS⟩ : ∃ S, S = sesRun ⟨[], []⟩ L := ⟨_, rfl⟩
        have HGS : Hid (SGood L.length S) := Lib.hid (by have := sgood_take L L.length; rw [List.take_of_length_le (Nat.le_refl _)] at this; rw [hS]; exact this)
        rw [← hS] at hp
        have HP := Lib.hid hp
        clear hp hS
        obtain ⟨ls, hls⟩ : ∃ x, seqL (lookC S.C client) = x := ⟨_, rfl⟩
        obtain ⟨lr, hlr⟩ : ∃ x, repL (lookC S.C client) = x := ⟨_, rfl⟩
        obtain ⟨is, his⟩ : ∃ x, (lookC S.C client).isSome = x := ⟨_, rfl⟩
        have HLS := Lib.hid hls
        have HLR := Lib.hid hlr
        have HIS := Lib.hid his
        clear hls hlr his HX8
        go_wp2_with fail
        refine (last_run HP.out.run client HI.out ls lr is HLS.out HLR.out HIS.out).mono ?_
        rintro e u1 ⟨rfl, _, hb1⟩
        have HP1 := Lib.hid (HP.out.next hb1)
        clear hb1
        go_upto_region 17 with fail
        obtain ⟨u2, hw⟩ : ∃ x, x = u1.alloc (repO lr) := ⟨_, rfl⟩
        rw [← hw]
        have HP2 := Lib.hid (HP1.out.next (wy := u2) (by rw [hw]; exact (Below.refl _ _).alloc (Nat.le_refl _) _))
        have HX2 : Hid (u2.heap[u1.heap.size]? = some (repO lr)) := Lib.hid (by rw [hw]; exact heap_alloc_new u1 _)
        clear hw HP HP1
        obtain ⟨oa, ca, oc, cc, hx8, hsa, hsc⟩ := HP2.out.x.ex
        obtain ⟨⟨n0, n1⟩, nf, _⟩ := box2 hx8
        have HX8 := Lib.hid hx8
        have HSA := Lib.hid hsa
        have HSC := Lib.hid hsc
        clear hx8 hsa hsc
        obtain ⟨at0, hat0⟩ : ∃ x, atC S.C client = x := ⟨_, rfl⟩
        go_wp2_with fail
        refine (sat_any S.C oa oc S.A.length ca cc client u2 HSC.out at0 hat0).mono ?_
        rintro e u3 ⟨rfl, hb3⟩
        have HP3 := Lib.hid (HP2.out.next hb3)
        have HX3 := Lib.hid ((hb3.block _ (M.heap_lt HX2.out)).trans HX2.out)
        have HX83 := Lib.hid ((hb3.block _ (M.heap_lt HX8.out)).trans HX8.out)
        have HSC3 := Lib.hid (HSC.out.below hb3)
        have HAT := Lib.hid hat0
        clear hb3 n0 n1 nf HX2 HX8 HSA HSC HP2 hat0
        obtain ⟨l1, l2, l3⟩ := last_end S.C client
        go_upto_region 18 with fail
        go_cut [119] (fun bv wx => bv = .bool false ∧ Below u3.heap.size u3 wx)
        case first =>
          cases hlk : lookC S.C client with
          | none =>
            rw [hlk] at l1 l2
            obtain ⟨rfl, rfl⟩ : ls = 0 ∧ lr = Rep.zero := ⟨by rw [← HLS.out, hlk]; rfl, by rw [← HLR.out, hlk]; rfl⟩
            obtain rfl : is = false := by rw [← HIS.out, hlk]; rfl
            have hneg0 : ¬ (0 : Int) ≤ at0 := by rw [← HAT.out]; simpa using l1
            have hneg2 : decide (0 ≤ at0) = false := decide_eq_false hneg0
            have hneg3 : (decide (at0 ≥ 0)) = false := decide_eq_false hneg0
            clear l1 l2 l3 hneg0
            have k0 : ∀ x : Kin u3, x.w.cell? ⟨u1.heap.size, 0, none⟩ = some (.int .i64 0) := fun x => (x.h.cell (p := ⟨_, _, none⟩) (M.heap_lt HX3.out)).trans (box3 HX3.out).1.1
            have k1 : ∀ x : Kin u3, x.w.cell? ⟨u1.heap.size, 1, none⟩ = some (.string ⟨#[]⟩) := fun x => (x.h.cell (p := ⟨_, _, none⟩) (M.heap_lt HX3.out)).trans (box3 HX3.out).1.2.1
            have k2 : ∀ x : Kin u3, x.w.cell? ⟨u1.heap.size, 2, none⟩ = some (.int .i64 0) := fun x => (x.h.cell (p := ⟨_, _, none⟩) (M.heap_lt HX3.out)).trans (box3 HX3.out).1.2.2
            refine wp_region_kin (by kernel_rfl) (by kernel_rfl) ?_
            repeat (go_big_quiet_step (fail))
            refine wpQuiet_nil ?_
            intro _ hxx
            obtain ⟨xk, rfl⟩ := hxx
            have HBK := Lib.hid xk.h
            clear k0 k1 k2
            go_wp2_with fail
            go_meet
            case rel => exact ⟨rfl, HBK.out⟩
          | some e =>
            rw [hlk] at l1
            obtain ⟨j, hj, hxe, hse, hre⟩ := l3 e hlk
            obtain rfl : e.seq = ls := by rw [← HLS.out]; exact hse.symm
            obtain rfl : e.rep = lr := by rw [← HLR.out]; exact hre.symm
            obtain rfl : is = true := by rw [← HIS.out, hlk]; rfl
            obtain rfl : at0 = (j : Int) := by rw [← HAT.out]; exact hj
            obtain ⟨bb, off, rfl, hbl, c0, c1, c2, c3, c4⟩ := HSC3.out.row j e hxe
            have hjl : (j : Int) < (S.C.length : Int) := by have := (List.getElem?_eq_some_iff.1 hxe).1; omega
            have hjz : ¬ (j : Int) < 0 := by omega
            have hcp := HSC3.out.le
            obtain ⟨hcp1, hcp2⟩ := hcp
            unfold maxLen at hcp2
            have q1 := rep_same_not e.rep.code e.rep.val e.rep.rev
            have q2 : (e.seq != e.seq) = false := by simp
            have k0 : ∀ x : Kin u3, x.w.cell? ⟨u1.heap.size, 0, none⟩ = some (.int .i64 e.rep.code) := fun x => (x.h.cell (p := ⟨_, _, none⟩) (M.heap_lt HX3.out)).trans (box3 HX3.out).1.1
            have k1 : ∀ x : Kin u3, x.w.cell? ⟨u1.heap.size, 1, none⟩ = some (.string e.rep.val) := fun x => (x.h.cell (p := ⟨_, _, none⟩) (M.heap_lt HX3.out)).trans (box3 HX3.out).1.2.1
            have k2 : ∀ x : Kin u3, x.w.cell? ⟨u1.heap.size, 2, none⟩ = some (.int .i64 e.rep.rev) := fun x => (x.h.cell (p := ⟨_, _, none⟩) (M.heap_lt HX3.out)).trans (box3 HX3.out).1.2.2
            have k3 := Kin.cell (boxS HX83.out).2
            have k4 := Kin.cell c1
            have k5 := Kin.cell c2
            have k6 := Kin.cell c3
            have k7 := Kin.cell c4
            clear l1 l2 l3 hj hse hre hxe c0 c1 c2 c3 c4 hcp1
            refine wp_region_kin (by kernel_rfl) (by kernel_rfl) ?_
            repeat (go_big_quiet_step (fail))
            refine wpQuiet_nil ?_
            intro _ hxx
            obtain ⟨xk, rfl⟩ := hxx
            have HBK := Lib.hid xk.h
            clear k0 k1 k2 k3 k4 k5 k6 k7
            go_wp2_with fail
            go_meet
            case rel => exact ⟨rfl, HBK.out⟩
        case rest =>
          obtain ⟨rfl, hcut⟩ := hcut
          have HP4 := Lib.hid (HP3.out.next hcut)
          clear hcut l1 l2 l3 HLS HLR HIS HAT HX3 HX83 HSC3 HP3
          obtain ⟨oa, ca, oc, cc, hx8, hsa, _⟩ := HP4.out.x.ex
          obtain ⟨ta, ka, tc, kc, hxt, hst, _⟩ := HP4.out.t.ex
          have HX8 := Lib.hid hx8
          have HXT0 := Lib.hid hxt
          have HSA := Lib.hid hsa
          have HST := Lib.hid hst
          have hg8 := M.heap_lt hx8
          have hgt0 := M.heap_lt hxt
          clear hx8 hsa hxt hst
          obtain ⟨R0, hR0⟩ : ∃ R0, findR S.A nul = R0 := ⟨_, rfl⟩
          obtain ⟨R1, hR1⟩ : ∃ R1, findR C.A nul = R1 := ⟨_, rfl⟩
          have HF0 := Lib.hid hR0
          have HF1 := Lib.hid hR1
          clear hR0 hR1
          have hncl := HP4.out.le
          have HR0 := Lib.hid (fun (wx : World) (hb : Below wc.heap.size wc wx) => (refall_any S.A oa ca wx (HSA.out.below hb) L.length HGS.out.app (by omega) R0 HF0.out).mono (fun e w' ⟨oo, oc, he, _, hb⟩ => (⟨oo, oc, he, hb⟩ : ∃ oo oc, e = Ending.returned (.tuple #[.slice oo S.A.length oc, repV R0]) ∧ Below wx.heap.size wx w')))
          go_upto_region 20 with fail
          refine wp_region_inv (R20I wc g8 S.A.length oa ca R0) (by kernel_rfl) (by kernel_rfl) ?_ ?_ ?_
          · refine R20_start _ _ _ _ _ _ _ _ (fun _ _ _ _ _ _ _ _ _ => ?_)
            constructor
            all_goals (first | exact below_drawn wc | (intro e; cases e))
          ·
            intro listed a wx i o hI hil ho hn he
            obtain ⟨b0, b1, b2, b3, b4, b5, b6, b7, b8, b9, x121, x122, x123, x124, x120, x125, x126, x20, x19, rfl, rfl, h⟩ := hI
            have hin : i = 0 ∨ i = 1 ∨ i = 2 ∨ i = 3 ∨ i = 4 ∨ i = 5 ∨ i = 6 ∨ i = 7 ∨ i = 8 ∨ i = 9 := by
              have : i < 10 := hil
              omega
            have H := Lib.hid h
            clear h hil
            rcases hin with rfl | rfl | rfl | rfl | rfl | rfl | rfl | rfl | rfl | rfl <;> obtain rfl := Option.some.inj ho
            ·
              refine wpOp_hid rfl (fun K hK => ?_)
              simp only [List.setIfInBounds_toArray, List.set_cons_succ, List.set_cons_zero]
              go_simp
              refine hK.out _ _ ⟨true, b1, b2, b3, b4, b5, b6, b7, b8, b9, (.pointer (some ⟨g8, 0, none⟩)), x122, x123, x124, x120, x125, x126, x20, x19, rfl, ?_, ?_⟩
              · simp only [List.setIfInBounds_toArray, List.set_cons_succ, List.set_cons_zero]
              exact { H.out with
                k0 := fun _ => rfl
                c1_0 := fun _ => rfl }
            ·
              have d0 : b0 = true := he { on := 0, ground := .data } (by simp) (by kernel_rfl)
              obtain rfl := H.out.k0 d0
              refine wpOp_hid rfl (fun K hK => ?_)
              simp only [List.setIfInBounds_toArray, List.set_cons_succ, List.set_cons_zero]
              obtain ⟨n0, n1⟩ := boxS ((H.out.kin.block _ hg8).trans HX8.out)
              go_simp
              refine hK.out _ _ ⟨b0, true, b2, b3, b4, b5, b6, b7, b8, b9, (.pointer (some ⟨g8, 0, none⟩)), (.slice oa S.A.length ca), x123, x124, x120, x125, x126, x20, x19, rfl, ?_, ?_⟩
              · simp only [List.setIfInBounds_toArray, List.set_cons_succ, List.set_cons_zero]
              exact { H.out with
                k1 := fun _ => rfl
                c1_0 := fun _ => d0
                c3_1 := fun _ => rfl }
            ·
              refine wpOp_hid rfl (fun K hK => ?_)
              simp only [List.setIfInBounds_toArray, List.set_cons_succ, List.set_cons_zero]
              go_simp
              go_at_call 13
              refine (all_any wx).mono ?_
              rintro e w7 ⟨rfl, hb⟩
              refine hK.out _ _ ⟨b0, b1, true, b3, b4, b5, b6, b7, b8, b9, x121, x122, (.agg #[.int .i64 5, .int .i64 1, .int .i64 1, .string ⟨#[]⟩, .string ⟨#[]⟩, .int .i64 0]), x124, x120, x125, x126, x20, x19, rfl, ?_, ?_⟩
              · simp only [List.setIfInBounds_toArray, List.set_cons_succ, List.set_cons_zero]
              exact { H.out with
                kin := H.out.kin.trans (hb.mono H.out.kin.size)
                kb := fun e1 e2 => (by obtain ⟨g9, e3, e4, e5⟩ := H.out.kb e1 e2; exact ⟨g9, e3, e4, (hb.block _ (M.heap_lt e5)).trans e5⟩)
                kz := fun e1 => (by obtain ⟨g9, e3, e4, e5⟩ := H.out.kz e1; exact ⟨g9, e3, e4, (hb.block _ (M.heap_lt e5)).trans e5⟩)
                k2 := fun _ => rfl
                c3_2 := fun _ => rfl }
            ·
              have d1 : b1 = true := he { on := 1, ground := .data } (by simp) (by kernel_rfl)
              obtain rfl := H.out.k1 d1
              have d2 : b2 = true := he { on := 2, ground := .data } (by simp) (by kernel_rfl)
              obtain rfl := H.out.k2 d2
              refine wpOp_hid rfl (fun K hK => ?_)
              simp only [List.setIfInBounds_toArray, List.set_cons_succ, List.set_cons_zero]
              go_simp
              go_at_call 12
              refine (HR0.out wx H.out.kin).mono ?_
              rintro e w7 ⟨oo, oc, rfl, hb⟩
              refine hK.out _ _ ⟨b0, b1, b2, true, b4, b5, b6, b7, b8, b9, x121, (.slice oa S.A.length ca), (.agg #[.int .i64 5, .int .i64 1, .int .i64 1, .string ⟨#[]⟩, .string ⟨#[]⟩, .int .i64 0]), (.tuple #[.slice oo S.A.length oc, .agg #[.int .i64 R0.code, .string R0.val, .int .i64 R0.rev]]), x120, x125, x126, x20, x19, rfl, ?_, ?_⟩
              · simp only [List.setIfInBounds_toArray, List.set_cons_succ, List.set_cons_zero]
              exact { H.out with
                kin := H.out.kin.trans (hb.mono H.out.kin.size)
                kb := fun e1 e2 => (by obtain ⟨g9, e3, e4, e5⟩ := H.out.kb e1 e2; exact ⟨g9, e3, e4, (hb.block _ (M.heap_lt e5)).trans e5⟩)
                kz := fun e1 => (by obtain ⟨g9, e3, e4, e5⟩ := H.out.kz e1; exact ⟨g9, e3, e4, (hb.block _ (M.heap_lt e5)).trans e5⟩)
                kt := fun _ => ⟨oo, oc, rfl⟩
                c3_1 := fun _ => d1
                c3_2 := fun _ => d2
                c4_3 := fun _ => rfl
                c8_3 := fun _ => rfl }
            ·
              have d3 : b3 = true := he { on := 3, ground := .data } (by simp) (by kernel_rfl)
              obtain ⟨oo, oc, rfl⟩ := H.out.kt d3
              refine wpOp_hid rfl (fun K hK => ?_)
              simp only [List.setIfInBounds_toArray, List.set_cons_succ, List.set_cons_zero]
              go_simp
              refine hK.out _ _ ⟨b0, b1, b2, b3, true, b5, b6, b7, b8, b9, x121, x122, x123, (.tuple #[.slice oo S.A.length oc, .agg #[.int .i64 R0.code, .string R0.val, .int .i64 R0.rev]]), (.tuple #[.slice oo S.A.length oc, .agg #[.int .i64 R0.code, .string R0.val, .int .i64 R0.rev]]), x125, x126, x20, x19, rfl, ?_, ?_⟩
              · simp only [List.setIfInBounds_toArray, List.set_cons_succ, List.set_cons_zero]
              exact { H.out with
                km := fun _ => ⟨oo, oc, rfl⟩
                c4_3 := fun _ => d3
                c5_4 := fun _ => rfl
                c6_4 := fun _ => rfl }
            ·
              have d4 : b4 = true := he { on := 4, ground := .data } (by simp) (by kernel_rfl)
              obtain ⟨oo, oc, rfl⟩ := H.out.km d4
              refine wpOp_hid rfl (fun K hK => ?_)
              simp only [List.setIfInBounds_toArray, List.set_cons_succ, List.set_cons_zero]
              go_simp
              refine hK.out _ _ ⟨b0, b1, b2, b3, b4, true, b6, b7, b8, b9, x121, x122, x123, x124, (.tuple #[.slice oo S.A.length oc, .agg #[.int .i64 R0.code, .string R0.val, .int .i64 R0.rev]]), (.slice oo S.A.length oc), x126, x20, x19, rfl, ?_, ?_⟩
              · simp only [List.setIfInBounds_toArray, List.set_cons_succ, List.set_cons_zero]
              exact { H.out with
                ke := fun _ => ⟨oo, oc, rfl⟩
                c5_4 := fun _ => d4
                c8_5 := fun _ => rfl }
            ·
              have d4 : b4 = true := he { on := 4, ground := .data } (by simp) (by kernel_rfl)
              obtain ⟨oo, oc, rfl⟩ := H.out.km d4
              refine wpOp_hid rfl (fun K hK => ?_)
              simp only [List.setIfInBounds_toArray, List.set_cons_succ, List.set_cons_zero]
              go_simp
              refine hK.out _ _ ⟨b0, b1, b2, b3, b4, b5, true, b7, b8, b9, x121, x122, x123, x124, (.tuple #[.slice oo S.A.length oc, .agg #[.int .i64 R0.code, .string R0.val, .int .i64 R0.rev]]), x125, (.agg #[.int .i64 R0.code, .string R0.val, .int .i64 R0.rev]), x20, x19, rfl, ?_, ?_⟩
              · simp only [List.setIfInBounds_toArray, List.set_cons_succ, List.set_cons_zero]
              exact { H.out with
                k6 := fun _ => rfl
                c6_4 := fun _ => d4
                c9_6 := fun _ => rfl }
            ·
              have hy9 : b9 = false := by
                cases h : b9 with
                | false => rfl
                | true =>
                  have h1 := (H.out.c9_7 h)
                  have h2 : b7 = false := hn
                  rw [h2] at h1
                  cases h1
              subst hy9
              have hb := (show Below wx.heap.size wx (wx.alloc (.cells #[.int .i64 0, .string ⟨#[]⟩, .int .i64 0] 33)) from (Below.refl _ _).alloc (Nat.le_refl _) _)
              have HB := Lib.hid hb
              clear hb
              refine wpOp_hid rfl (fun K hK => ?_)
              simp only [List.setIfInBounds_toArray, List.set_cons_succ, List.set_cons_zero]
              go_simp
              refine hK.out _ _ ⟨b0, b1, b2, b3, b4, b5, b6, true, b8, false, x121, x122, x123, x124, x120, x125, x126, (.pointer (some ⟨wx.heap.size, 0, none⟩)), x19, rfl, ?_, ?_⟩
              · simp only [List.setIfInBounds_toArray, List.set_cons_succ, List.set_cons_zero]
              exact { H.out with
                kin := H.out.kin.trans (HB.out.mono H.out.kin.size)
                kb := fun _ _ => ⟨wx.heap.size, rfl, H.out.kin.size, heap_alloc_new wx _⟩
                kz := fun e => by cases e
                c9_7 := fun _ => rfl }
            ·
              have d5 : b5 = true := he { on := 5, ground := .data } (by simp) (by kernel_rfl)
              have d3 : b3 = true := he { on := 3, ground := .chain } (by simp) (by kernel_rfl)
              obtain ⟨oo, oc, rfl⟩ := H.out.ke d5
              refine wpOp_hid rfl (fun K hK => ?_)
              simp only [List.setIfInBounds_toArray, List.set_cons_succ, List.set_cons_zero]
              go_simp
              refine hK.out _ _ ⟨b0, b1, b2, b3, b4, b5, b6, b7, true, b9, x121, x122, x123, x124, x120, (.slice oo S.A.length oc), x126, x20, (.slice oo S.A.length oc), rfl, ?_, ?_⟩
              · simp only [List.setIfInBounds_toArray, List.set_cons_succ, List.set_cons_zero]
              exact { H.out with
                c8_5 := fun _ => d5
                c8_3 := fun _ => d3
                c9_8 := fun _ => rfl }
            ·
              have hst : b9 = false := hn
              have d7 : b7 = true := he { on := 7, ground := .data } (by simp) (by kernel_rfl)
              have d6 : b6 = true := he { on := 6, ground := .data } (by simp) (by kernel_rfl)
              obtain rfl := H.out.k6 d6
              have d8 : b8 = true := he { on := 8, ground := .chain } (by simp) (by kernel_rfl)
              subst hst
              obtain ⟨g9, rfl, hg1, hg9⟩ := H.out.kb d7 rfl
              have HG9 := Lib.hid hg9
              obtain ⟨⟨n0, n1, n2⟩, nf, _⟩ := box3 hg9
              clear hg9
              refine wpOp_hid rfl (fun K hK => ?_)
              simp only [List.setIfInBounds_toArray, List.set_cons_succ, List.set_cons_zero]
              go_simp
              refine hK.out _ _ ⟨b0, b1, b2, b3, b4, b5, b6, b7, b8, true, x121, x122, x123, x124, x120, x125, (.agg #[.int .i64 R0.code, .string R0.val, .int .i64 R0.rev]), (.pointer (some ⟨g9, 0, none⟩)), x19, rfl, ?_, ?_⟩
              · simp only [List.setIfInBounds_toArray, List.set_cons_succ, List.set_cons_zero]
              have ms : Mods (fun j => j = g9) wx (((wx.setCell ⟨g9, 0, none⟩ (.int .i64 R0.code)).setCell ⟨g9, 1, none⟩ (.string R0.val)).setCell ⟨g9, 2, none⟩ (.int .i64 R0.rev)) := ((mods_set (w := wx)).trans mods_set).trans mods_set
              have s1 := heap_set _ g9 0 (.int .i64 R0.code) g9 _ _ _ HG9.out
              rw [if_pos rfl] at s1
              have s2 := heap_set _ g9 1 (.string R0.val) g9 _ _ _ s1
              rw [if_pos rfl] at s2
              have s3 := heap_set _ g9 2 (.int .i64 R0.rev) g9 _ _ _ s2
              rw [if_pos rfl] at s3
              exact { H.out with
                kin := H.out.kin.trans ((ms.below (B := wc.heap.size) (fun j e => by omega) H.out.kin.size).mono (Nat.le_refl _))
                kb := fun _ e => by cases e
                kz := fun _ => ⟨g9, rfl, hg1, s3⟩
                c9_7 := fun _ => d7
                c9_6 := fun _ => d6
                c9_8 := fun _ => d8 }
          · intro listed a v1 hI hall
            obtain ⟨b0, b1, b2, b3, b4, b5, b6, b7, b8, b9, x121, x122, x123, x124, x120, x125, x126, x20, x19, rfl, rfl, h⟩ := hI
            obtain rfl : b9 = true := hall 9 (by decide)
            obtain ⟨g20, rfl, hg20a, hg20⟩ := h.kz rfl
            have HP5 := Lib.hid (HP4.out.next h.kin)
            have HX20 := Lib.hid hg20
            have HXT := Lib.hid ((h.kin.block _ hgt0).trans HXT0.out)
            have hgt := M.heap_lt HXT.out
            have HST1 := Lib.hid (HST.out.below h.kin)
            have HK1 := Lib.hid h.kin
            clear h hall hg20 HP4 HXT0 HST HR0
            simp only [List.setIfInBounds_toArray, List.set_cons_succ, List.set_cons_zero]
            have HR1 := Lib.hid (fun (wx : World) (hb : Below v1.heap.size v1 wx) => (refall_any C.A ta ka wx (HST1.out.below hb) nc HP5.out.g.app (by omega) R1 HF1.out).mono (fun e w' ⟨oo, oc, he, _, hb⟩ => (⟨oo, oc, he, hb⟩ : ∃ oo oc, e = Ending.returned (.tuple #[.slice oo C.A.length oc, repV R1]) ∧ Below wx.heap.size wx w')))
            go_upto_region 21 with fail
            refine wp_region_inv (R21I v1 gt C.A.length ta ka R1) (by kernel_rfl) (by kernel_rfl) ?_ ?_ ?_
            · refine R21_start _ _ _ _ _ _ _ _ (fun _ _ _ _ _ _ _ _ _ => ?_)
              constructor
              all_goals (first | exact below_drawn v1 | (intro e; cases e))
            ·
              intro listed a wx i o hI hil ho hn he
              obtain ⟨b0, b1, b2, b3, b4, b5, b6, b7, b8, b9, x128, x129, x130, x131, x127, x132, x133, x22, x21, rfl, rfl, h⟩ := hI
              have hin : i = 0 ∨ i = 1 ∨ i = 2 ∨ i = 3 ∨ i = 4 ∨ i = 5 ∨ i = 6 ∨ i = 7 ∨ i = 8 ∨ i = 9 := by
                have : i < 10 := hil
                omega
              have H := Lib.hid h
              clear h hil
              rcases hin with rfl | rfl | rfl | rfl | rfl | rfl | rfl | rfl | rfl | rfl <;> obtain rfl := Option.some.inj ho
              ·
                refine wpOp_hid rfl (fun K hK => ?_)
                simp only [List.setIfInBounds_toArray, List.set_cons_succ, List.set_cons_zero]
                go_simp
                refine hK.out _ _ ⟨true, b1, b2, b3, b4, b5, b6, b7, b8, b9, (.pointer (some ⟨gt, 0, none⟩)), x129, x130, x131, x127, x132, x133, x22, x21, rfl, ?_, ?_⟩
                · simp only [List.setIfInBounds_toArray, List.set_cons_succ, List.set_cons_zero]
                exact { H.out with
                  k0 := fun _ => rfl
                  c1_0 := fun _ => rfl }
              ·
                have d0 : b0 = true := he { on := 0, ground := .data } (by simp) (by kernel_rfl)
                obtain rfl := H.out.k0 d0
                refine wpOp_hid rfl (fun K hK => ?_)
                simp only [List.setIfInBounds_toArray, List.set_cons_succ, List.set_cons_zero]
                obtain ⟨n0, n1⟩ := boxS ((H.out.kin.block _ hgt).trans HXT.out)
                go_simp
                refine hK.out _ _ ⟨b0, true, b2, b3, b4, b5, b6, b7, b8, b9, (.pointer (some ⟨gt, 0, none⟩)), (.slice ta C.A.length ka), x130, x131, x127, x132, x133, x22, x21, rfl, ?_, ?_⟩
                · simp only [List.setIfInBounds_toArray, List.set_cons_succ, List.set_cons_zero]
                exact { H.out with
                  k1 := fun _ => rfl
                  c1_0 := fun _ => d0
                  c3_1 := fun _ => rfl }
              ·
                refine wpOp_hid rfl (fun K hK => ?_)
                simp only [List.setIfInBounds_toArray, List.set_cons_succ, List.set_cons_zero]
                go_simp
                go_at_call 13
                refine (all_any wx).mono ?_
                rintro e w7 ⟨rfl, hb⟩
                refine hK.out _ _ ⟨b0, b1, true, b3, b4, b5, b6, b7, b8, b9, x128, x129, (.agg #[.int .i64 5, .int .i64 1, .int .i64 1, .string ⟨#[]⟩, .string ⟨#[]⟩, .int .i64 0]), x131, x127, x132, x133, x22, x21, rfl, ?_, ?_⟩
                · simp only [List.setIfInBounds_toArray, List.set_cons_succ, List.set_cons_zero]
                exact { H.out with
                  kin := H.out.kin.trans (hb.mono H.out.kin.size)
                  kb := fun e1 e2 => (by obtain ⟨g9, e3, e4, e5⟩ := H.out.kb e1 e2; exact ⟨g9, e3, e4, (hb.block _ (M.heap_lt e5)).trans e5⟩)
                  kz := fun e1 => (by obtain ⟨g9, e3, e4, e5⟩ := H.out.kz e1; exact ⟨g9, e3, e4, (hb.block _ (M.heap_lt e5)).trans e5⟩)
                  k2 := fun _ => rfl
                  c3_2 := fun _ => rfl }
              ·
                have d1 : b1 = true := he { on := 1, ground := .data } (by simp) (by kernel_rfl)
                obtain rfl := H.out.k1 d1
                have d2 : b2 = true := he { on := 2, ground := .data } (by simp) (by kernel_rfl)
                obtain rfl := H.out.k2 d2
                refine wpOp_hid rfl (fun K hK => ?_)
                simp only [List.setIfInBounds_toArray, List.set_cons_succ, List.set_cons_zero]
                go_simp
                go_at_call 12
                refine (HR1.out wx H.out.kin).mono ?_
                rintro e w7 ⟨oo, oc, rfl, hb⟩
                refine hK.out _ _ ⟨b0, b1, b2, true, b4, b5, b6, b7, b8, b9, x128, (.slice ta C.A.length ka), (.agg #[.int .i64 5, .int .i64 1, .int .i64 1, .string ⟨#[]⟩, .string ⟨#[]⟩, .int .i64 0]), (.tuple #[.slice oo C.A.length oc, .agg #[.int .i64 R1.code, .string R1.val, .int .i64 R1.rev]]), x127, x132, x133, x22, x21, rfl, ?_, ?_⟩
                · simp only [List.setIfInBounds_toArray, List.set_cons_succ, List.set_cons_zero]
                exact { H.out with
                  kin := H.out.kin.trans (hb.mono H.out.kin.size)
                  kb := fun e1 e2 => (by obtain ⟨g9, e3, e4, e5⟩ := H.out.kb e1 e2; exact ⟨g9, e3, e4, (hb.block _ (M.heap_lt e5)).trans e5⟩)
                  kz := fun e1 => (by obtain ⟨g9, e3, e4, e5⟩ := H.out.kz e1; exact ⟨g9, e3, e4, (hb.block _ (M.heap_lt e5)).trans e5⟩)
                  kt := fun _ => ⟨oo, oc, rfl⟩
                  c3_1 := fun _ => d1
                  c3_2 := fun _ => d2
                  c4_3 := fun _ => rfl
                  c8_3 := fun _ => rfl }
              ·
                have d3 : b3 = true := he { on := 3, ground := .data } (by simp) (by kernel_rfl)
                obtain ⟨oo, oc, rfl⟩ := H.out.kt d3
                refine wpOp_hid rfl (fun K hK => ?_)
                simp only [List.setIfInBounds_toArray, List.set_cons_succ, List.set_cons_zero]
                go_simp
                refine hK.out _ _ ⟨b0, b1, b2, b3, true, b5, b6, b7, b8, b9, x128, x129, x130, (.tuple #[.slice oo C.A.length oc, .agg #[.int .i64 R1.code, .string R1.val, .int .i64 R1.rev]]), (.tuple #[.slice oo C.A.length oc, .agg #[.int .i64 R1.code, .string R1.val, .int .i64 R1.rev]]), x132, x133, x22, x21, rfl, ?_, ?_⟩
                · simp only [List.setIfInBounds_toArray, List.set_cons_succ, List.set_cons_zero]
                exact { H.out with
                  km := fun _ => ⟨oo, oc, rfl⟩
                  c4_3 := fun _ => d3
                  c5_4 := fun _ => rfl
                  c6_4 := fun _ => rfl }
              ·
                have d4 : b4 = true := he { on := 4, ground := .data } (by simp) (by kernel_rfl)
                obtain ⟨oo, oc, rfl⟩ := H.out.km d4
                refine wpOp_hid rfl (fun K hK => ?_)
                simp only [List.setIfInBounds_toArray, List.set_cons_succ, List.set_cons_zero]
                go_simp
                refine hK.out _ _ ⟨b0, b1, b2, b3, b4, true, b6, b7, b8, b9, x128, x129, x130, x131, (.tuple #[.slice oo C.A.length oc, .agg #[.int .i64 R1.code, .string R1.val, .int .i64 R1.rev]]), (.slice oo C.A.length oc), x133, x22, x21, rfl, ?_, ?_⟩
                · simp only [List.setIfInBounds_toArray, List.set_cons_succ, List.set_cons_zero]
                exact { H.out with
                  ke := fun _ => ⟨oo, oc, rfl⟩
                  c5_4 := fun _ => d4
                  c8_5 := fun _ => rfl }
              ·
                have d4 : b4 = true := he { on := 4, ground := .data } (by simp) (by kernel_rfl)
                obtain ⟨oo, oc, rfl⟩ := H.out.km d4
                refine wpOp_hid rfl (fun K hK => ?_)
                simp only [List.setIfInBounds_toArray, List.set_cons_succ, List.set_cons_zero]
                go_simp
                refine hK.out _ _ ⟨b0, b1, b2, b3, b4, b5, true, b7, b8, b9, x128, x129, x130, x131, (.tuple #[.slice oo C.A.length oc, .agg #[.int .i64 R1.code, .string R1.val, .int .i64 R1.rev]]), x132, (.agg #[.int .i64 R1.code, .string R1.val, .int .i64 R1.rev]), x22, x21, rfl, ?_, ?_⟩
                · simp only [List.setIfInBounds_toArray, List.set_cons_succ, List.set_cons_zero]
                exact { H.out with
                  k6 := fun _ => rfl
                  c6_4 := fun _ => d4
                  c9_6 := fun _ => rfl }
              ·
                have hy9 : b9 = false := by
                  cases h : b9 with
                  | false => rfl
                  | true =>
                    have h1 := (H.out.c9_7 h)
                    have h2 : b7 = false := hn
                    rw [h2] at h1
                    cases h1
                subst hy9
                have hb := (show Below wx.heap.size wx (wx.alloc (.cells #[.int .i64 0, .string ⟨#[]⟩, .int .i64 0] 33)) from (Below.refl _ _).alloc (Nat.le_refl _) _)
                have HB := Lib.hid hb
                clear hb
                refine wpOp_hid rfl (fun K hK => ?_)
                simp only [List.setIfInBounds_toArray, List.set_cons_succ, List.set_cons_zero]
                go_simp
                refine hK.out _ _ ⟨b0, b1, b2, b3, b4, b5, b6, true, b8, false, x128, x129, x130, x131, x127, x132, x133, (.pointer (some ⟨wx.heap.size, 0, none⟩)), x21, rfl, ?_, ?_⟩
                · simp only [List.setIfInBounds_toArray, List.set_cons_succ, List.set_cons_zero]
                exact { H.out with
                  kin := H.out.kin.trans (HB.out.mono H.out.kin.size)
                  kb := fun _ _ => ⟨wx.heap.size, rfl, H.out.kin.size, heap_alloc_new wx _⟩
                  kz := fun e => by cases e
                  c9_7 := fun _ => rfl }
              ·
                have d5 : b5 = true := he { on := 5, ground := .data } (by simp) (by kernel_rfl)
                have d3 : b3 = true := he { on := 3, ground := .chain } (by simp) (by kernel_rfl)
                obtain ⟨oo, oc, rfl⟩ := H.out.ke d5
                refine wpOp_hid rfl (fun K hK => ?_)
                simp only [List.setIfInBounds_toArray, List.set_cons_succ, List.set_cons_zero]
                go_simp
                refine hK.out _ _ ⟨b0, b1, b2, b3, b4, b5, b6, b7, true, b9, x128, x129, x130, x131, x127, (.slice oo C.A.length oc), x133, x22, (.slice oo C.A.length oc), rfl, ?_, ?_⟩
                · simp only [List.setIfInBounds_toArray, List.set_cons_succ, List.set_cons_zero]
                exact { H.out with
                  c8_5 := fun _ => d5
                  c8_3 := fun _ => d3
                  c9_8 := fun _ => rfl }
              ·
                have hst : b9 = false := hn
                have d7 : b7 = true := he { on := 7, ground := .data } (by simp) (by kernel_rfl)
                have d6 : b6 = true := he { on := 6, ground := .data } (by simp) (by kernel_rfl)
                obtain rfl := H.out.k6 d6
                have d8 : b8 = true := he { on := 8, ground := .chain } (by simp) (by kernel_rfl)
                subst hst
                obtain ⟨g9, rfl, hg1, hg9⟩ := H.out.kb d7 rfl
                have HG9 := Lib.hid hg9
                obtain ⟨⟨n0, n1, n2⟩, nf, _⟩ := box3 hg9
                clear hg9
                refine wpOp_hid rfl (fun K hK => ?_)
                simp only [List.setIfInBounds_toArray, List.set_cons_succ, List.set_cons_zero]
                go_simp
                refine hK.out _ _ ⟨b0, b1, b2, b3, b4, b5, b6, b7, b8, true, x128, x129, x130, x131, x127, x132, (.agg #[.int .i64 R1.code, .string R1.val, .int .i64 R1.rev]), (.pointer (some ⟨g9, 0, none⟩)), x21, rfl, ?_, ?_⟩
                · simp only [List.setIfInBounds_toArray, List.set_cons_succ, List.set_cons_zero]
                have ms : Mods (fun j => j = g9) wx (((wx.setCell ⟨g9, 0, none⟩ (.int .i64 R1.code)).setCell ⟨g9, 1, none⟩ (.string R1.val)).setCell ⟨g9, 2, none⟩ (.int .i64 R1.rev)) := ((mods_set (w := wx)).trans mods_set).trans mods_set
                have s1 := heap_set _ g9 0 (.int .i64 R1.code) g9 _ _ _ HG9.out
                rw [if_pos rfl] at s1
                have s2 := heap_set _ g9 1 (.string R1.val) g9 _ _ _ s1
                rw [if_pos rfl] at s2
                have s3 := heap_set _ g9 2 (.int .i64 R1.rev) g9 _ _ _ s2
                rw [if_pos rfl] at s3
                exact { H.out with
                  kin := H.out.kin.trans ((ms.below (B := v1.heap.size) (fun j e => by omega) H.out.kin.size).mono (Nat.le_refl _))
                  kb := fun _ e => by cases e
                  kz := fun _ => ⟨g9, rfl, hg1, s3⟩
                  c9_7 := fun _ => d7
                  c9_6 := fun _ => d6
                  c9_8 := fun _ => d8 }
            · intro listed a v2 hI hall
              obtain ⟨b0, b1, b2, b3, b4, b5, b6, b7, b8, b9, x128, x129, x130, x131, x127, x132, x133, x22, x21, rfl, rfl, h⟩ := hI
              obtain rfl : b9 = true := hall 9 (by decide)
              obtain ⟨g22, rfl, hg22a, hg22⟩ := h.kz rfl
              have HP6 := Lib.hid (HP5.out.next h.kin)
              have HY20 := Lib.hid ((h.kin.block _ (M.heap_lt HX20.out)).trans HX20.out)
              have HY22 := Lib.hid hg22
              clear h hall hg22 HP5 HX20 HXT HST1 HR1
              simp only [List.setIfInBounds_toArray, List.set_cons_succ, List.set_cons_zero]
              go_upto_region 22 with fail
              have hz1 := M.heap_lt HY20.out
              have hz2 := M.heap_lt HY22.out
              have hz3 := HP6.out.cpy.ses.slt
              have hz4 := HP6.out.cpy.ses.app.plt
              have hz5 := HP6.out.cpy.ses.app.blt
              have hz6 := HP6.out.cpy.ses.qlt
              have HS := Lib.hid (show ∀ w' : World, (w'.heap[g20]? = some (repO R0) ∧ w'.heap[g22]? = some (repO R1)) → (fun w' => w'.cell? ⟨g20, 0, none⟩ = some (.int .i64 R0.code) ∧ w'.cell? ⟨g20, 1, none⟩ = some (.string R0.val) ∧ w'.cell? ⟨g20, 2, none⟩ = some (.int .i64 R0.rev) ∧ w'.cell? ⟨g22, 0, none⟩ = some (.int .i64 R1.code) ∧ w'.cell? ⟨g22, 1, none⟩ = some (.string R1.val) ∧ w'.cell? ⟨g22, 2, none⟩ = some (.int .i64 R1.rev)) w' from fun w' h => by
                obtain ⟨⟨a0, a1, a2⟩, _⟩ := box3 h.1
                obtain ⟨⟨b0, b1, b2⟩, _⟩ := box3 h.2
                exact ⟨a0, a1, a2, b0, b1, b2⟩)
              have HBX : Hid (v2.drew.heap[g20]? = some (repO R0) ∧ v2.drew.heap[g22]? = some (repO R1)) := Lib.hid ⟨HY20.out, HY22.out⟩
              have HS0 := Lib.hid (HS.out v2.drew HBX.out)
              have BXB := Lib.hid (show ∀ w2 w3 : World, (w2.heap[g20]? = some (repO R0) ∧ w2.heap[g22]? = some (repO R1)) → Below w2.heap.size w2 w3 → (w3.heap[g20]? = some (repO R0) ∧ w3.heap[g22]? = some (repO R1)) from fun w2 w3 h hb => ⟨(hb.block _ (M.heap_lt h.1)).trans h.1, (hb.block _ (M.heap_lt h.2)).trans h.2⟩)
              have HAPP := Lib.hid (show Calls Tryz.prog 14 #[.pointer (some ⟨s, 0, none⟩)] v2.drew fun e w2 => ∃ pa ba, e = .returned (.pointer (some ⟨pa, 0, none⟩)) ∧ ((fun w' => w'.cell? ⟨g20, 0, none⟩ = some (.int .i64 R0.code) ∧ w'.cell? ⟨g20, 1, none⟩ = some (.string R0.val) ∧ w'.cell? ⟨g20, 2, none⟩ = some (.int .i64 R0.rev) ∧ w'.cell? ⟨g22, 0, none⟩ = some (.int .i64 R1.code) ∧ w'.cell? ⟨g22, 1, none⟩ = some (.string R1.val) ∧ w'.cell? ⟨g22, 2, none⟩ = some (.int .i64 R1.rev)) w2 ∧ (SRun w w2 s3 p3 y3 q3 nc C ∧ RunAt w w2 pa ba L.length S.A ∧ (w2.heap[g20]? = some (repO R0) ∧ w2.heap[g22]? = some (repO R1)) ∧ (g20 ≠ ba ∧ g22 ≠ ba ∧ s3 ≠ ba ∧ p3 ≠ ba ∧ y3 ≠ ba ∧ q3 ≠ ba))) from
                (sapp_run (HP6.out.next (Below.refl _ _).drew).run).mono fun e w2 hh => by
                  obtain ⟨pa, ba, he, ha, _, hb, hpa, hba⟩ := hh
                  have hba : v2.heap.size ≤ ba := hba
                  have hbx := BXB.out _ _ HBX.out hb
                  exact ⟨pa, ba, he, HS.out _ hbx, (HP6.out.next (Below.refl _ _).drew).cpy.next hb, ha, hbx, by omega, by omega, by omega, by omega, by omega, by omega⟩)
              have HALL := Lib.hid (show ∀ (w2 : World) (pa ba : Nat), (SRun w w2 s3 p3 y3 q3 nc C ∧ RunAt w w2 pa ba L.length S.A ∧ (w2.heap[g20]? = some (repO R0) ∧ w2.heap[g22]? = some (repO R1)) ∧ (g20 ≠ ba ∧ g22 ≠ ba ∧ s3 ≠ ba ∧ p3 ≠ ba ∧ y3 ≠ ba ∧ q3 ≠ ba)) → Calls Tryz.prog 13 #[] w2 fun e w3 => e = .returned (.agg #[.int .i64 5, .int .i64 1, .int .i64 1, .string ⟨#[]⟩, .string ⟨#[]⟩, .int .i64 0]) ∧ ((fun w' => w'.cell? ⟨g20, 0, none⟩ = some (.int .i64 R0.code) ∧ w'.cell? ⟨g20, 1, none⟩ = some (.string R0.val) ∧ w'.cell? ⟨g20, 2, none⟩ = some (.int .i64 R0.rev) ∧ w'.cell? ⟨g22, 0, none⟩ = some (.int .i64 R1.code) ∧ w'.cell? ⟨g22, 1, none⟩ = some (.string R1.val) ∧ w'.cell? ⟨g22, 2, none⟩ = some (.int .i64 R1.rev)) w3 ∧ (SRun w w3 s3 p3 y3 q3 nc C ∧ RunAt w w3 pa ba L.length S.A ∧ (w3.heap[g20]? = some (repO R0) ∧ w3.heap[g22]? = some (repO R1)) ∧ (g20 ≠ ba ∧ g22 ≠ ba ∧ s3 ≠ ba ∧ p3 ≠ ba ∧ y3 ≠ ba ∧ q3 ≠ ba))) from fun w2 pa ba h =>
                (all_any w2).mono fun e w3 hh => by
                  have hbx := BXB.out _ _ h.2.2.1 hh.2
                  exact ⟨hh.1, HS.out _ hbx, h.1.next hh.2, h.2.1.next hh.2, hbx, h.2.2.2⟩)
              have HDO := Lib.hid (show ∀ (w2 : World) (pa ba : Nat), (SRun w w2 s3 p3 y3 q3 nc C ∧ RunAt w w2 pa ba L.length S.A ∧ (w2.heap[g20]? = some (repO R0) ∧ w2.heap[g22]? = some (repO R1)) ∧ (g20 ≠ ba ∧ g22 ≠ ba ∧ s3 ≠ ba ∧ p3 ≠ ba ∧ y3 ≠ ba ∧ q3 ≠ ba)) → Calls Tryz.prog 15 #[.pointer (some ⟨pa, 0, none⟩), .agg #[.int .i64 5, .int .i64 1, .int .i64 1, .string ⟨#[]⟩, .string ⟨#[]⟩, .int .i64 0]] w2 fun e w3 => e = .returned (repV R0) ∧ ((fun w' => w'.cell? ⟨g20, 0, none⟩ = some (.int .i64 R0.code) ∧ w'.cell? ⟨g20, 1, none⟩ = some (.string R0.val) ∧ w'.cell? ⟨g20, 2, none⟩ = some (.int .i64 R0.rev) ∧ w'.cell? ⟨g22, 0, none⟩ = some (.int .i64 R1.code) ∧ w'.cell? ⟨g22, 1, none⟩ = some (.string R1.val) ∧ w'.cell? ⟨g22, 2, none⟩ = some (.int .i64 R1.rev)) w3 ∧ (SRun w w3 s3 p3 y3 q3 nc C ∧ (w3.heap[g20]? = some (repO R0) ∧ w3.heap[g22]? = some (repO R1)))) from fun w2 pa ba h =>
                (all_run h.2.1 HGS.out.app (by omega) HT.out R0 HF0.out).mono fun e w3 hh => by
                  have hbx : (w3.heap[g20]? = some (repO R0) ∧ w3.heap[g22]? = some (repO R1)) := ⟨hh.2.2.heap h.2.2.1.1 h.2.2.2.1, hh.2.2.heap h.2.2.1.2 h.2.2.2.2.1⟩
                  exact ⟨hh.1, HS.out _ hbx, h.1.apart hh.2.2 h.2.1.bge h.2.2.2.2.2.1 h.2.2.2.2.2.2.1 h.2.2.2.2.2.2.2.1 h.2.2.2.2.2.2.2.2, hbx⟩)
              have HAPP2 := Lib.hid (show ∀ (w1 : World), (SRun w w1 s3 p3 y3 q3 nc C ∧ (w1.heap[g20]? = some (repO R0) ∧ w1.heap[g22]? = some (repO R1))) → Calls Tryz.prog 14 #[.pointer (some ⟨s3, 0, none⟩)] w1 fun e w2 => ∃ pa ba, e = .returned (.pointer (some ⟨pa, 0, none⟩)) ∧ ((fun w' => w'.cell? ⟨g20, 0, none⟩ = some (.int .i64 R0.code) ∧ w'.cell? ⟨g20, 1, none⟩ = some (.string R0.val) ∧ w'.cell? ⟨g20, 2, none⟩ = some (.int .i64 R0.rev) ∧ w'.cell? ⟨g22, 0, none⟩ = some (.int .i64 R1.code) ∧ w'.cell? ⟨g22, 1, none⟩ = some (.string R1.val) ∧ w'.cell? ⟨g22, 2, none⟩ = some (.int .i64 R1.rev)) w2 ∧ (RunAt w w2 pa ba nc C.A ∧ (w2.heap[g20]? = some (repO R0) ∧ w2.heap[g22]? = some (repO R1)) ∧ (g20 ≠ ba ∧ g22 ≠ ba))) from fun w1 h =>
                (sapp_run h.1).mono fun e w2 hh => by
                  obtain ⟨pa, ba, he, ha, _, hb, hpa, hba⟩ := hh
                  have hbx := BXB.out _ _ h.2 hb
                  have y1 := M.heap_lt h.2.1
                  have y2 := M.heap_lt h.2.2
                  exact ⟨pa, ba, he, HS.out _ hbx, ha, hbx, by omega, by omega⟩)
              have HALL2 := Lib.hid (show ∀ (w2 : World) (pa ba : Nat), (RunAt w w2 pa ba nc C.A ∧ (w2.heap[g20]? = some (repO R0) ∧ w2.heap[g22]? = some (repO R1)) ∧ (g20 ≠ ba ∧ g22 ≠ ba)) → Calls Tryz.prog 13 #[] w2 fun e w3 => e = .returned (.agg #[.int .i64 5, .int .i64 1, .int .i64 1, .string ⟨#[]⟩, .string ⟨#[]⟩, .int .i64 0]) ∧ ((fun w' => w'.cell? ⟨g20, 0, none⟩ = some (.int .i64 R0.code) ∧ w'.cell? ⟨g20, 1, none⟩ = some (.string R0.val) ∧ w'.cell? ⟨g20, 2, none⟩ = some (.int .i64 R0.rev) ∧ w'.cell? ⟨g22, 0, none⟩ = some (.int .i64 R1.code) ∧ w'.cell? ⟨g22, 1, none⟩ = some (.string R1.val) ∧ w'.cell? ⟨g22, 2, none⟩ = some (.int .i64 R1.rev)) w3 ∧ (RunAt w w3 pa ba nc C.A ∧ (w3.heap[g20]? = some (repO R0) ∧ w3.heap[g22]? = some (repO R1)) ∧ (g20 ≠ ba ∧ g22 ≠ ba))) from fun w2 pa ba h =>
                (all_any w2).mono fun e w3 hh => by
                  have hbx := BXB.out _ _ h.2.1 hh.2
                  exact ⟨hh.1, HS.out _ hbx, h.1.next hh.2, hbx, h.2.2⟩)
              have HDO2 := Lib.hid (show ∀ (w2 : World) (pa ba : Nat), (RunAt w w2 pa ba nc C.A ∧ (w2.heap[g20]? = some (repO R0) ∧ w2.heap[g22]? = some (repO R1)) ∧ (g20 ≠ ba ∧ g22 ≠ ba)) → Calls Tryz.prog 15 #[.pointer (some ⟨pa, 0, none⟩), .agg #[.int .i64 5, .int .i64 1, .int .i64 1, .string ⟨#[]⟩, .string ⟨#[]⟩, .int .i64 0]] w2 fun e w3 => e = .returned (repV R1) ∧ ((fun w' => w'.cell? ⟨g20, 0, none⟩ = some (.int .i64 R0.code) ∧ w'.cell? ⟨g20, 1, none⟩ = some (.string R0.val) ∧ w'.cell? ⟨g20, 2, none⟩ = some (.int .i64 R0.rev) ∧ w'.cell? ⟨g22, 0, none⟩ = some (.int .i64 R1.code) ∧ w'.cell? ⟨g22, 1, none⟩ = some (.string R1.val) ∧ w'.cell? ⟨g22, 2, none⟩ = some (.int .i64 R1.rev)) w3 ∧ (Below w.heap.size w w3 ∧ (w3.heap[g20]? = some (repO R0) ∧ w3.heap[g22]? = some (repO R1)))) from fun w2 pa ba h =>
                (all_run h.1 HP6.out.g.app (by omega) HT.out R1 HF1.out).mono fun e w3 hh => by
                  have hbx : (w3.heap[g20]? = some (repO R0) ∧ w3.heap[g22]? = some (repO R1)) := ⟨hh.2.2.heap h.2.1.1 h.2.2.1, hh.2.2.heap h.2.1.2 h.2.2.2⟩
                  exact ⟨hh.1, HS.out _ hbx, hh.2.1.bel, hbx⟩)
              have HAW := Lib.hid (show ∀ (w2 : World), (Below w.heap.size w w2 ∧ (w2.heap[g20]? = some (repO R0) ∧ w2.heap[g22]? = some (repO R1))) → Calls Tryz.prog 5 #[] w2 fun e w3 => e = .returned (.bool true) ∧ ((fun w' => w'.cell? ⟨g20, 0, none⟩ = some (.int .i64 R0.code) ∧ w'.cell? ⟨g20, 1, none⟩ = some (.string R0.val) ∧ w'.cell? ⟨g20, 2, none⟩ = some (.int .i64 R0.rev) ∧ w'.cell? ⟨g22, 0, none⟩ = some (.int .i64 R1.code) ∧ w'.cell? ⟨g22, 1, none⟩ = some (.string R1.val) ∧ w'.cell? ⟨g22, 2, none⟩ = some (.int .i64 R1.rev)) w3 ∧ Below w.heap.size w w3) from fun w2 h =>
                (sawake_any w2 (HT.out.next h.1)).mono fun e w3 hh => by
                  have hbx := BXB.out _ _ h.2 hh.2
                  exact ⟨hh.1, HS.out _ hbx, h.1.trans (hh.2.mono h.1.size)⟩)
              have q1 := rep_same R0.code R0.val R0.rev
              have q2 := rep_same R1.code R1.val R1.rev
              clear HP6 HY20 HY22 HBX
              go_region_held3 (fun w' => w'.cell? ⟨g20, 0, none⟩ = some (.int .i64 R0.code) ∧ w'.cell? ⟨g20, 1, none⟩ = some (.string R0.val) ∧ w'.cell? ⟨g20, 2, none⟩ = some (.int .i64 R0.rev) ∧ w'.cell? ⟨g22, 0, none⟩ = some (.int .i64 R1.code) ∧ w'.cell? ⟨g22, 1, none⟩ = some (.string R1.val) ∧ w'.cell? ⟨g22, 2, none⟩ = some (.int .i64 R1.rev))
                (first | exact HS0.out | exact h6 | exact h7 | exact h8 | exact h9 | exact h10 | exact h11 | exact h12)
                ((first | (go_at_call 14; with_reducible refine HAPP.out.mono ?_; rintro e w6 ⟨pa, ba, rfl, h6, k6⟩) | (go_at_call 14; with_reducible refine (HAPP2.out _ k8).mono ?_; rintro e w9 ⟨pc, bc, rfl, h9, k9⟩) | (go_at_call 13; with_reducible refine (HALL.out _ _ _ k6).mono ?_; rintro e w7 ⟨rfl, h7, k7⟩) | (go_at_call 13; with_reducible refine (HALL2.out _ _ _ k9).mono ?_; rintro e w10 ⟨rfl, h10, k10⟩) | (go_at_call 15; with_reducible refine (HDO.out _ _ _ k7).mono ?_; rintro e w8 ⟨rfl, h8, k8⟩) | (go_at_call 15; with_reducible refine (HDO2.out _ _ _ k10).mono ?_; rintro e w11 ⟨rfl, h11, k11⟩) | (go_at_call 5; with_reducible refine (HAW.out _ k11).mono ?_; rintro e w12 ⟨rfl, h12, k12⟩)))
              have HE := Lib.hid k12
              clear h6 k6 h7 k7 h8 k8 h9 k9 h10 k10 h11 k11 h12 k12 HAPP HALL HDO HAPP2 HALL2 HDO2 HAW HS HS0 BXB q1 q2
              go_wp2_with fail
              go_ret
              exact ⟨rfl, HE.out⟩
theorem splays_law (L : List Cmd) (ao : Option Addr) (cap : Nat) (at_ client : Int) (w : World) (hV : CmdsV w.heap.size w ao cap L) (hT : TabsI w) (hI : InI client) : Calls Tryz.prog 3 #[.slice ao L.length cap, .int .i64 at_, .int .i64 client] w fun e w' => e = .returned (.bool true) ∧ Below w.heap.size w w' := by
  cases h : greatB L 60 with
  | true => exact splays_no L ao cap at_ client w hV hT hI h
  | false => exact splays_all L ao cap at_ client w hV hT hI h
end Go.Proofs.YtpeiamllkddhiaaGreatDoor.P
