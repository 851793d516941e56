/- Several texts in one. -/
import Derived.Test.YtlbkbjeajcadiaaGreatDoorMrg16
import Derived.Test.YtlbkbjeajcadiaaGreatDoorOrdA
import Derived.Test.YtlbkbjeajcadiaaGreatDoorCards
import Derived.Lib.LaidU8
import Derived.Lib.LaidTab
import Derived.LaidLaws
import Derived.PinnedBridge

/- The walk of BookWalls. -/
namespace Go.Proofs.YtlbkbjeajcadiaaGreatDoor.B
open Go.RowKit Go.Proofs.YtlbkbjeajcadiaaGreatDoor.M Go.BigFrame Go.Maps Go.Proofs.YtlbkbjeajcadiaaGreatDoor.O Go.Proofs.YtlbkbjeajcadiaaGreatDoor.P Go.Proofs.YtlbkbjeajcadiaaGreatDoor.Mp Go.Proofs.YtlbkbjeajcadiaaGreatDoor.Rw Go.Proofs.YtlbkbjeajcadiaaGreatDoor.R
set_option linter.unusedVariables false
set_option linter.unusedSimpArgs false

theorem st_ok {x : Rv} (h : recOk x = true) : 0 ≤ x.st ∧ x.st ≤ 3 := by
  unfold recOk headBad at h
  simp only [Bool.and_eq_true, Bool.not_eq_true', Bool.or_eq_false_iff, decide_eq_false_iff_not] at h
  omega
theorem Bk.st {w : World} {p n : Nat} {R : List (O.Id × Rv)} {U : Nat → Prop} (h : Bk w p n R U) : ∀ q ∈ R, q.2.st ≤ 3 := by
  obtain ⟨x, b, A, Fi, h1, h2, h3⟩ := h
  exact fun q hq => (st_ok (h1.ok q hq).2.2.1).2
/-- active, and knowing of a barrier, behind a Put -/
theorem walls_put {R R2 : List (O.Id × Rv)} {r : Rv} (hn : (R.map Prod.fst).Nodup) (hs : ∀ q ∈ R, q.2.st ≤ 3) (h : PutR R r R2) : (wallB R 3 = true → wallB R2 3 = true) ∧ (putE R r = 0 → r.cmd.kind = 6 → wallB R2 0 = true ∧ (r.st = 3 → wallB R2 3 = true)) := by
  rcases h with ⟨h1, rfl⟩ | ⟨h1, h2, h3, ao, cap, rfl⟩
  · exact ⟨fun h => h, fun h => absurd h h1⟩
  · exact ⟨fun ha => wall_keep hn rfl ha hs h3, fun _ hk => ⟨wall_put rfl hk (st_ok h2).1, fun hst => wall_put rfl hk (by omega)⟩⟩
set_option maxRecDepth 100000 in
set_option maxHeartbeats 4000000 in
theorem walls_law (X : List Rv) (ao : Option Addr) (cap : Nat) (w : World) (h : RecsV w ao cap X) (hT : Tabs w) :
    Calls Tryz.prog 4 #[.slice ao X.length cap] w fun e w' => e = .returned (.bool true) ∧ Below w.heap.size w w' := by
  obtain ⟨hl1, hl2⟩ := h.le
  unfold maxLen at hl2
  have H := Lib.hid h
  have HT := Lib.hid hT
  obtain ⟨gv, hgv⟩ : ∃ g, greatK X 12 = g := ⟨_, rfl⟩
  have HGR := Lib.hid (great14_any X ao cap w h gv hgv)
  clear h hT
  go_enter Tryz.func4, Tryz.ntmps4
  go_wp2_with fail
  refine HGR.out.mono ?_
  rintro e w0 ⟨rfl, rfl⟩
  clear HGR
  cases gv with
  | true =>
    have HAW := Lib.hid (awake_any w HT.out)
    go_wp2_with fail
    refine HAW.out.mono ?_
    rintro e w1 ⟨rfl, hb⟩
    have HB := Lib.hid hb
    clear hb HAW
    go_wp2_with fail
    go_ret
    exact ⟨rfl, HB.out⟩
  | false =>
    obtain ⟨hl12, hall⟩ := greatK_no hgv
    have HALL := Lib.hid hall
    have HNW := Lib.hid (new_any [] none 0 w (RecsV.nil w) HT.out (by simp) (fun x hx => by cases hx) (fun x hx => by cases hx))
    clear hgv hall
    go_wp2_with fail
    refine HNW.out.mono ?_
    rintro e w1 ⟨p, R, U, rfl, hbk, hrr, hU, hb1⟩
    obtain rfl : R = [] := ref_nil hrr
    have HBK := Lib.hid hbk
    have HU0 := Lib.hid hU
    have HB1 := Lib.hid hb1
    clear hbk hrr hU hb1 HNW
    go_wp2_with fail
    go_loopw [4] (fun kv wr => ∃ (k : Nat) (R : List (O.Id × Rv)) (U : Nat → Prop), kv = .int .i64 k ∧ k ≤ X.length ∧ Bk wr p (4 * k) R U ∧ (∀ j, U j → w.heap.size ≤ j) ∧ Below w.heap.size w wr) (fun kv _ => X.length - (intOf kv).toNat)
    case atStart => exact ⟨0, [], U, rfl, Nat.zero_le _, HBK.out, HU0.out, HB1.out⟩
    case round =>
      obtain ⟨k, R, U2, rfl, hk, hbk, hU, hb⟩ := hrel
      obtain ⟨U, hUU⟩ : ∃ U, U2 = U := ⟨_, rfl⟩
      subst hUU
      have HK := Lib.hid hbk
      have HU := Lib.hid hU
      have HBR := Lib.hid hb
      clear hbk hU hb HBK HU0 HB1
      by_cases hkl : k < X.length
      · have hii : (k : Int) < (X.length : Int) := by omega
        obtain ⟨r, hr⟩ : ∃ r, X[k]? = some r := ⟨_, List.getElem?_eq_getElem hkl⟩
        obtain ⟨b, off, e0, hbl, hrec⟩ := H.out.row k r hr
        have HI := Lib.hid (H.out.ok r (List.mem_of_getElem? hr))
        have HLR := Lib.hid (HALL.out r (List.mem_of_getElem? hr))
        subst e0
        have HRC := Lib.hid (show ∀ wx, Below w.heap.size w wx → RecAt wx b (off + k * 16) r from fun wx hb => hrec.below hb hbl)
        clear hr hrec
        obtain ⟨a, ha⟩ : ∃ a, wallB R 3 = a := ⟨_, rfl⟩
        have HA := Lib.hid ha
        have HAC := Lib.hid (active_any p (4 * k) R U2 wr HK.out a ha)
        clear ha
        go_wp2_with fail
        refine HAC.out.mono ?_
        rintro e w2 ⟨rfl, hb2⟩
        have HB2 := Lib.hid (HBR.out.trans (hb2.mono HBR.out.size))
        have HK2 := Lib.hid (HK.out.below hb2)
        have HND := Lib.hid HK.out.nd
        have HST := Lib.hid HK.out.st
        clear hb2 HAC
        have HPT := Lib.hid (bput_any p (4 * k) R U2 r w2 HK2.out (HI.out.below HB2.out) (HT.out.next HB2.out) (by have := HLR.out; omega) (by have := HLR.out; omega) (by omega))
        obtain ⟨c0, c1, c2, c3, c4, c5, c6, c7, c8, c9, c10, c11, c12, c13, c14, c15⟩ := HRC.out w2 HB2.out
        go_wp2_with fail
        refine HPT.out.mono ?_
        clear c0 c1 c2 c3 c4 c5 c6 c7 c8 c9 c10 c11 c12 c13 c14 c15
        rintro e w3 ⟨rfl, R2, U3, g1, g2, g3, g4⟩
        have HWP := Lib.hid (walls_put HND.out HST.out g2)
        have HKW := Lib.hid g1
        have HBC := Lib.hid (HB2.out.trans (g3.below (fun j hj => HU.out j hj) HB2.out.size))
        have HU3 := Lib.hid (show ∀ j, U3 j → w.heap.size ≤ j from fun j hj => by
          rcases g4 j hj with h | h
          · exact HU.out j h
          · have := HB2.out.size; omega)
        clear g1 g2 g3 g4 HPT
        obtain ⟨a2, ha2⟩ : ∃ a, wallB R2 3 = a := ⟨_, rfl⟩
        obtain ⟨a0, ha0⟩ : ∃ a, wallB R2 0 = a := ⟨_, rfl⟩
        have HA2 := Lib.hid ha2
        have HA0 := Lib.hid ha0
        have h12 : a = true → a2 = true := fun h => by rw [← ha2]; exact HWP.out.1 (by rw [HA.out]; exact h)
        have h20 : a2 = true → a0 = true := fun h => by rw [← ha0]; exact wall_more (by rw [ha2]; exact h)
        obtain ⟨pe, hpe⟩ : ∃ pe, putE R r = pe := ⟨_, rfl⟩
        have HPE := Lib.hid (show (pe == 0) = true → r.cmd.kind = 6 → a0 = true ∧ (r.st = 3 → a2 = true) from fun h1 h2 => by
          have h3 : putE R r = 0 := by rw [hpe]; simpa using h1
          have := HWP.out.2 h3 h2
          rw [ha2, ha0] at this
          exact this)
        rw [hpe]
        clear ha2 ha0 hpe
        have hgo : (a = false ∧ a2 = false ∧ a0 = false) ∨ (a = false ∧ a2 = false ∧ a0 = true) ∨ (a = false ∧ a2 = true ∧ a0 = true) ∨ (a = true ∧ a2 = true ∧ a0 = true) := by
          cases a <;> cases a2 <;> cases a0 <;> simp_all
        clear h12 h20
        rcases hgo with ⟨rfl, rfl, rfl⟩ | ⟨rfl, rfl, rfl⟩ | ⟨rfl, rfl, rfl⟩ | ⟨rfl, rfl, rfl⟩
        all_goals
          go_upto_region 11 with (first | (go_at_call 14; refine (active_any p _ R2 _ _ HKW.out _ HA2.out).mono ?_; rintro e w9 ⟨rfl, hb9⟩; have HKW := Lib.hid (HKW.out.below hb9); have HBC := Lib.hid (HBC.out.trans (hb9.mono HBC.out.size)); have cst := (HRC.out _ HBC.out).c2; clear hb9) | (go_at_call 15; refine (walled_any p _ R2 _ _ HKW.out _ HA0.out).mono ?_; rintro e w9 ⟨rfl, hb9⟩; have HKW := Lib.hid (HKW.out.below hb9); have HBC := Lib.hid (HBC.out.trans (hb9.mono HBC.out.size)); have cst := (HRC.out _ HBC.out).c2; clear hb9))
          have ckd := (HRC.out _ HBC.out).c7
          cases hp : (pe == 0) with
          | false =>
            go_wp2_with fail
            go_roundw
            case rel => exact ⟨k + 1, R2, U3, by go_num, by omega, by have := HKW.out; rw [show 4 * k + 4 = 4 * (k + 1) by omega] at this; exact this, HU3.out, HBC.out⟩
            case measure => simp [intOf]; omega
          | true =>
            cases h6 : (r.cmd.kind == 6) with
            | false =>
              go_wp2_with fail
              go_roundw
              case rel => exact ⟨k + 1, R2, U3, by go_num, by omega, by have := HKW.out; rw [show 4 * k + 4 = 4 * (k + 1) by omega] at this; exact this, HU3.out, HBC.out⟩
              case measure => simp [intOf]; omega
            | true =>
              have HQ := Lib.hid (HPE.out hp (by simpa using h6))
              cases h3 : (r.st == 3) with
              | false =>
                first
                  | exact absurd HQ.out.1 Bool.false_ne_true
                  | (go_wp2_with (first | (go_at_call 14; refine (active_any p _ R2 _ _ HKW.out _ HA2.out).mono ?_; rintro e w9 ⟨rfl, hb9⟩; have HKW := Lib.hid (HKW.out.below hb9); have HBC := Lib.hid (HBC.out.trans (hb9.mono HBC.out.size)); have cst := (HRC.out _ HBC.out).c2; clear hb9) | (go_at_call 15; refine (walled_any p _ R2 _ _ HKW.out _ HA0.out).mono ?_; rintro e w9 ⟨rfl, hb9⟩; have HKW := Lib.hid (HKW.out.below hb9); have HBC := Lib.hid (HBC.out.trans (hb9.mono HBC.out.size)); have cst := (HRC.out _ HBC.out).c2; clear hb9))
                     go_roundw
                     case rel => exact ⟨k + 1, R2, U3, by go_num, by omega, by have := HKW.out; rw [show 4 * k + 4 = 4 * (k + 1) by omega] at this; exact this, HU3.out, HBC.out⟩
                     case measure => simp [intOf]; omega)
              | true =>
                first
                  | exact absurd HQ.out.1 Bool.false_ne_true
                  | exact absurd (HQ.out.2 (beq_iff_eq.1 h3)) Bool.false_ne_true
                  | (go_wp2_with (first | (go_at_call 14; refine (active_any p _ R2 _ _ HKW.out _ HA2.out).mono ?_; rintro e w9 ⟨rfl, hb9⟩; have HKW := Lib.hid (HKW.out.below hb9); have HBC := Lib.hid (HBC.out.trans (hb9.mono HBC.out.size)); have cst := (HRC.out _ HBC.out).c2; clear hb9) | (go_at_call 15; refine (walled_any p _ R2 _ _ HKW.out _ HA0.out).mono ?_; rintro e w9 ⟨rfl, hb9⟩; have HKW := Lib.hid (HKW.out.below hb9); have HBC := Lib.hid (HBC.out.trans (hb9.mono HBC.out.size)); have cst := (HRC.out _ HBC.out).c2; clear hb9))
                     go_roundw
                     case rel => exact ⟨k + 1, R2, U3, by go_num, by omega, by have := HKW.out; rw [show 4 * k + 4 = 4 * (k + 1) by omega] at this; exact this, HU3.out, HBC.out⟩
                     case measure => simp [intOf]; omega)
      · obtain rfl : k = X.length := by omega
        have hii : ¬ (X.length : Int) < (X.length : Int) := by omega
        have HAW := Lib.hid (awake_any wr (HT.out.next HBR.out))
        go_wp2_with fail
        refine HAW.out.mono ?_
        rintro e w2 ⟨rfl, hb2⟩
        have HB2 := Lib.hid (HBR.out.trans (hb2.mono HBR.out.size))
        clear hb2 HAW
        go_wp2_with fail
        go_ret
        exact ⟨rfl, HB2.out⟩
end Go.Proofs.YtlbkbjeajcadiaaGreatDoor.B

/- From the listed variables of the rows to the tables that the walks take. -/
namespace Go.Proofs.YtlbkbjeajcadiaaGreatDoor.B
open Go.RowKit Go.PlainAid Go.Lib Go.Proofs.YtlbkbjeajcadiaaGreatDoor.R

theorem u8x : Go.Proofs.U8Extra Tryz.prog Tryz.lays260_ren := ⟨by kernel_rfl, by kernel_rfl, by kernel_rfl, by kernel_rfl, by kernel_rfl, by kernel_rfl, by kernel_rfl⟩
theorem accept_eq : Rows.laid_unicode_utf8_acceptRanges (H := Unit) = Go.Lib.acceptData := by kernel_rfl
theorem tabs_mk {W : World} (hu : Lib.Utf8Tabs 0 1 W) : Tabs W :=
  ⟨hu, World.block_lt_of_cell? W _ (hu.1 0 (by decide)), World.block_lt_of_cell? W _ (hu.2 0 (by decide)).1⟩
theorem tabsR_of {W : World} (hL : laidMet Tryz.prog Rows.bookWallsRow.laid W) : Tabs W :=
  tabs_mk (Go.Proofs.utf8Tabs_of_reads Tryz.lays260 u8x (Pinned.utf8First_eq ▸ Go.Lib.laidMet.reads hL (.tail _ (.head _))) (accept_eq ▸ Go.Lib.laidMet.reads hL (.head _)))
end Go.Proofs.YtlbkbjeajcadiaaGreatDoor.B
