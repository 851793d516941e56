/- Several texts in one. -/
import Derived.Test.YtndfhejfhfhbdaaGreatDoorMrg28
import Derived.Test.YtndfhejfhfhbdaaGreatDoorMrg29
import Derived.Test.YtndfhejfhfhbdaaGreatDoorMrg26
import Derived.Test.YtndfhejfhfhbdaaGreatDoorOrdAX
import Derived.Test.YtndfhejfhfhbdaaGreatDoorMrg9
import Derived.Test.YtndfhejfhfhbdaaGreatDoorCards
import Derived.Lib.LaidU8
import Derived.Lib.LaidTab
import Derived.LaidLaws
import Derived.PinnedBridge

/- The walk of OrderTags. -/
namespace Go.Proofs.YtndfhejfhfhbdaaGreatDoor.O
open Go.RowKit Go.Proofs.YtndfhejfhfhbdaaGreatDoor.M Go.BigFrame Go.Proofs.YtndfhejfhfhbdaaGreatDoor.K Go.Proofs.YtndfhejfhfhbdaaGreatDoor.R
set_option linter.unusedVariables false
set_option linter.unusedSimpArgs false

theorem tmod_seven (k : Nat) : Int.tmod (k : Int) 7 = ((k % 7 : Nat) : Int) := by
  rw [Int.tmod_eq_emod_of_nonneg (by omega)]; omega
theorem tdiv_seven (k : Nat) : Int.tdiv (k : Int) 7 = (k : Int) / 7 := by
  rw [Int.tdiv_eq_ediv_of_nonneg (by omega)]
theorem wrap_u8 {b : Nat} (h : b < 256) : wrap64 (b : Int) = (b : Int) ∧ wrap64 (1 + (b : Int)) = 1 + (b : Int) := by
  constructor <;> (unfold wrap64; omega)
theorem tag_store {n k : Nat} {wo : Option Addr} {wc g : Nat} {w : World} (h : w.heap[g]? = some (recO (tagR n k 0 2 wo wc))) (v : Int) :
    ((w.setCell ⟨g, 15, none⟩ (.int .i64 1)).setCell ⟨g, 14, none⟩ (.int .i64 v)).heap[g]? = some (recO (tagR n k v 1 wo wc)) ∧ Mods (fun j => j = g) w ((w.setCell ⟨g, 15, none⟩ (.int .i64 1)).setCell ⟨g, 14, none⟩ (.int .i64 v)) := by
  refine ⟨?_, ((Mods.refl (fun j => j = g) w).setCell (p := ⟨g, 15, none⟩) (fun _ => rfl) _).setCell (p := ⟨g, 14, none⟩) (fun _ => rfl) _⟩
  have s1 := heap_set w g 15 (.int .i64 1) g _ _ _ h
  rw [if_pos rfl] at s1
  have s2 := heap_set _ g 14 (.int .i64 v) g _ _ _ s1
  rw [if_pos rfl] at s2
  rw [s2]
  rfl
theorem boxR_next {w w1 : World} {b : Nat} {x : Rv} (h : w.heap[b]? = some (recO x)) (hb : Below w.heap.size w w1) : w1.heap[b]? = some (recO x) := (hb.block _ (M.heap_lt h)).trans h
set_option maxRecDepth 100000 in
set_option maxHeartbeats 40000000 in
theorem tags_law (tg : List Bool) (ta : Option Addr) (tc : Nat) (sq : List Nat) (sa : Option Addr) (sc : Nat) (w : World) (hV1 : OneV boolV w ta tc tg) (hV2 : OneV u8V w sa sc sq) (hs8 : ∀ x ∈ sq, x < 256) (hT : Tabs w) :
    Calls Tryz.prog 3 #[.slice ta tg.length tc, .slice sa sq.length sc] w fun e w' => e = .returned (.bool true) ∧ Below w.heap.size w w' := by
  obtain ⟨i0, hi, hz0, hz1, hz2⟩ := info_parts info_id
  have HV1 := Lib.hid hV1
  have HV2 := Lib.hid hV2
  have HS8 := Lib.hid hs8
  have HT := Lib.hid hT
  obtain ⟨hl1, hl2⟩ := hV1.le
  obtain ⟨hl3, hl4⟩ := hV2.le
  unfold maxLen at hl2 hl4
  clear hV1 hV2 hs8 hT
  go_enter Tryz.func3, Tryz.ntmps3
  by_cases h8 : 8 < tg.length
  · have hii : (8 : Int) < (tg.length : Int) := by omega
    go_wp2_with fail
    refine (awake_any _ (HT.out)).mono ?_
    rintro e wz ⟨rfl, hbz⟩
    have HBZ := Lib.hid ((Below.refl w.heap.size w).trans (hbz.mono (Below.refl w.heap.size w).size))
    clear hbz
    go_wp2_with fail
    go_ret
    exact ⟨rfl, HBZ.out⟩
  have hi8 : ¬ (8 : Int) < (tg.length : Int) := by omega
  by_cases hlt : sq.length < tg.length
  · have hii : (sq.length : Int) < (tg.length : Int) := by omega
    go_wp2_with fail
    refine (awake_any _ (HT.out)).mono ?_
    rintro e wz ⟨rfl, hbz⟩
    have HBZ := Lib.hid ((Below.refl w.heap.size w).trans (hbz.mono (Below.refl w.heap.size w).size))
    clear hbz
    go_wp2_with fail
    go_ret
    exact ⟨rfl, HBZ.out⟩
  have hi9 : ¬ (sq.length : Int) < (tg.length : Int) := by omega
  by_cases h20 : 20 < sq.length
  · have hii : (20 : Int) < (sq.length : Int) := by omega
    go_wp2_with fail
    refine (awake_any _ (HT.out)).mono ?_
    rintro e wz ⟨rfl, hbz⟩
    have HBZ := Lib.hid ((Below.refl w.heap.size w).trans (hbz.mono (Below.refl w.heap.size w).size))
    clear hbz
    go_wp2_with fail
    go_ret
    exact ⟨rfl, HBZ.out⟩
  have hi20 : ¬ (20 : Int) < (sq.length : Int) := by omega
  go_wp2_with fail
  clear hi8 hi9 hi20
  go_loopw [5, 6] (fun ov kv wr => ∃ (k : Nat) (M : List Id) (oo : Option Addr) (oc : Nat), ov = .slice oo M.length oc ∧ kv = .int .i64 k ∧ k ≤ tg.length ∧ M = allN k ∧ OwnL wr w.heap.size oo oc M ∧ Below w.heap.size w wr) (fun _ kv _ => tg.length - (intOf kv).toNat)
  case atStart => exact ⟨0, [], none, 0, rfl, rfl, Nat.zero_le _, rfl, World.ownsRow_nil _ _ _ _, Below.refl _ _⟩
  case round =>
    obtain ⟨k, M, oo, oc, rfl, rfl, hk, hM, hown, hb⟩ := hrel
    have HM := Lib.hid hM
    have HOW := Lib.hid hown
    have HBR := Lib.hid hb
    have hMl : M.length = k := by rw [hM, allN_len]
    have HML := Lib.hid hMl
    have hMl2 : M.length ≤ 8 := by omega
    clear hM hown hb hMl
    have hWr := HBR.out.size
    by_cases hkl : k < tg.length
    · have hii : (k : Int) < (tg.length : Int) := by omega
      have hr1 := tmod_seven k
      have hr2 := tdiv_seven k
      have HN := Lib.hid (show M ++ [idN k] = allN (k + 1) by rw [HM.out, allN_next])
      obtain ⟨x, hx⟩ : ∃ x, idN k = x := ⟨_, rfl⟩
      have hx1 : ((k % 7 : Nat) : Int) = x.r := by rw [← hx]; rfl
      have hx2 : 1 + (k : Int) / 7 = x.n := by rw [← hx]; unfold idN; simp only; omega
      rw [hx] at HN
      have HX := Lib.hid hx
      clear hx
      go_wp2_with (refine wpList_app idC 2 (fun _ => rfl) (by decide) idC_one (by rfl) (.tmp 38) (.tmp 45) 25 (by rfl) w.heap.size 27 i0 _ 16 Tryz.underlying25 hi hz0 hz1 hz2 (by decide) rfl oo oc M x #[.int .i64 x.r, .int .i64 x.n] rfl (by rfl) (by exact HOW.out) (by rfl) (by omega) (by omega) ?_; intro oo' oc' w7 hown hmod hbel; have HOW7 := Lib.hid hown; have HBE7 := Lib.hid hbel; clear hown hmod hbel)
      clear hr1 hr2 hx1 hx2
      go_roundw
      case rel => exact ⟨k + 1, M ++ [x], oo', oc', by simp, by go_num, by omega, HN.out, HOW7.out, HBR.out.trans HBE7.out⟩
      case measure => simp [intOf]; omega
    · obtain rfl : k = tg.length := by omega
      have hii : ¬ (tg.length : Int) < (tg.length : Int) := by omega
      obtain rfl := HM.out
      have HALL := Lib.hid (show IdsV wr oo oc (allN tg.length) from IdsV.of_own (B := w.heap.size) HOW.out (allN_ok (by omega)))
      have HB1 := Lib.hid HBR.out
      clear HOW HML HBR
      obtain ⟨W1, hW1⟩ : ∃ W1, W1 = wr := ⟨_, rfl⟩
      rw [← hW1] at HALL HB1 ⊢
      clear hW1
      have HSETA := Lib.hid (fun (wx : World) (hb : Below W1.heap.size W1 wx) => refset_any (allN tg.length) oo oc wx (HALL.out.below (B := 0) hb) (by rw [allN_len]; omega))
      obtain ⟨i1, hi1, hy0, hy1, hy2⟩ := info_parts info_rec
      go_wp2_with fail
      obtain ⟨nA, hnA⟩ : ∃ nA, (allN tg.length).length = nA := ⟨_, rfl⟩
      rw [hnA] at HSETA ⊢
      have HNA := Lib.hid (show nA = tg.length by rw [← hnA, allN_len])
      clear hnA
      go_loopw [7, 8] (fun lv kv wr => ∃ (k : Nat) (X : List Rv) (ro : Option Addr) (rc : Nat), lv = .slice ro X.length rc ∧ kv = .int .i64 k ∧ k ≤ tg.length ∧ X.length = k ∧ TagX tg.length X ∧ (∀ x ∈ X, OwnL wr W1.heap.size x.ao x.cap x.deps) ∧ OwnR wr W1.heap.size ro rc X ∧ Below W1.heap.size W1 wr) (fun _ kv _ => tg.length - (intOf kv).toNat)
      case atStart => exact ⟨0, [], none, 0, rfl, rfl, Nat.zero_le _, rfl, fun i x hx => by simp at hx, fun x hx => by (cases hx), World.ownsRow_nil _ _ _ _, Below.refl _ _⟩
      case round =>
        obtain ⟨k, X, ro, rc, rfl, rfl, hk, hXk, hX, hown, hrow, hb⟩ := hrel
        have HX := Lib.hid hX
        have HOW := Lib.hid hown
        have HRO := Lib.hid hrow
        have HBR := Lib.hid hb
        have HXK := Lib.hid hXk
        have hXl : X.length ≤ 8 := by omega
        clear hX hown hrow hb hXk
        have hWr := HBR.out.size
        by_cases hkl : k < tg.length
        · have hii : (k : Int) < (tg.length : Int) := by omega
          have hiA : (k : Int) < (nA : Int) := by rw [HNA.out]; exact hii
          have hA := allN_get hkl
          obtain ⟨b, off, e0, hbl, a0, a1⟩ := HALL.out.row k _ hA
          obtain ⟨y, hy⟩ : ∃ y, idN k = y := ⟨_, rfl⟩
          rw [hy] at a0 a1
          have HY := Lib.hid hy
          clear hA hy
          subst e0
          go_upto_region 12 with fail
          go_cut [9] (fun pv wx => ∃ (p : Nat) (ao : Option Addr) (cap : Nat), pv = .pointer (some ⟨p, 0, none⟩) ∧ wr.heap.size ≤ p ∧ wx.heap[p]? = some (recO (tagR tg.length k 0 2 ao cap)) ∧ OwnL wx W1.heap.size ao cap (depsN tg.length k) ∧ Below wr.heap.size wr wx)
          case first =>
            have HKS := Lib.hid (show ∀ w', Below wr.heap.size wr w' → w'.cell? ⟨b, off + k * 2, none⟩ = some (.int .i64 y.r) ∧ w'.cell? ⟨b, off + k * 2 + 1, none⟩ = some (.int .i64 y.n) from fun w' hb =>
              ⟨((HBR.out.trans (hb.mono hWr)).cell (p := ⟨b, _, none⟩) hbl).trans a0, ((HBR.out.trans (hb.mono hWr)).cell (p := ⟨b, _, none⟩) hbl).trans a1⟩)
            refine tags_r12 tg W1 wr b off k oc nA y hWr h8 hkl hiA HBR HSETA HKS _ (by kernel_rfl) _ _ _ _ _ _ _ _ _ _ _ _ _ _ _ _ _ _ _ _ _ _ _ _ _ _ _ _ _ _ _ _ _ _ _ _ _ _ _ _ _ _ _ _ _ _ _ _ _ _ _ _ _ _ _ _ _ _ _ _ _ _ _ _ _ _ _ _ _ _ _ _ _ _ _ _ _ _ _ _ _ _ _ _ _ _ _ _ _ _ _ _ _ _ _ _ _ _ _ _ _ _ _ _ _ _ _ _ _ _ _ _ _ _ _ _ _ _ _ _ _ _ _ _ _ _ _ _ _ _ _ _ _ _ _ _ _ _ _ _ _ _ _ _ _ _ _ _ _ _ _ _ _ _ _ _ _ _ _ _ _ _ (Lib.hid ?_)
            intro x53 x54 x55 x56 x57 x58 x59 x60 x61 x62 x63 x64 x65 g wo wcp wy hg1 hg how hk
            have HG := Lib.hid hg
            have HW := Lib.hid how
            have HK := Lib.hid hk
            have HY2 := Lib.hid HY.out
            obtain rfl := HY.out
            clear hg how hk
            dsimp only
            go_wp2_with fail
            go_meet
            exact ⟨g, wo, wcp, rfl, hg1, HG.out, HW.out, HK.out⟩
          case rest =>
            obtain ⟨g, wo, wcp, rfl, hgl, hg, how, hbx⟩ := hcut
            obtain ⟨wx, rfl⟩ : ∃ w1, w1 = wc := ⟨_, rfl⟩
            have HG := Lib.hid hg
            have HOD := Lib.hid how
            have HBX := Lib.hid hbx
            obtain ⟨bt, hbt⟩ : ∃ x, tg[k]? = some x := ⟨_, List.getElem?_eq_getElem hkl⟩
            obtain ⟨bq, hbq⟩ : ∃ x, sq[k]? = some x := ⟨_, List.getElem?_eq_getElem (by omega)⟩
            have HQ := Lib.hid (HS8.out bq (List.mem_of_getElem? hbq))
            have HBT := Lib.hid (HB1.out.trans ((HBR.out.trans (hbx.mono hWr)).mono HB1.out.size))
            obtain ⟨tb, toff, et, htl, tcell⟩ := HV1.out.row k bt hbt
            obtain ⟨sb, soff, es, hsl, scell⟩ := HV2.out.row k bq hbq
            subst et es
            have tc1 := (HBT.out.cell (p := ⟨tb, _, none⟩) htl).trans tcell
            have sc1 := (HBT.out.cell (p := ⟨sb, _, none⟩) hsl).trans scell
            have hks : (k : Int) < (sq.length : Int) := by omega
            obtain ⟨c0, c1, c2, c3, c4, c5, c6, c7, c8, c9, c10, c11, c12, c13, c14, c15⟩ := box16 hg
            have nf := frz hg
            have nf14 := nf 14
            have nf15 := nf 15
            clear hg how hbx hbt hbq tcell scell nf c0 c1 c2 c3 c4 c5 c6 c7 c8 c9 c10 c11 c12 c13
            have hsz1 := HBR.out.size
            have hsz2 := HB1.out.size
            have hsg : ¬ sb = g := by omega
            have hgs : ¬ g = sb := by omega
            have hbq := HQ.out
            have hq1 : (1 : Int) ≤ 1 + (bq : Int) ∧ 1 + (bq : Int) ≤ 1000 := by clear c14 c15 nf14 nf15 tc1 sc1; omega
            have HQ1 := Lib.hid hq1
            have hbq' : (bq : Int) < 256 := by omega
            clear hq1
            go_upto_if 69 with fail
            go_cut [9] (fun pv wy => pv = .pointer (some ⟨g, 0, none⟩) ∧ ∃ x : Rv, TagX tg.length (X ++ [x]) ∧ OwnL wy W1.heap.size x.ao x.cap x.deps ∧ wy.heap[g]? = some (recO x) ∧ Below wr.heap.size wr wy)
            case first =>
              cases bt with
              | true =>
                go_wp2_with fail
                go_meet
                obtain ⟨s2, ms⟩ := tag_store HG.out (1 + (bq : Int))
                refine ⟨rfl, tagR tg.length k (1 + (bq : Int)) 1 wo wcp, ?_, ownl_apart HOD.out HG.out ms, s2, HBX.out.trans (ms.below (fun j e => by omega) HBX.out.size)⟩
                rw [← HXK.out]
                exact HX.out.next _ _ (.inl ⟨rfl, HQ1.out⟩)
              | false =>
                go_wp2_with fail
                go_meet
                refine ⟨rfl, tagR tg.length k 0 2 wo wcp, ?_, HOD.out, HG.out, HBX.out⟩
                rw [← HXK.out]
                exact HX.out.next _ _ (.inr ⟨rfl, rfl⟩)
            case rest =>
              obtain ⟨rfl, x, htx, hnew, hgx, hbw⟩ := hcut
              obtain ⟨w5, rfl⟩ : ∃ w1, w1 = wc := ⟨_, rfl⟩
              have HTX := Lib.hid htx
              have HNEW := Lib.hid hnew
              have HBW := Lib.hid hbw
              clear htx hnew hbw c14 c15 nf14 nf15 tc1 sc1 hbq hbq' hsg hgs
              have HRO5 := Lib.hid (show OwnR w5 W1.heap.size ro rc X from own_kept HRO.out (Mods.of_below (S := fun _ => False) HBW.out) (fun _ _ h => h))
              have HOW5 := Lib.hid (show ∀ z ∈ X, OwnL w5 W1.heap.size z.ao z.cap z.deps from fun z hz => ownl_below (HOW.out z hz) HBW.out)
              have HB5 := Lib.hid (HBR.out.trans (HBW.out.mono hWr))
              have hs5 := HB5.out.size
              obtain ⟨c0, c1, c2, c3, c4, c5, c6, c7, c8, c9, c10, c11, c12, c13, c14, c15⟩ := box16 hgx
              clear hgx
              go_wp2_with (refine wpList_app recC 16 (fun _ => rfl) (by decide) recC_one (by rfl) (.tmp 80) (.tmp 82) 28 (by rfl) W1.heap.size 38 i1 _ 160 Tryz.underlying28 hi1 hy0 hy1 hy2 (by decide) rfl ro rc X x (recA x) rfl (by rfl) (by exact HRO5.out) (by rfl) (by omega) (by omega) ?_; intro oo' oc' w7 hown hmod hbel; have HOW7 := Lib.hid hown; have HBE7 := Lib.hid hbel; have HM7 := Lib.hid hmod; clear hown hmod hbel)
              clear c0 c1 c2 c3 c4 c5 c6 c7 c8 c9 c10 c11 c12 c13 c14 c15
              go_roundw
              case rel =>
                refine ⟨k + 1, X ++ [x], oo', oc', by simp, by go_num, by omega, by rw [List.length_append, HXK.out]; rfl, HTX.out, fun z hz => ?_, HOW7.out, HB5.out.trans HBE7.out⟩
                rcases List.mem_append.1 hz with hz | hz
                · exact own_beside (HOW5.out z hz) HRO5.out (by decide) HM7.out
                · rw [List.mem_singleton.1 hz]
                  exact own_beside HNEW.out HRO5.out (by decide) HM7.out
              case measure => simp [intOf]; omega
        · obtain rfl : k = tg.length := by omega
          have hii : ¬ (tg.length : Int) < (tg.length : Int) := by omega
          have HXV := Lib.hid (show RecsV wr ro rc X from RecsV.of_own HRO.out (fun x hx => by
            obtain ⟨i, hi⟩ := List.mem_iff_getElem?.1 hx
            obtain ⟨sq, tg2, ao, cap, e, _⟩ := HX.out i x hi
            have hil := (List.getElem?_eq_some_iff.1 hi).1
            refine ⟨?_, IdsV.of_own (HOW.out x hx) (fun z hz => ?_), ?_⟩
            · rw [e]
              refine ⟨?_, ?_, ?_, ?_, ?_, ?_⟩ <;> first | exact Nat.zero_le _ | (unfold P.InI tagR cmd0; simp)
            · rw [e] at hz
              exact allN_ok (n := tg.length) (by omega) z (depsN_mem.1 hz).1
            · rw [e]
              exact allN_ok (n := tg.length) (by omega) _ (allN_mem.2 ⟨i, by have := HXK.out; omega, rfl⟩)))
          have HER := Lib.hid (tag_err (X := X) (by omega) HX.out HXK.out)
          have HBA := Lib.hid (HB1.out.trans (HBR.out.mono HB1.out.size))
          have HORD := Lib.hid (Order_any X ro rc wr HXV.out (HT.out.next HBA.out) (by omega) (fun x hx => by
            obtain ⟨i, hi⟩ := List.mem_iff_getElem?.1 hx
            obtain ⟨sq, tg2, ao, cap, e, _⟩ := HX.out i x hi
            rw [e]
            have := depsN_len tg.length i
            show (depsN tg.length i).length ≤ 10000
            omega) (fun x hx => by
            obtain ⟨i, hi⟩ := List.mem_iff_getElem?.1 hx
            obtain ⟨sq, tg2, ao, cap, e, _⟩ := HX.out i x hi
            rw [e]
            exact Nat.zero_le _) 0 HER.out)
          clear HRO HOW HSETA HALL
          go_wp2_with fail
          refine HORD.out.mono ?_
          rintro e w2 ⟨go1, gc1, out, rfl, hrow, _, how, hb2⟩
          obtain ⟨hol, hom, hon⟩ := tag_row HX.out HXK.out (hrow (by trivial))
          have HON := Lib.hid hon
          have HOM := Lib.hid hom
          have HGV := Lib.hid (show IdsV w2 go1 gc1 out from IdsV.of_own (B := wr.heap.size) how (fun x hx => by
            have h1 := hom x hx
            rw [tag_ids HX.out HXK.out] at h1
            exact allN_ok (n := tg.length) (by omega) x h1))
          have HB2 := Lib.hid (HBA.out.trans (hb2.mono HBA.out.size))
          have HXV2 := Lib.hid (HXV.out.below hb2)
          have HOL := Lib.hid (hol.trans HXK.out.symm)
          have hne : ((X.length : Int) != (X.length : Int)) = false := by simp
          rw [HOL.out]
          clear how hb2 hrow hol hom hon HORD HER
          obtain ⟨wq, rfl⟩ : ∃ wq, wq = wr := ⟨_, rfl⟩
          go_wp2_with fail
          go_loopw [12] (fun xv wr => ∃ (i : Nat), xv = .int .i64 i ∧ 1 ≤ i ∧ (i ≤ X.length ∨ i = 1) ∧ Below w2.heap.size w2 wr) (fun xv _ => X.length - (intOf xv).toNat)
          case atStart => exact ⟨1, rfl, Nat.le_refl _, .inr rfl, Below.refl _ _⟩
          case round =>
            obtain ⟨i, rfl, hi1', hi2, hb⟩ := hrel
            have HBR3 := Lib.hid hb
            have HBW3 := Lib.hid (HB2.out.trans (hb.mono HB2.out.size))
            clear hb
            have hW3 := HBR3.out.size
            by_cases hil : i < X.length
            · have hii : (i : Int) < (X.length : Int) := by omega
              obtain ⟨k, hk⟩ : ∃ k, i = k + 1 := ⟨i - 1, by omega⟩
              have hik : (i : Int) - 1 = (k : Int) := by omega
              have hkx : (k : Int) < (X.length : Int) := by omega
              have hol := HOL.out
              obtain ⟨ia, ha⟩ : ∃ x, out[k]? = some x := ⟨_, List.getElem?_eq_getElem (by omega)⟩
              obtain ⟨ib, hb⟩ : ∃ x, out[i]? = some x := ⟨_, List.getElem?_eq_getElem (by omega)⟩
              obtain ⟨p, q, x, y, hx, hy, hpa, hqb, hxa, hyb, hright⟩ := HON.out k ia ib ha (by rw [← hk]; exact hb)
              have HRT := Lib.hid hright
              have hpl : (p : Int) < (X.length : Int) := by have := (List.getElem?_eq_some_iff.1 hx).1; omega
              have hql : (q : Int) < (X.length : Int) := by have := (List.getElem?_eq_some_iff.1 hy).1; omega
              obtain ⟨gb, o1, e1, hl1, u0, u1⟩ := HGV.out.row k ia ha
              obtain ⟨gb2, o12, e2, hl2, v0, v1⟩ := HGV.out.row i ib hb
              obtain ⟨g, off, e3, hgl, hrx⟩ := HXV2.out.row p x hx
              obtain ⟨g2, off2, e4, hgl2, hry⟩ := HXV2.out.row q y hy
              have HATIA := Lib.hid (fun (wx : World) (hbx : Below wr.heap.size wr wx) => refat_any X ro rc ia wx (HXV2.out.below (HBR3.out.trans (hbx.mono hW3))) p hpa)
              have HATIB := Lib.hid (fun (wx : World) (hbx : Below wr.heap.size wr wx) => refat_any X ro rc ib wx (HXV2.out.below (HBR3.out.trans (hbx.mono hW3))) q hqb)
              rw [e1] at e2
              rw [e3] at e4
              cases e2
              cases e4
              have HKA := Lib.hid (fun (wx : World) (hbx : Below wr.heap.size wr wx) => And.intro (((HBR3.out.trans (hbx.mono hW3)).cell (p := ⟨gb, _, none⟩) hl1).trans u0) (((HBR3.out.trans (hbx.mono hW3)).cell (p := ⟨gb, _, none⟩) hl1).trans u1))
              have HKB := Lib.hid (fun (wx : World) (hbx : Below wr.heap.size wr wx) => And.intro (((HBR3.out.trans (hbx.mono hW3)).cell (p := ⟨gb, _, none⟩) hl1).trans v0) (((HBR3.out.trans (hbx.mono hW3)).cell (p := ⟨gb, _, none⟩) hl1).trans v1))
              have HKX := Lib.hid (fun (wx : World) (hbx : Below wr.heap.size wr wx) => hrx.below (HBR3.out.trans (hbx.mono hW3)) hgl)
              have HKY := Lib.hid (fun (wx : World) (hbx : Below wr.heap.size wr wx) => hry.below (HBR3.out.trans (hbx.mono hW3)) hgl)
              have HXI := Lib.hid (HXV2.out.ok x (List.mem_of_getElem? hx)).id
              have HYI := Lib.hid (HXV2.out.ok y (List.mem_of_getElem? hy)).id
              subst e1 e3
              clear ha hb hx hy hpa hqb hxa hyb hright u0 u1 v0 v1 hrx hry hol hk
              go_upto_region 23 with fail
              go_cut [13, 14] (fun pv qv wx => ∃ (g1 g2 : Nat), pv = .pointer (some ⟨g1, 0, none⟩) ∧ qv = .pointer (some ⟨g2, 0, none⟩) ∧ wx.heap[g1]? = some (recO x) ∧ wx.heap[g2]? = some (recO y) ∧ Below wr.heap.size wr wx)
              case first =>
                refine tags_r23 X wr gb o1 k i gc1 g off rc p q ia ib x y hii hik (by rw [Go.IntWalk.i64_left]; unfold RowKit.wrap64; omega) hkx hpl hql HATIA HATIB HKA HKB HKX HKY _ (by kernel_rfl) _ _ _ _ _ _ _ _ _ _ _ _ _ _ _ _ _ _ _ _ _ _ _ _ _ _ _ _ _ _ _ _ _ _ _ _ _ _ _ _ _ _ _ _ _ _ _ _ _ _ _ _ _ _ _ _ _ _ _ _ _ _ _ _ _ _ _ _ _ _ _ _ _ _ _ _ _ _ _ _ _ _ _ _ _ _ _ _ _ _ _ _ _ _ _ _ _ _ _ _ _ _ _ _ _ _ _ _ _ _ _ _ _ _ _ _ _ _ _ _ _ _ _ _ _ _ _ _ _ _ _ _ _ _ _ _ _ _ _ _ _ _ _ _ _ _ _ _ _ _ _ _ _ _ _ _ _ _ _ _ _ (Lib.hid ?_)
                intro x104 x105 x106 x107 x108 x109 x110 x111 x112 x113 x114 x115 x116 x117 x118 x119 x120 x121 x122 g1 g2 wy hg1 hg2 hk
                have HG1 := Lib.hid hg1
                have HG2 := Lib.hid hg2
                have HK := Lib.hid hk
                clear hg1 hg2 hk
                dsimp only
                go_wp2_with fail
                go_meet
                exact ⟨g1, g2, rfl, rfl, HG1.out, HG2.out, HK.out⟩
              case rest =>
                obtain ⟨g1, g2, rfl, rfl, hg1, hg2, hbx⟩ := hcut
                obtain ⟨wx, rfl⟩ : ∃ w1, w1 = wc := ⟨_, rfl⟩
                have HBX := Lib.hid (HBR3.out.trans (hbx.mono hW3))
                obtain ⟨c0, c1, c2, c3, c4, c5, c6, c7, c8, c9, c10, c11, c12, c13, c14, c15⟩ := box16 hg1
                obtain ⟨d0, d1, d2, d3, d4, d5, d6, d7, d8, d9, d10, d11, d12, d13, d14, d15⟩ := box16 hg2
                clear hg1 hg2 hbx c2 c3 c4 c5 c6 c7 c8 c9 c10 c11 c12 c13 d2 d3 d4 d5 d6 d7 d8 d9 d10 d11 d12 d13 HATIA HATIB HKA HKB HKX HKY
                have hrt := HRT.out
                unfold rightB at hrt
                by_cases ht : x.tag = y.tag
                · rw [if_pos ht, Bool.or_eq_true, Bool.and_eq_true, decide_eq_true_eq, decide_eq_true_eq] at hrt
                  have htd : decide (x.tag < x.tag) = false := decide_eq_false (by omega)
                  have htb : (x.tag == x.tag) = true := by simp
                  rw [← ht] at d15
                  by_cases hs : x.seq < y.seq
                  · clear hrt
                    go_wp2_with fail
                    go_roundw
                    case rel => exact ⟨i + 1, by go_num, by omega, by omega, HBX.out⟩
                    case measure => simp [intOf]; omega
                  · obtain ⟨hs2, hlt2⟩ := hrt.resolve_left hs
                    have hsd : decide (x.seq < x.seq) = false := decide_eq_false (by omega)
                    have hsb : (x.seq == x.seq) = true := by simp
                    rw [← hs2] at d14
                    have HLE := Lib.hid (refless_any x.id y.id wx true hlt2)
                    clear hrt hs hs2 hlt2
                    go_wp2_with fail
                    refine HLE.out.mono ?_
                    rintro e w7 ⟨rfl, hgr⟩
                    have HB7 := Lib.hid (HBX.out.trans (hgr.below.mono HBX.out.size))
                    clear hgr
                    go_wp2_with fail
                    go_roundw
                    case rel => exact ⟨i + 1, by go_num, by omega, by omega, HB7.out⟩
                    case measure => simp [intOf]; omega
                · rw [if_neg ht, decide_eq_true_eq] at hrt
                  have htb : (x.tag == y.tag) = false := by simpa using ht
                  go_wp2_with fail
                  go_roundw
                  case rel => exact ⟨i + 1, by go_num, by omega, by omega, HBX.out⟩
                  case measure => simp [intOf]; omega
            · have hii : ¬ (i : Int) < (X.length : Int) := by omega
              go_wp2_with fail
              refine (awake_any _ (HT.out.next HBW3.out)).mono ?_
              rintro e wz ⟨rfl, hbz⟩
              have HBZ := Lib.hid ((HBW3.out).trans (hbz.mono (HBW3.out).size))
              clear hbz
              go_wp2_with fail
              go_ret
              exact ⟨rfl, HBZ.out⟩
end Go.Proofs.YtndfhejfhfhbdaaGreatDoor.O

/- From the listed variables of the rows to the tables that the walks take. -/
namespace Go.Proofs.YtndfhejfhfhbdaaGreatDoor.O
open Go.RowKit Go.PlainAid Go.Lib Go.Proofs.YtndfhejfhfhbdaaGreatDoor.R

theorem u8x : Go.Proofs.U8Extra Tryz.prog Tryz.lays260_ren := ⟨by kernel_rfl, by kernel_rfl, by kernel_rfl, by kernel_rfl, by kernel_rfl, by kernel_rfl, by kernel_rfl⟩
theorem accept_eq : Rows.laid_unicode_utf8_acceptRanges (H := Unit) = Go.Lib.acceptData := by kernel_rfl
theorem tabs_mk {W : World} (hu : Lib.Utf8Tabs 0 1 W) : Tabs W :=
  ⟨hu, World.block_lt_of_cell? W _ (hu.1 0 (by decide)), World.block_lt_of_cell? W _ (hu.2 0 (by decide)).1⟩
theorem tabsR_of {W : World} (hL : laidMet Tryz.prog Rows.orderPartsRow.laid W) : Tabs W :=
  tabs_mk (Go.Proofs.utf8Tabs_of_reads Tryz.lays260 u8x (Pinned.utf8First_eq ▸ Go.Lib.laidMet.reads hL (.tail _ (.head _))) (accept_eq ▸ Go.Lib.laidMet.reads hL (.head _)))
end Go.Proofs.YtndfhejfhfhbdaaGreatDoor.O
