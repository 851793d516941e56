/- The walk of BagPlays. -/
import Derived.Test.YtngackbgcknphaaBagN
namespace Go.Proofs.Ytngackbgcknphaa.B
open Go.RowKit M
set_option linter.unusedVariables false

set_option maxRecDepth 100000 in
set_option maxHeartbeats 4000000 in
theorem plays_any (W : World) (room : Int) (ao : Option Addr) (cap : Nat) (Y : List A5) (hY : Acts W.heap.size W ao cap Y) (hm : cap ≤ maxLen) (h1 : -9223372036854775808 ≤ room) (h2 : room ≤ 9223372036854775807) (hYl : Y.length ≤ 80) :
    Calls Try.prog 5 #[.int .i64 room, .slice ao Y.length cap] W fun e w' => e = .returned (.bool true) ∧ Below W.heap.size W w' := by
  obtain ⟨i0, hi, hz0, hz1, hz2⟩ := info_parts info_env
  have HY := Lib.hid hY
  have hcap := hY.le
  have hm' : (cap : Int) ≤ 9223372036854775807 := by unfold maxLen at hm; omega
  have hY80 : ¬ (80 : Int) < (Y.length : Int) := by omega
  obtain ⟨r, hr⟩ : ∃ r, min (max room 0) 4096 = r := ⟨_, rfl⟩
  have hrl : r ≤ 4096 := by omega
  have hr0 : 0 ≤ r := by omega
  have HR := Lib.hid hr
  clear hY hr
  go_enter Try.func5, Try.ntmps5
  go_wp2_with fail
  refine (new_any room W h1 h2).mono ?_
  rintro e w1 ⟨rfl, hb1, b1⟩
  rw [HR.out] at hb1
  have H1 := Lib.hid (show PS W r [] none 0 [] none 0 w1 from ⟨hb1, World.ownsRow_nil _ _ _ _, (fun x hx => by cases hx), (fun a h => by cases h), (fun y hy => by cases hy), b1⟩)
  clear hb1 b1
  go_wp2_with fail
  go_loopw [6, 7] (fun xv iv wr => ∃ (k : Nat) (X : List E) (xo : Option Addr) (xc : Nat) (L : List E) (al : Option Addr) (cl : Nat), xv = .slice xo X.length xc ∧ iv = .int .i64 k ∧ k ≤ Y.length ∧ X.length ≤ k ∧ keys L = keys X ∧ PS W r X xo xc L al cl wr) (fun _ iv _ => Y.length - (intOf iv).toNat)
  case atStart => exact ⟨0, [], none, 0, [], none, 0, rfl, rfl, Nat.zero_le _, Nat.zero_le _, rfl, H1.out⟩
  case round =>
    obtain ⟨k, X, xo, xc, L, al, cl, rfl, rfl, hk, hXk, hkeys, hps⟩ := hrel
    have HK := Lib.hid hkeys
    have hLX : L.length = X.length := by simpa [keys] using congrArg List.length hkeys
    clear hkeys
    have HP := Lib.hid hps
    by_cases hlt : k < Y.length
    · obtain ⟨y, hy⟩ : ∃ y, Y[k]? = some y := ⟨_, List.getElem?_eq_getElem hlt⟩
      have hkl : (k : Int) < (Y.length : Int) := by omega
      have hA := HY.out.below hps.bel
      have hbw := heap_lt hps.bag.blk
      have hXl : X.length ≤ 80 := by omega
      obtain ⟨g, off, rfl, hg, c0, c1, c2, c3, c4⟩ := hA.cell k y hy
      obtain ⟨hbv, hba⟩ := hA.byt y (List.mem_of_getElem? hy)
      have HV := Lib.hid hbv
      have HBA := Lib.hid hba
      clear hps hA hy hbv hba
      by_cases h100 : y.e.l.length ≤ 100
      · have h100' : ¬ (100 : Int) < (y.e.l.length : Int) := by omega
        go_upto_region 11 with fail
        obtain ⟨wB, hwB⟩ : ∃ wB, wB = wr.alloc (.cells #[.int .i64 y.d, .int .i64 y.i, .int .i64 y.e.f, .int .i64 y.e.t, .slice y.e.ao y.e.l.length y.e.cap] 38) := ⟨_, rfl⟩
        have hbox : wB.heap[wr.heap.size]? = some (.cells #[.int .i64 y.d, .int .i64 y.i, .int .i64 y.e.f, .int .i64 y.e.t, .slice y.e.ao y.e.l.length y.e.cap] 38 (0, 0)) := by rw [hwB]; exact heap_alloc_new wr _
        have hMB : Mods (fun _ => False) wr wB := by rw [hwB]; exact (Mods.refl _ wr).alloc _
        have HPB := Lib.hid (show PS W r X xo xc L al cl wB by rw [hwB]; exact HP.out.alloc _)
        have HVB := Lib.hid (HV.out.keep hMB (fun _ _ _ h => h))
        have hbz := heap_lt hbox
        rw [← hwB]
        clear hwB hMB c0 c1 c2 c3 c4
        have hcb : ∀ j, wB.cell? ⟨wr.heap.size, j, none⟩ = #[.int .i64 y.d, .int .i64 y.i, .int .i64 y.e.f, .int .i64 y.e.t, .slice y.e.ao y.e.l.length y.e.cap][j]? := fun j => cell_of_row wB wr.heap.size j _ _ (0, 0) hbox
        have c0 : wB.cell? ⟨wr.heap.size, 0, none⟩ = some (.int .i64 y.d) := hcb 0
        have c1 : wB.cell? ⟨wr.heap.size, 1, none⟩ = some (.int .i64 y.i) := hcb 1
        have c2 : wB.cell? ⟨wr.heap.size, 2, none⟩ = some (.int .i64 y.e.f) := hcb 2
        have c3 : wB.cell? ⟨wr.heap.size, 3, none⟩ = some (.int .i64 y.e.t) := hcb 3
        have c4 : wB.cell? ⟨wr.heap.size, 4, none⟩ = some (.slice y.e.ao y.e.l.length y.e.cap) := hcb 4
        clear hcb hbox
        obtain ⟨bz, hbz0⟩ : ∃ bz, wr.heap.size = bz := ⟨_, rfl⟩
        rw [hbz0] at hbz c0 c1 c2 c3 c4 ⊢
        go_cut [9] (fun v wx => v = .bool (decide (0 ≤ y.i ∧ y.i < (X.length : Int))) ∧ wx = wB)
        case first =>
          by_cases h0 : 0 ≤ y.i
          · by_cases hx : y.i < (X.length : Int)
            · have HE := Lib.hid (show true = decide (0 ≤ y.i ∧ y.i < (X.length : Int)) from (decide_eq_true ⟨h0, hx⟩).symm)
              go_wp2_with fail
              go_meet
              case rel => exact ⟨congrArg Value.bool HE.out, rfl⟩
            · have HE := Lib.hid (show false = decide (0 ≤ y.i ∧ y.i < (X.length : Int)) from (decide_eq_false (fun h => hx h.2)).symm)
              go_wp2_with fail
              go_meet
              case rel => exact ⟨congrArg Value.bool HE.out, rfl⟩
          · have HE := Lib.hid (show false = decide (0 ≤ y.i ∧ y.i < (X.length : Int)) from (decide_eq_false (fun h => h0 h.1)).symm)
            go_wp2_with fail
            go_meet
            case rel => exact ⟨congrArg Value.bool HE.out, rfl⟩
        case rest =>
          obtain ⟨rfl, hw⟩ := hcut
          rw [hw]
          clear hw
          obtain ⟨vin, hvin⟩ : ∃ v, decide (0 ≤ y.i ∧ y.i < (X.length : Int)) = v := ⟨_, rfl⟩
          rw [hvin]
          have HIN := Lib.hid hvin
          clear hvin
          go_upto_region 12 with fail
          go_cut [10] (fun v wx => v = .bool (decide (r ≤ (X.length : Int))) ∧ wx = wB)
          case first =>
            go_wp2_with fail
            refine (room_any room wB h1 h2).mono ?_
            rintro e w2 ⟨rfl, rfl⟩
            rw [HR.out]
            go_wp2_with fail
            go_meet
            case rel => exact ⟨rfl, rfl⟩
          case rest =>
            obtain ⟨rfl, hw⟩ := hcut
            rw [hw]
            clear hw
            obtain ⟨vfu, hvfu⟩ : ∃ v, decide (r ≤ (X.length : Int)) = v := ⟨_, rfl⟩
            rw [hvfu]
            have HFU := Lib.hid hvfu
            clear hvfu
            go_step
            go_step
            go_cut [6] (fun xv wx => SW W r k xv wx)
            case first =>
              clear HV
              have HNF := Lib.hid (show ¬ Foot W.heap.size al bz from fun h => by have := (HP.out.bag.lt _ h).2; omega)
              by_cases hd0 : y.d = 0
              · have e0 : (y.d == 0) = true := by rw [beq_iff_eq]; exact hd0
                clear hd0
                refine arm0 W r hrl X L xo al xc cl k hXk hXl hLX HK y h100 wB bz hbz HNF HPB HVB HBA vin vfu HIN HFU c0 c1 c2 c3 c4 e0 _ (by kernel_rfl) _ _ _ _ _ _ _ _ _ _ _ _ _ _ _ _ _ _ _ _ _ _ _ _ _ _ _ _ _ _ _ _ _ _ _ _ _ _ _ _ _ _ _ _ _ _ _ _ _ _ _ _ _ _ _ _ _ _ _ _ _ _ _ _ _ _ _ _ _ _ _ _ _ _ _ _ _ _ _ _ _ _ _ _ _ _ _ _ _ _ _ _ _ _ _ _ _ _ _ _ _ _ _ _ _ _ _ _ _ _ _ _ _ _ _ _ _ _ _ _ _ _ _ _ _ _ _ _ _ _ _ _ _ _ _ _ _ _ _ _ _ _ _ _ _ _ _ _ _ _ _ _ _ _ _ _ _ _ _ _ _ _ _ _ _ _ _ _ _ _ _ _ _ _ _ _ _ _ _ _ _ _ _ _ _ _ _ _ _ _ _ _ _ _ _ _ _ _ _ _ _ _ _ _ ?_
                intro xv wx hR _ _ _ _ _ _ _ _ _ _ _ _ _ _ _ _ _ _ _ _ _ _ _ _ _ _ _ _ _ _ _ _ _ _ _ _ _ _ _ _ _ _ _ _ _ _ _ _ _ _ _ _ _ _ _ _ _ _ _ _ _ _ _ _ _ _ _ _ _ _ _ _ _ _ _ _ _ _ _ _ _ _ _ _ _ _ _ _ _ _ _ _ _ _ _ _ _ _ _ _ _ _ _ _ _ _ _ _ _ _ _ _ _ _ _ _ _ _ _ _ _ _ _ _ _ _ _ _ _ _ _ _ _ _ _ _ _ _ _ _ _ _ _ _ _ _ _ _ _ _ _ _ _ _ _ _ _ _ _ _ _ _ _ _ _ _ _ _ _ _ _ _ _ _ _ _ _ _ _ _ _ _ _ _ _ _ _
                dsimp only
                go_step
                go_meet
                case rel => exact hR
              · have e0 : (y.d == 0) = false := by rw [beq_eq_false_iff_ne]; exact hd0
                clear hd0
                by_cases hd1 : y.d = 1
                · have e1 : (y.d == 1) = true := by rw [beq_iff_eq]; exact hd1
                  clear hd1
                  refine arm1 W r hrl X L xo al xc cl k hXk hXl hLX HK y h100 wB bz hbz HNF HPB HVB HBA vin vfu HIN HFU c0 c1 c2 c3 c4 e0 e1 _ (by kernel_rfl) _ _ _ _ _ _ _ _ _ _ _ _ _ _ _ _ _ _ _ _ _ _ _ _ _ _ _ _ _ _ _ _ _ _ _ _ _ _ _ _ _ _ _ _ _ _ _ _ _ _ _ _ _ _ _ _ _ _ _ _ _ _ _ _ _ _ _ _ _ _ _ _ _ _ _ _ _ _ _ _ _ _ _ _ _ _ _ _ _ _ _ _ _ _ _ _ _ _ _ _ _ _ _ _ _ _ _ _ _ _ _ _ _ _ _ _ _ _ _ _ _ _ _ _ _ _ _ _ _ _ _ _ _ _ _ _ _ _ _ _ _ _ _ _ _ _ _ _ _ _ _ _ _ _ _ _ _ _ _ _ _ _ _ _ _ _ _ _ _ _ _ _ _ _ _ _ _ _ _ _ _ _ _ _ _ _ _ _ _ _ _ _ _ _ _ _ _ _ _ _ _ _ _ _ ?_
                  intro xv wx hR _ _ _ _ _ _ _ _ _ _ _ _ _ _ _ _ _ _ _ _ _ _ _ _ _ _ _ _ _ _ _ _ _ _ _ _ _ _ _ _ _ _ _ _ _ _ _ _ _ _ _ _ _ _ _ _ _ _ _ _ _ _ _ _ _ _ _ _ _ _ _ _ _ _ _ _ _ _ _ _ _ _ _ _ _ _ _ _ _ _ _ _ _ _ _ _ _ _ _ _ _ _ _ _ _ _ _ _ _ _ _ _ _ _ _ _ _ _ _ _ _ _ _ _ _ _ _ _ _ _ _ _ _ _ _ _ _ _ _ _ _ _ _ _ _ _ _ _ _ _ _ _ _ _ _ _ _ _ _ _ _ _ _ _ _ _ _ _ _ _ _ _ _ _ _ _ _ _ _ _ _ _ _ _ _ _ _
                  dsimp only
                  go_step
                  go_meet
                  case rel => exact hR
                · have e1 : (y.d == 1) = false := by rw [beq_eq_false_iff_ne]; exact hd1
                  clear hd1
                  by_cases hd2 : y.d = 2
                  · have e2 : (y.d == 2) = true := by rw [beq_iff_eq]; exact hd2
                    clear hd2
                    refine arm2 W r hrl X L xo al xc cl k hXk hXl hLX HK y h100 wB bz hbz HNF HPB HVB HBA vin vfu HIN HFU c0 c1 c2 c3 c4 e0 e1 e2 _ (by kernel_rfl) _ _ _ _ _ _ _ _ _ _ _ _ _ _ _ _ _ _ _ _ _ _ _ _ _ _ _ _ _ _ _ _ _ _ _ _ _ _ _ _ _ _ _ _ _ _ _ _ _ _ _ _ _ _ _ _ _ _ _ _ _ _ _ _ _ _ _ _ _ _ _ _ _ _ _ _ _ _ _ _ _ _ _ _ _ _ _ _ _ _ _ _ _ _ _ _ _ _ _ _ _ _ _ _ _ _ _ _ _ _ _ _ _ _ _ _ _ _ _ _ _ _ _ _ _ _ _ _ _ _ _ _ _ _ _ _ _ _ _ _ _ _ _ _ _ _ _ _ _ _ _ _ _ _ _ _ _ _ _ _ _ _ _ _ _ _ _ _ _ _ _ _ _ _ _ _ _ _ _ _ _ _ _ _ _ _ _ _ _ _ _ _ _ _ _ _ _ _ _ _ _ _ _ _ ?_
                    intro xv wx hR _ _ _ _ _ _ _ _ _ _ _ _ _ _ _ _ _ _ _ _ _ _ _ _ _ _ _ _ _ _ _ _ _ _ _ _ _ _ _ _ _ _ _ _ _ _ _ _ _ _ _ _ _ _ _ _ _ _ _ _ _ _ _ _ _ _ _ _ _ _ _ _ _ _ _ _ _ _ _ _ _ _ _ _ _ _ _ _ _ _ _ _ _ _ _ _ _ _ _ _ _ _ _ _ _ _ _ _ _ _ _ _ _ _ _ _ _ _ _ _ _ _ _ _ _ _ _ _ _ _ _ _ _ _ _ _ _ _ _ _ _ _ _ _ _ _ _ _ _ _ _ _ _ _ _ _ _ _ _ _ _ _ _ _ _ _ _ _ _ _ _ _ _ _ _ _ _ _ _ _ _ _ _ _ _ _ _
                    dsimp only
                    go_step
                    go_meet
                    case rel => exact hR
                  · have e2 : (y.d == 2) = false := by rw [beq_eq_false_iff_ne]; exact hd2
                    clear hd2
                    by_cases hd3 : y.d = 3
                    · have e3 : (y.d == 3) = true := by rw [beq_iff_eq]; exact hd3
                      clear hd3
                      refine arm3 W r hrl X L xo al xc cl k hXk hXl hLX HK y h100 wB bz hbz HNF HPB HVB HBA vin vfu HIN HFU c0 c1 c2 c3 c4 e0 e1 e2 e3 _ (by kernel_rfl) _ _ _ _ _ _ _ _ _ _ _ _ _ _ _ _ _ _ _ _ _ _ _ _ _ _ _ _ _ _ _ _ _ _ _ _ _ _ _ _ _ _ _ _ _ _ _ _ _ _ _ _ _ _ _ _ _ _ _ _ _ _ _ _ _ _ _ _ _ _ _ _ _ _ _ _ _ _ _ _ _ _ _ _ _ _ _ _ _ _ _ _ _ _ _ _ _ _ _ _ _ _ _ _ _ _ _ _ _ _ _ _ _ _ _ _ _ _ _ _ _ _ _ _ _ _ _ _ _ _ _ _ _ _ _ _ _ _ _ _ _ _ _ _ _ _ _ _ _ _ _ _ _ _ _ _ _ _ _ _ _ _ _ _ _ _ _ _ _ _ _ _ _ _ _ _ _ _ _ _ _ _ _ _ _ _ _ _ _ _ _ _ _ _ _ _ _ _ _ _ _ _ _ _ ?_
                      intro xv wx hR _ _ _ _ _ _ _ _ _ _ _ _ _ _ _ _ _ _ _ _ _ _ _ _ _ _ _ _ _ _ _ _ _ _ _ _ _ _ _ _ _ _ _ _ _ _ _ _ _ _ _ _ _ _ _ _ _ _ _ _ _ _ _ _ _ _ _ _ _ _ _ _ _ _ _ _ _ _ _ _ _ _ _ _ _ _ _ _ _ _ _ _ _ _ _ _ _ _ _ _ _ _ _ _ _ _ _ _ _ _ _ _ _ _ _ _ _ _ _ _ _ _ _ _ _ _ _ _ _ _ _ _ _ _ _ _ _ _ _ _ _ _ _ _ _ _ _ _ _ _ _ _ _ _ _ _ _ _ _ _ _ _ _ _ _ _ _ _ _ _ _ _ _ _ _ _ _ _ _ _ _ _ _ _ _ _ _
                      dsimp only
                      go_step
                      go_meet
                      case rel => exact hR
                    · have e3 : (y.d == 3) = false := by rw [beq_eq_false_iff_ne]; exact hd3
                      clear hd3
                      refine armo W r hrl X L xo al xc cl k hXk hXl hLX HK y h100 wB bz hbz HNF HPB HVB HBA vin vfu HIN HFU c0 c1 c2 c3 c4 e0 e1 e2 e3 _ (by kernel_rfl) _ _ _ _ _ _ _ _ _ _ _ _ _ _ _ _ _ _ _ _ _ _ _ _ _ _ _ _ _ _ _ _ _ _ _ _ _ _ _ _ _ _ _ _ _ _ _ _ _ _ _ _ _ _ _ _ _ _ _ _ _ _ _ _ _ _ _ _ _ _ _ _ _ _ _ _ _ _ _ _ _ _ _ _ _ _ _ _ _ _ _ _ _ _ _ _ _ _ _ _ _ _ _ _ _ _ _ _ _ _ _ _ _ _ _ _ _ _ _ _ _ _ _ _ _ _ _ _ _ _ _ _ _ _ _ _ _ _ _ _ _ _ _ _ _ _ _ _ _ _ _ _ _ _ _ _ _ _ _ _ _ _ _ _ _ _ _ _ _ _ _ _ _ _ _ _ _ _ _ _ _ _ _ _ _ _ _ _ _ _ _ _ _ _ _ _ _ _ _ _ _ _ _ _ ?_
                      intro xv wx hR _ _ _ _ _ _ _ _ _ _ _ _ _ _ _ _ _ _ _ _ _ _ _ _ _ _ _ _ _ _ _ _ _ _ _ _ _ _ _ _ _ _ _ _ _ _ _ _ _ _ _ _ _ _ _ _ _ _ _ _ _ _ _ _ _ _ _ _ _ _ _ _ _ _ _ _ _ _ _ _ _ _ _ _ _ _ _ _ _ _ _ _ _ _ _ _ _ _ _ _ _ _ _ _ _ _ _ _ _ _ _ _ _ _ _ _ _ _ _ _ _ _ _ _ _ _ _ _ _ _ _ _ _ _ _ _ _ _ _ _ _ _ _ _ _ _ _ _ _ _ _ _ _ _ _ _ _ _ _ _ _ _ _ _ _ _ _ _ _ _ _ _ _ _ _ _ _ _ _ _ _ _ _ _ _ _ _
                      dsimp only
                      go_step
                      go_meet
                      case rel => exact hR
            case rest =>
              clear HP HV HBA HPB HVB c0 c1 c2 c3 c4
              obtain ⟨X2, xo2, xc2, L2, al2, cl2, rfl, hX2, hk2, hps2⟩ := hcut
              have HK2 := Lib.hid hk2
              have hLX2 : L2.length = X2.length := by simpa [keys] using congrArg List.length hk2
              have HP2 := Lib.hid hps2
              have e5 : ((X2.length : Int) != (X2.length : Int)) = false := by simp
              clear hk2 hps2
              go_wp2_with fail
              refine (len_any W.heap.size _ W.heap.size r L2 al2 cl2 HP2.out.bag).mono ?_
              rintro e w2 ⟨rfl, rfl⟩
              rw [hLX2]
              go_wp2_with fail
              go_loopw [16] (fun iv w3 => ∃ z : Int, iv = .int .i64 z ∧ -1 ≤ z ∧ z ≤ (X2.length : Int) + 1 ∧ PS W r X2 xo2 xc2 L2 al2 cl2 w3) (fun iv _ => ((X2.length : Int) + 1 - intOf iv).toNat)
              case atStart => exact ⟨-1, rfl, by omega, by omega, HP2.out⟩
              case round =>
                obtain ⟨z, rfl, hz1, hz2, hps3⟩ := hrel
                have HP3 := Lib.hid hps3
                clear hps3
                by_cases hlt : z ≤ (X2.length : Int)
                · by_cases hz0 : 0 ≤ z
                  · by_cases hzl : z < (X2.length : Int)
                    · skip
                      obtain ⟨n, rfl⟩ : ∃ n : Nat, z = n := ⟨z.toNat, by omega⟩
                      have hnX : n < X2.length := by omega
                      obtain ⟨x, hx⟩ : ∃ x, X2[n]? = some x := ⟨_, List.getElem?_eq_getElem hnX⟩
                      obtain ⟨q, hq⟩ : ∃ q, L2[n]? = some q := ⟨_, List.getElem?_eq_getElem (by omega)⟩
                      have hxq : q.key = x.key := by
                        have e : (keys L2)[n]? = (keys X2)[n]? := by rw [HK2.out]
                        simpa [keys, hx, hq] using e
                      have hql := (HP3.out.bag.ok q (List.mem_of_getElem? hq)).2.2
                      go_wp2_with fail
                      refine (at_in W.heap.size _ W.heap.size r L2 al2 cl2 HP3.out.bag n q hq).mono ?_
                      rintro e w4 ⟨ao4, cap4, rfl, hbv4, _, b4, _⟩
                      have hp4 := HP3.out.below b4
                      clear b4
                      go_wp2_with fail
                      obtain ⟨W5, hW5⟩ : ∃ W5, W5 = w4.alloc (.cells #[.int .i64 q.f, .int .i64 q.t, .slice ao4 q.l.length cap4] 24) := ⟨_, rfl⟩
                      have hbx5 : W5.heap[w4.heap.size]? = some (.cells #[.int .i64 q.f, .int .i64 q.t, .slice ao4 q.l.length cap4] 24 (0, 0)) := by rw [hW5]; exact heap_alloc_new w4 _
                      have hM5 : Mods (fun _ => False) w4 W5 := by rw [hW5]; exact (Mods.refl _ w4).alloc _
                      have hp5 : PS W r X2 xo2 xc2 L2 al2 cl2 W5 := by rw [hW5]; exact hp4.alloc _
                      rw [← hW5]
                      clear hW5
                      have hz5 := heap_lt hbx5
                      obtain ⟨p0, p1, p2⟩ := (box3 hbx5).1
                      have HV5 := Lib.hid (hbv4.keep hM5 (fun _ _ _ h => h))
                      have HIX := Lib.hid (hp5.inn x (List.mem_of_getElem? hx))
                      have HEQ := Lib.hid (show decide ((⟨q.f, q.t, ao4, cap4, q.l⟩ : E).key = x.key) = true from decide_eq_true hxq)
                      obtain ⟨g2, rfl, hg2, hgc⟩ := rowcell hp5.own (by omega)
                      obtain ⟨q0, q1, q2⟩ := cellsE_get X2 n x hx
                      have y0 := (hgc _ _ q0).1
                      have y1 := (hgc _ _ q1).1
                      have y2 := (hgc _ _ q2).1
                      have HP5 := Lib.hid hp5
                      clear hbx5 hM5 hp5 hp4 hbv4 hgc q0 q1 q2 hx hq hxq
                      have HST := Lib.hid (show ∀ w', Below W5.heap.size W5 w' → (fun w' => (w'.cell? ⟨w4.heap.size, 0, none⟩ = some (.int .i64 q.f) ∧ w'.cell? ⟨w4.heap.size, 1, none⟩ = some (.int .i64 q.t) ∧ w'.cell? ⟨w4.heap.size, 2, none⟩ = some (.slice ao4 q.l.length cap4)) ∧ (w'.cell? ⟨g2, n * 3, none⟩ = some (.int .i64 x.f) ∧ w'.cell? ⟨g2, n * 3 + 1, none⟩ = some (.int .i64 x.t) ∧ w'.cell? ⟨g2, n * 3 + 2, none⟩ = some (.slice x.ao x.l.length x.cap)) ∧ Below W5.heap.size W5 w') w' from fun w' hb => ⟨⟨(hb.cell (p := ⟨w4.heap.size, 0, none⟩) hz5).trans p0, (hb.cell (p := ⟨w4.heap.size, 1, none⟩) hz5).trans p1, (hb.cell (p := ⟨w4.heap.size, 2, none⟩) hz5).trans p2⟩, ⟨(hb.cell (p := ⟨g2, n * 3, none⟩) hg2).trans y0, (hb.cell (p := ⟨g2, n * 3 + 1, none⟩) hg2).trans y1, (hb.cell (p := ⟨g2, n * 3 + 2, none⟩) hg2).trans y2⟩, hb⟩)
                      have HS0 := Lib.hid (HST.out W5.drew (Below.refl _ _).drew)
                      have HSAME := Lib.hid (show ∀ w', Below W5.heap.size W5 w' → Calls Try.prog 12 #[.agg #[.int .i64 q.f, .int .i64 q.t, .slice ao4 q.l.length cap4], .agg #[.int .i64 x.f, .int .i64 x.t, .slice x.ao x.l.length x.cap]] w' fun e w2 => e = .returned (.bool true) ∧ (fun w' => (w'.cell? ⟨w4.heap.size, 0, none⟩ = some (.int .i64 q.f) ∧ w'.cell? ⟨w4.heap.size, 1, none⟩ = some (.int .i64 q.t) ∧ w'.cell? ⟨w4.heap.size, 2, none⟩ = some (.slice ao4 q.l.length cap4)) ∧ (w'.cell? ⟨g2, n * 3, none⟩ = some (.int .i64 x.f) ∧ w'.cell? ⟨g2, n * 3 + 1, none⟩ = some (.int .i64 x.t) ∧ w'.cell? ⟨g2, n * 3 + 2, none⟩ = some (.slice x.ao x.l.length x.cap)) ∧ Below W5.heap.size W5 w') w2 from fun w' hb =>
                        (same_any ⟨q.f, q.t, ao4, cap4, q.l⟩ x w' (fun _ => False) (fun _ => False) ⟨HV5.out.keep (Mods.of_below (S := fun _ => False) hb) (fun _ _ _ h => h), fun _ _ _ h => h, hql⟩ ⟨HIX.out.1.keep (Mods.of_below (S := fun _ => False) hb) (fun _ _ _ h => h), fun _ _ _ h => h, HIX.out.2.2⟩ true HEQ.out).mono fun e w2 hh => ⟨hh.1, HST.out w2 (hb.trans (hh.2.mono hb.size))⟩)
                      clear p0 p1 p2 y0 y1 y2
                      go_region_held3 (fun w' => (w'.cell? ⟨w4.heap.size, 0, none⟩ = some (.int .i64 q.f) ∧ w'.cell? ⟨w4.heap.size, 1, none⟩ = some (.int .i64 q.t) ∧ w'.cell? ⟨w4.heap.size, 2, none⟩ = some (.slice ao4 q.l.length cap4)) ∧ (w'.cell? ⟨g2, n * 3, none⟩ = some (.int .i64 x.f) ∧ w'.cell? ⟨g2, n * 3 + 1, none⟩ = some (.int .i64 x.t) ∧ w'.cell? ⟨g2, n * 3 + 2, none⟩ = some (.slice x.ao x.l.length x.cap)) ∧ Below W5.heap.size W5 w')
                        (first | exact HS0.out | exact h9)
                        ((first
                          | (go_at_call 12; refine (HSAME.out _ (by obtain ⟨_, _, hb⟩ := (by assumption : (fun w' => (w'.cell? ⟨w4.heap.size, 0, none⟩ = some (.int .i64 q.f) ∧ w'.cell? ⟨w4.heap.size, 1, none⟩ = some (.int .i64 q.t) ∧ w'.cell? ⟨w4.heap.size, 2, none⟩ = some (.slice ao4 q.l.length cap4)) ∧ (w'.cell? ⟨g2, n * 3, none⟩ = some (.int .i64 x.f) ∧ w'.cell? ⟨g2, n * 3 + 1, none⟩ = some (.int .i64 x.t) ∧ w'.cell? ⟨g2, n * 3 + 2, none⟩ = some (.slice x.ao x.l.length x.cap)) ∧ Below W5.heap.size W5 w') _); exact hb)).mono ?_; rintro e w9 ⟨rfl, h9⟩)))
                      have HP6 := Lib.hid (HP5.out.below h9.2.2)
                      clear h9
                      go_wp2_with fail
                      go_roundw
                      case rel => exact ⟨(n : Int) + 1, by go_num, by omega, by omega, HP6.out⟩
                      case measure => simp [intOf]; omega
                    · skip
                      have hzz : z = (X2.length : Int) := by omega
                      subst hzz
                      have HGE := Lib.hid (show decide ((0 : Int) ≤ (X2.length : Int)) = true from decide_eq_true (by omega))
                      have HLT := Lib.hid (show decide ((X2.length : Int) < (X2.length : Int)) = false from decide_eq_false (by omega))
                      have hX80 : X2.length ≤ 81 := by omega
                      go_wp2_with fail
                      refine (at_out W.heap.size _ W.heap.size r L2 al2 cl2 HP3.out.bag _ (by omega)).mono ?_
                      rintro e w4 ⟨rfl, b4⟩
                      have hp4 := HP3.out.below b4
                      clear b4
                      go_wp2_with fail
                      obtain ⟨w5, hw5⟩ : ∃ w5, w5 = w4.alloc (.cells #[.int .i64 0, .int .i64 0, .slice none 0 0] 24) := ⟨_, rfl⟩
                      have HP5 := Lib.hid (show PS W r X2 xo2 xc2 L2 al2 cl2 w5.drew by rw [hw5]; exact (hp4.alloc _).drewN 1)
                      rw [← hw5]
                      clear hw5 hp4
                      refine wp_region_still_tail 21 (by kernel_rfl) (by kernel_rfl) ?_
                      simp only [List.take_succ_cons, List.take_zero, List.drop_succ_cons, List.drop_zero]
                      with_reducible refine st_val (.bool false) ?_ ?_ ?_
                      · kernel_rfl
                      · kernel_rfl
                      simp only [Act.put, List.setIfInBounds_toArray, List.set_cons_succ, List.set_cons_zero]
                      with_reducible refine st_val (.int .i64 (X2.length : Int)) ?_ ?_ ?_
                      · kernel_rfl
                      · kernel_rfl
                      simp only [Act.put, List.setIfInBounds_toArray, List.set_cons_succ, List.set_cons_zero]
                      with_reducible refine st_val (.bool true) ?_ ?_ ?_
                      · kernel_rfl
                      · refine Eq.trans (b := .ok (.value (.bool (decide ((0 : Int) ≤ (X2.length : Int))))) _) ?_ (by rw [HGE.out])
                        kernel_rfl
                      simp only [Act.put, List.setIfInBounds_toArray, List.set_cons_succ, List.set_cons_zero]
                      with_reducible refine st_val (.bool true) ?_ ?_ ?_
                      · kernel_rfl
                      · kernel_rfl
                      simp only [Act.put, List.setIfInBounds_toArray, List.set_cons_succ, List.set_cons_zero]
                      with_reducible refine st_val (.int .i64 (X2.length : Int)) ?_ ?_ ?_
                      · kernel_rfl
                      · kernel_rfl
                      simp only [Act.put, List.setIfInBounds_toArray, List.set_cons_succ, List.set_cons_zero]
                      with_reducible refine st_val (.slice xo2 X2.length xc2) ?_ ?_ ?_
                      · kernel_rfl
                      · kernel_rfl
                      simp only [Act.put, List.setIfInBounds_toArray, List.set_cons_succ, List.set_cons_zero]
                      with_reducible refine st_val (.int .i64 (X2.length : Int)) ?_ ?_ ?_
                      · kernel_rfl
                      · kernel_rfl
                      simp only [Act.put, List.setIfInBounds_toArray, List.set_cons_succ, List.set_cons_zero]
                      with_reducible refine st_val (.bool false) ?_ ?_ ?_
                      · kernel_rfl
                      · refine Eq.trans (b := .ok (.value (.bool (decide ((X2.length : Int) < (X2.length : Int))))) _) ?_ (by rw [HLT.out])
                        kernel_rfl
                      simp only [Act.put, List.setIfInBounds_toArray, List.set_cons_succ, List.set_cons_zero]
                      with_reducible refine st_val (.bool false) ?_ ?_ ?_
                      · kernel_rfl
                      · kernel_rfl
                      simp only [Act.put, List.setIfInBounds_toArray, List.set_cons_succ, List.set_cons_zero]
                      with_reducible refine st_val (.bool false) ?_ ?_ ?_
                      · kernel_rfl
                      · kernel_rfl
                      simp only [Act.put, List.setIfInBounds_toArray, List.set_cons_succ, List.set_cons_zero]
                      with_reducible refine st_val (.bool false) ?_ ?_ ?_
                      · kernel_rfl
                      · kernel_rfl
                      simp only [Act.put, List.setIfInBounds_toArray, List.set_cons_succ, List.set_cons_zero]
                      with_reducible refine st_val (.bool false) ?_ ?_ ?_
                      · kernel_rfl
                      · kernel_rfl
                      simp only [Act.put, List.setIfInBounds_toArray, List.set_cons_succ, List.set_cons_zero]
                      with_reducible refine st_val (.bool false) ?_ ?_ ?_
                      · kernel_rfl
                      · kernel_rfl
                      simp only [Act.put, List.setIfInBounds_toArray, List.set_cons_succ, List.set_cons_zero]
                      with_reducible refine st_skip ?_ ?_
                      · kernel_rfl
                      simp only [Act.put, List.setIfInBounds_toArray, List.set_cons_succ, List.set_cons_zero]
                      with_reducible refine st_skip ?_ ?_
                      · kernel_rfl
                      simp only [Act.put, List.setIfInBounds_toArray, List.set_cons_succ, List.set_cons_zero]
                      with_reducible refine st_skip ?_ ?_
                      · kernel_rfl
                      simp only [Act.put, List.setIfInBounds_toArray, List.set_cons_succ, List.set_cons_zero]
                      with_reducible refine st_skip ?_ ?_
                      · kernel_rfl
                      simp only [Act.put, List.setIfInBounds_toArray, List.set_cons_succ, List.set_cons_zero]
                      with_reducible refine st_skip ?_ ?_
                      · kernel_rfl
                      simp only [Act.put, List.setIfInBounds_toArray, List.set_cons_succ, List.set_cons_zero]
                      with_reducible refine st_skip ?_ ?_
                      · kernel_rfl
                      simp only [Act.put, List.setIfInBounds_toArray, List.set_cons_succ, List.set_cons_zero]
                      with_reducible refine st_skip ?_ ?_
                      · kernel_rfl
                      simp only [Act.put, List.setIfInBounds_toArray, List.set_cons_succ, List.set_cons_zero]
                      with_reducible refine st_val (.bool false) ?_ ?_ ?_
                      · kernel_rfl
                      · kernel_rfl
                      simp only [Act.put, List.setIfInBounds_toArray, List.set_cons_succ, List.set_cons_zero]
                      with_reducible refine wpStill_nil ?_
                      change wpList _ _ _ _ _ w5.drew
                      go_wp2_with fail
                      go_roundw
                      case rel => exact ⟨(X2.length : Int) + 1, by go_num, by omega, by omega, HP5.out⟩
                      case measure => simp [intOf]; try omega
                  · skip
                    have hzz : z = -1 := by omega
                    subst hzz
                    go_wp2_with fail
                    refine (at_out W.heap.size _ W.heap.size r L2 al2 cl2 HP3.out.bag _ (by omega)).mono ?_
                    rintro e w4 ⟨rfl, b4⟩
                    have hp4 := HP3.out.below b4
                    clear b4
                    go_wp2_with fail
                    obtain ⟨w5, hw5⟩ : ∃ w5, w5 = w4.alloc (.cells #[.int .i64 0, .int .i64 0, .slice none 0 0] 24) := ⟨_, rfl⟩
                    have HP5 := Lib.hid (show PS W r X2 xo2 xc2 L2 al2 cl2 w5.drew by rw [hw5]; exact (hp4.alloc _).drewN 1)
                    rw [← hw5]
                    clear hw5 hp4
                    refine wp_region_still_tail 21 (by kernel_rfl) (by kernel_rfl) ?_
                    simp only [List.take_succ_cons, List.take_zero, List.drop_succ_cons, List.drop_zero]
                    with_reducible refine st_val (.bool false) ?_ ?_ ?_
                    · kernel_rfl
                    · kernel_rfl
                    simp only [Act.put, List.setIfInBounds_toArray, List.set_cons_succ, List.set_cons_zero]
                    with_reducible refine st_val (.int .i64 (-1)) ?_ ?_ ?_
                    · kernel_rfl
                    · kernel_rfl
                    simp only [Act.put, List.setIfInBounds_toArray, List.set_cons_succ, List.set_cons_zero]
                    with_reducible refine st_val (.bool false) ?_ ?_ ?_
                    · kernel_rfl
                    · kernel_rfl
                    simp only [Act.put, List.setIfInBounds_toArray, List.set_cons_succ, List.set_cons_zero]
                    with_reducible refine st_val (.bool false) ?_ ?_ ?_
                    · kernel_rfl
                    · kernel_rfl
                    simp only [Act.put, List.setIfInBounds_toArray, List.set_cons_succ, List.set_cons_zero]
                    with_reducible refine st_skip ?_ ?_
                    · kernel_rfl
                    simp only [Act.put, List.setIfInBounds_toArray, List.set_cons_succ, List.set_cons_zero]
                    with_reducible refine st_skip ?_ ?_
                    · kernel_rfl
                    simp only [Act.put, List.setIfInBounds_toArray, List.set_cons_succ, List.set_cons_zero]
                    with_reducible refine st_skip ?_ ?_
                    · kernel_rfl
                    simp only [Act.put, List.setIfInBounds_toArray, List.set_cons_succ, List.set_cons_zero]
                    with_reducible refine st_skip ?_ ?_
                    · kernel_rfl
                    simp only [Act.put, List.setIfInBounds_toArray, List.set_cons_succ, List.set_cons_zero]
                    with_reducible refine st_val (.bool false) ?_ ?_ ?_
                    · kernel_rfl
                    · kernel_rfl
                    simp only [Act.put, List.setIfInBounds_toArray, List.set_cons_succ, List.set_cons_zero]
                    with_reducible refine st_val (.bool false) ?_ ?_ ?_
                    · kernel_rfl
                    · kernel_rfl
                    simp only [Act.put, List.setIfInBounds_toArray, List.set_cons_succ, List.set_cons_zero]
                    with_reducible refine st_val (.bool false) ?_ ?_ ?_
                    · kernel_rfl
                    · kernel_rfl
                    simp only [Act.put, List.setIfInBounds_toArray, List.set_cons_succ, List.set_cons_zero]
                    with_reducible refine st_val (.bool false) ?_ ?_ ?_
                    · kernel_rfl
                    · kernel_rfl
                    simp only [Act.put, List.setIfInBounds_toArray, List.set_cons_succ, List.set_cons_zero]
                    with_reducible refine st_val (.bool false) ?_ ?_ ?_
                    · kernel_rfl
                    · kernel_rfl
                    simp only [Act.put, List.setIfInBounds_toArray, List.set_cons_succ, List.set_cons_zero]
                    with_reducible refine st_skip ?_ ?_
                    · kernel_rfl
                    simp only [Act.put, List.setIfInBounds_toArray, List.set_cons_succ, List.set_cons_zero]
                    with_reducible refine st_skip ?_ ?_
                    · kernel_rfl
                    simp only [Act.put, List.setIfInBounds_toArray, List.set_cons_succ, List.set_cons_zero]
                    with_reducible refine st_skip ?_ ?_
                    · kernel_rfl
                    simp only [Act.put, List.setIfInBounds_toArray, List.set_cons_succ, List.set_cons_zero]
                    with_reducible refine st_skip ?_ ?_
                    · kernel_rfl
                    simp only [Act.put, List.setIfInBounds_toArray, List.set_cons_succ, List.set_cons_zero]
                    with_reducible refine st_skip ?_ ?_
                    · kernel_rfl
                    simp only [Act.put, List.setIfInBounds_toArray, List.set_cons_succ, List.set_cons_zero]
                    with_reducible refine st_skip ?_ ?_
                    · kernel_rfl
                    simp only [Act.put, List.setIfInBounds_toArray, List.set_cons_succ, List.set_cons_zero]
                    with_reducible refine st_skip ?_ ?_
                    · kernel_rfl
                    simp only [Act.put, List.setIfInBounds_toArray, List.set_cons_succ, List.set_cons_zero]
                    with_reducible refine st_val (.bool false) ?_ ?_ ?_
                    · kernel_rfl
                    · kernel_rfl
                    simp only [Act.put, List.setIfInBounds_toArray, List.set_cons_succ, List.set_cons_zero]
                    with_reducible refine wpStill_nil ?_
                    change wpList _ _ _ _ _ w5.drew
                    go_wp2_with fail
                    go_roundw
                    case rel => exact ⟨0, rfl, by omega, by omega, HP5.out⟩
                    case measure => simp [intOf]; omega
                · have hne : ¬ z ≤ (X2.length : Int) := hlt
                  go_wp2_with fail
                  go_roundw
                  case rel => exact ⟨k + 1, X2, xo2, xc2, L2, al2, cl2, rfl, by go_num, by omega, hX2, HK2.out, HP3.out⟩
                  case measure => simp [intOf]; omega
      · have h100' : (100 : Int) < (y.e.l.length : Int) := by omega
        go_wp2_with fail
        refine (awake_any _).mono ?_
        rintro e w2 ⟨rfl, b2⟩
        have HW2 := Lib.hid ((HP.out.alloc _).below b2).bel
        clear b2
        go_wp2_with fail
        go_ret
        exact ⟨rfl, HW2.out⟩
    · skip
      have hkl : ¬ (k : Int) < (Y.length : Int) := by omega
      clear hps
      go_wp2_with fail
      refine (awake_any _).mono ?_
      rintro e w2 ⟨rfl, b2⟩
      have HW2 := Lib.hid (HP.out.below b2).bel
      clear b2
      go_wp2_with fail
      go_ret
      exact ⟨rfl, HW2.out⟩
end Go.Proofs.Ytngackbgcknphaa.B
