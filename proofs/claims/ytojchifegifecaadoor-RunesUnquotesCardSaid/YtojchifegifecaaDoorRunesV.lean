/- The library's ParseUint at base 16 and 32 bits. -/
import Derived.Test.YtojchifegifecaaDoorRunesH
import Derived.Lib.ParseIntBMem
import Derived.Lib.ConvBytes
import Derived.Laws.Closers25
import Derived.Laws.Closers25b
import Derived.BigCall
import Derived.BigGuard
import Derived.Lib.AtoiErrMem
namespace Go.Proofs.YtojchifegifecaaDoor.R
open Go.RowKit Go.PlainAid Go.Lib

/-- a hexadecimal digit's number -/
def hexv (c : Nat) : Option Nat := if 48 ≤ c ∧ c ≤ 57 then some (c - 48) else if 97 ≤ c ||| 32 ∧ c ||| 32 ≤ 102 then some ((c ||| 32) - 87) else none
/-- the number of a row of digits, and what is wrong: 0 nothing, 2 no digit, 1 too great -/
def pu : Nat → List UInt8 → Nat × Nat
  | acc, [] => (acc, 0)
  | acc, c :: r => match hexv c.toNat with
    | none => (0, 2)
    | some d => if 4294967295 < acc * 16 + d then (4294967295, 1) else pu (acc * 16 + d) r
def puV (t : ByteArray) : Nat × Nat := if t.size = 0 then (0, 2) else pu 0 t.data.toList
theorem hexv_dig : ∀ y : Fin 16, hexv (dig y.val).toNat = some y.val := by decide
set_option maxRecDepth 100000 in
theorem or32_u8 : ∀ m : Fin 256, bits .or .u8 ((m.val : Nat) : Int) 32 = ((m.val ||| 32 : Nat) : Int) := by decide

theorem lower_any (c : Nat) (w : World) (hc : c < 256) :
    Calls Tryd.prog 58 #[.int .u8 c] w fun e w' => e = .returned (.int .u8 ((c ||| 32 : Nat) : Int)) ∧ w = w' := by
  have h := or32_u8 ⟨c, hc⟩
  have h : bits .or .u8 (c : Int) 32 = ((c ||| 32 : Nat) : Int) := h
  go_enter Tryd.func58, Tryd.ntmps58
  go_wp2_with fail
  go_ret
  exact ⟨rfl, rfl⟩

theorem lower95 (w : World) : Calls Tryd.prog 58 #[.int .u8 95] w fun e w' => e = .returned (.int .u8 127) ∧ w = w' := lower_any 95 w (by decide)
/-- what is told of a number and its fault -/
def errI (code : Nat) : Value := if code = 0 then .nilIface else .iface 84 (.int .i64 code)

set_option maxRecDepth 100000 in
set_option maxHeartbeats 4000000 in
theorem ipu_any (t : ByteArray) (w : World) (hs : t.size ≤ 1000000) :
    Calls Tryd.prog 49 #[.string t, .int .i64 16, .int .i64 32] w fun e w' => e = .returned (.tuple #[.int .u64 (puV t).1, errI (puV t).2]) ∧ Below w.heap.size w w' := by
  by_cases hz : t.size = 0
  · have HP := Lib.hid (show puV t = (0, 2) by unfold puV; rw [if_pos hz])
    have hemp : t.toList.isEmpty = true := by rw [empty_iff, hz]; rfl
    clear hz
    go_enter Tryd.func49, Tryd.ntmps49
    go_wp2_with fail
    go_ret2
    exact ⟨by rw [HP.out]; rfl, Below.refl _ _⟩
  · have HP := Lib.hid (show puV t = pu 0 t.data.toList by unfold puV; rw [if_neg hz])
    have hemp : t.toList.isEmpty = false := by rw [empty_iff]; exact beq_false_of_ne hz
    have hcv := Lib.run_convert_string_bytes (P := Tryd.prog) w 9 35 5 t (u := .string) Tryd.underlying9 Tryd.underlying35 Tryd.underlying5
    have hB : ∀ j, j < t.size → (Lib.bytesWorld w 5 t).cell? ⟨w.heap.size, j, none⟩ = some (.int .u8 (t.data.toList.getD j 0).toNat) := fun j hj => Lib.bytesWorld_cell w 5 t j hj
    have hbel : Below w.heap.size w (Lib.bytesWorld w 5 t) := Lib.bytesWorld_below _ _ _
    obtain ⟨W1, hW1⟩ : ∃ W1, W1 = Lib.bytesWorld w 5 t := ⟨_, rfl⟩
    rw [← hW1] at hcv hB hbel
    clear hW1
    have HBL := Lib.hid hbel
    clear hbel hz
    obtain ⟨bs, hL⟩ : ∃ bs, bs = t.data.toList := ⟨_, rfl⟩
    have hLn : bs.length = t.size := by rw [hL, Lib.size_eq]
    rw [← hL] at hB HP
    clear hL
    have hmv : IntKind.u64.wrap (IntKind.u64.wrap 4294967296 - 1) = 4294967295 := by
      rw [IntKind.wrap_u64, IntKind.wrap_u64]
      decide
    go_enter Tryd.func49, Tryd.ntmps49
    go_wp2_with fail
    go_loop [12, 13, 101] (fun vu vn vi => ∃ (k acc : Nat) (a : Int), vu = .bool false ∧ vn = .int .u64 a ∧ vi = .int .i64 k ∧ k ≤ t.size ∧ a = (acc : Int) ∧ acc ≤ 4294967295 ∧ pu 0 bs = pu acc (bs.drop k)) (fun _ _ vi => t.size - (RowKit.intOf vi).toNat)
    case atStart => exact ⟨0, 0, 0, rfl, rfl, rfl, Nat.zero_le _, rfl, Nat.zero_le _, rfl⟩
    case round =>
      obtain ⟨k, acc, a, rfl, rfl, rfl, hk, ha, hacc, hdec⟩ := hrel
      have a0 : 0 ≤ a := by omega
      have a1 : a ≤ 4294967295 := by omega
      by_cases hkn : k < t.size
      · have hc := hB k hkn
        have hdrop : bs.drop k = bs[k]'(by omega) :: bs.drop (k + 1) := List.drop_eq_getElem_cons (by omega)
        have hget : bs.getD k 0 = bs[k]'(by omega) := by simp [List.getD, List.getElem?_eq_getElem (show k < bs.length by omega)]
        rw [hdrop] at hdec
        rw [hget] at hc
        generalize bs[k]'(by omega) = c8 at hc hdec
        obtain ⟨c, hcc⟩ : ∃ c, c8.toNat = c := ⟨_, rfl⟩
        have hc256 : c < 256 := by rw [← hcc]; exact c8.toNat_lt
        rw [hcc] at hc
        have HBB := Lib.hid hB
        clear hB hdrop hget
        by_cases hdig : 48 ≤ c ∧ c ≤ 57
        · obtain ⟨hd0, hd1⟩ := hdig
          have hv : hexv c = some (c - 48) := by unfold hexv; rw [if_pos ⟨hd0, hd1⟩]
          have hF : pu acc (c8 :: bs.drop (k + 1)) = if 4294967295 < acc * 16 + (c - 48) then (4294967295, 1) else pu (acc * 16 + (c - 48)) (bs.drop (k + 1)) := by rw [pu, hcc, hv]
          by_cases hov : 4294967295 < acc * 16 + (c - 48)
          · rw [if_pos hov] at hF
            have HE := Lib.hid (show puV t = (4294967295, 1) by rw [HP.out, hdec, hF])
            have iov : 4294967295 < a * 16 + ((c : Int) - 48) := by omega
            clear hF hov hdec hcc hacc ha hv
            go_wp2_with fail
            all_goals go_ret2
            all_goals exact ⟨by rw [HE.out]; rfl, HBL.out⟩
          · rw [if_neg hov] at hF
            have HN := Lib.hid (show (a * 16 + ((c : Int) - 48)) = ((acc * 16 + (c - 48) : Nat) : Int) ∧ acc * 16 + (c - 48) ≤ 4294967295 ∧ pu 0 bs = pu (acc * 16 + (c - 48)) (bs.drop (k + 1)) from ⟨by omega, by omega, hdec.trans hF⟩)
            have iov : a * 16 + ((c : Int) - 48) ≤ 4294967295 := by omega
            clear hF hov hdec hcc hacc ha hv
            go_wp2_with fail
            go_round
            case rel => exact ⟨k + 1, acc * 16 + (c - 48), a * 16 + ((c : Int) - 48), rfl, (by first | rfl | (congr 1; omega)), by go_num, by omega, HN.out.1, HN.out.2.1, HN.out.2.2⟩
            case measure => simp [RowKit.intOf]; omega
        by_cases h95 : c = 95
        · have hv : hexv c = none := by rw [h95]; decide
          have hF : pu acc (c8 :: bs.drop (k + 1)) = (0, 2) := by rw [pu, hcc, hv]
          have HE := Lib.hid (show puV t = (0, 2) by rw [HP.out, hdec, hF])
          have HLW := Lib.hid lower95
          clear hF hdec hcc hv hacc ha
          subst h95
          have e95 : (((95 : Nat) : Int) == 95) = true := by decide
          go_wp2_with (go_at_call 58; refine (HLW.out _).mono ?_; rintro e w' ⟨rfl, rfl⟩)
          all_goals go_ret2
          all_goals exact ⟨by rw [HE.out]; rfl, HBL.out⟩
        · have e95 : ((c : Int) == 95) = false := beq_false' (by omega)
          clear h95
          have hlc : c ||| 32 < 256 := Nat.or_lt_two_pow (n := 8) hc256 (by omega)
          obtain ⟨lc, hlce⟩ : ∃ lc, c ||| 32 = lc := ⟨_, rfl⟩
          have hlow := fun w => lower_any c w hc256
          rw [hlce] at hlow hlc
          have HLW := Lib.hid hlow
          clear hlow
          by_cases hl : 97 ≤ lc ∧ lc ≤ 102
          · obtain ⟨hl0, hl1⟩ := hl
            have hv : hexv c = some (lc - 87) := by unfold hexv; rw [if_neg hdig, hlce, if_pos ⟨hl0, hl1⟩]
            have hF : pu acc (c8 :: bs.drop (k + 1)) = if 4294967295 < acc * 16 + (lc - 87) then (4294967295, 1) else pu (acc * 16 + (lc - 87)) (bs.drop (k + 1)) := by rw [pu, hcc, hv]
            by_cases hov : 4294967295 < acc * 16 + (lc - 87)
            · rw [if_pos hov] at hF
              have HE := Lib.hid (show puV t = (4294967295, 1) by rw [HP.out, hdec, hF])
              have iov : 4294967295 < a * 16 + ((lc : Int) - 97 + 10) := by omega
              clear hF hov hdec hcc hacc ha hv hlce
              go_wp2_with (go_at_call 58; refine (HLW.out _).mono ?_; rintro e w' ⟨rfl, rfl⟩)
              all_goals go_ret2
              all_goals exact ⟨by rw [HE.out]; rfl, HBL.out⟩
            · rw [if_neg hov] at hF
              have HN := Lib.hid (show (a * 16 + ((lc : Int) - 97 + 10)) = ((acc * 16 + (lc - 87) : Nat) : Int) ∧ acc * 16 + (lc - 87) ≤ 4294967295 ∧ pu 0 bs = pu (acc * 16 + (lc - 87)) (bs.drop (k + 1)) from ⟨by omega, by omega, hdec.trans hF⟩)
              have iov : a * 16 + ((lc : Int) - 97 + 10) ≤ 4294967295 := by omega
              clear hF hov hdec hcc hacc ha hv hlce
              go_wp2_with (go_at_call 58; refine (HLW.out _).mono ?_; rintro e w' ⟨rfl, rfl⟩)
              all_goals refine ⟨⟨k + 1, acc * 16 + (lc - 87), a * 16 + ((lc : Int) - 97 + 10), rfl, (by first | rfl | (congr 1; omega)), (by first | rfl | (congr 1; omega)), by omega, HN.out.1, HN.out.2.1, HN.out.2.2⟩, by simp [RowKit.intOf]; omega⟩
          · have hv : hexv c = none := by unfold hexv; rw [if_neg hdig, hlce, if_neg hl]
            have hF : pu acc (c8 :: bs.drop (k + 1)) = (0, 2) := by rw [pu, hcc, hv]
            have HE := Lib.hid (show puV t = (0, 2) by rw [HP.out, hdec, hF])
            clear hF hdec hcc hv hlce hacc ha
            go_wp2_with (go_at_call 58; refine (HLW.out _).mono ?_; rintro e w' ⟨rfl, rfl⟩)
            all_goals go_ret2
            all_goals exact ⟨by rw [HE.out]; rfl, HBL.out⟩
      · have hkk : k = t.size := by omega
        subst hkk
        have hF : pu acc (bs.drop t.size) = (acc, 0) := by rw [List.drop_eq_nil_of_le (by omega)]; rfl
        have HE := Lib.hid (show puV t = (acc, 0) by rw [HP.out, hdec, hF])
        subst ha
        clear hF hdec
        go_wp2_with fail
        go_ret2
        exact ⟨by rw [HE.out]; rfl, HBL.out⟩
end Go.Proofs.YtojchifegifecaaDoor.R
