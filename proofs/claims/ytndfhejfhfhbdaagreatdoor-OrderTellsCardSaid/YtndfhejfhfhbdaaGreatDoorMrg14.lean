/- Several texts in one. -/
import Derived.Test.YtndfhejfhfhbdaaGreatDoorMrg13
import Derived.Shelf.SlSortCmp.Whole1
import Derived.Shelf.SlSortCmp.WholeK
import Derived.Test.YtndfhejfhfhbdaaGreatDoorProg

/- The closure that asks ready; slices.IndexFunc with it. -/
namespace Go.Proofs.YtndfhejfhfhbdaaGreatDoor.K
open Go.RowKit M T
set_option linter.unusedVariables false
set_option linter.unusedSimpArgs false

/-- all that the closure reads -/
structure RB (E : Nat → List Int) (n B : Nat) (w : World) (b bf bc gB : Nat) (C : List (List Nat)) (q : Nat → Nat) (eo : Option Addr) (ec : Nat) (come : Nat → Bool) : Prop where
  ed : EdAt B w eo n ec E
  rd : RD E n w b C q eo ec
  cf : w.cell? ⟨bf, 0, none⟩ = some (.pointer (some ⟨b, 0, none⟩))
  cc : w.cell? ⟨bc, 0, none⟩ = some (.slice (some ⟨gB, 0, none⟩) C.length C.length)
  cb : ∀ i, i < C.length → w.cell? ⟨gB, i, none⟩ = some (.bool (come i))
set_option maxRecDepth 100000 in
set_option maxHeartbeats 400000 in
theorem ask_any (E : Nat → List Int) (n B : Nat) (w : World) (b bf bc gB : Nat) (C : List (List Nat)) (q : Nat → Nat) (eo : Option Addr) (ec : Nat) (come : Nat → Bool) (h : RB E n B w b bf bc gB C q eo ec come) (hC : Comp E n C q) (ci : Nat) (hci : ci < C.length) (hn : n ≤ 10000) (hCl : C.length ≤ 10000) :
    Calls Tryz.prog 74 #[.int .i64 ci, .pointer (some ⟨bf, 0, none⟩), .pointer (some ⟨bc, 0, none⟩)] w fun e w' => e = .returned (.bool (rdy E n C q come ci)) ∧ w = w' := by
  have HR := Lib.hid (ready_any E n B w b C q eo ec h.ed hC h.rd ci gB come hci hn h.cb hCl)
  have h1 := h.cf
  have h2 := h.cc
  clear h
  go_enter Tryz.func74, Tryz.ntmps74
  go_wp2_with fail
  refine HR.out.mono ?_
  rintro e w2 ⟨rfl, rfl⟩
  go_wp2_with fail
  go_ret
  exact ⟨rfl, rfl⟩

set_option maxRecDepth 100000 in
set_option maxHeartbeats 400000 in
/-- the first that is ready -/
theorem find_ready (E : Nat → List Int) (n B : Nat) (w : World) (b bf bc gB : Nat) (C : List (List Nat)) (q : Nat → Nat) (eo : Option Addr) (ec : Nat) (come : Nat → Bool) (h : RB E n B w b bf bc gB C q eo ec come) (hC : Comp E n C q) (hn : n ≤ 10000) (hCl : C.length ≤ 10000)
    (g cap : Nat) (l : List Nat) (hc : ∀ (j x : Nat), l[j]? = some x → w.cell? ⟨g, j, none⟩ = some (.int .i64 (x : Int))) (hl : l.length ≤ 10000) (hlC : ∀ x ∈ l, x < C.length) (i x : Nat) (hi : l[i]? = some x) (hr : rdy E n C q come x = true) (hno : ∀ (j y : Nat), j < i → l[j]? = some y → rdy E n C q come y = false) :
    Calls Tryz.prog 73 #[.slice (some ⟨g, 0, none⟩) l.length cap, .func (.func 74) #[] #[.pointer (some ⟨bf, 0, none⟩), .pointer (some ⟨bc, 0, none⟩)]] w fun e w' => e = .returned (.int .i64 i) ∧ w = w' := by
  have HA := Lib.hid (fun (ci : Nat) (h2 : ci < C.length) => ask_any E n B w b bf bc gB C q eo ec come h hC ci h2 hn hCl)
  have HC := Lib.hid hc
  have HI := Lib.hid hi
  have HR := Lib.hid hr
  have HNO := Lib.hid hno
  have HLC := Lib.hid hlC
  have hil : i < l.length := (List.getElem?_eq_some_iff.1 hi).1
  clear h hC hc hi hr hno hlC
  go_enter Tryz.func73, Tryz.ntmps73
  go_wp2_with fail
  go_loopw [8] (fun iv wr => ∃ k : Nat, iv = .int .i64 k ∧ k ≤ i ∧ wr = w) (fun iv _ => i - (intOf iv).toNat)
  case atStart => exact ⟨0, rfl, Nat.zero_le _, rfl⟩
  case round =>
    obtain ⟨k, rfl, hk, rfl⟩ := hrel
    have hkl : (k : Int) < (l.length : Int) := by omega
    by_cases hlt : k < i
    · obtain ⟨y, hy⟩ : ∃ y, l[k]? = some y := ⟨_, List.getElem?_eq_getElem (by omega)⟩
      have c0 := HC.out k y hy
      have HF := Lib.hid (HNO.out k y hlt hy)
      have hyC := HLC.out y (List.mem_of_getElem? hy)
      clear hy
      go_wp2_with (go_at_call 74; refine (HA.out y hyC).mono ?_; rw [HF.out]; rintro e w2 ⟨rfl, rfl⟩)
      go_roundw
      case rel => exact ⟨k + 1, by go_num, by omega, by trivial⟩
      case measure => simp [intOf]; omega
    · obtain rfl : k = i := by omega
      have c0 := HC.out k x HI.out
      have hyC := HLC.out x (List.mem_of_getElem? HI.out)
      go_wp2_with (go_at_call 74; refine (HA.out x hyC).mono ?_; rw [HR.out]; rintro e w2 ⟨rfl, rfl⟩)
      go_ret
      exact ⟨rfl, rfl⟩
end Go.Proofs.YtndfhejfhfhbdaaGreatDoor.K

/- slices.SortFunc at this dump, in plain words, as the kit's lay-plain.mjs prints it. -/
namespace Go.Proofs
open Go.Shelf
def Tryz.sortC67_ren : Go.Shelf.Ren := ⟨fun | 6 => 67 | 15 => 105 | 14 => 104 | 28 => 134 | 29 => 135 | 20 => 126 | 21 => 127 | 22 => 128 | 23 => 129 | 24 => 130 | 25 => 131 | 26 => 132 | 27 => 133 | 46 => 168 | 47 => 169 | 48 => 170 | 49 => 171 | 50 => 172 | 57 => 187 | n => n, fun | 22 => 28 | 24 => 38 | 25 => 75 | 3 => 3 | 39 => 124 | 0 => 0 | 53 => 147 | 55 => 149 | 4 => 4 | 46 => 141 | 45 => 140 | 50 => 83 | 5 => 5 | 9 => 9 | 66 => 175 | 70 => 179 | 76 => 190 | 77 => 191 | n => n, fun | n => n⟩
theorem Tryz.sortC67 : Go.Proofs.SlLaysF0.n6 Tryz.prog Tryz.sortC67_ren := {
  mixed := by kernel_rfl
  f6 := ⟨Tryz.f67.name, by decide, Tryz.func67.trans (congrArg some (by kernel_rfl))⟩
  f14 := ⟨Tryz.f104.name, by decide, Tryz.func104.trans (congrArg some (by kernel_rfl))⟩
  f15 := Tryz.func105.trans (congrArg some (by kernel_rfl))
  f20 := ⟨Tryz.f126.name, by decide, Tryz.func126.trans (congrArg some (by kernel_rfl))⟩
  f21 := ⟨Tryz.f127.name, by decide, Tryz.func127.trans (congrArg some (by kernel_rfl))⟩
  f22 := ⟨Tryz.f128.name, by decide, Tryz.func128.trans (congrArg some (by kernel_rfl))⟩
  f23 := ⟨Tryz.f129.name, by decide, Tryz.func129.trans (congrArg some (by kernel_rfl))⟩
  f24 := ⟨Tryz.f130.name, by decide, Tryz.func130.trans (congrArg some (by kernel_rfl))⟩
  f25 := ⟨Tryz.f131.name, by decide, Tryz.func131.trans (congrArg some (by kernel_rfl))⟩
  f26 := ⟨Tryz.f132.name, by decide, Tryz.func132.trans (congrArg some (by kernel_rfl))⟩
  f27 := ⟨Tryz.f133.name, by decide, Tryz.func133.trans (congrArg some (by kernel_rfl))⟩
  f28 := Tryz.func134.trans (congrArg some (by kernel_rfl))
  f29 := Tryz.func135.trans (congrArg some (by kernel_rfl))
  f46 := ⟨Tryz.f168.name, by decide, Tryz.func168.trans (congrArg some (by kernel_rfl))⟩
  f47 := Tryz.func169.trans (congrArg some (by kernel_rfl))
  f48 := Tryz.func170.trans (congrArg some (by kernel_rfl))
  f49 := ⟨Tryz.f171.name, by decide, Tryz.func171.trans (congrArg some (by kernel_rfl))⟩
  f50 := ⟨Tryz.f172.name, by decide, Tryz.func172.trans (congrArg some (by kernel_rfl))⟩
  f57 := ⟨Tryz.f187.name, by decide, Tryz.func187.trans (congrArg some (by kernel_rfl))⟩
  t0 := Tryz.underlying0
  a0 := Tryz.isAgg0
  z0 := Tryz.sizeOf0
  v0 := Tryz.zeroValue0
  t3 := Tryz.underlying3
  a3 := Tryz.isAgg3
  z3 := Tryz.sizeOf3
  v3 := Tryz.zeroValue3
  t4 := Tryz.underlying4
  a4 := Tryz.isAgg4
  z4 := Tryz.sizeOf4
  v4 := Tryz.zeroValue4
  t5 := Tryz.underlying5
  a5 := Tryz.isAgg5
  z5 := Tryz.sizeOf5
  v5 := Tryz.zeroValue5
  t9 := Tryz.underlying9
  a9 := Tryz.isAgg9
  z9 := Tryz.sizeOf9
  v9 := Tryz.zeroValue9
  t22 := Tryz.underlying28
  a22 := Tryz.isAgg28
  z22 := Tryz.sizeOf28
  v22 := Tryz.zeroValue28
  t25 := Tryz.underlying75
  a25 := Tryz.isAgg75
  z25 := Tryz.sizeOf75
  v25 := Tryz.zeroValue75
  t39 := Tryz.underlying124
  a39 := Tryz.isAgg124
  z39 := Tryz.sizeOf124
  v39 := Tryz.zeroValue124
  t45 := Tryz.underlying140
  a45 := Tryz.isAgg140
  z45 := Tryz.sizeOf140
  v45 := Tryz.zeroValue140
  t46 := Tryz.underlying141
  a46 := Tryz.isAgg141
  z46 := Tryz.sizeOf141
  v46 := Tryz.zeroValue141
  t50 := Tryz.underlying83
  a50 := Tryz.isAgg83
  z50 := Tryz.sizeOf83
  v50 := Tryz.zeroValue83
  t53 := Tryz.underlying147
  a53 := Tryz.isAgg147
  z53 := Tryz.sizeOf147
  v53 := Tryz.zeroValue147
  t55 := Tryz.underlying149
  a55 := Tryz.isAgg149
  z55 := Tryz.sizeOf149
  v55 := Tryz.zeroValue149
  t66 := Tryz.underlying175
  a66 := Tryz.isAgg175
  z66 := Tryz.sizeOf175
  v66 := Tryz.zeroValue175
  t70 := Tryz.underlying179
  a70 := Tryz.isAgg179
  z70 := Tryz.sizeOf179
  v70 := Tryz.zeroValue179
  t76 := Tryz.underlying190
  a76 := Tryz.isAgg190
  z76 := Tryz.sizeOf190
  v76 := Tryz.zeroValue190
  t77 := Tryz.underlying191
  a77 := Tryz.isAgg191
  z77 := Tryz.sizeOf191
  v77 := Tryz.zeroValue191 }
def Tryz.sortC71_ren : Go.Shelf.Ren := ⟨fun | 6 => 71 | 15 => 105 | 14 => 107 | 28 => 134 | 29 => 135 | 20 => 138 | 21 => 139 | 22 => 140 | 23 => 141 | 24 => 142 | 25 => 143 | 26 => 144 | 27 => 145 | 46 => 174 | 47 => 169 | 48 => 170 | 49 => 175 | 50 => 176 | 57 => 188 | n => n, fun | 22 => 79 | 24 => 3 | 25 => 67 | 3 => 3 | 39 => 124 | 0 => 0 | 53 => 147 | 55 => 149 | 4 => 4 | 46 => 141 | 45 => 140 | 50 => 83 | 5 => 5 | 9 => 9 | 66 => 175 | 70 => 179 | 76 => 190 | 77 => 191 | n => n, fun | n => n⟩
theorem Tryz.sortC71 : Go.Proofs.SlLaysF.n6 Tryz.prog Tryz.sortC71_ren := {
  mixed := by kernel_rfl
  f6 := ⟨Tryz.f71.name, by decide, Tryz.func71.trans (congrArg some (by kernel_rfl))⟩
  f14 := ⟨Tryz.f107.name, by decide, Tryz.func107.trans (congrArg some (by kernel_rfl))⟩
  f15 := Tryz.func105.trans (congrArg some (by kernel_rfl))
  f20 := ⟨Tryz.f138.name, by decide, Tryz.func138.trans (congrArg some (by kernel_rfl))⟩
  f21 := ⟨Tryz.f139.name, by decide, Tryz.func139.trans (congrArg some (by kernel_rfl))⟩
  f22 := ⟨Tryz.f140.name, by decide, Tryz.func140.trans (congrArg some (by kernel_rfl))⟩
  f23 := ⟨Tryz.f141.name, by decide, Tryz.func141.trans (congrArg some (by kernel_rfl))⟩
  f24 := ⟨Tryz.f142.name, by decide, Tryz.func142.trans (congrArg some (by kernel_rfl))⟩
  f25 := ⟨Tryz.f143.name, by decide, Tryz.func143.trans (congrArg some (by kernel_rfl))⟩
  f26 := ⟨Tryz.f144.name, by decide, Tryz.func144.trans (congrArg some (by kernel_rfl))⟩
  f27 := ⟨Tryz.f145.name, by decide, Tryz.func145.trans (congrArg some (by kernel_rfl))⟩
  f28 := Tryz.func134.trans (congrArg some (by kernel_rfl))
  f29 := Tryz.func135.trans (congrArg some (by kernel_rfl))
  f46 := ⟨Tryz.f174.name, by decide, Tryz.func174.trans (congrArg some (by kernel_rfl))⟩
  f47 := Tryz.func169.trans (congrArg some (by kernel_rfl))
  f48 := Tryz.func170.trans (congrArg some (by kernel_rfl))
  f49 := ⟨Tryz.f175.name, by decide, Tryz.func175.trans (congrArg some (by kernel_rfl))⟩
  f50 := ⟨Tryz.f176.name, by decide, Tryz.func176.trans (congrArg some (by kernel_rfl))⟩
  f57 := ⟨Tryz.f188.name, by decide, Tryz.func188.trans (congrArg some (by kernel_rfl))⟩
  t0 := Tryz.underlying0
  a0 := Tryz.isAgg0
  z0 := Tryz.sizeOf0
  v0 := Tryz.zeroValue0
  t3 := Tryz.underlying3
  a3 := Tryz.isAgg3
  z3 := Tryz.sizeOf3
  v3 := Tryz.zeroValue3
  t4 := Tryz.underlying4
  a4 := Tryz.isAgg4
  z4 := Tryz.sizeOf4
  v4 := Tryz.zeroValue4
  t5 := Tryz.underlying5
  a5 := Tryz.isAgg5
  z5 := Tryz.sizeOf5
  v5 := Tryz.zeroValue5
  t9 := Tryz.underlying9
  a9 := Tryz.isAgg9
  z9 := Tryz.sizeOf9
  v9 := Tryz.zeroValue9
  t22 := Tryz.underlying79
  a22 := Tryz.isAgg79
  z22 := Tryz.sizeOf79
  v22 := Tryz.zeroValue79
  a24 := Tryz.isAgg3
  z24 := Tryz.sizeOf3
  t25 := Tryz.underlying67
  a25 := Tryz.isAgg67
  z25 := Tryz.sizeOf67
  v25 := Tryz.zeroValue67
  t39 := Tryz.underlying124
  a39 := Tryz.isAgg124
  z39 := Tryz.sizeOf124
  v39 := Tryz.zeroValue124
  t45 := Tryz.underlying140
  a45 := Tryz.isAgg140
  z45 := Tryz.sizeOf140
  v45 := Tryz.zeroValue140
  t46 := Tryz.underlying141
  a46 := Tryz.isAgg141
  z46 := Tryz.sizeOf141
  v46 := Tryz.zeroValue141
  t50 := Tryz.underlying83
  a50 := Tryz.isAgg83
  z50 := Tryz.sizeOf83
  v50 := Tryz.zeroValue83
  t53 := Tryz.underlying147
  a53 := Tryz.isAgg147
  z53 := Tryz.sizeOf147
  v53 := Tryz.zeroValue147
  t55 := Tryz.underlying149
  a55 := Tryz.isAgg149
  z55 := Tryz.sizeOf149
  v55 := Tryz.zeroValue149
  t66 := Tryz.underlying175
  a66 := Tryz.isAgg175
  z66 := Tryz.sizeOf175
  v66 := Tryz.zeroValue175
  t70 := Tryz.underlying179
  a70 := Tryz.isAgg179
  z70 := Tryz.sizeOf179
  v70 := Tryz.zeroValue179
  t76 := Tryz.underlying190
  a76 := Tryz.isAgg190
  z76 := Tryz.sizeOf190
  v76 := Tryz.zeroValue190
  t77 := Tryz.underlying191
  a77 := Tryz.isAgg191
  z77 := Tryz.sizeOf191
  v77 := Tryz.zeroValue191 }
def Tryz.sortC86_ren : Go.Shelf.Ren := ⟨fun | 6 => 86 | 15 => 105 | 14 => 112 | 28 => 134 | 29 => 135 | 20 => 156 | 21 => 157 | 22 => 158 | 23 => 159 | 24 => 160 | 25 => 161 | 26 => 162 | 27 => 163 | 46 => 181 | 47 => 169 | 48 => 170 | 49 => 182 | 50 => 183 | 57 => 191 | n => n, fun | 22 => 25 | 24 => 27 | 25 => 114 | 3 => 3 | 39 => 124 | 0 => 0 | 53 => 147 | 55 => 149 | 4 => 4 | 46 => 141 | 45 => 140 | 50 => 83 | 5 => 5 | 9 => 9 | 66 => 175 | 70 => 179 | 76 => 190 | 77 => 191 | n => n, fun | n => n⟩
theorem Tryz.sortC86 : Go.Proofs.SlLaysF0.n6 Tryz.prog Tryz.sortC86_ren := {
  mixed := by kernel_rfl
  f6 := ⟨Tryz.f86.name, by decide, Tryz.func86.trans (congrArg some (by kernel_rfl))⟩
  f14 := ⟨Tryz.f112.name, by decide, Tryz.func112.trans (congrArg some (by kernel_rfl))⟩
  f15 := Tryz.func105.trans (congrArg some (by kernel_rfl))
  f20 := ⟨Tryz.f156.name, by decide, Tryz.func156.trans (congrArg some (by kernel_rfl))⟩
  f21 := ⟨Tryz.f157.name, by decide, Tryz.func157.trans (congrArg some (by kernel_rfl))⟩
  f22 := ⟨Tryz.f158.name, by decide, Tryz.func158.trans (congrArg some (by kernel_rfl))⟩
  f23 := ⟨Tryz.f159.name, by decide, Tryz.func159.trans (congrArg some (by kernel_rfl))⟩
  f24 := ⟨Tryz.f160.name, by decide, Tryz.func160.trans (congrArg some (by kernel_rfl))⟩
  f25 := ⟨Tryz.f161.name, by decide, Tryz.func161.trans (congrArg some (by kernel_rfl))⟩
  f26 := ⟨Tryz.f162.name, by decide, Tryz.func162.trans (congrArg some (by kernel_rfl))⟩
  f27 := ⟨Tryz.f163.name, by decide, Tryz.func163.trans (congrArg some (by kernel_rfl))⟩
  f28 := Tryz.func134.trans (congrArg some (by kernel_rfl))
  f29 := Tryz.func135.trans (congrArg some (by kernel_rfl))
  f46 := ⟨Tryz.f181.name, by decide, Tryz.func181.trans (congrArg some (by kernel_rfl))⟩
  f47 := Tryz.func169.trans (congrArg some (by kernel_rfl))
  f48 := Tryz.func170.trans (congrArg some (by kernel_rfl))
  f49 := ⟨Tryz.f182.name, by decide, Tryz.func182.trans (congrArg some (by kernel_rfl))⟩
  f50 := ⟨Tryz.f183.name, by decide, Tryz.func183.trans (congrArg some (by kernel_rfl))⟩
  f57 := ⟨Tryz.f191.name, by decide, Tryz.func191.trans (congrArg some (by kernel_rfl))⟩
  t0 := Tryz.underlying0
  a0 := Tryz.isAgg0
  z0 := Tryz.sizeOf0
  v0 := Tryz.zeroValue0
  t3 := Tryz.underlying3
  a3 := Tryz.isAgg3
  z3 := Tryz.sizeOf3
  v3 := Tryz.zeroValue3
  t4 := Tryz.underlying4
  a4 := Tryz.isAgg4
  z4 := Tryz.sizeOf4
  v4 := Tryz.zeroValue4
  t5 := Tryz.underlying5
  a5 := Tryz.isAgg5
  z5 := Tryz.sizeOf5
  v5 := Tryz.zeroValue5
  t9 := Tryz.underlying9
  a9 := Tryz.isAgg9
  z9 := Tryz.sizeOf9
  v9 := Tryz.zeroValue9
  t22 := Tryz.underlying25
  a22 := Tryz.isAgg25
  z22 := Tryz.sizeOf25
  v22 := Tryz.zeroValue25
  t25 := Tryz.underlying114
  a25 := Tryz.isAgg114
  z25 := Tryz.sizeOf114
  v25 := Tryz.zeroValue114
  t39 := Tryz.underlying124
  a39 := Tryz.isAgg124
  z39 := Tryz.sizeOf124
  v39 := Tryz.zeroValue124
  t45 := Tryz.underlying140
  a45 := Tryz.isAgg140
  z45 := Tryz.sizeOf140
  v45 := Tryz.zeroValue140
  t46 := Tryz.underlying141
  a46 := Tryz.isAgg141
  z46 := Tryz.sizeOf141
  v46 := Tryz.zeroValue141
  t50 := Tryz.underlying83
  a50 := Tryz.isAgg83
  z50 := Tryz.sizeOf83
  v50 := Tryz.zeroValue83
  t53 := Tryz.underlying147
  a53 := Tryz.isAgg147
  z53 := Tryz.sizeOf147
  v53 := Tryz.zeroValue147
  t55 := Tryz.underlying149
  a55 := Tryz.isAgg149
  z55 := Tryz.sizeOf149
  v55 := Tryz.zeroValue149
  t66 := Tryz.underlying175
  a66 := Tryz.isAgg175
  z66 := Tryz.sizeOf175
  v66 := Tryz.zeroValue175
  t70 := Tryz.underlying179
  a70 := Tryz.isAgg179
  z70 := Tryz.sizeOf179
  v70 := Tryz.zeroValue179
  t76 := Tryz.underlying190
  a76 := Tryz.isAgg190
  z76 := Tryz.sizeOf190
  v76 := Tryz.zeroValue190
  t77 := Tryz.underlying191
  a77 := Tryz.isAgg191
  z77 := Tryz.sizeOf191
  v77 := Tryz.zeroValue191 }
end Go.Proofs
