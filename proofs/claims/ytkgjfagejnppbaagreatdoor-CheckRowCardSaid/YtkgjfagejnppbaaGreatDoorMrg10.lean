/- Several texts in one. -/
import Derived.Test.YtkgjfagejnppbaaGreatDoorMrg9
import Derived.Shelf.SlSortCmp.Whole1
import Derived.Shelf.SlSortCmp.WholeK
import Derived.Test.YtkgjfagejnppbaaGreatDoorProg
import Derived.Deep.Quiet
import Derived.Sort.OwnSortedInts
import Derived.Test.YtkgjfagejnppbaaGreatDoorMrg6

/- The closure that asks ready; slices.IndexFunc with it. -/
namespace Go.Proofs.YtkgjfagejnppbaaGreatDoor.K
open Go.RowKit M T
set_option linter.unusedVariables false
set_option linter.unusedSimpArgs false

/-- all that the closure reads -/
structure RB (E : Nat → List Int) (n B : Nat) (w : World) (b bf bc gB : Nat) (C : List (List Nat)) (q : Nat → Nat) (eo : Option Addr) (ec : Nat) (come : Nat → Bool) : Prop where
  ed : EdAt B w eo n ec E
  rd : RD E n w b C q eo ec
  cf : w.cell? ⟨bf, 0, none⟩ = some (.pointer (some ⟨b, 0, none⟩))
  cc : w.cell? ⟨bc, 0, none⟩ = some (.slice (some ⟨gB, 0, none⟩) C.length C.length)
  cb : ∀ i, i < C.length → w.cell? ⟨gB, i, none⟩ = some (.bool (come i))
set_option maxRecDepth 100000 in
set_option maxHeartbeats 400000 in
theorem ask_any (E : Nat → List Int) (n B : Nat) (w : World) (b bf bc gB : Nat) (C : List (List Nat)) (q : Nat → Nat) (eo : Option Addr) (ec : Nat) (come : Nat → Bool) (h : RB E n B w b bf bc gB C q eo ec come) (hC : Comp E n C q) (ci : Nat) (hci : ci < C.length) (hn : n ≤ 10000) (hCl : C.length ≤ 10000) :
    Calls Tryz.prog 55 #[.int .i64 ci, .pointer (some ⟨bf, 0, none⟩), .pointer (some ⟨bc, 0, none⟩)] w fun e w' => e = .returned (.bool (rdy E n C q come ci)) ∧ w = w' := by
  have HR := Lib.hid (ready_any E n B w b C q eo ec h.ed hC h.rd ci gB come hci hn h.cb hCl)
  have h1 := h.cf
  have h2 := h.cc
  clear h
  go_enter Tryz.func55, Tryz.ntmps55
  go_wp2_with fail
  refine HR.out.mono ?_
  rintro e w2 ⟨rfl, rfl⟩
  go_wp2_with fail
  go_ret
  exact ⟨rfl, rfl⟩

set_option maxRecDepth 100000 in
set_option maxHeartbeats 400000 in
/-- the first that is ready -/
theorem find_ready (E : Nat → List Int) (n B : Nat) (w : World) (b bf bc gB : Nat) (C : List (List Nat)) (q : Nat → Nat) (eo : Option Addr) (ec : Nat) (come : Nat → Bool) (h : RB E n B w b bf bc gB C q eo ec come) (hC : Comp E n C q) (hn : n ≤ 10000) (hCl : C.length ≤ 10000)
    (g cap : Nat) (l : List Nat) (hc : ∀ (j x : Nat), l[j]? = some x → w.cell? ⟨g, j, none⟩ = some (.int .i64 (x : Int))) (hl : l.length ≤ 10000) (hlC : ∀ x ∈ l, x < C.length) (i x : Nat) (hi : l[i]? = some x) (hr : rdy E n C q come x = true) (hno : ∀ (j y : Nat), j < i → l[j]? = some y → rdy E n C q come y = false) :
    Calls Tryz.prog 54 #[.slice (some ⟨g, 0, none⟩) l.length cap, .func (.func 55) #[] #[.pointer (some ⟨bf, 0, none⟩), .pointer (some ⟨bc, 0, none⟩)]] w fun e w' => e = .returned (.int .i64 i) ∧ w = w' := by
  have HA := Lib.hid (fun (ci : Nat) (h2 : ci < C.length) => ask_any E n B w b bf bc gB C q eo ec come h hC ci h2 hn hCl)
  have HC := Lib.hid hc
  have HI := Lib.hid hi
  have HR := Lib.hid hr
  have HNO := Lib.hid hno
  have HLC := Lib.hid hlC
  have hil : i < l.length := (List.getElem?_eq_some_iff.1 hi).1
  clear h hC hc hi hr hno hlC
  go_enter Tryz.func54, Tryz.ntmps54
  go_wp2_with fail
  go_loopw [8] (fun iv wr => ∃ k : Nat, iv = .int .i64 k ∧ k ≤ i ∧ wr = w) (fun iv _ => i - (intOf iv).toNat)
  case atStart => exact ⟨0, rfl, Nat.zero_le _, rfl⟩
  case round =>
    obtain ⟨k, rfl, hk, rfl⟩ := hrel
    have hkl : (k : Int) < (l.length : Int) := by omega
    by_cases hlt : k < i
    · obtain ⟨y, hy⟩ : ∃ y, l[k]? = some y := ⟨_, List.getElem?_eq_getElem (by omega)⟩
      have c0 := HC.out k y hy
      have HF := Lib.hid (HNO.out k y hlt hy)
      have hyC := HLC.out y (List.mem_of_getElem? hy)
      clear hy
      go_wp2_with (go_at_call 55; refine (HA.out y hyC).mono ?_; rw [HF.out]; rintro e w2 ⟨rfl, rfl⟩)
      go_roundw
      case rel => exact ⟨k + 1, by go_num, by omega, by trivial⟩
      case measure => simp [intOf]; omega
    · obtain rfl : k = i := by omega
      have c0 := HC.out k x HI.out
      have hyC := HLC.out x (List.mem_of_getElem? HI.out)
      go_wp2_with (go_at_call 55; refine (HA.out x hyC).mono ?_; rw [HR.out]; rintro e w2 ⟨rfl, rfl⟩)
      go_ret
      exact ⟨rfl, rfl⟩
end Go.Proofs.YtkgjfagejnppbaaGreatDoor.K

/- slices.SortFunc at this dump, in plain words, as the kit's lay-plain.mjs prints it. -/
namespace Go.Proofs
open Go.Shelf
def Tryz.sortC52_ren : Go.Shelf.Ren := ⟨fun | 6 => 52 | 15 => 87 | 14 => 86 | 28 => 122 | 29 => 123 | 20 => 114 | 21 => 115 | 22 => 116 | 23 => 117 | 24 => 118 | 25 => 119 | 26 => 120 | 27 => 121 | 46 => 142 | 47 => 143 | 48 => 144 | 49 => 145 | 50 => 146 | 57 => 172 | n => n, fun | 22 => 87 | 24 => 3 | 25 => 119 | 3 => 3 | 39 => 140 | 0 => 0 | 53 => 191 | 55 => 193 | 4 => 4 | 46 => 185 | 45 => 184 | 50 => 86 | 5 => 5 | 9 => 9 | 66 => 209 | 70 => 213 | 76 => 235 | 77 => 236 | n => n, fun | n => n⟩
theorem Tryz.sortC52 : Go.Proofs.SlLaysF.n6 Tryz.prog Tryz.sortC52_ren := {
  mixed := by kernel_rfl
  f6 := ⟨Tryz.f52.name, by decide, Tryz.func52.trans (congrArg some (by kernel_rfl))⟩
  f14 := ⟨Tryz.f86.name, by decide, Tryz.func86.trans (congrArg some (by kernel_rfl))⟩
  f15 := Tryz.func87.trans (congrArg some (by kernel_rfl))
  f20 := ⟨Tryz.f114.name, by decide, Tryz.func114.trans (congrArg some (by kernel_rfl))⟩
  f21 := ⟨Tryz.f115.name, by decide, Tryz.func115.trans (congrArg some (by kernel_rfl))⟩
  f22 := ⟨Tryz.f116.name, by decide, Tryz.func116.trans (congrArg some (by kernel_rfl))⟩
  f23 := ⟨Tryz.f117.name, by decide, Tryz.func117.trans (congrArg some (by kernel_rfl))⟩
  f24 := ⟨Tryz.f118.name, by decide, Tryz.func118.trans (congrArg some (by kernel_rfl))⟩
  f25 := ⟨Tryz.f119.name, by decide, Tryz.func119.trans (congrArg some (by kernel_rfl))⟩
  f26 := ⟨Tryz.f120.name, by decide, Tryz.func120.trans (congrArg some (by kernel_rfl))⟩
  f27 := ⟨Tryz.f121.name, by decide, Tryz.func121.trans (congrArg some (by kernel_rfl))⟩
  f28 := Tryz.func122.trans (congrArg some (by kernel_rfl))
  f29 := Tryz.func123.trans (congrArg some (by kernel_rfl))
  f46 := ⟨Tryz.f142.name, by decide, Tryz.func142.trans (congrArg some (by kernel_rfl))⟩
  f47 := Tryz.func143.trans (congrArg some (by kernel_rfl))
  f48 := Tryz.func144.trans (congrArg some (by kernel_rfl))
  f49 := ⟨Tryz.f145.name, by decide, Tryz.func145.trans (congrArg some (by kernel_rfl))⟩
  f50 := ⟨Tryz.f146.name, by decide, Tryz.func146.trans (congrArg some (by kernel_rfl))⟩
  f57 := ⟨Tryz.f172.name, by decide, Tryz.func172.trans (congrArg some (by kernel_rfl))⟩
  t0 := Tryz.underlying0
  a0 := Tryz.isAgg0
  z0 := Tryz.sizeOf0
  v0 := Tryz.zeroValue0
  t3 := Tryz.underlying3
  a3 := Tryz.isAgg3
  z3 := Tryz.sizeOf3
  v3 := Tryz.zeroValue3
  t4 := Tryz.underlying4
  a4 := Tryz.isAgg4
  z4 := Tryz.sizeOf4
  v4 := Tryz.zeroValue4
  t5 := Tryz.underlying5
  a5 := Tryz.isAgg5
  z5 := Tryz.sizeOf5
  v5 := Tryz.zeroValue5
  t9 := Tryz.underlying9
  a9 := Tryz.isAgg9
  z9 := Tryz.sizeOf9
  v9 := Tryz.zeroValue9
  t22 := Tryz.underlying87
  a22 := Tryz.isAgg87
  z22 := Tryz.sizeOf87
  v22 := Tryz.zeroValue87
  a24 := Tryz.isAgg3
  z24 := Tryz.sizeOf3
  t25 := Tryz.underlying119
  a25 := Tryz.isAgg119
  z25 := Tryz.sizeOf119
  v25 := Tryz.zeroValue119
  t39 := Tryz.underlying140
  a39 := Tryz.isAgg140
  z39 := Tryz.sizeOf140
  v39 := Tryz.zeroValue140
  t45 := Tryz.underlying184
  a45 := Tryz.isAgg184
  z45 := Tryz.sizeOf184
  v45 := Tryz.zeroValue184
  t46 := Tryz.underlying185
  a46 := Tryz.isAgg185
  z46 := Tryz.sizeOf185
  v46 := Tryz.zeroValue185
  t50 := Tryz.underlying86
  a50 := Tryz.isAgg86
  z50 := Tryz.sizeOf86
  v50 := Tryz.zeroValue86
  t53 := Tryz.underlying191
  a53 := Tryz.isAgg191
  z53 := Tryz.sizeOf191
  v53 := Tryz.zeroValue191
  t55 := Tryz.underlying193
  a55 := Tryz.isAgg193
  z55 := Tryz.sizeOf193
  v55 := Tryz.zeroValue193
  t66 := Tryz.underlying209
  a66 := Tryz.isAgg209
  z66 := Tryz.sizeOf209
  v66 := Tryz.zeroValue209
  t70 := Tryz.underlying213
  a70 := Tryz.isAgg213
  z70 := Tryz.sizeOf213
  v70 := Tryz.zeroValue213
  t76 := Tryz.underlying235
  a76 := Tryz.isAgg235
  z76 := Tryz.sizeOf235
  v76 := Tryz.zeroValue235
  t77 := Tryz.underlying236
  a77 := Tryz.isAgg236
  z77 := Tryz.sizeOf236
  v77 := Tryz.zeroValue236 }
def Tryz.sortC103_ren : Go.Shelf.Ren := ⟨fun | 6 => 103 | 15 => 87 | 14 => 138 | 28 => 122 | 29 => 123 | 20 => 162 | 21 => 163 | 22 => 164 | 23 => 165 | 24 => 166 | 25 => 167 | 26 => 168 | 27 => 169 | 46 => 179 | 47 => 143 | 48 => 144 | 49 => 180 | 50 => 181 | 57 => 193 | n => n, fun | 22 => 26 | 24 => 43 | 25 => 155 | 3 => 3 | 39 => 140 | 0 => 0 | 53 => 191 | 55 => 193 | 4 => 4 | 46 => 185 | 45 => 184 | 50 => 86 | 5 => 5 | 9 => 9 | 66 => 209 | 70 => 213 | 76 => 235 | 77 => 236 | n => n, fun | n => n⟩
theorem Tryz.sortC103 : Go.Proofs.SlLaysF0.n6 Tryz.prog Tryz.sortC103_ren := {
  mixed := by kernel_rfl
  f6 := ⟨Tryz.f103.name, by decide, Tryz.func103.trans (congrArg some (by kernel_rfl))⟩
  f14 := ⟨Tryz.f138.name, by decide, Tryz.func138.trans (congrArg some (by kernel_rfl))⟩
  f15 := Tryz.func87.trans (congrArg some (by kernel_rfl))
  f20 := ⟨Tryz.f162.name, by decide, Tryz.func162.trans (congrArg some (by kernel_rfl))⟩
  f21 := ⟨Tryz.f163.name, by decide, Tryz.func163.trans (congrArg some (by kernel_rfl))⟩
  f22 := ⟨Tryz.f164.name, by decide, Tryz.func164.trans (congrArg some (by kernel_rfl))⟩
  f23 := ⟨Tryz.f165.name, by decide, Tryz.func165.trans (congrArg some (by kernel_rfl))⟩
  f24 := ⟨Tryz.f166.name, by decide, Tryz.func166.trans (congrArg some (by kernel_rfl))⟩
  f25 := ⟨Tryz.f167.name, by decide, Tryz.func167.trans (congrArg some (by kernel_rfl))⟩
  f26 := ⟨Tryz.f168.name, by decide, Tryz.func168.trans (congrArg some (by kernel_rfl))⟩
  f27 := ⟨Tryz.f169.name, by decide, Tryz.func169.trans (congrArg some (by kernel_rfl))⟩
  f28 := Tryz.func122.trans (congrArg some (by kernel_rfl))
  f29 := Tryz.func123.trans (congrArg some (by kernel_rfl))
  f46 := ⟨Tryz.f179.name, by decide, Tryz.func179.trans (congrArg some (by kernel_rfl))⟩
  f47 := Tryz.func143.trans (congrArg some (by kernel_rfl))
  f48 := Tryz.func144.trans (congrArg some (by kernel_rfl))
  f49 := ⟨Tryz.f180.name, by decide, Tryz.func180.trans (congrArg some (by kernel_rfl))⟩
  f50 := ⟨Tryz.f181.name, by decide, Tryz.func181.trans (congrArg some (by kernel_rfl))⟩
  f57 := ⟨Tryz.f193.name, by decide, Tryz.func193.trans (congrArg some (by kernel_rfl))⟩
  t0 := Tryz.underlying0
  a0 := Tryz.isAgg0
  z0 := Tryz.sizeOf0
  v0 := Tryz.zeroValue0
  t3 := Tryz.underlying3
  a3 := Tryz.isAgg3
  z3 := Tryz.sizeOf3
  v3 := Tryz.zeroValue3
  t4 := Tryz.underlying4
  a4 := Tryz.isAgg4
  z4 := Tryz.sizeOf4
  v4 := Tryz.zeroValue4
  t5 := Tryz.underlying5
  a5 := Tryz.isAgg5
  z5 := Tryz.sizeOf5
  v5 := Tryz.zeroValue5
  t9 := Tryz.underlying9
  a9 := Tryz.isAgg9
  z9 := Tryz.sizeOf9
  v9 := Tryz.zeroValue9
  t22 := Tryz.underlying26
  a22 := Tryz.isAgg26
  z22 := Tryz.sizeOf26
  v22 := Tryz.zeroValue26
  t25 := Tryz.underlying155
  a25 := Tryz.isAgg155
  z25 := Tryz.sizeOf155
  v25 := Tryz.zeroValue155
  t39 := Tryz.underlying140
  a39 := Tryz.isAgg140
  z39 := Tryz.sizeOf140
  v39 := Tryz.zeroValue140
  t45 := Tryz.underlying184
  a45 := Tryz.isAgg184
  z45 := Tryz.sizeOf184
  v45 := Tryz.zeroValue184
  t46 := Tryz.underlying185
  a46 := Tryz.isAgg185
  z46 := Tryz.sizeOf185
  v46 := Tryz.zeroValue185
  t50 := Tryz.underlying86
  a50 := Tryz.isAgg86
  z50 := Tryz.sizeOf86
  v50 := Tryz.zeroValue86
  t53 := Tryz.underlying191
  a53 := Tryz.isAgg191
  z53 := Tryz.sizeOf191
  v53 := Tryz.zeroValue191
  t55 := Tryz.underlying193
  a55 := Tryz.isAgg193
  z55 := Tryz.sizeOf193
  v55 := Tryz.zeroValue193
  t66 := Tryz.underlying209
  a66 := Tryz.isAgg209
  z66 := Tryz.sizeOf209
  v66 := Tryz.zeroValue209
  t70 := Tryz.underlying213
  a70 := Tryz.isAgg213
  z70 := Tryz.sizeOf213
  v70 := Tryz.zeroValue213
  t76 := Tryz.underlying235
  a76 := Tryz.isAgg235
  z76 := Tryz.sizeOf235
  v76 := Tryz.zeroValue235
  t77 := Tryz.underlying236
  a77 := Tryz.isAgg236
  z77 := Tryz.sizeOf236
  v77 := Tryz.zeroValue236 }
end Go.Proofs

/- slices.SortFunc with the closure that compares components' heads. -/
namespace Go.Proofs.YtkgjfagejnppbaaGreatDoor.K
open Go.RowKit M T
set_option linter.unusedVariables false
set_option linter.unusedSimpArgs false

theorem cell_lt {w : World} {p : Addr} {v : Value} (h : w.cell? p = some v) : p.block < w.heap.size := by
  unfold World.cell? at h
  cases hg : w.heap[p.block]? with
  | none => simp [hg] at h
  | some o => exact heap_lt hg
theorem cell_below {w w1 : World} {p : Addr} {v : Value} (hb : Below w.heap.size w w1) (h : w.cell? p = some v) : w1.cell? p = some v := (hb.cell (cell_lt h)).trans h
theorem RD.below {E : Nat → List Int} {n : Nat} {w w1 : World} {b : Nat} {C : List (List Nat)} {q : Nat → Nat} {eo : Option Addr} {ec : Nat} (h : RD E n w b C q eo ec) (hb : Below w.heap.size w w1) : RD E n w1 b C q eo ec := by
  obtain ⟨go, co, cc, c0, c3, c6, h1, h2, h3, h4⟩ := h.hd
  refine ⟨go, co, cc, cell_below hb c0, cell_below hb c3, cell_below hb c6, h1, h2, fun v hv => cell_below hb (h3 v hv), fun i c hc => ?_⟩
  obtain ⟨gc, gr, cr, e, ch, hl, hm, hx⟩ := h4 i c hc
  exact ⟨gc, gr, cr, e, cell_below hb ch, hl, hm, fun j v hj => cell_below hb (hx j v hj)⟩
/-- the least node of a component -/
def headOf (C : List (List Nat)) (i : Nat) : Nat := (C.getD i []).headD 0
theorem head_get {E : Nat → List Int} {n : Nat} {C : List (List Nat)} {q : Nat → Nat} (hC : Comp E n C q) {i : Nat} (hi : i < C.length) : ∃ c, C[i]? = some c ∧ 0 < c.length ∧ c[0]? = some (headOf C i) ∧ headOf C i ∈ c ∧ headOf C i < n := by
  obtain ⟨c, hc⟩ : ∃ c, C[i]? = some c := ⟨_, List.getElem?_eq_getElem hi⟩
  have hne := (hC.d3 c (List.mem_of_getElem? hc)).2
  have e : headOf C i = c.headD 0 := by simp [headOf, List.getD, hc]
  cases c with
  | nil => exact absurd rfl hne
  | cons a t =>
    have e2 : headOf C i = a := e
    exact ⟨_, hc, by simp, by simp [e2], by rw [e2]; exact List.mem_cons_self, by rw [e2]; exact (hC.d2 i _ a hc List.mem_cons_self).1⟩

set_option maxRecDepth 100000 in
set_option maxHeartbeats 400000 in
theorem compare_any (E : Nat → List Int) (n : Nat) (w : World) (b bf : Nat) (C : List (List Nat)) (q : Nat → Nat) (eo : Option Addr) (ec : Nat) (hC : Comp E n C q) (h : RD E n w b C q eo ec) (hf : w.cell? ⟨bf, 0, none⟩ = some (.pointer (some ⟨b, 0, none⟩))) (x y : Nat) (hx : x < C.length) (hy : y < C.length) (hn : n ≤ 10000) :
    Calls Tryz.prog 53 #[.int .i64 x, .int .i64 y, .pointer (some ⟨bf, 0, none⟩)] w fun e w' => e = .returned (.int .i64 ((headOf C x : Int) - headOf C y)) ∧ ∃ q, w' = w.drewN q := by
  obtain ⟨go, co, cc, c0, c3, c6, hle, hmx, hq, hrows⟩ := h.hd
  obtain ⟨cx, hcx, hlx, hx0, _, hxn⟩ := head_get hC hx
  obtain ⟨cy, hcy, hly, hy0, _, hyn⟩ := head_get hC hy
  obtain ⟨gc, gx, crx, rfl, chx, hx1, hx2, hxc⟩ := hrows x cx hcx
  obtain ⟨_, gy, cry, e, chy, hy1, hy2, hyc⟩ := hrows y cy hcy
  cases e
  have ax := hxc 0 _ hx0
  have ay := hyc 0 _ hy0
  have hxi : (x : Int) < (C.length : Int) := by omega
  have hyi : (y : Int) < (C.length : Int) := by omega
  have hlxi : (0 : Int) < (cx.length : Int) := by omega
  have hlyi : (0 : Int) < (cy.length : Int) := by omega
  clear hC h hq hrows hcx hcy hxc hyc hx0 hy0
  generalize headOf C x = hdx at *
  generalize headOf C y = hdy at *
  go_enter Tryz.func53, Tryz.ntmps53
  go_wp2_with fail
  go_quiet (fail)
  go_wp2_with fail
  go_ret
  exact ⟨by trivial, nq, by trivial⟩
end Go.Proofs.YtkgjfagejnppbaaGreatDoor.K

/- The components sorted by their heads: the contract of slices.SortFunc there. -/
namespace Go.Proofs.YtkgjfagejnppbaaGreatDoor.K
open Go.RowKit M T Go.Sort
set_option linter.unusedVariables false
set_option linter.unusedSimpArgs false

section
variable {α : Type} [Inhabited α]
theorem sorted_heap (enc : α → Value) {w : World} {g n : Nat} {os : Array Obj} {cur : Array Value} {e : TypeId} {fr : Nat × Nat} (d : Array α) (hb : w.heap[g]? = some (.cells cur e fr)) :
    (sortWorld enc w g 0 n d os).heap[g]? = some (.cells (putCells enc 0 d cur) e fr) := by
  have hg : g < w.heap.size := heap_lt hb
  unfold sortWorld
  rw [heap_grow_old _ _ (by simpa using hg)]
  simp [putRow, mapBlock, Sort.ahead, Array.getElem?_modify, hb, onCells]
theorem sorted_grown (enc : α → Value) {w : World} {g n : Nat} {os : Array Obj} (d : Array α) : w.grownBy (sortWorld enc w g 0 n d os) (some g) := by
  unfold sortWorld
  refine ⟨rfl, rfl, rfl, by simp, fun k hk hne => ?_⟩
  rw [heap_grow_old _ _ (by simpa using hk)]
  have : g ≠ k := fun e => hne (by rw [e])
  simp [putRow, mapBlock, Sort.ahead, Array.getElem?_modify, this]
theorem sorted_take (enc : α → Value) (cur : Array Value) (d : Array α) (h : d.size ≤ cur.size) : (putCells enc 0 d cur).toList.take d.size = d.toList.map enc := by
  apply List.ext_getElem?
  intro j
  by_cases hj : j < d.size
  · rw [List.getElem?_take_of_lt hj, Array.getElem?_toList]
    simp [putCells, hj, show j < cur.size by omega]
  · rw [List.getElem?_take_eq_none (by omega), List.getElem?_eq_none (by simp; omega)]
end
def encF {k : Nat} (x : Fin (k + 1)) : Value := .int .i64 (x.val : Int)
def cfH (C : List (List Nat)) {k : Nat} (x y : Fin (k + 1)) : Int := (headOf C x.val : Int) - headOf C y.val
theorem cfH_lt (C : List (List Nat)) {k : Nat} (x y : Fin (k + 1)) : ltOf (cfH C) x y = decide (headOf C x.val < headOf C y.val) := by
  unfold ltOf cfH
  by_cases h : headOf C x.val < headOf C y.val
  · rw [decide_eq_true h, decide_eq_true (by omega)]
  · rw [decide_eq_false h, decide_eq_false (by omega)]
theorem cfH_swo (C : List (List Nat)) (k : Nat) : SWO (ltOf (cfH C (k := k))) where
  irrefl x := by rw [cfH_lt]; simp
  trans x y z h1 h2 := by rw [cfH_lt] at *; simp at *; omega
  ntrans x y z h1 h2 := by rw [cfH_lt] at *; simp at *; omega

theorem len_zero (W : World) : Calls Tryz.prog 87 #[.int .u64 0] W fun e w' => (∃ l : Int, e = .returned (.int .i64 l)) ∧ W = w' := by
  have h := Any.bits_Len (SlLaysF0.n15.bits (P := Tryz.prog) (ρ := Tryz.sortC52_ren) { Tryz.sortC52 with }) 0 W (by omega) (by omega)
  exact h.mono fun _ _ ⟨he, hw⟩ => ⟨⟨_, he⟩, hw.symm⟩
set_option maxRecDepth 100000 in
set_option maxHeartbeats 1000000 in
theorem insertion_zero (p : Option Addr) (cap : Nat) (fv : Value) (w : World) :
    Calls Tryz.prog 114 #[.slice p 0 cap, .int .i64 0, .int .i64 0, fv] w fun e w' => e = .returned (.tuple #[]) ∧ w = w' := by
  go_enter Tryz.func114, Tryz.ntmps114
  go_wp2_with fail
  refine wp_loop_rounds 1 ?_
  rw [rounds_succ]
  go_wp2_with fail
  go_end0
  exact ⟨rfl, rfl⟩
set_option maxRecDepth 100000 in
set_option maxHeartbeats 1000000 in
theorem pdq_zero (p : Option Addr) (cap : Nat) (lim : Int) (fv : Value) (w : World) :
    Calls Tryz.prog 86 #[.slice p 0 cap, .int .i64 0, .int .i64 0, .int .i64 lim, fv] w fun e w' => e = .returned (.tuple #[]) ∧ w = w' := by
  have hi := Lib.hid (fun W => insertion_zero p cap fv W)
  go_enter Tryz.func86, Tryz.ntmps86
  go_wp2_with fail
  refine wp_loop_rounds 1 ?_
  rw [rounds_succ]
  go_wp2_with (go_at_call 114; refine (hi.out _).mono ?_; rintro e w' ⟨rfl, rfl⟩)
  (try simp only [Exit.inBlock, Exit.then])
  refine bodyPost_ret (v := .tuple #[]) (results_none rfl _ _ _) rfl ?_
  exact ⟨rfl, rfl⟩
set_option maxRecDepth 100000 in
set_option maxHeartbeats 1000000 in
theorem sort_zero (p : Option Addr) (cap : Nat) (fv : Value) (w : World) :
    Calls Tryz.prog 52 #[.slice p 0 cap, fv] w fun e w' => e = .returned (.tuple #[]) ∧ w = w' := by
  have hp := Lib.hid (fun lim W => pdq_zero p cap lim fv W)
  have hl := Lib.hid len_zero
  go_enter Tryz.func52, Tryz.ntmps52
  go_wp2_with (first | (go_at_call 87; refine (hl.out _).mono ?_; rintro e w' ⟨⟨l, rfl⟩, rfl⟩) | (go_at_call 86; refine (hp.out _ _).mono ?_; rintro e w' ⟨rfl, rfl⟩))
  go_end0
  exact ⟨rfl, rfl⟩

theorem extract_all {β : Type} (a : Array β) (m : Nat) (h : a.size = m) : a.extract 0 m = a := by subst h; simp
theorem map_val {k : Nat} (l : List (Fin (k + 1))) : l.map (encF (k := k)) = iv (l.map Fin.val) := by simp [iv, encF]
theorem range_map (k : Nat) : ((List.range (k + 1)).map (Fin.ofNat (k + 1))).map Fin.val = List.range (k + 1) := by
  rw [List.map_map]
  refine (List.map_congr_left fun x hx => ?_).trans (List.map_id _)
  have := List.mem_range.1 hx
  simp [Fin.ofNat, Nat.mod_eq_of_lt this]

set_option maxHeartbeats 1000000 in
theorem sort_heads (E : Nat → List Int) (n : Nat) (w1 w : World) (b bf : Nat) (C : List (List Nat)) (q : Nat → Nat) (eo : Option Addr) (ec : Nat) (hC : Comp E n C q) (h : RD E n w1 b C q eo ec) (hf : w1.cell? ⟨bf, 0, none⟩ = some (.pointer (some ⟨b, 0, none⟩))) (hn : n ≤ 10000) (hCl : C.length ≤ 10000)
    (hb : Below w1.heap.size w1 w) (B g cap : Nat) (hg : w1.heap.size ≤ g) (hown : w.ownsRow B 3 1 (.slice (some ⟨g, 0, none⟩) C.length cap) C.length (iv (List.range C.length))) :
    Calls Tryz.prog 52 #[.slice (some ⟨g, 0, none⟩) C.length cap, .func (.func 53) #[] #[.pointer (some ⟨bf, 0, none⟩)]] w fun e w' => e = .returned (.tuple #[]) ∧
      ∃ l, (l.Perm (List.range C.length) ∧ l.Pairwise (fun x y => headOf C x ≤ headOf C y) ∧ w'.ownsRow B 3 1 (.slice (some ⟨g, 0, none⟩) C.length cap) C.length (iv l) ∧ Mods (fun k => k = g) w w') := by
  cases hk : C.length with
  | zero =>
    rw [hk] at hown
    exact (sort_zero _ _ _ _).mono fun e w' ⟨he, hw⟩ => ⟨he, List.range 0, .refl _, .nil, hw ▸ hown, hw ▸ Mods.refl _ _⟩
  | succ k =>
    rw [hk] at hown
    obtain ⟨hx, h2⟩ := hown
    rcases h2 with ⟨h0, _⟩ | ⟨g', c', cur, e0, hB, hgh, hnc, hm, hcs, htk⟩
    · cases h0
    cases e0
    obtain ⟨d, hd⟩ : ∃ d : Array (Fin (k + 1)), d = ((List.range (k + 1)).map (Fin.ofNat (k + 1))).toArray := ⟨_, rfl⟩
    have hds : d.size = k + 1 := by rw [hd]; simp
    have hdm : d.toList.map (encF (k := k)) = iv (List.range (k + 1)) := by rw [map_val, hd]; show iv (List.map Fin.val _) = _; rw [range_map]
    have hH : Holds (encF (k := k)) w g 0 d := by
      intro j hj
      refine ⟨?_, by simp [World.frozen?, hgh]⟩
      have h1 : (cur.toList.take ((k + 1) * 1))[j]? = (d.toList.map (encF (k := k)))[j]? := by rw [htk, hdm]
      rw [Nat.mul_one, List.getElem?_take_of_lt (by omega)] at h1
      rw [cell_of_row w g (0 + j) _ _ _ hgh, Nat.zero_add, ← Array.getElem?_toList, h1]
      simp [hj]
    have eg : ∀ args w, (callFunc 53 args).run Tryz.prog w = .ok (.enter 53 args) w := enters_of Tryz.func53 (by kernel_rfl) rfl
    have hcmp : CmpReads Tryz.prog 53 #[.pointer (some ⟨bf, 0, none⟩)] (encF (k := k)) (cfH C) g 0 d.size w := by
      intro m os dk hs x y
      have hgb := sorted_grown encF (w := w) (g := g) (n := m) (os := os) dk
      have hb2 : Below w1.heap.size w1 (sortWorld encF w g 0 m dk os) := hb.grown hgb hb.size (fun k' e => by cases e; exact hg)
      exact compare_any E n _ b bf C q eo ec hC (h.below hb2) (cell_below hb2 hf) x.val y.val (by have := x.isLt; omega) (by have := y.isLt; omega) hn
    have hc := Any.slices_SortFunc Tryz.sortC52 (encF (k := k)) (fun _ => rfl) (cfH C) (cfH_swo C k) 53 #[.pointer (some ⟨bf, 0, none⟩)] g 0 cap d w eg hcmp.lays hH (heap_lt hgh) (by omega)
    rw [hds] at hc
    refine hc.mono ?_
    rintro e w' ⟨rfl, d', m, os, ⟨hp1, _, hp3⟩, hs, rfl⟩
    rw [hds] at hp1
    
    rw [extract_all d' _ hp1, extract_all d _ hds] at hp3
    have hdl : d.toList.map Fin.val = List.range (k + 1) := by rw [hd]; exact range_map k
    refine ⟨rfl, d'.toList.map Fin.val, ?_, ?_, ?_, (Mods.of_grown (sorted_grown _ _)).mono (fun k _ h => (Option.some.inj h).symm)⟩
    · have := hp3.map Fin.val
      rwa [hdl] at this
    · rw [List.pairwise_map, List.pairwise_iff_getElem]
      intro i j hi hj hij
      have hi' : i < d'.size := by simpa using hi
      have hj' : j < d'.size := by simpa using hj
      have := hs i j (Nat.zero_le _) hij (by omega)
      rw [cfH_lt] at this
      simp only [decide_eq_false_iff_not, Nat.not_lt] at this
      simpa [hi', hj'] using this
    · refine ⟨by simp [iv, hp1], .inr ⟨g, cap, _, rfl, hB, sorted_heap encF d' hgh, hnc, hm, by simp [putCells, hcs], ?_⟩⟩
      have ht := sorted_take (encF (k := k)) cur d' (by omega)
      rw [hp1, map_val] at ht
      rw [Nat.mul_one]
      exact ht
end Go.Proofs.YtkgjfagejnppbaaGreatDoor.K

/- Rows of structs, sorted: the contracts of slices.SortFunc at ids (ids.order). -/
namespace Go.Proofs.YtkgjfagejnppbaaGreatDoor.O
open Go.RowKit Go.Proofs.YtkgjfagejnppbaaGreatDoor.M Go.BigFrame Go.Sort
set_option linter.unusedVariables false
set_option linter.unusedSimpArgs false

section
variable {α : Type}
theorem flat_get (enc : α → List Value) (k : Nat) (hk : ∀ x, (enc x).length = k) : ∀ (l : List α) (i : Nat) (x : α), l[i]? = some x → ∀ j, j < k → (l.flatMap enc)[i * k + j]? = (enc x)[j]?
  | [], i, x, h, j, hj => by simp at h
  | a :: t, 0, x, h, j, hj => by
    cases h
    rw [List.flatMap_cons, Nat.zero_mul, Nat.zero_add, List.getElem?_append_left (by rw [hk]; exact hj)]
  | a :: t, i + 1, x, h, j, hj => by
    have ih := flat_get enc k hk t i x (by simpa using h) j hj
    rw [List.flatMap_cons, List.getElem?_append_right (by rw [hk, Nat.add_mul, Nat.one_mul]; omega), ← ih, hk]
    congr 1
    rw [Nat.add_mul, Nat.one_mul]
    omega
theorem flat_len (enc : α → List Value) (k : Nat) (hk : ∀ x, (enc x).length = k) (l : List α) : (l.flatMap enc).length = l.length * k := by
  induction l with
  | nil => simp
  | cons a t ih => rw [List.flatMap_cons, List.length_append, ih, hk, List.length_cons, Nat.add_mul, Nat.one_mul]; omega
variable [Inhabited α]
theorem flatK_list (enc : α → List Value) (k : Nat) (hk : ∀ x, (enc x).length = k) (h0 : 0 < k) (d : Array α) : (flatK enc k d).toList = d.toList.flatMap enc := by
  apply List.ext_getElem?
  intro t
  by_cases ht : t < d.size * k
  · have hq : t / k < d.size := (Nat.div_lt_iff_lt_mul h0).2 ht
    have hr : t % k < k := Nat.mod_lt _ h0
    have h1 := flat_get enc k hk d.toList (t / k) d[t / k]! (by rw [Array.getElem?_toList, getElem!_pos d (t / k) hq, Array.getElem?_eq_getElem hq]) (t % k) hr
    rw [Nat.div_add_mod' t k] at h1
    rw [h1, Array.getElem?_toList, Array.getElem?_eq_getElem (by simpa using ht)]
    have h2 := get_flatK enc k d t ht
    rw [getElem!_pos (flatK enc k d) t (by simpa using ht)] at h2
    rw [h2, getElem!_pos (enc d[t / k]!) (t % k) (by rw [hk]; exact hr), List.getElem?_eq_getElem]
  · rw [List.getElem?_eq_none (by simp; omega), List.getElem?_eq_none (by rw [flat_len enc k hk]; simp; omega)]
theorem own_holdsK (enc : α → List Value) (k : Nat) (hk : ∀ x, (enc x).length = k) (h0 : 0 < k) {w : World} {B g cap n : Nat} {e : TypeId} {d : Array α} (h : w.ownsRow B e k (.slice (some ⟨g, 0, none⟩) n cap) n (d.toList.flatMap enc)) (hd : d.size = n) : HoldsK enc k w g 0 d := by
  obtain ⟨hx, h2⟩ := h
  rcases h2 with ⟨h0', _⟩ | ⟨g', c', cur, e0, hB, hgh, hnc, hm, hcs, htk⟩
  · cases h0'
  cases e0
  intro j hj
  have hj' : j < n * k := by rw [← hd]; simpa using hj
  refine ⟨?_, by simp [World.frozen?, hgh]⟩
  have h1 : (cur.toList.take (n * k))[j]? = ((flatK enc k d).toList)[j]? := by rw [htk, flatK_list enc k hk h0]
  rw [List.getElem?_take_of_lt hj'] at h1
  rw [cell_of_row w g (0 + j) _ _ _ hgh, Nat.zero_add, ← Array.getElem?_toList, h1, Array.getElem?_toList, Array.getElem?_eq_getElem hj]
  show some _ = some ((flatK enc k d)[j]!)
  rw [getElem!_pos (flatK enc k d) j hj]
theorem own_sorted (enc : α → List Value) (k : Nat) (hk : ∀ x, (enc x).length = k) (h0 : 0 < k) {w : World} {B g cap n m : Nat} {os : Array Obj} {e : TypeId} {d d' : Array α} (h : w.ownsRow B e k (.slice (some ⟨g, 0, none⟩) n cap) n (d.toList.flatMap enc)) (hd : d'.size = n) :
    (sortWorldK enc k w g 0 m d' os).ownsRow B e k (.slice (some ⟨g, 0, none⟩) n cap) n (d'.toList.flatMap enc) ∧ Mods (fun j => j = g) w (sortWorldK enc k w g 0 m d' os) := by
  obtain ⟨hx, h2⟩ := h
  rcases h2 with ⟨h0', _⟩ | ⟨g', c', cur, e0, hB, hgh, hnc, hm, hcs, htk⟩
  · cases h0'
  cases e0
  have hE : sortWorldK enc k w g 0 m d' os = sortWorld (fun x => x) w g 0 m (flatK enc k d') os := rfl
  rw [hE]
  refine ⟨⟨by rw [flat_len enc k hk]; simp [hd], .inr ⟨g, cap, _, rfl, hB, K.sorted_heap _ (flatK enc k d') hgh, hnc, hm, by simp [putCells, hcs], ?_⟩⟩, (Mods.of_grown (K.sorted_grown _ _)).mono (fun k _ h => (Option.some.inj h).symm)⟩
  have ht := K.sorted_take (fun x => x) cur (flatK enc k d') (by rw [hcs]; simp [hd]; exact Nat.mul_le_mul_right _ hnc)
  simp only [size_flatK, hd, List.map_id'] at ht
  rw [ht, flatK_list enc k hk h0]
end
theorem ico_lt (a b : Id) : ltOf ico a b = ilt a b := by
  unfold ltOf
  rw [Bool.eq_iff_iff, decide_eq_true_eq]
  exact ico_neg
end Go.Proofs.YtkgjfagejnppbaaGreatDoor.O
