/- strings.Join, maps.Keys, slices.Sorted and maps.Clone at this dump, in plain words, as the kit's lay-plain.mjs and lay-iter.mjs print them. -/
import Derived.Test.YtpeiamllkddhiaaGreatDoorShelf
import Derived.Shelf.Strings.OnBuilder
import Derived.Shelf.SlIter.Nil
import Derived.Shelf.SortM.Plain
import Derived.Shelf.SortM.SortNone
import Derived.Shelf.SlMaps.Clone
import Derived.Test.YtpeiamllkddhiaaGreatDoorProg
namespace Go.Proofs
open Go.Shelf
open Go.RowKit in
open Go.RowKit in
def Tryz.keys53_ren : Go.Shelf.Ren := ⟨fun | 7 => 53 | 10 => 66 | n => n, fun | 23 => 72 | 26 => 9 | 3 => 77 | 28 => 97 | 0 => 0 | 27 => 96 | 33 => 79 | 4 => 4 | n => n, fun | n => n⟩
theorem Tryz.keys53 : Go.Proofs.SlLaysZ.n7 Tryz.prog Tryz.keys53_ren := {
  mixed := by kernel_rfl
  f7 := ⟨Tryz.f53.name, by decide, Tryz.func53.trans (congrArg some (by kernel_rfl))⟩
  f10 := ⟨Tryz.f66.name, by decide, Tryz.func66.trans (congrArg some (by kernel_rfl))⟩
  t0 := Tryz.underlying0
  a0 := Tryz.isAgg0
  z0 := Tryz.sizeOf0
  v0 := Tryz.zeroValue0
  t4 := Tryz.underlying4
  a4 := Tryz.isAgg4
  z4 := Tryz.sizeOf4
  v4 := Tryz.zeroValue4
  t23 := Tryz.underlying72
  a23 := Tryz.isAgg72
  z23 := Tryz.sizeOf72
  v23 := Tryz.zeroValue72
  t26 := Tryz.underlying9
  a26 := Tryz.isAgg9
  z26 := Tryz.sizeOf9
  v26 := Tryz.zeroValue9
  t27 := Tryz.underlying96
  a27 := Tryz.isAgg96
  z27 := Tryz.sizeOf96
  v27 := Tryz.zeroValue96
  t28 := Tryz.underlying97
  a28 := Tryz.isAgg97
  z28 := Tryz.sizeOf97
  v28 := Tryz.zeroValue97
  t33 := Tryz.underlying79
  a33 := Tryz.isAgg79
  z33 := Tryz.sizeOf79
  v33 := Tryz.zeroValue79 }
def Tryz.sorted52_ren : Go.Shelf.Ren := ⟨fun | 6 => 52 | 8 => 64 | 9 => 65 | 11 => 73 | 13 => 75 | 12 => 74 | 23 => 93 | 24 => 94 | 14 => 84 | 15 => 85 | 16 => 86 | 17 => 87 | 18 => 88 | 19 => 89 | 20 => 90 | 21 => 91 | 22 => 92 | 25 => 99 | 26 => 100 | 27 => 101 | 28 => 102 | 29 => 103 | 30 => 104 | 31 => 107 | n => n, fun | 26 => 9 | 28 => 97 | 24 => 90 | 0 => 0 | 3 => 3 | 37 => 108 | 48 => 124 | 50 => 126 | 4 => 4 | 40 => 134 | 39 => 133 | 45 => 138 | 5 => 5 | 9 => 9 | 51 => 150 | 55 => 154 | 57 => 156 | 58 => 157 | 33 => 79 | n => n, fun | n => n⟩
theorem Tryz.sorted52 : Go.Proofs.SlLaysZ.n6 Tryz.prog Tryz.sorted52_ren := {
  mixed := by kernel_rfl
  f6 := ⟨Tryz.f52.name, by decide, Tryz.func52.trans (congrArg some (by kernel_rfl))⟩
  f8 := ⟨Tryz.f64.name, by decide, Tryz.func64.trans (congrArg some (by kernel_rfl))⟩
  f11 := ⟨Tryz.f73.name, by decide, Tryz.func73.trans (congrArg some (by kernel_rfl))⟩
  t0 := Tryz.underlying0
  a0 := Tryz.isAgg0
  z0 := Tryz.sizeOf0
  v0 := Tryz.zeroValue0
  t24 := Tryz.underlying90
  a24 := Tryz.isAgg90
  z24 := Tryz.sizeOf90
  v24 := Tryz.zeroValue90
  t26 := Tryz.underlying9
  a26 := Tryz.isAgg9
  z26 := Tryz.sizeOf9
  v26 := Tryz.zeroValue9
  t28 := Tryz.underlying97
  a28 := Tryz.isAgg97
  z28 := Tryz.sizeOf97
  v28 := Tryz.zeroValue97
  i26 := by kernel_rfl }
def Tryz.sort65_ren : Go.Shelf.Ren := ⟨fun | 6 => 65 | 8 => 75 | 9 => 74 | 19 => 93 | 20 => 94 | 21 => 84 | 22 => 85 | 23 => 86 | 24 => 87 | 25 => 88 | 26 => 89 | 27 => 90 | 28 => 91 | 29 => 92 | 36 => 99 | 31 => 100 | 32 => 101 | 37 => 102 | 38 => 103 | 39 => 104 | 41 => 107 | n => n, fun | 27 => 90 | 29 => 9 | 3 => 3 | 32 => 108 | 26 => 90 | 0 => 0 | 44 => 124 | 46 => 126 | 4 => 4 | 36 => 134 | 35 => 133 | 41 => 138 | 5 => 5 | 9 => 9 | 53 => 150 | 57 => 154 | 63 => 156 | 64 => 157 | n => n, fun | n => n⟩
theorem Tryz.sort65 : Go.Proofs.SlLaysM.n6 Tryz.prog Tryz.sort65_ren := {
  mixed := by kernel_rfl
  f6 := ⟨Tryz.f65.name, by decide, Tryz.func65.trans (congrArg some (by kernel_rfl))⟩
  f8 := Tryz.func75.trans (congrArg some (by kernel_rfl))
  f9 := ⟨Tryz.f74.name, by decide, Tryz.func74.trans (congrArg some (by kernel_rfl))⟩
  f19 := Tryz.func93.trans (congrArg some (by kernel_rfl))
  f20 := Tryz.func94.trans (congrArg some (by kernel_rfl))
  f21 := ⟨Tryz.f84.name, by decide, Tryz.func84.trans (congrArg some (by kernel_rfl))⟩
  f22 := ⟨Tryz.f85.name, by decide, Tryz.func85.trans (congrArg some (by kernel_rfl))⟩
  f23 := ⟨Tryz.f86.name, by decide, Tryz.func86.trans (congrArg some (by kernel_rfl))⟩
  f24 := ⟨Tryz.f87.name, by decide, Tryz.func87.trans (congrArg some (by kernel_rfl))⟩
  f25 := ⟨Tryz.f88.name, by decide, Tryz.func88.trans (congrArg some (by kernel_rfl))⟩
  f26 := ⟨Tryz.f89.name, by decide, Tryz.func89.trans (congrArg some (by kernel_rfl))⟩
  f27 := ⟨Tryz.f90.name, by decide, Tryz.func90.trans (congrArg some (by kernel_rfl))⟩
  f28 := ⟨Tryz.f91.name, by decide, Tryz.func91.trans (congrArg some (by kernel_rfl))⟩
  f29 := ⟨Tryz.f92.name, by decide, Tryz.func92.trans (congrArg some (by kernel_rfl))⟩
  f31 := Tryz.func100.trans (congrArg some (by kernel_rfl))
  f32 := Tryz.func101.trans (congrArg some (by kernel_rfl))
  f36 := ⟨Tryz.f99.name, by decide, Tryz.func99.trans (congrArg some (by kernel_rfl))⟩
  f37 := ⟨Tryz.f102.name, by decide, Tryz.func102.trans (congrArg some (by kernel_rfl))⟩
  f38 := ⟨Tryz.f103.name, by decide, Tryz.func103.trans (congrArg some (by kernel_rfl))⟩
  f39 := ⟨Tryz.f104.name, by decide, Tryz.func104.trans (congrArg some (by kernel_rfl))⟩
  f41 := ⟨Tryz.f107.name, by decide, Tryz.func107.trans (congrArg some (by kernel_rfl))⟩
  t0 := Tryz.underlying0
  a0 := Tryz.isAgg0
  z0 := Tryz.sizeOf0
  v0 := Tryz.zeroValue0
  t3 := Tryz.underlying3
  a3 := Tryz.isAgg3
  z3 := Tryz.sizeOf3
  v3 := Tryz.zeroValue3
  t4 := Tryz.underlying4
  a4 := Tryz.isAgg4
  z4 := Tryz.sizeOf4
  v4 := Tryz.zeroValue4
  t5 := Tryz.underlying5
  a5 := Tryz.isAgg5
  z5 := Tryz.sizeOf5
  v5 := Tryz.zeroValue5
  t9 := Tryz.underlying9
  a9 := Tryz.isAgg9
  z9 := Tryz.sizeOf9
  v9 := Tryz.zeroValue9
  t26 := Tryz.underlying90
  a26 := Tryz.isAgg90
  z26 := Tryz.sizeOf90
  v26 := Tryz.zeroValue90
  t27 := Tryz.underlying90
  a27 := Tryz.isAgg90
  z27 := Tryz.sizeOf90
  v27 := Tryz.zeroValue90
  t29 := Tryz.underlying9
  a29 := Tryz.isAgg9
  z29 := Tryz.sizeOf9
  v29 := Tryz.zeroValue9
  t32 := Tryz.underlying108
  a32 := Tryz.isAgg108
  z32 := Tryz.sizeOf108
  v32 := Tryz.zeroValue108
  t35 := Tryz.underlying133
  a35 := Tryz.isAgg133
  z35 := Tryz.sizeOf133
  v35 := Tryz.zeroValue133
  t36 := Tryz.underlying134
  a36 := Tryz.isAgg134
  z36 := Tryz.sizeOf134
  v36 := Tryz.zeroValue134
  t41 := Tryz.underlying138
  a41 := Tryz.isAgg138
  z41 := Tryz.sizeOf138
  v41 := Tryz.zeroValue138
  t44 := Tryz.underlying124
  a44 := Tryz.isAgg124
  z44 := Tryz.sizeOf124
  v44 := Tryz.zeroValue124
  t46 := Tryz.underlying126
  a46 := Tryz.isAgg126
  z46 := Tryz.sizeOf126
  v46 := Tryz.zeroValue126
  t53 := Tryz.underlying150
  a53 := Tryz.isAgg150
  z53 := Tryz.sizeOf150
  v53 := Tryz.zeroValue150
  t57 := Tryz.underlying154
  a57 := Tryz.isAgg154
  z57 := Tryz.sizeOf154
  v57 := Tryz.zeroValue154
  t63 := Tryz.underlying156
  a63 := Tryz.isAgg156
  z63 := Tryz.sizeOf156
  v63 := Tryz.zeroValue156
  t64 := Tryz.underlying157
  a64 := Tryz.isAgg157
  z64 := Tryz.sizeOf157
  v64 := Tryz.zeroValue157 }
def Tryz.clone18_ren : Go.Shelf.Ren := ⟨fun | 5 => 18 | 7 => 34 | n => n, fun | 23 => 53 | 25 => 3 | 3 => 58 | 4 => 4 | 20 => 20 | n => n, fun | n => n⟩
theorem Tryz.clone18 : Go.Proofs.SlLaysW.n5 Tryz.prog Tryz.clone18_ren := {
  mixed := by kernel_rfl
  f5 := ⟨Tryz.f18.name, by decide, Tryz.func18.trans (congrArg some (by kernel_rfl))⟩
  f7 := Tryz.func34.trans (congrArg some (by kernel_rfl))
  t4 := Tryz.underlying4
  a4 := Tryz.isAgg4
  z4 := Tryz.sizeOf4
  v4 := Tryz.zeroValue4
  t20 := Tryz.underlying20
  a20 := Tryz.isAgg20
  z20 := Tryz.sizeOf20
  v20 := Tryz.zeroValue20
  t23 := Tryz.underlying53
  a23 := Tryz.isAgg53
  z23 := Tryz.sizeOf53
  v23 := Tryz.zeroValue53 }
def Tryz.clone33_ren : Go.Shelf.Ren := ⟨fun | 5 => 33 | 7 => 34 | n => n, fun | 23 => 72 | 25 => 9 | 3 => 77 | 4 => 4 | 20 => 20 | n => n, fun | n => n⟩
theorem Tryz.clone33 : Go.Proofs.SlLaysW.n5 Tryz.prog Tryz.clone33_ren := {
  mixed := by kernel_rfl
  f5 := ⟨Tryz.f33.name, by decide, Tryz.func33.trans (congrArg some (by kernel_rfl))⟩
  f7 := Tryz.func34.trans (congrArg some (by kernel_rfl))
  t4 := Tryz.underlying4
  a4 := Tryz.isAgg4
  z4 := Tryz.sizeOf4
  v4 := Tryz.zeroValue4
  t20 := Tryz.underlying20
  a20 := Tryz.isAgg20
  z20 := Tryz.sizeOf20
  v20 := Tryz.zeroValue20
  t23 := Tryz.underlying72
  a23 := Tryz.isAgg72
  z23 := Tryz.sizeOf72
  v23 := Tryz.zeroValue72 }
section
open Go.RowKit Go.Maps Go.Sort Go.Shelf
theorem Tryz.sorts52 (m : Nat) : AnyZ.SortsIn Tryz.prog Tryz.sorted52_ren Fence.wide m :=
  ⟨fun blk off cap ss W hH hblk hsz => callsIn_wide.2 (AnyM.slices_Sort_string Tryz.sort65 blk off cap ss W hH hblk hsz),
   fun p cap W => callsIn_wide.2 (AnyM.slices_Sort_string_none Tryz.sort65 p cap W)⟩
theorem Tryz.maps_Keys_53 (mb : Option Nat) (W : World) : CallsIn Fence.wide 5 Tryz.prog 53 #[.map mb] W fun e w' => e = .returned (.func (.func 66) #[] #[.pointer (some ⟨W.heap.size, 0, none⟩)]) ∧ w' = W.alloc (.cells #[.map mb] 72) :=
  AnyZ.keys_in Tryz.keys53 Fence.wide 5 trivial rfl mb W
set_option maxHeartbeats 1000000 in
theorem Tryz.slices_Sorted_keys_52_53 {H : Type} (b nn : Nat) (D0 : DataW H) (R : Value → Option (DataW H × List MemPlace)) (w : World) (hown : w.ownsMap Tryz.prog 9 R b nn D0) (hmax : Maps.size D0 ≤ maxLen) (hbytes : Maps.size D0 * 16 ≤ 140737488355328) :
    CallsIn Fence.wide 5 Tryz.prog 52 #[.func (.func 66) #[] #[.pointer (some ⟨w.heap.size, 0, none⟩)]] (w.alloc (.cells #[.map (some b)] 72)) fun e w' => ∃ (v : Value) (ss : List (List UInt8)), e = .returned v ∧ ss.Perm (strKeys D0) ∧
      w'.ownsRow (w.alloc (.cells #[.map (some b)] 72)).heap.size 9 1 v ss.length ((ss.mergeSort (fun x y => decide (x ≤ y))).map encStr) ∧ (v = .slice none 0 0 ↔ ss = []) ∧ Below (w.alloc (.cells #[.map (some b)] 72)).heap.size (w.alloc (.cells #[.map (some b)] 72)) w' := by
  have hbl := hown.lt
  have hseq : SeqGives Fence.wide 2 Tryz.prog 66 #[.pointer (some ⟨w.heap.size, 0, none⟩)] encStr (fun ss => ss.Perm (strKeys D0)) (Maps.size D0) (w.alloc (.cells #[.map (some b)] 72)) :=
    AnyZ.keys_gives (ρ := Tryz.keys53_ren) { Tryz.keys53 with } Fence.wide _ trivial rfl (by omega) w.heap.size b nn D0 _ (by simp) (by simp) (by
      obtain ⟨es, clock, hb, Ft, hs, hD⟩ := hown
      exact ⟨es, clock, (Below.heap_alloc _ _ b hbl).trans hb, Ft, hs, hD⟩)
  exact AnyZ.sorted_in Tryz.sorted52 Fence.wide 5 trivial trivial trivial trivial rfl (by omega) (Tryz.sorts52 _) (enters_of Tryz.func65 (by kernel_rfl) rfl) 66 #[.pointer (some ⟨w.heap.size, 0, none⟩)] trivial (enters_of Tryz.func66 (by kernel_rfl) rfl) _ _ hmax hbytes _ hseq
set_option maxHeartbeats 1000000 in
theorem Tryz.slices_Sorted_keys_nil_52_53 (w : World) :
    CallsIn Fence.wide 5 Tryz.prog 52 #[.func (.func 66) #[] #[.pointer (some ⟨w.heap.size, 0, none⟩)]] (w.alloc (.cells #[.map none] 72)) fun e w' => ∃ (v : Value) (ss : List (List UInt8)), e = .returned v ∧ ss = [] ∧
      w'.ownsRow (w.alloc (.cells #[.map none] 72)).heap.size 9 1 v ss.length ((ss.mergeSort (fun x y => decide (x ≤ y))).map encStr) ∧ (v = .slice none 0 0 ↔ ss = []) ∧ Below (w.alloc (.cells #[.map none] 72)).heap.size (w.alloc (.cells #[.map none] 72)) w' := by
  have hseq : SeqGives Fence.wide 2 Tryz.prog 66 #[.pointer (some ⟨w.heap.size, 0, none⟩)] encStr (fun ss : List (List UInt8) => ss = []) 0 (w.alloc (.cells #[.map none] 72)) :=
    AnyZ.keys_gives_nil (ρ := Tryz.keys53_ren) { Tryz.keys53 with } Fence.wide _ trivial rfl w.heap.size _ (by simp) (by simp)
  exact AnyZ.sorted_in Tryz.sorted52 Fence.wide 5 trivial trivial trivial trivial rfl (by omega) (Tryz.sorts52 _) (enters_of Tryz.func65 (by kernel_rfl) rfl) 66 #[.pointer (some ⟨w.heap.size, 0, none⟩)] trivial (enters_of Tryz.func66 (by kernel_rfl) rfl) _ 0 (Nat.zero_le _) (by omega) _ hseq
end
end Go.Proofs
