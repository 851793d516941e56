/- The program's settings: Keys, Copy. -/
import Derived.Test.YtpeiamllkddhiaaDoorAppO
import Derived.Test.YtpeiamllkddhiaaDoorShelf
import Derived.Test.YtpeiamllkddhiaaDoorShelfK
namespace Go.Proofs.YtpeiamllkddhiaaDoor.P
open Go.RowKit Go.Proofs.YtpeiamllkddhiaaDoor.R Go.Proofs.YtpeiamllkddhiaaDoor.M Go.BigFrame Go.Maps
set_option linter.unusedVariables false
set_option linter.unusedSimpArgs false

def strV (k : List UInt8) : Value := .string ⟨k.toArray⟩
/-- a slice that holds texts, in blocks not below B -/
structure StrsV (B : Nat) (w : World) (ao : Option Addr) (cap : Nat) (K : List (List UInt8)) : Prop where
  le : K.length ≤ cap ∧ cap ≤ maxLen
  row : ∀ i k, K[i]? = some k → ∃ b, ao = some ⟨b, 0, none⟩ ∧ B ≤ b ∧ b < w.heap.size ∧ w.cell? ⟨b, i, none⟩ = some (strV k)
theorem StrsV.below {B : Nat} {w w1 : World} {ao : Option Addr} {cap : Nat} {K : List (List UInt8)} (h : StrsV B w ao cap K) (hb : Below w.heap.size w w1) : StrsV B w1 ao cap K :=
  ⟨h.le, fun i e hi => by
    obtain ⟨b, e1, hB, hl, c0⟩ := h.row i e hi
    exact ⟨b, e1, hB, Nat.lt_of_lt_of_le hl hb.size, (hb.cell (p := ⟨b, _, none⟩) hl).trans c0⟩⟩
theorem StrsV.of_own {B : Nat} {w : World} {v : Value} {K : List (List UInt8)} (h : w.ownsRow B tStr 1 v K.length (K.map strV)) : ∃ ao cap, v = .slice ao K.length cap ∧ StrsV B w ao cap K := by
  obtain ⟨ao, cap, rfl, h1, h2, h3, h4⟩ := M.own_view h
  refine ⟨ao, cap, rfl, ⟨h1, h2⟩, fun i k hi => ?_⟩
  have hil := (List.getElem?_eq_some_iff.1 hi).1
  cases ao with
  | none => have := (h3 rfl).1; omega
  | some a =>
    obtain ⟨g, cur, rfl, hB, hg, hsz, htk⟩ := h4 a rfl
    refine ⟨g, rfl, hB, M.heap_lt hg, ?_⟩
    rw [cell_of_row w g i _ _ _ hg, ← Array.getElem?_toList]
    have hv : (K.map strV)[i]? = some (strV k) := by rw [List.getElem?_map, hi]; rfl
    rw [← htk, List.getElem?_take_of_lt (by omega)] at hv
    exact hv
theorem encStr_eq : Go.Proofs.encStr = strV := by funext k; rfl
/-- MapA's map, in every world that keeps it -/
theorem AppAt.own {w : World} {p b n : Nat} {A : List Ent} (h : AppAt w p b n A) (hs : Srt A) : ∃ D, w.ownsMap Tryd.prog tStr settR b n D ∧ MRel D A := h.map
set_option maxRecDepth 100000 in
set_option maxHeartbeats 2000000 in
theorem keys_any (p b n : Nat) (A : List Ent) (w : World) (h : AppAt w p b n A) (hs : Srt A) (hn : n ≤ 1000000) :
    Calls Tryd.prog 15 #[.pointer (some ⟨p, 0, none⟩)] w fun e w' => ∃ ao cap, e = .returned (.slice ao A.length cap) ∧ (StrsV w.heap.size w' ao cap (keysL A) ∧ Below w.heap.size w w') := by
  obtain ⟨D, hown, hrel⟩ := h.map
  have hsz : Maps.size D ≤ n := MapA.size (A := A) hown
  have hpc := h.pc
  have HSORT := Lib.hid ((callsIn_wide (n := 5)).1 (Tryd.slices_Sorted_keys_34_35 b n D settR w hown (by unfold maxLen; omega) (by omega)))
  have HO := Lib.hid hown
  have HR := Lib.hid hrel
  have HS := Lib.hid hs
  clear hown hrel hs h
  go_enter Tryd.func15, Tryd.ntmps15
  go_wp2_with fail
  refine ((callsIn_wide (n := 5)).1 (Tryd.maps_Keys_35 (some b) _)).mono ?_
  rintro e w1 ⟨rfl, rfl⟩
  go_wp2_with fail
  refine HSORT.out.mono ?_
  rintro e w2 ⟨v, ss, rfl, hp, hrow, _, hb2⟩
  have hsort := keys_sorted HO.out HR.out HS.out hp
  rw [hsort, encStr_eq] at hrow
  have hlen : ss.length = A.length := by
    have := congrArg List.length hsort
    rw [List.length_mergeSort] at this
    rw [this]
    unfold keysL
    rw [List.length_map]
  have hkl : (keysL A).length = A.length := by unfold keysL; rw [List.length_map]
  rw [hlen, ← hkl] at hrow
  obtain ⟨ao, cap, rfl, hst⟩ := StrsV.of_own hrow
  rw [hkl]
  have HST := Lib.hid hst
  have HB2 := Lib.hid hb2
  clear hrow hst hb2 hp hsort hlen hkl
  go_wp2_with fail
  go_ret
  refine ⟨ao, cap, rfl, ⟨HST.out.le, fun i k hi => ?_⟩, ?_⟩
  · obtain ⟨g, e1, hB, hl, hc⟩ := HST.out.row i k hi
    exact ⟨g, e1, by simp at hB; omega, hl, hc⟩
  · exact ((Below.refl _ _).alloc (Nat.le_refl _) _).trans (HB2.out.mono (by simp))
set_option maxRecDepth 100000 in
set_option maxHeartbeats 2000000 in
theorem copy_any (p b n : Nat) (A : List Ent) (w : World) (h : AppAt w p b n A) :
    Calls Tryd.prog 18 #[.pointer (some ⟨p, 0, none⟩)] w fun e w' => ∃ p2 b2, e = .returned (.pointer (some ⟨p2, 0, none⟩)) ∧ (AppAt w' p2 b2 n A ∧ w.heap.size ≤ p2 ∧ w.heap.size ≤ b2 ∧ Below w.heap.size w w') := by
  obtain ⟨D, hown, hrel⟩ := h.map
  have hpc := h.pc
  have HC := Lib.hid (AnyW.maps_Clone_owns Tryd.clone41 tStr settR b n D w hown)
  have HR := Lib.hid hrel
  clear hown hrel h
  go_enter Tryd.func18, Tryd.ntmps18
  go_wp2_with fail
  refine HC.out.mono ?_
  rintro e w1 ⟨rfl, ho1, _, hb1⟩
  have HO := Lib.hid ho1
  have HB1 := Lib.hid hb1
  have hs1 := hb1.size
  have hlt := ho1.lt
  clear ho1 hb1
  go_wp2_with fail
  go_ret
  have hB : Below w1.heap.size w1 (w1.alloc (.cells #[.map (some w.heap.size)] 57)) := (Below.refl _ _).alloc (Nat.le_refl _) _
  refine ⟨w1.heap.size, w.heap.size, rfl, ⟨?_, ?_⟩, by omega, Nat.le_refl _, HB1.out.trans (hB.mono hs1)⟩
  · rw [heap_al, if_pos rfl]
  · exact MapA.below ⟨D, HO.out, HR.out⟩ hB
end Go.Proofs.YtpeiamllkddhiaaDoor.P
