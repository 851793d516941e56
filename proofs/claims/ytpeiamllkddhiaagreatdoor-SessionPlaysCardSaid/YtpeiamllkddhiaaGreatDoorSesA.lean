/- The document's sessions: its clients in memory; At. -/
import Derived.Test.YtpeiamllkddhiaaGreatDoorMrg10
import Derived.Test.YtpeiamllkddhiaaGreatDoorAppM
namespace Go.Proofs.YtpeiamllkddhiaaGreatDoor.P
open Go.RowKit Go.Proofs.YtpeiamllkddhiaaGreatDoor.R Go.Proofs.YtpeiamllkddhiaaGreatDoor.M Go.BigFrame
set_option linter.unusedVariables false
set_option linter.unusedSimpArgs false

abbrev lastC (e : Lst) : List Value := [.int .i64 e.client, .int .i64 e.seq, .int .i64 e.rep.code, .string e.rep.val, .int .i64 e.rep.rev]
def cellsC (C : List Lst) : List Value := C.flatMap lastC
theorem cellsC_len (C : List Lst) : (cellsC C).length = C.length * 5 := by
  induction C with
  | nil => rfl
  | cons a t ih => unfold cellsC at *; rw [List.flatMap_cons, List.length_append, ih, List.length_cons]; simp; omega
theorem cellsC_app (C D : List Lst) : cellsC (C ++ D) = cellsC C ++ cellsC D := by simp [cellsC]
theorem cellsC_get : ∀ (C : List Lst) (i : Nat) (e : Lst), C[i]? = some e → (cellsC C)[i * 5]? = some (.int .i64 e.client) ∧ (cellsC C)[i * 5 + 1]? = some (.int .i64 e.seq) ∧ (cellsC C)[i * 5 + 2]? = some (.int .i64 e.rep.code) ∧ (cellsC C)[i * 5 + 3]? = some (.string e.rep.val) ∧ (cellsC C)[i * 5 + 4]? = some (.int .i64 e.rep.rev)
  | [], i, e, h => by simp at h
  | a :: t, 0, e, h => by
    cases h
    exact ⟨rfl, rfl, rfl, rfl, rfl⟩
  | a :: t, i + 1, e, h => by
    have ih := cellsC_get t i e (by simpa using h)
    have hc : cellsC (a :: t) = lastC a ++ cellsC t := by simp [cellsC]
    have hs : ∀ j, (cellsC (a :: t))[(i + 1) * 5 + j]? = (cellsC t)[i * 5 + j]? := fun j => by
      rw [hc, List.getElem?_append_right (by simp; omega)]
      congr 1
      simp
      omega
    refine ⟨?_, ?_, ?_, ?_, ?_⟩
    · exact (hs 0).trans ih.1
    · exact (hs 1).trans ih.2.1
    · exact (hs 2).trans ih.2.2.1
    · exact (hs 3).trans ih.2.2.2.1
    · exact (hs 4).trans ih.2.2.2.2
/-- a slice that holds clients -/
structure LstV (w : World) (ao : Option Addr) (cap : Nat) (C : List Lst) : Prop where
  le : C.length ≤ cap ∧ cap ≤ maxLen
  row : ∀ i e, C[i]? = some e → ∃ b off, ao = some ⟨b, off, none⟩ ∧ b < w.heap.size ∧ w.cell? ⟨b, off + i * 5, none⟩ = some (.int .i64 e.client) ∧ w.cell? ⟨b, off + i * 5 + 1, none⟩ = some (.int .i64 e.seq) ∧ w.cell? ⟨b, off + i * 5 + 2, none⟩ = some (.int .i64 e.rep.code) ∧
    w.cell? ⟨b, off + i * 5 + 3, none⟩ = some (.string e.rep.val) ∧ w.cell? ⟨b, off + i * 5 + 4, none⟩ = some (.int .i64 e.rep.rev)
theorem LstV.below {w w1 : World} {ao : Option Addr} {cap : Nat} {C : List Lst} (h : LstV w ao cap C) (hb : Below w.heap.size w w1) : LstV w1 ao cap C :=
  ⟨h.le, fun i e hi => by
    obtain ⟨b, off, e1, hl, c0, c1, c2, c3, c4⟩ := h.row i e hi
    exact ⟨b, off, e1, Nat.lt_of_lt_of_le hl hb.size, (hb.cell (p := ⟨b, _, none⟩) hl).trans c0, (hb.cell (p := ⟨b, _, none⟩) hl).trans c1, (hb.cell (p := ⟨b, _, none⟩) hl).trans c2, (hb.cell (p := ⟨b, _, none⟩) hl).trans c3, (hb.cell (p := ⟨b, _, none⟩) hl).trans c4⟩⟩
theorem LstV.nil (w : World) : LstV w none 0 [] := ⟨⟨Nat.le_refl _, Nat.zero_le _⟩, fun i e h => by simp at h⟩
theorem LstV.of_own {B : Nat} {w : World} {ao : Option Addr} {cap : Nat} {C : List Lst} (h : w.ownsRow B 45 5 (.slice ao C.length cap) C.length (cellsC C)) : LstV w ao cap C := by
  obtain ⟨ao', cap', e, h1, h2, h3, h4⟩ := M.own_view h
  cases e
  refine ⟨⟨h1, h2⟩, fun i e hi => ?_⟩
  have hil := (List.getElem?_eq_some_iff.1 hi).1
  cases ao with
  | none => have := (h3 rfl).1; omega
  | some a =>
    obtain ⟨g, cur, rfl, _, hg, hsz, htk⟩ := h4 a rfl
    obtain ⟨c0, c1, c2, c3, c4⟩ := cellsC_get C i e hi
    have hcell : ∀ j v, j < C.length * 5 → (cellsC C)[j]? = some v → w.cell? ⟨g, 0 + j, none⟩ = some v := fun j v hj hv => by
      rw [cell_of_row w g (0 + j) _ _ _ hg, Nat.zero_add, ← Array.getElem?_toList]
      rw [← htk, List.getElem?_take_of_lt hj] at hv
      exact hv
    exact ⟨g, 0, rfl, M.heap_lt hg, hcell _ _ (by omega) c0, by rw [Nat.add_assoc]; exact hcell _ _ (by omega) c1, by rw [Nat.add_assoc]; exact hcell _ _ (by omega) c2, by rw [Nat.add_assoc]; exact hcell _ _ (by omega) c3, by rw [Nat.add_assoc]; exact hcell _ _ (by omega) c4⟩
set_option maxRecDepth 100000 in
set_option maxHeartbeats 1000000 in
theorem sat_any (C : List Lst) (oa oc : Option Addr) (la ca cc : Nat) (k : Int) (w : World) (h : LstV w oc cc C) (v : Int) (hv : atC C k = v) :
    Calls Tryz.prog 11 #[.agg #[.slice oa la ca, .slice oc C.length cc], .int .i64 k] w fun e w' => e = .returned (.int .i64 v) ∧ Below w.heap.size w w' := by
  subst hv
  have H := Lib.hid h.row
  obtain ⟨hl1, hl2⟩ := h.le
  unfold maxLen at hl2
  have HL := Lib.hid h
  clear h
  go_enter Tryz.func11, Tryz.ntmps11
  go_upto_region 1 with fail
  obtain ⟨W, hW⟩ : ∃ W, W = w.alloc (.cells #[.slice oa la ca, .slice oc C.length cc] 30) := ⟨_, rfl⟩
  rw [← hW]
  have HB : Hid (Below w.heap.size w W) := Lib.hid (by rw [hW]; exact (Below.refl _ _).alloc (Nat.le_refl _) _)
  obtain ⟨s0, s1⟩ := boxS (w := W) (s := w.heap.size) (T := 30) (by rw [hW]; exact heap_alloc_new w _)
  have HLW := Lib.hid (HL.out.below HB.out)
  clear hW HL H
  go_wp2_with fail
  go_loopw [5] (fun iv wr => ∃ i : Nat, iv = .int .i64 i ∧ i ≤ C.length ∧ W = wr ∧ ∀ j x, j < i → C[j]? = some x → x.client ≠ k) (fun iv _ => C.length - (intOf iv).toNat)
  case atStart => exact ⟨0, rfl, Nat.zero_le _, rfl, fun j x hj => absurd hj (by omega)⟩
  case round =>
    obtain ⟨i, rfl, hi, rfl, hno⟩ := hrel
    have HNO := Lib.hid hno
    clear hno
    by_cases hil : i < C.length
    · have hii : (i : Int) < (C.length : Int) := by omega
      obtain ⟨e, he⟩ : ∃ e, C[i]? = some e := ⟨_, List.getElem?_eq_getElem hil⟩
      obtain ⟨b, off, rfl, _, c0, _, _⟩ := HLW.out.row i e he
      by_cases hk : e.client = k
      · have HV := Lib.hid (atC_yes he hk HNO.out)
        have e1 : (e.client == k) = true := by rw [beq_iff_eq]; exact hk
        clear hk he
        go_wp2_with fail
        go_ret
        exact ⟨by rw [HV.out]; rfl, HB.out⟩
      · have HN := Lib.hid (show ∀ j x, j < i + 1 → C[j]? = some x → x.client ≠ k from fun j x hj hx => by
          by_cases e2 : j = i
          · subst e2; rw [he] at hx; cases hx; exact hk
          · exact HNO.out j x (by omega) hx)
        have e1 : (e.client == k) = false := by rw [beq_eq_false_iff_ne]; exact hk
        clear hk he
        go_wp2_with fail
        go_roundw
        case rel => exact ⟨i + 1, by go_num, by omega, by trivial, HN.out⟩
        case measure => simp [intOf]; omega
    · obtain rfl : i = C.length := by omega
      have hii : ¬ (C.length : Int) < (C.length : Int) := by omega
      have HV := Lib.hid (atC_no (C := C) (k := k) fun e he => by
        obtain ⟨j, hj⟩ := List.mem_iff_getElem?.1 he
        exact HNO.out j e (List.getElem?_eq_some_iff.1 hj).1 hj)
      go_wp2_with fail
      go_ret
      exact ⟨by rw [HV.out]; rfl, HB.out⟩
/-- a map of clients, cloned -/
theorem MapC.clone {q n : Nat} {C : List Lst} {w : World} (h : MapC w q n C) :
    Calls Tryz.prog 18 #[.map (some q)] w fun e w' => e = .returned (.map (some w.heap.size)) ∧ (MapC w' w.heap.size n C ∧ Below w.heap.size w w') := by
  obtain ⟨D, hown, hrel⟩ := h
  exact (AnyW.maps_Clone_owns Tryz.clone18 tInt lastR q n D w hown).mono fun e w' ⟨he, ho, _, hb⟩ => ⟨he, ⟨D, ho, hrel⟩, hb⟩
set_option maxRecDepth 100000 in
set_option maxHeartbeats 2000000 in
theorem scopy_any (s p b q n : Nat) (S : Ses) (w : World) (h : SesAt w s p b q n S) :
    Calls Tryz.prog 7 #[.pointer (some ⟨s, 0, none⟩)] w fun e w' => ∃ s2 p2 b2 q2, e = .returned (.pointer (some ⟨s2, 0, none⟩)) ∧ (SesAt w' s2 p2 b2 q2 n S ∧ w.heap.size ≤ s2 ∧ w.heap.size ≤ p2 ∧ w.heap.size ≤ b2 ∧ w.heap.size ≤ q2 ∧ Below w.heap.size w w') := by
  have HS := Lib.hid (show ∀ w', SesAt w' s p b q n S → (fun w' => w'.cell? ⟨s, 0, none⟩ = some (.pointer (some ⟨p, 0, none⟩)) ∧ w'.cell? ⟨s, 1, none⟩ = some (.map (some q))) w' from fun w' h => boxS h.box)
  have HH := Lib.hid (show SesAt w.drew s p b q n S from h.below (Below.refl _ _).drew)
  have HS0 := Lib.hid (HS.out _ HH.out)
  have HCA := Lib.hid (show Calls Tryz.prog 17 #[.pointer (some ⟨p, 0, none⟩)] w.drew fun e w2 => ∃ p2 b2, e = .returned (.pointer (some ⟨p2, 0, none⟩)) ∧ ((fun w' => w'.cell? ⟨s, 0, none⟩ = some (.pointer (some ⟨p, 0, none⟩)) ∧ w'.cell? ⟨s, 1, none⟩ = some (.map (some q))) w2 ∧ (SesAt w2 s p b q n S ∧ AppAt w2 p2 b2 n S.A ∧ w.heap.size ≤ p2 ∧ w.heap.size ≤ b2 ∧ Below w.heap.size w w2)) from
    (copy_any p b n S.A w.drew HH.out.app).mono fun e w2 ⟨p2, b2, he, ha, hp, hb, hbel⟩ => ⟨p2, b2, he, HS.out _ (HH.out.below hbel), HH.out.below hbel, ha, hp, hb, (Below.refl _ _).drew.trans hbel⟩)
  have HCL := Lib.hid (show ∀ (w1 : World) (p2 b2 : Nat), (SesAt w1 s p b q n S ∧ AppAt w1 p2 b2 n S.A ∧ w.heap.size ≤ p2 ∧ w.heap.size ≤ b2 ∧ Below w.heap.size w w1) → Calls Tryz.prog 18 #[.map (some q)] w1 fun e w2 => e = .returned (.map (some w1.heap.size)) ∧
      ((fun w' => w'.cell? ⟨s, 0, none⟩ = some (.pointer (some ⟨p, 0, none⟩)) ∧ w'.cell? ⟨s, 1, none⟩ = some (.map (some q))) w2 ∧ (SesAt w2 s p b q n S ∧ AppAt w2 p2 b2 n S.A ∧ MapC w2 w1.heap.size n S.C ∧ b2 ≠ w1.heap.size ∧ w.heap.size ≤ p2 ∧ w.heap.size ≤ b2 ∧ w.heap.size ≤ w1.heap.size ∧ Below w.heap.size w w2)) from fun w1 p2 b2 h1 =>
    h1.1.map.clone.mono fun e w2 ⟨he, hm, hb⟩ => ⟨he, HS.out _ (h1.1.below hb), h1.1.below hb, h1.2.1.below hb, hm, by have := h1.2.1.blt; omega, h1.2.2.1, h1.2.2.2.1, h1.2.2.2.2.size, h1.2.2.2.2.trans (hb.mono h1.2.2.2.2.size)⟩)
  clear h HH
  go_enter Tryz.func7, Tryz.ntmps7
  go_upto_region 1 with fail
  go_region_held3 (fun w' => w'.cell? ⟨s, 0, none⟩ = some (.pointer (some ⟨p, 0, none⟩)) ∧ w'.cell? ⟨s, 1, none⟩ = some (.map (some q)))
    (first | exact HS0.out | exact h7 | exact h8 | exact HS.out _ (k8.1.below ((Below.refl _ _).alloc (Nat.le_refl _) _)))
    ((first | (go_at_call 17; refine HCA.out.mono ?_; rintro e w7 ⟨p2, b2, rfl, h7, k7⟩) | (go_at_call 18; refine (HCL.out _ _ _ k7).mono ?_; rintro e w8 ⟨rfl, h8, k8⟩)))
  have K8 := Lib.hid k8
  clear h7 k7 h8 k8 HCA HCL HS HS0
  go_wp2_with fail
  go_ret
  have hb : Below w8.heap.size w8 (w8.alloc (.cells #[.pointer (some ⟨p2, 0, none⟩), .map (some w7.heap.size)] 55)) := (Below.refl _ _).alloc (Nat.le_refl _) _
  obtain ⟨_, ha, hm, hne, h1, h2, h3, hbel⟩ := K8.out
  exact ⟨w8.heap.size, p2, b2, w7.heap.size, rfl, ⟨heap_alloc_new w8 _, ha.below hb, hm.below hb, hne⟩, hbel.size, h1, h2, h3, hbel.trans (hb.mono hbel.size)⟩
end Go.Proofs.YtpeiamllkddhiaaGreatDoor.P
