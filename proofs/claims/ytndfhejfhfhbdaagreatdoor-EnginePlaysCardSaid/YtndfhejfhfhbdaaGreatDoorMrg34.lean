/- Several texts in one. -/
import Derived.Test.YtndfhejfhfhbdaaGreatDoorMrg33
import Derived.Test.YtndfhejfhfhbdaaGreatDoorMrg5
import Derived.Test.YtndfhejfhfhbdaaGreatDoorCom
import Derived.OpenShut

/- The law's awake, for the engine. -/
namespace Go.Proofs.YtndfhejfhfhbdaaGreatDoor.O
open Go.RowKit Go.Proofs.YtndfhejfhfhbdaaGreatDoor.M Go.BigFrame Go.Proofs.YtndfhejfhfhbdaaGreatDoor.K Go.Proofs.YtndfhejfhfhbdaaGreatDoor.T
set_option linter.unusedVariables false
set_option linter.unusedSimpArgs false

theorem en_commitA (p b1 b2 n m : Nat) (ro : Option Addr) (rc : Nat) (g : Nat) (w : World) (h : EngAt w p b1 b2 n m ro rc [] []) (hT : Go.Proofs.YtndfhejfhfhbdaaGreatDoor.R.Tabs w) (hn : n ≤ 1000000) (hg : w.heap[g]? = some (.cells #[.int .i64 1, .int .i64 1] 27 (0, 0))) :
    Calls Tryz.prog 29 #[.pointer (some ⟨p, 0, none⟩), .agg #[.int .i64 0, .int .i64 1, .int .i64 3, .int .i64 0, .int .i64 0, .int .i64 0, .int .i64 0, .int .i64 0, .int .i64 0, .int .i64 0, .string ⟨#[]⟩, .string ⟨#[]⟩, .int .i64 0, .slice (some ⟨g, 0, none⟩) 1 1, .int .i64 0, .int .i64 2]] w fun e w' => ∃ ao cap, e = .returned (.bool true) ∧ (EngAt w' p b1 b2 (n + 1) m ro rc [enA ao cap] [] ∧ Mods (fun k => k = b1) w w' ∧ ∀ a, ao = some a → w.heap.size ≤ a.block) :=
  engcommit_yes p b1 b2 n m ro rc [] [] (enA (some ⟨g, 0, none⟩) 1) w h ⟨enA_cmd, ids_box (i := exB) hg exB_ok, exA_ok⟩ hT (by simp [enA]) (Nat.zero_le _) hn (enA_good _ _) en_there0
theorem en_commitB (p b1 b2 n m : Nat) (ro : Option Addr) (rc : Nat) (ao : Option Addr) (ca : Nat) (w : World) (h : EngAt w p b1 b2 n m ro rc [enA ao ca] []) (hT : Go.Proofs.YtndfhejfhfhbdaaGreatDoor.R.Tabs w) (hn : n ≤ 1000000) :
    Calls Tryz.prog 29 #[.pointer (some ⟨p, 0, none⟩), .agg #[.int .i64 1, .int .i64 1, .int .i64 3, .int .i64 0, .int .i64 0, .int .i64 0, .int .i64 0, .int .i64 0, .int .i64 0, .int .i64 0, .string ⟨#[]⟩, .string ⟨#[]⟩, .int .i64 0, .slice none 0 0, .int .i64 0, .int .i64 2]] w fun e w' => ∃ bo cap, e = .returned (.bool true) ∧ (EngAt w' p b1 b2 (n + 1) m ro rc [enA ao ca, enB bo cap] [] ∧ Mods (fun k => k = b1) w w' ∧ ∀ a, bo = some a → w.heap.size ≤ a.block) :=
  engcommit_yes p b1 b2 n m ro rc [enA ao ca] [] (enB none 0) w h ⟨enA_cmd, IdsV.nil w, exB_ok⟩ hT (by simp [enB]) (Nat.zero_le _) hn (enB_good _ _) en_there1
theorem en_run1' (p b1 b2 n m : Nat) (ro : Option Addr) (rc : Nat) (ao : Option Addr) (ca : Nat) (w : World) (h : EngAt w p b1 b2 n m ro rc [enA ao ca] []) (hT : Go.Proofs.YtndfhejfhfhbdaaGreatDoor.R.Tabs w) (hm : m ≤ 1000000) :
    Calls Tryz.prog 31 #[.pointer (some ⟨p, 0, none⟩)] w fun e w' => ∃ (oo : Option Addr) (oc : Nat), e = .returned (.slice oo 0 oc) ∧ ∃ ro' rc', EngAt w' p b1 b2 n m ro' rc' [enA ao ca] [] ∧ Mods (EngF p b1 b2 ro) w w' ∧ ∀ j, EngF p b1 b2 ro' j → EngF p b1 b2 ro j ∨ w.heap.size ≤ j := by
  refine (engrun_any p b1 b2 n m ro rc [enA ao ca] [] w h hT (by simp) (fun x hx => by rw [List.mem_singleton.1 hx]; simp [enA]) (fun x hx => by rw [List.mem_singleton.1 hx]; exact Nat.zero_le _) hm (by simp) (fun x hx h => by cases h)).mono ?_
  rintro e w' ⟨oo, oc, out, rfl, O, R, ro', rc', h1, h2, h3, h4, h5, _, h6, h7, _⟩
  obtain ⟨rfl, hs⟩ := en_run1 h3 h4
  rw [hs] at h5
  exact ⟨oo, oc, rfl, ro', rc', h5, h6, h7⟩
theorem en_run2' (p b1 b2 n m : Nat) (ro : Option Addr) (rc : Nat) (ao bo : Option Addr) (ca cb : Nat) (w : World) (h : EngAt w p b1 b2 n m ro rc [enA ao ca, enB bo cb] []) (hT : Go.Proofs.YtndfhejfhfhbdaaGreatDoor.R.Tabs w) (hm : m ≤ 1000000) :
    Calls Tryz.prog 31 #[.pointer (some ⟨p, 0, none⟩)] w fun e w' => ∃ (oo : Option Addr) (oc : Nat), e = .returned (.slice oo 2 oc) ∧ ∃ ro' rc', EngAt w' p b1 b2 n (m + 2) ro' rc' [] [exB, exA] ∧ OwnL w' w.heap.size oo oc [exB, exA] ∧ Mods (EngF p b1 b2 ro) w w' ∧ ∀ j, EngF p b1 b2 ro' j → EngF p b1 b2 ro j ∨ w.heap.size ≤ j := by
  refine (engrun_any p b1 b2 n m ro rc [enA ao ca, enB bo cb] [] w h hT (by simp) (fun x hx => ?_) (fun x hx => ?_) hm (by simp) (fun x hx h => by cases h)).mono ?_
  · rcases List.mem_cons.1 hx with rfl | hx
    · simp [enA]
    · rw [List.mem_singleton.1 hx]; simp [enB]
  · rcases List.mem_cons.1 hx with rfl | hx
    · exact Nat.zero_le _
    · rw [List.mem_singleton.1 hx]; exact Nat.zero_le _
  · rintro e w' ⟨oo, oc, out, rfl, O, R, ro', rc', h1, h2, h3, h4, h5, h8, h6, h7, _⟩
    obtain ⟨rfl, hs⟩ := en_run2 h3 h1 h2
    rw [hs] at h5
    exact ⟨oo, oc, rfl, ro', rc', h5, h8, h6, h7⟩
theorem en_needs1 (p b1 b2 n m : Nat) (ro : Option Addr) (rc : Nat) (ao : Option Addr) (ca : Nat) (w : World) (h : EngAt w p b1 b2 n m ro rc [enA ao ca] []) :
    Calls Tryz.prog 34 #[.pointer (some ⟨p, 0, none⟩)] w fun e w' => ∃ so sc, e = .returned (.slice so 1 sc) ∧ (IdsV w' so sc [exB] ∧ Below w.heap.size w w') := by
  refine (engneeds_any p b1 b2 n m ro rc [enA ao ca] [] w h (by simp) (fun x hx => by rw [List.mem_singleton.1 hx]; simp [enA])).mono ?_
  rintro e w' ⟨so, sc, S, rfl, hS, how, hb⟩
  rw [en_need1] at hS
  subst hS
  exact ⟨so, sc, rfl, IdsV.of_own how (fun x hx => by rw [List.mem_singleton.1 hx]; exact exB_ok), hb⟩
theorem en_needs2 (p b1 b2 n m : Nat) (ro : Option Addr) (rc : Nat) (D : List Id) (w : World) (h : EngAt w p b1 b2 n m ro rc [] D) :
    Calls Tryz.prog 34 #[.pointer (some ⟨p, 0, none⟩)] w fun e w' => ∃ so sc, e = .returned (.slice so 0 sc) ∧ Below w.heap.size w w' := by
  refine (engneeds_any p b1 b2 n m ro rc [] D w h (by simp) (fun x hx => by cases hx)).mono ?_
  rintro e w' ⟨so, sc, S, rfl, hS, how, hb⟩
  have : S = [] := hS
  subst this
  exact ⟨so, sc, rfl, hb⟩
set_option maxRecDepth 100000 in
set_option maxHeartbeats 4000000 in
theorem engawake_any (w : World) (hT : Go.Proofs.YtndfhejfhfhbdaaGreatDoor.R.Tabs w) :
    Calls Tryz.prog 27 #[] w fun e w' => e = .returned (.bool true) ∧ Below w.heap.size w w' := by
  have HT0 := Lib.hid hT
  clear hT
  go_enter Tryz.func27, Tryz.ntmps27
  go_upto_region 2 with fail
  obtain ⟨W, hW⟩ : ∃ W, W = (w.alloc (.cells #[.int .i64 0, .int .i64 1] 27)).alloc (.cells #[.int .i64 1, .int .i64 1] 27) := ⟨_, rfl⟩
  have hA : W.heap[w.heap.size]? = some (.cells #[.int .i64 0, .int .i64 1] 27 (0, 0)) := by rw [hW, heap_al, heap_al]; simp
  have hB : W.heap[w.heap.size + 1]? = some (.cells #[.int .i64 1, .int .i64 1] 27 (0, 0)) := by rw [hW, heap_al]; simp
  have HBW := Lib.hid (show Below w.heap.size w W by rw [hW]; exact ((Below.refl _ _).alloc (Nat.le_refl _) _).alloc (by simp) _)
  have HT := Lib.hid (HT0.out.next HBW.out)
  rw [← hW]
  clear hW
  obtain ⟨⟨a0, a1⟩, _⟩ := box2 hA
  obtain ⟨⟨b0, b1'⟩, _⟩ := box2 hB
  obtain ⟨gb, hgb⟩ : ∃ g, g = w.heap.size + 1 := ⟨_, rfl⟩
  have hlt := M.heap_lt hB
  rw [← hgb] at b0 b1' hlt ⊢
  have hla : w.heap.size < W.heap.size := M.heap_lt hA
  clear hA hB hgb
  have HNEW := Lib.hid (engnew_any W)
  go_wp2_with fail
  refine HNEW.out.mono ?_
  rintro e w1 ⟨p, b1, b2, rfl, he, hf, hb⟩
  have HE := Lib.hid he
  have HZ0 := Lib.hid hb
  have HF := Lib.hid hf
  have hz0 := hb.size
  clear he hf hb HNEW
  go_upto_region 3 with fail
  go_region_held3 (fun w' => w'.cell? ⟨w.heap.size, 0, none⟩ = some (.int .i64 0) ∧ w'.cell? ⟨w.heap.size, 1, none⟩ = some (.int .i64 1) ∧ w'.cell? ⟨gb, 0, none⟩ = some (.int .i64 1) ∧ w'.cell? ⟨gb, 1, none⟩ = some (.int .i64 1))
    (exact keep4 (by repeat (first | exact HZ4.out | exact HZ3.out | exact HZ2.out | exact HZ1.out | exact HZ0.out | exact Below.refl _ _ | refine Below.drew ?_ | refine Below.alloc ?_ (by first | omega | (simp <;> omega)) _)) hla hlt a0 a1 b0 b1')
    ((first
      | (go_at_call 29
         refine (en_commitA p b1 b2 0 0 none 0 _ _ (HE.out.below (by repeat (first | exact Below.refl _ _ | refine Below.drew ?_ | refine Below.alloc ?_ (by first | omega | (simp <;> omega)) _))) (HT.out.next (by repeat (first | exact HZ4.out | exact HZ3.out | exact HZ2.out | exact HZ1.out | exact HZ0.out | exact Below.refl _ _ | refine Below.drew ?_ | refine Below.alloc ?_ (by first | omega | (simp <;> omega)) _))) (by omega) (by first | (rw [heap_dr, heap_al]; simp) | (rw [heap_al]; simp))).mono ?_
         rintro e wc ⟨ao, ca, rfl, he1, hm1, _⟩
         have HE1 := Lib.hid he1
         have HZ1 := Lib.hid (Below.trans (a := W) (c := wc) (B := W.heap.size) (by repeat (first | exact HZ4.out | exact HZ3.out | exact HZ2.out | exact HZ1.out | exact HZ0.out | exact Below.refl _ _ | refine Below.drew ?_ | refine Below.alloc ?_ (by first | omega | (simp <;> omega)) _)) (hm1.below (fun j e => by have := HF.out b1 (.inr (.inl rfl)); omega) (by first | omega | (simp <;> omega))))
         have hz1 := HZ1.out.size
         clear he1 hm1)
      | (go_at_call 31
         refine (en_run1' p b1 b2 1 0 none 0 ao ca _ (HE1.out.below (by repeat (first | exact Below.refl _ _ | refine Below.drew ?_ | refine Below.alloc ?_ (by first | omega | (simp <;> omega)) _))) (HT.out.next (by repeat (first | exact HZ4.out | exact HZ3.out | exact HZ2.out | exact HZ1.out | exact HZ0.out | exact Below.refl _ _ | refine Below.drew ?_ | refine Below.alloc ?_ (by first | omega | (simp <;> omega)) _))) (by omega)).mono ?_
         rintro e wr1 ⟨oo, oc, rfl, ro1, rc1, he2, hm2, hf2⟩
         have HE2 := Lib.hid he2
         have HZ2 := Lib.hid (Below.trans (a := W) (c := wr1) (B := W.heap.size) (by repeat (first | exact HZ4.out | exact HZ3.out | exact HZ2.out | exact HZ1.out | exact HZ0.out | exact Below.refl _ _ | refine Below.drew ?_ | refine Below.alloc ?_ (by first | omega | (simp <;> omega)) _)) (hm2.below (fun j e => HF.out j e) (by first | omega | (simp <;> omega))))
         have hz2 := HZ2.out.size
         have HF2 := Lib.hid (show ∀ j, EngF p b1 b2 ro1 j → W.heap.size ≤ j from fun j h => by
           rcases hf2 j h with h | h
           · exact HF.out j h
           · first | omega | (simp at h; omega))
         clear he2 hm2 hf2)
      | (go_at_call 34
         refine (en_needs1 p b1 b2 1 0 ro1 rc1 ao ca _ (HE2.out.below (by repeat (first | exact Below.refl _ _ | refine Below.drew ?_ | refine Below.alloc ?_ (by first | omega | (simp <;> omega)) _)))).mono ?_
         rintro e wn ⟨so, sc, rfl, hs3, hb3⟩
         have HS3 := Lib.hid hs3
         have HZ3 := Lib.hid (Below.trans (a := W) (c := wn) (B := W.heap.size) (by repeat (first | exact HZ4.out | exact HZ3.out | exact HZ2.out | exact HZ1.out | exact HZ0.out | exact Below.refl _ _ | refine Below.drew ?_ | refine Below.alloc ?_ (by first | omega | (simp <;> omega)) _)) (hb3.mono (by first | omega | (simp <;> omega))))
         have hz3 := HZ3.out.size
         have HE3 := Lib.hid (show EngAt wn p b1 b2 1 0 ro1 rc1 [enA ao ca] [] from (HE2.out.below (by repeat (first | exact Below.refl _ _ | refine Below.drew ?_ | refine Below.alloc ?_ (by first | omega | (simp <;> omega)) _))).below hb3)
         (first | (have HGB := Lib.hid (show wn.heap[wr1.heap.size]? = some (.cells #[.int .i64 1, .int .i64 1] 27 (0, 0)) from (hb3.block _ (by simp)).trans (by rw [heap_al]; simp))) | skip)
         clear hs3 hb3)
      | (go_at_call 18
         refine (refequal_any [exB] [exB] so (some ⟨_, 0, none⟩) sc 1 _ (HS3.out.below (B := 0) (by repeat (first | exact Below.refl _ _ | refine Below.drew ?_ | refine Below.alloc ?_ (by first | omega | (simp <;> omega)) _))) (ids_box (i := exB) (by first | exact HGB.out | exact heap_alloc_new _ _) exB_ok) true (decide_eq_true rfl)).mono ?_
         rintro e wq ⟨rfl, hb4⟩
         have HZ4 := Lib.hid (Below.trans (a := W) (c := wq) (B := W.heap.size) (by repeat (first | exact HZ4.out | exact HZ3.out | exact HZ2.out | exact HZ1.out | exact HZ0.out | exact Below.refl _ _ | refine Below.drew ?_ | refine Below.alloc ?_ (by first | omega | (simp <;> omega)) _)) (hb4.mono (by first | omega | (simp <;> omega))))
         have HE4 := Lib.hid (show EngAt wq p b1 b2 1 0 ro1 rc1 [enA ao ca] [] from (HE3.out.below (by repeat (first | exact Below.refl _ _ | refine Below.drew ?_ | refine Below.alloc ?_ (by first | omega | (simp <;> omega)) _))).below hb4)
         clear hb4)))
  all_goals
    obtain ⟨x0, x1, y0, y1⟩ := keep4 HZ4.out hla hlt a0 a1 b0 b1'
    have HCB := Lib.hid (en_commitB p b1 b2 1 0 ro1 rc1 ao ca wq HE4.out (HT.out.next HZ4.out) (by omega))
    have hz4 := HZ4.out.size
    go_wp2_with fail
    refine HCB.out.mono ?_
    rintro e wd ⟨bo, cb, rfl, he5, hm5, _⟩
    have HE5 := Lib.hid he5
    have HZ5 := Lib.hid (HZ4.out.trans (hm5.below (fun j e => by have := HF.out b1 (.inr (.inl rfl)); omega) hz4))
    have hz5 := HZ5.out.size
    clear he5 hm5 x0 x1 y0 y1 HCB
    go_upto_region 6 with fail
    go_region_held3 (fun w' => w'.cell? ⟨w.heap.size, 0, none⟩ = some (.int .i64 0) ∧ w'.cell? ⟨w.heap.size, 1, none⟩ = some (.int .i64 1) ∧ w'.cell? ⟨gb, 0, none⟩ = some (.int .i64 1) ∧ w'.cell? ⟨gb, 1, none⟩ = some (.int .i64 1))
      (exact keep4 (by repeat (first | exact HZ9.out | exact HZ8.out | exact HZ7.out | exact HZ6.out | exact HZ5.out | exact Below.refl _ _ | refine Below.drew ?_ | refine Below.alloc ?_ (by first | omega | (simp <;> omega)) _)) hla hlt a0 a1 b0 b1')
      ((first
        | (go_at_call 31
           refine (en_run2' p b1 b2 2 0 ro1 rc1 ao bo ca cb _ (HE5.out.below (by repeat (first | exact Below.refl _ _ | refine Below.drew ?_ | refine Below.alloc ?_ (by first | omega | (simp <;> omega)) _))) (HT.out.next (by repeat (first | exact HZ9.out | exact HZ8.out | exact HZ7.out | exact HZ6.out | exact HZ5.out | exact Below.refl _ _ | refine Below.drew ?_ | refine Below.alloc ?_ (by first | omega | (simp <;> omega)) _))) (by omega)).mono ?_
           rintro e wr2 ⟨oo2, oc2, rfl, ro2, rc2, he6, how6, hm6, _⟩
           have HE6 := Lib.hid he6
           have HOV6 := Lib.hid (show IdsV wr2 oo2 oc2 [exB, exA] from IdsV.of_own (B := 0) (l := [exB, exA]) (own_base how6 (fun _ _ => Nat.zero_le _)) (fun x hx => by
             rcases List.mem_cons.1 hx with rfl | hx
             · exact exB_ok
             · rw [List.mem_singleton.1 hx]; exact exA_ok))
           have HZ6 := Lib.hid (Below.trans (a := W) (c := wr2) (B := W.heap.size) (by repeat (first | exact HZ9.out | exact HZ8.out | exact HZ7.out | exact HZ6.out | exact HZ5.out | exact Below.refl _ _ | refine Below.drew ?_ | refine Below.alloc ?_ (by first | omega | (simp <;> omega)) _)) (hm6.below (fun j e => HF2.out j e) (by first | omega | (simp <;> omega))))
           have hz6 := HZ6.out.size
           (first | (have HGB := Lib.hid (show wr2.heap[wd.heap.size]? = some (.cells #[.int .i64 1, .int .i64 1, .int .i64 0, .int .i64 1] 27 (0, 0)) from hm6.heap (by first | (rw [heap_dr, heap_al]; simp) | (rw [heap_al]; simp)) (fun h => by have := HE5.out.lts _ h; omega))) | skip)
           clear he6 how6 hm6)
        | (go_at_call 18
           refine (refequal_any [exB, exA] [exB, exA] oo2 (some ⟨_, 0, none⟩) oc2 2 _ (HOV6.out.below (B := 0) (by repeat (first | exact Below.refl _ _ | refine Below.drew ?_ | refine Below.alloc ?_ (by first | omega | (simp <;> omega)) _))) (ids_lit (l := [exB, exA]) (by first | exact HGB.out | exact heap_alloc_new _ _) (by simp) (fun x hx => by
             rcases List.mem_cons.1 hx with rfl | hx
             · exact exB_ok
             · rw [List.mem_singleton.1 hx]; exact exA_ok)) true (decide_eq_true rfl)).mono ?_
           rintro e wq2 ⟨rfl, hb7⟩
           have HZ7 := Lib.hid (Below.trans (a := W) (c := wq2) (B := W.heap.size) (by repeat (first | exact HZ9.out | exact HZ8.out | exact HZ7.out | exact HZ6.out | exact HZ5.out | exact Below.refl _ _ | refine Below.drew ?_ | refine Below.alloc ?_ (by first | omega | (simp <;> omega)) _)) (hb7.mono (by first | omega | (simp <;> omega))))
           have hz7 := HZ7.out.size
           have HE7 := Lib.hid (show EngAt wq2 p b1 b2 2 2 ro2 rc2 [] [exB, exA] from (HE6.out.below (by repeat (first | exact Below.refl _ _ | refine Below.drew ?_ | refine Below.alloc ?_ (by first | omega | (simp <;> omega)) _))).below hb7)
           clear hb7)
        | (go_at_call 37
           refine (engdone_any p b1 b2 2 2 ro2 rc2 [] [exB, exA] exA _ (HE7.out.below (by repeat (first | exact Below.refl _ _ | refine Below.drew ?_ | refine Below.alloc ?_ (by first | omega | (simp <;> omega)) _))) exA_ok true (by decide)).mono ?_
           rintro e wd2 ⟨rfl, hb8⟩
           have HZ8 := Lib.hid (Below.trans (a := W) (c := wd2) (B := W.heap.size) (by repeat (first | exact HZ9.out | exact HZ8.out | exact HZ7.out | exact HZ6.out | exact HZ5.out | exact Below.refl _ _ | refine Below.drew ?_ | refine Below.alloc ?_ (by first | omega | (simp <;> omega)) _)) (hb8.mono (by first | omega | (simp <;> omega))))
           have hz8 := HZ8.out.size
           have HE8 := Lib.hid (show EngAt wd2 p b1 b2 2 2 ro2 rc2 [] [exB, exA] from (HE7.out.below (by repeat (first | exact Below.refl _ _ | refine Below.drew ?_ | refine Below.alloc ?_ (by first | omega | (simp <;> omega)) _))).below hb8)
           clear hb8)
        | (go_at_call 34
           refine (en_needs2 p b1 b2 2 2 ro2 rc2 [exB, exA] _ (HE8.out.below (by repeat (first | exact Below.refl _ _ | refine Below.drew ?_ | refine Below.alloc ?_ (by first | omega | (simp <;> omega)) _)))).mono ?_
           rintro e wn2 ⟨so2, sc2, rfl, hb9⟩
           have HZ9 := Lib.hid (Below.trans (a := W) (c := wn2) (B := W.heap.size) (by repeat (first | exact HZ9.out | exact HZ8.out | exact HZ7.out | exact HZ6.out | exact HZ5.out | exact Below.refl _ _ | refine Below.drew ?_ | refine Below.alloc ?_ (by first | omega | (simp <;> omega)) _)) (hb9.mono (by first | omega | (simp <;> omega))))
           clear hb9)))
    all_goals
      go_wp2_with fail
      go_ret
      exact ⟨rfl, HBW.out.trans (HZ9.out.mono HBW.out.size)⟩
end Go.Proofs.YtndfhejfhfhbdaaGreatDoor.O

/- Rows of bools and of bytes that came in. -/
namespace Go.Proofs.YtndfhejfhfhbdaaGreatDoor.O
open Go.RowKit Go.Proofs.YtndfhejfhfhbdaaGreatDoor.M Go.WideShapes Go.ChangeShapes
set_option linter.unusedVariables false
set_option linter.unusedSimpArgs false

/-- a slice of elements of one cell each -/
structure OneV {α : Type} (mk : α → Value) (w : World) (ao : Option Addr) (cap : Nat) (l : List α) : Prop where
  le : l.length ≤ cap ∧ cap ≤ maxLen
  row : ∀ i x, l[i]? = some x → ∃ b off, ao = some ⟨b, off, none⟩ ∧ b < w.heap.size ∧ w.cell? ⟨b, off + i, none⟩ = some (mk x)
theorem OneV.below {α : Type} {mk : α → Value} {B : Nat} {w w1 : World} {ao : Option Addr} {cap : Nat} {l : List α} (h : OneV mk w ao cap l) (hb : Below w.heap.size w w1) : OneV mk w1 ao cap l :=
  ⟨h.le, fun i x hi => by
    obtain ⟨b, off, e1, hl, c0⟩ := h.row i x hi
    exact ⟨b, off, e1, Nat.lt_of_lt_of_le hl hb.size, (hb.cell (p := ⟨b, _, none⟩) hl).trans c0⟩⟩
abbrev boolV (x : Bool) : Value := .bool x
abbrev u8V (x : Nat) : Value := .int .u8 (x : Int)
theorem bools_view {H : Type} {enc : TypeId × Value → H} {w : World} {v : Value} {d : DataW H} {p : List MemPlace} (h : DataW.Trod enc Tryz.prog w 0 (fun _ => true) true 22 v d p)
    (hlt : ∀ y ∈ p, y.block < w.heap.size) (hs : ∃ a l c, v = .slice a l c) : ∃ ao cap l, v = .slice ao (l : List Bool).length cap ∧ OneV boolV w ao cap l := by
  obtain ⟨a, l, c, rfl⟩ := hs
  obtain ⟨fuel, hf⟩ := h
  obtain ⟨ao, b, off, len, cap, n, C, D, hcs, hl, hm, hz, h0, _, hC⟩ := C.slice_view2 Tryz.underlying22 (k := 1) (by kernel_rfl) (by decide) hf hlt
  have hcs' : (Value.slice a l c) = .slice ao len cap := by simpa [Value.cells] using hcs
  have hE : ∀ i, i < len → ∃ z : Bool, C i = [.bool z] := fun i hi => by
    obtain ⟨_, _, pi, ht, hp⟩ := hC i hi
    obtain ⟨z, e, _⟩ := DataW.trod_bool Tryz.underlying4 ht
    exact ⟨z, e⟩
  obtain ⟨Y, hY⟩ := @Go.Deep.choose_lt Bool _ _ _ hE
  have hlen : ((List.range len).map Y).length = len := by simp
  refine ⟨ao, cap, (List.range len).map Y, by rw [hlen]; exact hcs', by rw [hlen]; exact ⟨hl, hm⟩, fun i x hx => ?_⟩
  have hi : i < len := by have := (List.getElem?_eq_some_iff.1 hx).1; rwa [hlen] at this
  have e : Y i = x := by simpa [hi] using hx
  have hc := (hC i hi).2.1 0 (by decide)
  rw [hY i hi, e] at hc
  simp only [Nat.mul_one, Nat.add_zero] at hc
  exact ⟨b, off, (h0 (by omega)).1, (h0 (by omega)).2, hc⟩
end Go.Proofs.YtndfhejfhfhbdaaGreatDoor.O
