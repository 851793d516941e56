/- The table's contracts in one relation (IsTab), the document's example awake, and the law PeersLast's walk. -/
import Derived.Test.YtbgnclkpjajpmaaPeersA
namespace Go.Proofs.Ytbgnclkpjajpmaa.P
open Go.RowKit

theorem IsTab.of_heap {w w' : World} {b n : Nat} {s : Nat → Int} (h : IsTab w b n s) (e : w'.heap[b]? = w.heap[b]?) : IsTab w' b n s :=
  ⟨h.le, (World.cell?_of_block (a := ⟨b, 0, none⟩) e).trans h.cn, fun i hi => (World.cell?_of_block (a := ⟨b, i + 1, none⟩) e).trans (h.cs i hi), fun i hi => (World.frozen?_of_block (a := ⟨b, i + 1, none⟩) e).trans (h.fz i hi)⟩
theorem IsTab.drewN {w : World} {b n : Nat} {s : Nat → Int} (h : IsTab w b n s) (k : Nat) : IsTab (w.drewN k) b n s := h.of_heap rfl
theorem IsTab.drew {w : World} {b n : Nat} {s : Nat → Int} (h : IsTab w b n s) : IsTab w.drew b n s := h.of_heap rfl
theorem IsTab.below {w w' : World} {b n B : Nat} {s : Nat → Int} (h : IsTab w b n s) (hb : Below B w w') (hB : b < B) : IsTab w' b n s := h.of_heap (hb.block b hB)

theorem IsTab.congr {w : World} {b n : Nat} {s s' : Nat → Int} (h : IsTab w b n s) (e : ∀ i, i < 7 → s i = s' i) : IsTab w b n s' :=
  ⟨h.le, h.cn, fun i hi => by rw [← e i hi]; exact h.cs i hi, h.fz⟩

def put (s : Nat → Int) (i : Nat) (v : Int) : Nat → Int := fun j => if j = i then v else s j
def heard (n : Nat) (s : Nat → Int) (i v : Int) : Nat → Int := if heardOk n i v then put s i.toNat v else s

theorem isTab_new (w : World) (n : Nat) (h : n ≤ 7) : IsTab (w.alloc (.cells #[.int .i64 n, .int .i64 0, .int .i64 0, .int .i64 0, .int .i64 0, .int .i64 0, .int .i64 0, .int .i64 0] 40)) w.heap.size n (fun _ => 0) := by
  refine ⟨h, by simp, fun i hi => ?_, fun i hi => by simp⟩
  match i, hi with
  | 0, _ => simp
  | 1, _ => simp
  | 2, _ => simp
  | 3, _ => simp
  | 4, _ => simp
  | 5, _ => simp
  | 6, _ => simp

theorem IsTab.set {w : World} {b n : Nat} {s : Nat → Int} (h : IsTab w b n s) (i : Nat) (hi : i < 7) (v : Int) : IsTab (w.setCell ⟨b, 1 + i, none⟩ (.int .i64 v)) b n (put s i v) := by
  have hc := h.cs i hi
  refine ⟨h.le, ?_, fun j hj => ?_, fun j hj => ?_⟩
  · rw [World.cell?_setCell_other _ _ _ _ (by simp)]; exact h.cn
  · by_cases e : j = i
    · subst e; rw [Nat.add_comm 1 j, World.cell?_setCell_same _ _ _ hc]; simp [put]
    · rw [World.cell?_setCell_other _ _ _ _ (by simp <;> omega)]; simp only [put, if_neg e]; exact h.cs j hj
  · rw [World.frozen?_setCell]; exact h.fz j hj

/-- a call of Hear: the table is another one, nothing else is changed -/
theorem hear_rel (b n : Nat) (s : Nat → Int) (i v : Int) (w : World) (r : Bool) (ht : IsTab w b n s) (hr : heardOk n i v = r) :
    Calls Try.prog 7 #[.pointer (some ⟨b, 0, none⟩), .int .i64 i, .int .i64 v] w fun e w' => e = .returned (.bool r) ∧ IsTab w' b n (heard n s i v) ∧ w.grownBy w' (some b) := by
  subst hr
  cases hk : heardOk n i v with
  | false =>
    refine (hear_no b n s i v w ht hk).mono fun e w' h => ?_
    obtain ⟨rfl, rfl⟩ := h
    refine ⟨rfl, ?_, ⟨rfl, rfl, rfl, Nat.le_refl _, fun _ _ _ => rfl⟩⟩
    simp only [heard, hk]; exact ht
  | true =>
    refine (hear_yes b n s i v w ht hk).mono fun e w' h => ?_
    obtain ⟨rfl, rfl⟩ := h
    have hi : 0 ≤ i ∧ i < n ∧ (v = 1 ∨ v = 2) := by simpa [heardOk] using hk
    have hl := ht.le
    refine ⟨rfl, ?_, ⟨rfl, rfl, rfl, by simp [World.setCell], fun k _ hne => Below.heap_setCell w _ _ k (fun e => hne (by rw [e]))⟩⟩
    simp only [heard, hk]; exact ht.set _ (by omega) _

theorem all_val (b n : Nat) (s : Nat → Int) (v : Int) (w : World) (r : Bool) (ht : IsTab w b n s) (hr : allV n s v = r) :
    Calls Try.prog 8 #[.pointer (some ⟨b, 0, none⟩), .int .i64 v] w fun e w' => e = .returned (.bool r) ∧ IsTab w' b n s ∧ Below (w.heap.size) w w' := by
  subst hr
  refine (all_any b n s v w ht).mono fun e w' h => ?_
  obtain ⟨rfl, k, rfl⟩ := h
  exact ⟨rfl, ht.drewN k, below_drewN (Below.refl _ _) k⟩

theorem of_val (b n : Nat) (s : Nat → Int) (r : Int) (w : World) (x : Int) (ht : IsTab w b n s) (hx : ofV n s r = x) :
    Calls Try.prog 9 #[.pointer (some ⟨b, 0, none⟩), .int .i64 r] w fun e w' => e = .returned (.int .i64 x) ∧ w = w' := by
  subst hx; exact of_any b n s r w ht
theorem for_val (b n : Nat) (s : Nat → Int) (r : Int) (w : World) (x : Int) (ht : IsTab w b n s) (hx : max (ofV n s r) 1 = x) :
    Calls Try.prog 13 #[.pointer (some ⟨b, 0, none⟩), .int .i64 r] w fun e w' => e = .returned (.int .i64 x) ∧ w = w' := by
  subst hx; exact for_any b n s r w ht

theorem new_val (n : Int) (w : World) (c : Nat) (hc : min (max n 0) 7 = (c : Int)) :
    Calls Try.prog 6 #[.int .i64 n] w fun e w' => e = .returned (.pointer (some ⟨w.heap.size, 0, none⟩)) ∧ IsTab w' w.heap.size c (fun _ => 0) ∧ Below w.heap.size w w' ∧ w'.heap.size = w.heap.size + 1 := by
  refine (new_any n w).mono fun e w' h => ?_
  obtain ⟨rfl, rfl⟩ := h
  rw [hc]
  exact ⟨rfl, isTab_new w c (by omega), (Below.refl _ _).alloc (Nat.le_refl _) _, by simp⟩

theorem grow_below {B b : Nat} {a w w' : World} (h : Below B a w) (hg : w.grownBy w' (some b)) (hb : B ≤ b) (hB : B ≤ a.heap.size) : Below B a w' :=
  h.grown hg (Nat.le_trans hB h.size) fun k e => by injection e with e; omega

set_option maxHeartbeats 1000000 in
theorem awake_any (w : World) : Calls Try.prog 10 #[] w fun e w' => e = .returned (.bool true) ∧ Below w.heap.size w w' := by
  go_enter Try.func10, Try.ntmps10
  go_wp2_with fail
  refine (new_val 3 w 3 (by decide)).mono ?_
  rintro e w1 ⟨rfl, t1, b1, z1⟩
  go_wp2_with fail
  refine (hear_rel _ 3 _ 0 2 w1 true t1 (by decide)).mono ?_
  rintro e w2 ⟨rfl, t2, g2⟩
  have b2 := grow_below b1 g2 (Nat.le_refl _) (Nat.le_refl _)
  go_wp2_with fail
  refine (hear_rel _ 3 _ 2 2 w2 true t2 (by decide)).mono ?_
  rintro e w3 ⟨rfl, t3, g3⟩
  have b3 := grow_below b2 g3 (Nat.le_refl _) (Nat.le_refl _)
  go_wp2_with fail
  refine (all_val _ 3 _ 2 w3 false t3 (by decide)).mono ?_
  rintro e w4 ⟨rfl, t4, g4⟩
  have b4 := b3.trans (g4.mono b3.size)
  go_wp2_with fail
  refine (hear_rel _ 3 _ 1 2 w4 true t4 (by decide)).mono ?_
  rintro e w5 ⟨rfl, t5, g5⟩
  have b5 := grow_below b4 g5 (Nat.le_refl _) (Nat.le_refl _)
  go_wp2_with fail
  refine (all_val _ 3 _ 2 w5 true t5 (by decide)).mono ?_
  rintro e w6 ⟨rfl, t6, g6⟩
  have b6 := b5.trans (g6.mono b5.size)
  go_wp2_with fail
  refine (for_val _ 3 _ 1 w6 2 t6 (by decide)).mono ?_
  rintro e w7 ⟨rfl, rfl⟩
  go_wp2_with fail
  go_ret
  exact ⟨rfl, b6⟩
end Go.Proofs.Ytbgnclkpjajpmaa.P
