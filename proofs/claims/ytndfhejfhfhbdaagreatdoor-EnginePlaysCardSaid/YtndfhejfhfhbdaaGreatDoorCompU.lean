/- The contract of the reference's Reach. -/
import Derived.Test.YtndfhejfhfhbdaaGreatDoorMrg19
import Derived.Test.YtndfhejfhfhbdaaGreatDoorMrg22
namespace Go.Proofs.YtndfhejfhfhbdaaGreatDoor.K
open Go.RowKit M T
set_option linter.unusedVariables false
set_option linter.unusedSimpArgs false

theorem tabB_congr (n : Nat) (f g : Nat → Bool) (h : ∀ v, v < n → f v = g v) : tabB n f = tabB n g := by
  unfold tabB
  congr 1
  exact List.map_congr_left fun v hv => by rw [h v (List.mem_range.1 hv)]
def rhd (n g : Nat) : Value := .slice (some ⟨g, 0, none⟩) n n
/-- rows of truths in memory -/
structure RM (B : Nat) (W0 w : World) (n : Nat) (ao : Option Addr) (cap : Nat) (G : List Nat) (r : Nat → Nat → Bool) : Prop where
  bel : Below B W0 w
  hB : B ≤ w.heap.size
  top : w.ownsRow B 22 1 (.slice ao G.length cap) G.length (G.map (rhd n))
  row : ∀ (i g : Nat), G[i]? = some g → B ≤ g ∧ w.heap[g]? = some (.cells (tabB n (r i)) 4 (0, 0))
  nd : G.Nodup
section
variable {B n cap : Nat} {W0 w w2 : World} {ao : Option Addr} {G : List Nat} {r : Nat → Nat → Bool}
theorem RM.topne (h : RM B W0 w n ao cap G r) : ∀ a, ao = some a → (∃ cur, w.heap[a.block]? = some (.cells cur 22 (0, 0)) ∧ B ≤ a.block) ∧ a.block ∉ G := fun a ha => by
  obtain ⟨cur, hc, hb⟩ := own_heap h.top a ha
  refine ⟨⟨cur, hc, hb⟩, fun hm => ?_⟩
  obtain ⟨i, hi⟩ := List.mem_iff_getElem?.1 hm
  have := (h.row i _ hi).2
  rw [hc] at this
  simp at this
theorem RM.capLe (h : RM B W0 w n ao cap G r) : G.length ≤ cap ∧ cap ≤ maxLen := by
  obtain ⟨_, _, e, h1, h2, _⟩ := own_view h.top
  cases e
  exact ⟨h1, h2⟩
theorem RM.keep {S : Nat → Prop} (h : RM B W0 w n ao cap G r) (hm : Mods S w w2) (hS : ∀ k, S k → B ≤ k) (h1 : ∀ a, ao = some a → ¬ S a.block) (h2 : ∀ g ∈ G, ¬ S g) : RM B W0 w2 n ao cap G r :=
  ⟨h.bel.trans (hm.below hS h.hB), Nat.le_trans h.hB hm.size, own_kept h.top hm (fun k hk => by
      cases ao with
      | none => cases hk
      | some a => obtain rfl := Option.some.inj hk; exact h1 a rfl), fun i g hg => ⟨(h.row i g hg).1, hm.heap (h.row i g hg).2 (h2 g (List.mem_of_getElem? hg))⟩, h.nd⟩
theorem RM.below (h : RM B W0 w n ao cap G r) (hb : Below w.heap.size w w2) : RM B W0 w2 n ao cap G r :=
  h.keep (Mods.of_below (S := fun _ => False) hb) (fun _ h => h.elim) (fun _ _ h => h) (fun _ _ h => h)
theorem RM.cells (h : RM B W0 w n ao cap G r) {i : Nat} (hi : i < G.length) : ∃ gt gi, ao = some ⟨gt, 0, none⟩ ∧ G[i]? = some gi ∧ w.cell? ⟨gt, i, none⟩ = some (.slice (some ⟨gi, 0, none⟩) n n) ∧
    ∀ j, j < n → w.cell? ⟨gi, j, none⟩ = some (.bool (r i j)) ∧ w.frozen? ⟨gi, j, none⟩ = false := by
  obtain ⟨gi, hg⟩ : ∃ gi, G[i]? = some gi := ⟨_, List.getElem?_eq_getElem hi⟩
  obtain ⟨gt, e, _, _, _, hc⟩ := rowcell h.top (by omega)
  refine ⟨gt, gi, e, hg, ?_, fun j hj => rowB_cell (h.row i gi hg).2 j hj⟩
  have := (hc i (rhd n gi) (by rw [List.getElem?_map, hg]; rfl)).1
  exact this
theorem RM.set (h : RM B W0 w n ao cap G r) {i gi : Nat} (hi : G[i]? = some gi) (j : Nat) (b : Bool) : RM B W0 (w.setCell ⟨gi, j, none⟩ (.bool b)) n ao cap G (upd r i (upd (r i) j b)) := by
  have hm : Mods (fun k => k = gi) w (w.setCell ⟨gi, j, none⟩ (.bool b)) := (Mods.refl (fun k => k = gi) w).setCell (p := ⟨gi, j, none⟩) (fun _ => rfl) _
  have hlo := (h.row i gi hi).1
  refine ⟨h.bel.trans (hm.below (fun k hk => by rw [show k = gi from hk]; exact hlo) h.hB), Nat.le_trans h.hB hm.size, own_kept h.top hm (fun k hk => by
    cases ao with
    | none => cases hk
    | some a =>
      obtain rfl := Option.some.inj hk
      intro e
      exact (h.topne a rfl).2 (by rw [show a.block = gi from e]; exact List.mem_of_getElem? hi)), fun i' g hg => ⟨(h.row i' g hg).1, ?_⟩, h.nd⟩
  by_cases e : i' = i
  · subst e
    obtain rfl : gi = g := Option.some.inj (hi.symm.trans hg)
    have := heap_set w gi j (.bool b) gi _ _ _ (h.row i' gi hi).2
    rw [if_pos rfl, tabB_set] at this
    rw [this, upd_same]
  · rw [upd_other _ _ e]
    refine hm.heap (h.row i' g hg).2 fun e2 => e ?_
    have e2 : g = gi := e2
    subst e2
    exact (idx_of h.nd hg).symm.trans (idx_of h.nd hi)
theorem RM.more (h : RM B W0 w n ao cap G r) {g gg cg : Nat} {bx : Obj} (hg : w.heap[g]? = some (.cells (tabB n (r G.length)) 4 (0, 0))) (hlo : B ≤ g) (hni : g ∉ G)
    (ho : w2.ownsRow B 22 1 (.slice (some ⟨gg, 0, none⟩) (G.length + 1) cg) (G.length + 1) (G.map (rhd n) ++ [rhd n g]))
    (hgr : (w.alloc bx).grownBy w2 (Value.slice ao G.length cap).ownBlock) : RM B W0 w2 n (some ⟨gg, 0, none⟩) cg (G ++ [g]) r := by
  have hM : Mods (fun k => ∃ a, ao = some a ∧ k = a.block) w w2 := ((Mods.refl _ w).alloc bx).grown hgr (fun k hk _ => by
    cases ao with
    | none => cases hk
    | some a => exact ⟨a, rfl, (Option.some.inj hk).symm⟩)
  have hno : ∀ (k : Nat) (t : Array Value), w.heap[k]? = some (.cells t 4 (0, 0)) → ¬ ∃ a, ao = some a ∧ k = a.block := by
    rintro k t hk ⟨a, ha, rfl⟩
    obtain ⟨⟨cur, hc, _⟩, _⟩ := h.topne a ha
    rw [hk] at hc
    simp at hc
  refine ⟨h.bel.trans (hM.below (fun k ⟨a, ha, e⟩ => by obtain ⟨⟨_, _, hb⟩, _⟩ := h.topne a ha; omega) h.hB), Nat.le_trans h.hB hM.size, ?_, fun i g' hi => ?_, ?_⟩
  · rw [List.length_append, List.map_append]
    exact ho
  · rcases Nat.lt_or_ge i G.length with h1 | h1
    · rw [List.getElem?_append_left h1] at hi
      exact ⟨(h.row i g' hi).1, hM.heap (h.row i g' hi).2 (hno _ _ (h.row i g' hi).2)⟩
    · rw [List.getElem?_append_right h1] at hi
      have hi0 : i - G.length = 0 := by have := (List.getElem?_eq_some_iff.1 hi).1; simp at this; omega
      have hie : i = G.length := by omega
      rw [hi0] at hi
      obtain rfl : g = g' := by simpa using hi
      subst hie
      exact ⟨hlo, hM.heap hg (hno _ _ hg)⟩
  · rw [List.nodup_append]
    exact ⟨h.nd, one_nodup g, fun a ha b hb e => hni (by rw [← List.mem_singleton.1 hb, ← e]; exact ha)⟩
end
/-- a row as it is laid: the node itself, and where its first k edges go -/
def fk (E : Nat → List Int) (i k : Nat) (v : Nat) : Bool := decide (v = i) || decide ((v : Int) ∈ (E i).take k)
def r0 (E : Nat → List Int) (i v : Nat) : Bool := fk E i (E i).length v
theorem fk_step {E : Nat → List Int} {n i k : Nat} {x : Nat} (hx : (E i)[k]? = some (x : Int)) : upd (fk E i k) x true = fk E i (k + 1) := by
  funext v
  unfold upd fk
  rw [List.take_add_one, hx]
  by_cases e : v = x
  · subst e; simp
  · have : ¬ (v : Int) = x := by omega
    simp [e, this]
theorem fk_skip {E : Nat → List Int} {n i k : Nat} {x : Int} (hx : (E i)[k]? = some x) (ho : x < 0 ∨ (n : Int) ≤ x) : tabB n (fk E i k) = tabB n (fk E i (k + 1)) := by
  refine tabB_congr n _ _ fun v hv => ?_
  unfold fk
  rw [List.take_add_one, hx]
  have : ¬ (v : Int) = x := by omega
  simp [this]
/-- what is known of the table, while it is closed -/
structure Wa (E : Nat → List Int) (n k i j : Nat) (r : Nat → Nat → Bool) : Prop where
  snd : ∀ a b, a < n → b < n → r a b = true → Path E n a b
  full : ∀ a b, a < n → b < n → Rk E n k a b → r a b = true
  rows : ∀ a b, a < i → a < n → b < n → Rk E n (k + 1) a b → r a b = true
  cells : ∀ b, b < j → b < n → Rk E n (k + 1) i b → r i b = true
section
variable {E : Nat → List Int} {n k i j : Nat} {r : Nat → Nat → Bool}
theorem Wa.start : Wa E n 0 0 0 (r0 E) := by
  refine ⟨fun a b ha hb h => ?_, fun a b ha hb h => ?_, fun a b h => absurd h (by omega), fun b h => absurd h (by omega)⟩
  · unfold r0 fk at h
    rw [List.take_of_length_le (Nat.le_refl _), Bool.or_eq_true, decide_eq_true_eq, decide_eq_true_eq] at h
    rcases h with h | h
    · subst h; exact .refl _
    · exact .one ⟨ha, hb, h⟩
  · unfold r0 fk
    rw [List.take_of_length_le (Nat.le_refl _), Bool.or_eq_true, decide_eq_true_eq, decide_eq_true_eq]
    rcases h with h | h
    · exact .inl h.symm
    · exact .inr h.2.2
theorem Wa.phase (h : Wa E n k n 0 r) : Wa E n (k + 1) 0 0 r := ⟨h.snd, fun a b ha hb hk => h.rows a b ha ha hb hk, fun a b h => absurd h (by omega), fun b h => absurd h (by omega)⟩
theorem Wa.row (h : Wa E n k i j r) (hin : i < n) (hkn : k < n) (he : j = n ∨ r i k = false) : Wa E n k (i + 1) 0 r := by
  refine ⟨h.snd, h.full, fun a b ha hn hb hk => ?_, fun b h => absurd h (by omega)⟩
  by_cases e : a = i
  · subst e
    rcases he with e | e
    · subst e; exact h.cells b hb hb hk
    · rcases hk with hk | hk
      · exact h.full a b hin hb hk
      · have := h.full a k hin hkn hk.1
        rw [this] at e; cases e
  · exact h.rows a b (by omega) hn hb hk
theorem Wa.cell (h : Wa E n k i j r) (hin : i < n) (hkn : k < n) (hj : j < n) (he : r i k = true) : Wa E n k i (j + 1) (upd r i (upd (r i) j (r i j || r k j))) := by
  have hge : ∀ a b, r a b = true → upd r i (upd (r i) j (r i j || r k j)) a b = true := by
    intro a b hab
    by_cases e : a = i
    · subst e
      rw [upd_same]
      by_cases e2 : b = j
      · subst e2; rw [upd_same, hab]; rfl
      · rw [upd_other _ _ e2]; exact hab
    · rw [upd_other _ _ e]; exact hab
  refine ⟨fun a b ha hb hab => ?_, fun a b ha hb hk => hge a b (h.full a b ha hb hk), fun a b hi ha hb hk => hge a b (h.rows a b hi ha hb hk), fun b hb hbn hk => ?_⟩
  · by_cases e : a = i
    · subst e
      rw [upd_same] at hab
      by_cases e2 : b = j
      · subst e2
        rw [upd_same, Bool.or_eq_true] at hab
        rcases hab with h1 | h1
        · exact h.snd a b ha hb h1
        · exact (h.snd a k ha hkn he).trans (h.snd k b hkn hb h1)
      · rw [upd_other _ _ e2] at hab
        exact h.snd a b ha hb hab
    · rw [upd_other _ _ e] at hab
      exact h.snd a b ha hb hab
  · by_cases e : b = j
    · subst e
      rw [upd_same, upd_same, Bool.or_eq_true]
      rcases hk with h1 | h1
      · exact .inl (h.full i b hin hj h1)
      · exact .inr (h.full k b hkn hj h1.2)
    · exact hge i b (h.cells b (by omega) hbn hk)
theorem Wa.done (h : Wa E n n 0 0 r) : ∀ a b, a < n → b < n → (r a b = true ↔ Path E n a b) := fun a b ha hb => ⟨h.snd a b ha hb, fun hp => h.full a b ha hb (Rk.of hp)⟩
end
structure RI (B : Nat) (W0 w : World) (n : Nat) (ao : Option Addr) (cap : Nat) (G : List Nat) (r : Nat → Nat → Bool) (g : Nat) (f : Nat → Bool) : Prop where
  rm : RM B W0 w n ao cap G r
  row : w.heap[g]? = some (.cells (tabB n f) 4 (0, 0))
  lo : B ≤ g
  ni : g ∉ G
theorem RI.set {B n cap g : Nat} {W0 w : World} {ao : Option Addr} {G : List Nat} {r : Nat → Nat → Bool} {f : Nat → Bool} (h : RI B W0 w n ao cap G r g f) (x : Nat) : RI B W0 (w.setCell ⟨g, x, none⟩ (.bool true)) n ao cap G r g (upd f x true) := by
  have hm : Mods (fun k => k = g) w (w.setCell ⟨g, x, none⟩ (.bool true)) := (Mods.refl (fun k => k = g) w).setCell (p := ⟨g, x, none⟩) (fun _ => rfl) _
  refine ⟨h.rm.keep hm (fun k hk => by rw [show k = g from hk]; exact h.lo) (fun a ha e => ?_) (fun g' hg' e => h.ni (by rw [← show g' = g from e]; exact hg')), ?_, h.lo, h.ni⟩
  · obtain ⟨⟨cur, hc, _⟩, _⟩ := h.rm.topne a ha
    rw [show a.block = g from e, h.row] at hc
    simp at hc
  · have := heap_set w g x (.bool true) g _ _ _ h.row
    rw [if_pos rfl, tabB_set] at this
    exact this
theorem info_bools : (Tryz.prog.info? 22).map (fun i => (i.zero, i.size, i.bytes)) = some (some (.slice none 0 0), 1, 24) := by kernel_rfl
set_option maxRecDepth 100000 in
set_option maxHeartbeats 4000000 in
theorem reach_any (E : Nat → List Int) (n : Nat) (eo : Option Addr) (ec : Nat) (w : World) (hEd : EdAt w.heap.size w eo n ec E) (hn : n ≤ 10000) :
    Calls Tryz.prog 84 #[.slice eo n ec] w fun e w' => ∃ ao cap G r, e = .returned (.slice ao n cap) ∧ (G.length = n ∧ RM w.heap.size w w' n ao cap G r ∧ ∀ a b, a < n → b < n → (r a b = true ↔ Path E n a b)) := by
  have HED := Lib.hid hEd
  obtain ⟨i0, hii, hz0, hz1, hz2⟩ := info_parts info_bools
  have hec := hEd.le.2
  have hmk := make_bools n hn
  clear hEd
  go_enter Tryz.func84, Tryz.ntmps84
  go_wp2_with fail
  have HZ := Lib.hid (show RM w.heap.size w w n none 0 [] (r0 E) from ⟨Below.refl _ _, Nat.le_refl _, World.ownsRow_nil _ _ _ _, fun i g h => by simp at h, List.nodup_nil⟩)
  go_loopw [4, 5] (fun ov iv wr => ∃ (ao : Option Addr) (cap : Nat) (G : List Nat), ov = .slice ao G.length cap ∧ iv = .int .i64 G.length ∧ G.length ≤ n ∧ RM w.heap.size w wr n ao cap G (r0 E)) (fun _ iv _ => n - (intOf iv).toNat)
  case atStart => exact ⟨none, 0, [], rfl, rfl, Nat.zero_le _, HZ.out⟩
  case round =>
    clear HZ
    obtain ⟨ao, cap, G, rfl, rfl, hG, hrm⟩ := hrel
    by_cases hlt : G.length < n
    · have hed := HED.out.below hrm.bel
      obtain ⟨ge, off, ro, rc, rfl, hge, ce, hel, hem, hex⟩ := hed.row G.length hlt
      have hgi : (G.length : Int) < (n : Int) := by omega
      have hem' : (E G.length).length ≤ 9223372036854775807 := by unfold maxLen at hem; omega
      have HRM := Lib.hid hrm
      have HEX := Lib.hid hex
      have HCE := Lib.hid ce
      clear hed hex hrm ce
      go_upto_region 7 with fail
      obtain ⟨w1, hw1⟩ : ∃ w1, w1 = wr.alloc (.cells (tabB n fun _ => false) 4) := ⟨_, rfl⟩
      obtain ⟨g, hg⟩ : ∃ g, g = wr.heap.size := ⟨_, rfl⟩
      rw [← hw1, ← hg]
      have hri : RI w.heap.size w w1 n ao cap G (r0 E) g (fun _ => false) := by
        have hb : Below wr.heap.size wr w1 := by rw [hw1]; exact (Below.refl _ _).alloc (Nat.le_refl _) _
        refine ⟨HRM.out.below hb, by rw [hw1, hg]; exact heap_alloc_new wr _, by rw [hg]; exact HRM.out.hB, fun hm => ?_⟩
        obtain ⟨i, hi⟩ := List.mem_iff_getElem?.1 hm
        have := heap_lt (HRM.out.row i g hi).2
        omega
      obtain ⟨c0, f0⟩ := rowB_cell hri.row G.length hlt
      have HRI := Lib.hid hri
      clear hri hw1 hg HRM
      go_wp2_with fail
      have HRI1 : Hid (RI w.heap.size w (w1.setCell ⟨g, G.length, none⟩ (.bool true)) n ao cap G (r0 E) g (fk E G.length 0)) := Lib.hid (by
        have := HRI.out.set G.length
        have e : upd (fun _ => false) G.length true = fk E G.length 0 := by
          funext v
          unfold upd fk
          by_cases e : v = G.length <;> simp [e]
        rwa [e] at this)
      clear HRI c0 f0
      go_loopw [7] (fun jv wr2 => ∃ k : Nat, jv = .int .i64 k ∧ k ≤ (E G.length).length ∧ RI w.heap.size w wr2 n ao cap G (r0 E) g (fk E G.length k)) (fun jv _ => (E G.length).length - (intOf jv).toNat)
      case atStart => exact ⟨0, rfl, Nat.zero_le _, HRI1.out⟩
      case round =>
        obtain ⟨k, rfl, hk, hri⟩ := hrel
        have hed := HED.out.below hri.rm.bel
        obtain ⟨ge', off', ro', rc', e9, _, ce, _, _, hex⟩ := hed.row G.length hlt
        cases e9
        have HRI := Lib.hid hri
        have HEX2 := Lib.hid hex
        clear hed hex
        by_cases hkl : k < (E G.length).length
        · obtain ⟨x, hx⟩ : ∃ x, (E G.length)[k]? = some x := ⟨_, List.getElem?_eq_getElem hkl⟩
          obtain ⟨pb, po, rfl, hpB, cx⟩ := HEX2.out k x hx
          have hki : (k : Int) < ((E G.length).length : Int) := by omega
          have HX := Lib.hid hx
          clear hx hri
          by_cases hx0 : x < 0
          · have hx0' : ¬ (0 ≤ x) := by omega
            go_wp2_with fail
            go_roundw
            case rel => exact ⟨k + 1, by go_num, by omega, ⟨HRI.out.rm, by rw [← fk_skip HX.out (.inl hx0)]; exact HRI.out.row, HRI.out.lo, HRI.out.ni⟩⟩
            case measure => simp [intOf]; omega
          · by_cases hxn : (n : Int) ≤ x
            · have hx0' : 0 ≤ x := by omega
              have hxn' : ¬ x < (n : Int) := by omega
              go_wp2_with fail
              go_roundw
              case rel => exact ⟨k + 1, by go_num, by omega, ⟨HRI.out.rm, by rw [← fk_skip HX.out (.inr hxn)]; exact HRI.out.row, HRI.out.lo, HRI.out.ni⟩⟩
              case measure => simp [intOf]; omega
            · obtain ⟨xn, rfl⟩ : ∃ xn : Nat, x = xn := ⟨x.toNat, by omega⟩
              have hxl : xn < n := by omega
              have hxi : (xn : Int) < (n : Int) := by omega
              have hx0' : 0 ≤ (xn : Int) := by omega
              obtain ⟨c1, f1⟩ := rowB_cell HRI.out.row xn hxl
              go_wp2_with fail
              go_roundw
              case rel => exact ⟨k + 1, by go_num, by omega, by rw [← fk_step (n := n) HX.out]; exact HRI.out.set xn⟩
              case measure => simp [intOf]; omega
        · have hki : ¬ (k : Int) < ((E G.length).length : Int) := by omega
          have hkE : k = (E G.length).length := by omega
          have HKE := Lib.hid hkE
          have htop := hri.rm.top
          have HTOP := Lib.hid htop
          have hB := hri.rm.hB
          clear hkE htop hri HRI1
          go_wp2_with (refine wpList_append_lies _ (by rfl) (.tmp 60) (.tmp 62) 110 (by rfl) w.heap.size 22 i0 _ 1 24 Tryz.underlying110 hii hz0 hz1 hz2 rfl (by decide) (.slice ao G.length cap) G.length (G.map (rhd n)) (by rfl) (by exact HTOP.out.alloc _) ⟨wr.heap.size, 0, none⟩ 1 1 [.slice (some ⟨g, 0, none⟩) n n] (by rfl) (by rfl) (World.news_of_block (cs := #[.slice (some ⟨g, 0, none⟩) n n]) (t := 22) (fr := (0, 0)) (heap_alloc_new wr _)) (by simp [Value.oneCell']) (by omega) (by unfold maxLen; omega) (by omega) (by simp; omega) (wr.heap.size + 1) (by simp) ?_; intro gg cg w7 hown hgrow hat hlt7; have HG7 := Lib.hid (And.intro hown (And.intro hgrow hat)); clear hown hgrow hat)
          go_roundw
          case rel =>
            refine ⟨some ⟨gg, 0, none⟩, cg, G ++ [g], by rw [List.length_append]; rfl, by rw [List.length_append]; go_num, by rw [List.length_append]; simp; omega, ?_⟩
            refine HRI.out.rm.more (by rw [HRI.out.row, HKE.out]; rfl) HRI.out.lo HRI.out.ni HG7.out.1 HG7.out.2.1
          case measure => simp [intOf]; omega
    · have hge : G.length = n := by omega
      subst hge
      have hgi : ¬ (G.length : Int) < (G.length : Int) := by omega
      have HRM := Lib.hid hrm
      have HWS := Lib.hid (Wa.start (E := E) (n := G.length))
      clear hrm
      go_wp2_with fail
      go_loopw [8] (fun kv wr3 => ∃ (k : Nat) (r : Nat → Nat → Bool), kv = .int .i64 k ∧ k ≤ G.length ∧ RM w.heap.size w wr3 G.length ao cap G r ∧ Wa E G.length k 0 0 r) (fun kv _ => G.length - (intOf kv).toNat)
      case atStart => exact ⟨0, r0 E, rfl, Nat.zero_le _, HRM.out, HWS.out⟩
      case round =>
        clear HRM HWS
        obtain ⟨k, r, rfl, hk, hrm, hwa⟩ := hrel
        have HRM := Lib.hid hrm
        have HWA := Lib.hid hwa
        clear hrm hwa
        by_cases hkn : k < G.length
        · have hki : (k : Int) < (G.length : Int) := by omega
          go_wp2_with fail
          go_loopw [9] (fun iv wr4 => ∃ (i : Nat) (r : Nat → Nat → Bool), iv = .int .i64 i ∧ i ≤ G.length ∧ RM w.heap.size w wr4 G.length ao cap G r ∧ Wa E G.length k i 0 r) (fun iv _ => G.length - (intOf iv).toNat)
          case atStart => exact ⟨0, r, rfl, Nat.zero_le _, HRM.out, HWA.out⟩
          case round =>
            clear HRM HWA
            obtain ⟨i, r, rfl, hi, hrm, hwa⟩ := hrel
            have HRM := Lib.hid hrm
            have HWA := Lib.hid hwa
            clear hrm hwa
            by_cases hin : i < G.length
            · have hii2 : (i : Int) < (G.length : Int) := by omega
              go_wp2_with fail
              go_loopw [10] (fun jv wr5 => ∃ (j : Nat) (r : Nat → Nat → Bool), jv = .int .i64 j ∧ j ≤ G.length ∧ RM w.heap.size w wr5 G.length ao cap G r ∧ Wa E G.length k i j r) (fun jv _ => G.length - (intOf jv).toNat)
              case atStart => exact ⟨0, r, rfl, Nat.zero_le _, HRM.out, HWA.out⟩
              case round =>
                clear HRM HWA
                obtain ⟨j, r, rfl, hj, hrm, hwa⟩ := hrel
                have HRM := Lib.hid hrm
                have HWA := Lib.hid hwa
                by_cases hjn : j < G.length
                · have hji : (j : Int) < (G.length : Int) := by omega
                  obtain ⟨gt, gi, rfl, hgi, ci, hri⟩ := hrm.cells hin
                  obtain ⟨gt', gk, e9, hgk, ck, hrk⟩ := hrm.cells hkn
                  cases e9
                  obtain ⟨x1, _⟩ := hri k hkn
                  obtain ⟨x2, f2⟩ := hri j hjn
                  obtain ⟨x3, _⟩ := hrk j hjn
                  obtain ⟨hcl1, hcl2⟩ := hrm.capLe
                  have HGI := Lib.hid hgi
                  clear hgi hgk hri hrk hrm hwa
                  cases hb1 : r i k with
                  | false =>
                    rw [hb1] at x1
                    have HR := Lib.hid (HWA.out.row hin hkn (.inr hb1))
                    clear hb1
                    go_wp2_with fail
                    go_roundw
                    case rel => exact ⟨i + 1, r, by go_num, by omega, HRM.out, HR.out⟩
                    case measure => simp [intOf]; omega
                  | true =>
                    rw [hb1] at x1
                    have HC := Lib.hid (HWA.out.cell hin hkn hjn hb1)
                    have HSET := Lib.hid (fun b => HRM.out.set HGI.out j b)
                    clear hb1
                    cases hb2 : r i j with
                    | true =>
                      rw [hb2] at x2 HC
                      rw [Bool.true_or] at HC
                      clear hb2
                      go_wp2_with fail
                      go_region
                      all_goals go_wp2_with fail
                      all_goals go_roundw
                      case rel => exact ⟨j + 1, _, by go_num, by omega, (HSET.out true).below ((Below.refl _ _).drew), HC.out⟩
                      case measure => simp [intOf]; omega
                    | false =>
                      rw [hb2] at x2 HC
                      rw [Bool.false_or] at HC
                      obtain ⟨b3, hb3⟩ : ∃ b3, b3 = r k j := ⟨_, rfl⟩
                      rw [← hb3] at x3 HC
                      clear hb2 hb3
                      go_wp2_with fail
                      go_region
                      all_goals go_wp2_with fail
                      all_goals go_roundw
                      case rel => exact ⟨j + 1, _, by go_num, by omega, (HSET.out b3).below ((Below.refl _ _).drew), HC.out⟩
                      case measure => simp [intOf]; omega
                · have hji : ¬ (j : Int) < (G.length : Int) := by omega
                  have HR := Lib.hid (hwa.row hin hkn (.inl (by omega)))
                  clear hrm hwa
                  go_wp2_with fail
                  go_roundw
                  case rel => exact ⟨i + 1, r, by go_num, by omega, HRM.out, HR.out⟩
                  case measure => simp [intOf]; omega
            · have hii2 : ¬ (i : Int) < (G.length : Int) := by omega
              obtain rfl : i = G.length := by omega
              have HR := Lib.hid HWA.out.phase
              go_wp2_with fail
              go_roundw
              case rel => exact ⟨k + 1, r, by go_num, by omega, HRM.out, HR.out⟩
              case measure => simp [intOf]; omega
        · have hki : ¬ (k : Int) < (G.length : Int) := by omega
          obtain rfl : k = G.length := by omega
          have HR := Lib.hid HWA.out.done
          go_wp2_with fail
          go_ret
          refine ⟨ao, cap, rfl, G, rfl, r, HRM.out, HR.out⟩
end Go.Proofs.YtndfhejfhfhbdaaGreatDoor.K
