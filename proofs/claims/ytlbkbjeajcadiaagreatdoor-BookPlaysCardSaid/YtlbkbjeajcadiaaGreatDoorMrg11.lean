/- Several texts in one. -/
import Derived.Test.YtlbkbjeajcadiaaGreatDoorOrdD
import Derived.Deep.LoopGhost
import Derived.Test.YtlbkbjeajcadiaaGreatDoorTar
import Derived.Test.YtlbkbjeajcadiaaGreatDoorMem
import Derived.Deep.AppendLies
import Derived.Deep.RegionLaw
import Derived.Deep.RegionHeld3
import Derived.Deep.DeepCutAuto
import Derived.StillTailTactics
import Derived.BigCall
import Derived.BigGuard
import Derived.Test.YtlbkbjeajcadiaaGreatDoorMrg4
import Derived.Sort.OwnSortedInts

/- ids.Has: what is found by halves. -/
namespace Go.Proofs.YtlbkbjeajcadiaaGreatDoor.O
open Go.RowKit Go.Proofs.YtlbkbjeajcadiaaGreatDoor.M Go.BigFrame
set_option linter.unusedVariables false
set_option linter.unusedSimpArgs false

theorem setOk_pw {l : List Id} (h : setOk l = true) : l.Pairwise (fun a b => ilt a b = true) := by
  unfold setOk at h
  rw [Bool.and_eq_true, List.all_eq_true] at h
  have hs : ∀ (j : Nat) (x y : Id), l[j]? = some y → l[j + 1]? = some x → ilt y x = true := fun j x y hy hx => by
    have := h.1 (j + 1) (List.mem_range.2 (List.getElem?_eq_some_iff.1 hx).1)
    rw [stepB_succ hx hy, Bool.and_eq_true] at this
    exact this.2
  have key : ∀ (d i : Nat) (x y : Id), l[i]? = some x → l[i + d + 1]? = some y → ilt x y = true := by
    intro d
    induction d with
    | zero => intro i x y hx hy; exact hs i y x hx hy
    | succ d ih =>
      intro i x y hx hy
      obtain ⟨z, hz⟩ : ∃ z, l[i + d + 1]? = some z := ⟨_, List.getElem?_eq_getElem (by have := (List.getElem?_eq_some_iff.1 hy).1; omega)⟩
      exact ilt_trans (ih i x z hx hz) (hs (i + d + 1) y z hz hy)
  rw [List.pairwise_iff_getElem]
  intro i j hi hj hij
  have := key (j - i - 1) i l[i] l[j] (List.getElem?_eq_getElem hi) (by rw [show i + (j - i - 1) + 1 = j by omega]; exact List.getElem?_eq_getElem hj)
  exact this
theorem setOk_len {l : List Id} (h : setOk l = true) : l.length ≤ 4096 := by
  unfold setOk at h
  rw [Bool.and_eq_true, decide_eq_true_eq] at h
  exact h.2
theorem pw_get {l : List Id} (h : l.Pairwise (fun a b => ilt a b = true)) {i j : Nat} {x y : Id} (hx : l[i]? = some x) (hy : l[j]? = some y) (hij : i < j) : ilt x y = true := by
  obtain ⟨h1, rfl⟩ := List.getElem?_eq_some_iff.1 hx
  obtain ⟨h2, rfl⟩ := List.getElem?_eq_some_iff.1 hy
  exact List.pairwise_iff_getElem.1 h i j h1 h2 hij
/-- between the halves -/
structure Half (l : List Id) (i : Id) (lo hi : Nat) : Prop where
  lo : ∀ t x, t < lo → l[t]? = some x → ilt x i = true
  hi : ∀ t x, hi ≤ t → l[t]? = some x → ilt x i = false
theorem Half.up {l : List Id} {i x : Id} {lo hi m : Nat} (h : Half l i lo hi) (hp : l.Pairwise (fun a b => ilt a b = true)) (hx : l[m]? = some x) (hlt : ilt x i = true) : Half l i (m + 1) hi :=
  ⟨fun t y ht hy => by
    by_cases e : t = m
    · subst e; rw [hx] at hy; cases hy; exact hlt
    · exact ilt_trans (pw_get hp hy hx (by omega)) hlt, h.hi⟩
theorem Half.down {l : List Id} {i x : Id} {lo hi m : Nat} (h : Half l i lo hi) (hp : l.Pairwise (fun a b => ilt a b = true)) (hx : l[m]? = some x) (hlt : ilt x i = false) : Half l i lo m :=
  ⟨h.lo, fun t y ht hy => by
    by_cases e : t = m
    · subst e; rw [hx] at hy; cases hy; exact hlt
    · cases e2 : ilt y i with
      | false => rfl
      | true =>
        have := ilt_trans (pw_get hp hx hy (by omega)) e2
        rw [hlt] at this; cases this⟩
theorem Half.here {l : List Id} {i x : Id} {c : Nat} (h : Half l i c c) (hp : l.Pairwise (fun a b => ilt a b = true)) (hx : l[c]? = some x) : i ∈ l ↔ x = i := by
  refine ⟨fun hm => ?_, fun e => e ▸ List.mem_of_getElem? hx⟩
  obtain ⟨t, ht⟩ := List.mem_iff_getElem?.1 hm
  rcases Nat.lt_trichotomy t c with e | e | e
  · have := h.lo t i e ht
    rw [ilt_irr] at this; cases this
  · subst e; rw [hx] at ht; exact Option.some.inj ht
  · have h1 := pw_get hp hx ht e
    rw [h.hi c x (Nat.le_refl _) hx] at h1; cases h1
theorem Half.none {l : List Id} {i : Id} (h : Half l i l.length l.length) : i ∉ l := by
  intro hm
  obtain ⟨t, ht⟩ := List.mem_iff_getElem?.1 hm
  have := h.lo t i (List.getElem?_eq_some_iff.1 ht).1 ht
  rw [ilt_irr] at this; cases this
set_option maxRecDepth 100000 in
set_option maxHeartbeats 4000000 in
theorem bsearch_any (l : List Id) (ao : Option Addr) (cap : Nat) (i : Id) (w : World) (h : IdsV w ao cap l) (hp : l.Pairwise (fun a b => ilt a b = true)) (hl : l.length ≤ 1000000) (v : Bool) (hv : decide (i ∈ l) = v) :
    Calls Tryz.prog 84 #[.slice ao l.length cap, idV i, .func (.func 73) #[] #[]] w fun e w' => (∃ n : Int, e = .returned (.tuple #[.int .i64 n, .bool v])) ∧ Below w.heap.size w w' := by
  obtain ⟨hl1, hl2⟩ := h.le
  unfold maxLen at hl2
  have H := Lib.hid h
  have HP := Lib.hid hp
  have HV := Lib.hid hv
  clear h hv hp
  go_enter Tryz.func84, Tryz.ntmps84
  go_upto_region 1 with fail
  obtain ⟨W, hW⟩ : ∃ W, W = w.alloc (idO i) := ⟨_, rfl⟩
  rw [← hW]
  have HB : Hid (Below w.heap.size w W) := Lib.hid (by rw [hW]; exact (Below.refl _ _).alloc (Nat.le_refl _) _)
  have HX : Hid (W.heap[w.heap.size]? = some (idO i)) := Lib.hid (by rw [hW]; exact heap_alloc_new w _)
  clear hW
  have HL := Lib.hid (H.out.below (B := 0) HB.out)
  have hlt := M.heap_lt HX.out
  clear H
  go_wp2_with fail
  go_loopg [9, 10] l.length (fun kx s9 s10 wr => ∃ lo hi : Nat, s9 = .int .i64 lo ∧ s10 = .int .i64 hi ∧ lo ≤ hi ∧ hi ≤ l.length ∧ hi - lo ≤ kx ∧ Below W.heap.size W wr ∧ Half l i lo hi)
  case atStart => exact ⟨0, l.length, rfl, rfl, Nat.zero_le _, Nat.le_refl _, by omega, Below.refl _ _, ⟨fun t x ht => absurd ht (by omega), fun t x ht hx => absurd (List.getElem?_eq_some_iff.1 hx).1 (by omega)⟩⟩
  case round =>
    obtain ⟨lo, hi, rfl, rfl, hlh, hin, hg, hb, hh⟩ := hrel
    have HBR := Lib.hid hb
    have HH := Lib.hid hh
    clear hb hh
    by_cases hlh2 : lo < hi
    · obtain ⟨x, hx⟩ : ∃ x, l[(lo + hi) / 2]? = some x := ⟨_, List.getElem?_eq_getElem (by omega)⟩
      obtain ⟨k, hk⟩ : ∃ k, ico x i = k := ⟨_, rfl⟩
      have HK := Lib.hid hk
      obtain ⟨b, off, e0, hbl, c0, c1⟩ := HL.out.row ((lo + hi) / 2) x hx
      cases e0
      obtain ⟨⟨d0, d1⟩, _⟩ := box2 HX.out
      have k0 := Kin.cell ((HBR.out.cell (p := ⟨b, _, none⟩) hbl).trans c0)
      have k1 := Kin.cell ((HBR.out.cell (p := ⟨b, _, none⟩) hbl).trans c1)
      have k2 := Kin.cell ((HBR.out.cell (p := ⟨w.heap.size, _, none⟩) hlt).trans d0)
      have k3 := Kin.cell ((HBR.out.cell (p := ⟨w.heap.size, _, none⟩) hlt).trans d1)
      clear c0 c1 d0 d1
      by_cases hk0 : k < 0
      · have HN := Lib.hid (HH.out.up HP.out hx (ico_neg.1 (hk ▸ hk0)))
        clear hx hk
        go_upto_region 5 with fail
        refine wp_region_kin (by kernel_rfl) (by kernel_rfl) ?_
        repeat (go_big_quiet_step ((first | (go_at_call 73; with_reducible exact Kin.grew _ (order_any x i _ k HK.out)))))
        refine wpQuiet_nil ?_
        intro _ hxx
        obtain ⟨xk, rfl⟩ := hxx
        have HBK := Lib.hid (HBR.out.trans (xk.h.mono HBR.out.size))
        clear k0 k1 k2 k3
        go_wp2_with fail
        go_roundg (hi - ((lo + hi) / 2 + 1))
        case measure => omega
        case rel => exact ⟨(lo + hi) / 2 + 1, hi, by rw [show ((lo : Int) + (hi : Int)) / 2 + 1 = (((lo + hi) / 2 + 1 : Nat) : Int) by omega], rfl, by omega, hin, Nat.le_refl _, HBK.out, HN.out⟩
      · have HN := Lib.hid (HH.out.down HP.out hx (by
          cases e : ilt x i with
          | false => rfl
          | true => exact absurd (hk ▸ ico_neg.2 e) hk0))
        clear hx hk
        go_upto_region 5 with fail
        refine wp_region_kin (by kernel_rfl) (by kernel_rfl) ?_
        repeat (go_big_quiet_step ((first | (go_at_call 73; with_reducible exact Kin.grew _ (order_any x i _ k HK.out)))))
        refine wpQuiet_nil ?_
        intro _ hxx
        obtain ⟨xk, rfl⟩ := hxx
        have HBK := Lib.hid (HBR.out.trans (xk.h.mono HBR.out.size))
        clear k0 k1 k2 k3
        go_wp2_with fail
        go_roundg ((lo + hi) / 2 - lo)
        case measure => omega
        case rel => exact ⟨lo, (lo + hi) / 2, rfl, by rw [show ((lo : Int) + (hi : Int)) / 2 = (((lo + hi) / 2 : Nat) : Int) by omega], by omega, by omega, Nat.le_refl _, HBK.out, HN.out⟩
    · obtain rfl : hi = lo := by omega
      by_cases hn : hi < l.length
      · have hii : (hi : Int) < (l.length : Int) := by omega
        obtain ⟨x, hx⟩ : ∃ x, l[hi]? = some x := ⟨_, List.getElem?_eq_getElem hn⟩
        obtain ⟨k, hk⟩ : ∃ k, ico x i = k := ⟨_, rfl⟩
        have HK := Lib.hid hk
        obtain ⟨b, off, e0, hbl, c0, c1⟩ := HL.out.row hi x hx
        cases e0
        obtain ⟨⟨d0, d1⟩, _⟩ := box2 HX.out
        have k0 := Kin.cell ((HBR.out.cell (p := ⟨b, _, none⟩) hbl).trans c0)
        have k1 := Kin.cell ((HBR.out.cell (p := ⟨b, _, none⟩) hbl).trans c1)
        have k2 := Kin.cell ((HBR.out.cell (p := ⟨w.heap.size, _, none⟩) hlt).trans d0)
        have k3 := Kin.cell ((HBR.out.cell (p := ⟨w.heap.size, _, none⟩) hlt).trans d1)
        clear c0 c1 d0 d1
        have HE := Lib.hid (show (k == 0) = v by
          rw [← HV.out, Bool.eq_iff_iff, beq_iff_eq, decide_eq_true_eq, HH.out.here HP.out hx, ← hk, ico_zero])
        obtain ⟨bk, hbk⟩ : ∃ bk, (k == 0) = bk := ⟨_, rfl⟩
        have HBB := Lib.hid (HE.out ▸ hbk : v = bk)
        clear hx hk HE
        go_upto_region 8 with fail
        refine wp_region_kin (by kernel_rfl) (by kernel_rfl) ?_
        repeat (go_big_quiet_step ((first | (go_at_call 73; with_reducible exact Kin.grew _ (order_any x i _ k HK.out)))))
        refine wpQuiet_nil ?_
        intro _ hxx
        obtain ⟨xk, rfl⟩ := hxx
        have HBK := Lib.hid (HBR.out.trans (xk.h.mono HBR.out.size))
        clear k0 k1 k2 k3
        go_wp2_with fail
        go_ret2
        exact ⟨⟨(hi : Int), by rw [HBB.out]; rfl⟩, HB.out.trans (HBK.out.mono HB.out.size)⟩
      · obtain rfl : hi = l.length := by omega
        have hii : decide ((l.length : Int) < (l.length : Int)) = false := decide_eq_false (by omega)
        have HE := Lib.hid (show v = false by rw [← HV.out, decide_eq_false_iff_not]; exact HH.out.none)
        go_upto_region 8 with fail
        refine wp_region_kin (by kernel_rfl) (by kernel_rfl) ?_
        repeat (go_big_quiet_step (fail))
        refine wpQuiet_nil ?_
        intro _ hxx
        obtain ⟨xk, rfl⟩ := hxx
        have HBK := Lib.hid (HBR.out.trans (xk.h.mono HBR.out.size))
        go_wp2_with fail
        go_ret2
        exact ⟨⟨(l.length : Int), by rw [HE.out]; rfl⟩, HB.out.trans (HBK.out.mono HB.out.size)⟩
set_option maxRecDepth 100000 in
set_option maxHeartbeats 4000000 in
theorem has_any (l : List Id) (ao : Option Addr) (cap : Nat) (i : Id) (w : World) (h : IdsV w ao cap l) (hp : l.Pairwise (fun a b => ilt a b = true)) (hl : l.length ≤ 1000000) (v : Bool) (hv : decide (i ∈ l) = v) :
    Calls Tryz.prog 53 #[.slice ao l.length cap, idV i] w fun e w' => e = .returned (.bool v) ∧ Below w.heap.size w w' := by
  have HS := Lib.hid (fun (wx : World) (h : IdsV wx ao cap l) => bsearch_any l ao cap i wx h hp hl v hv)
  have H := Lib.hid h
  clear h hv hp
  go_enter Tryz.func53, Tryz.ntmps53
  go_upto_region 1 with fail
  obtain ⟨W, hW⟩ : ∃ W, W = w.alloc (idO i) := ⟨_, rfl⟩
  rw [← hW]
  have HB : Hid (Below w.heap.size w W) := Lib.hid (by rw [hW]; exact (Below.refl _ _).alloc (Nat.le_refl _) _)
  have HX : Hid (W.heap[w.heap.size]? = some (idO i)) := Lib.hid (by rw [hW]; exact heap_alloc_new w _)
  clear hW
  obtain ⟨⟨d0, d1⟩, _⟩ := box2 HX.out
  go_wp2_with fail
  refine (HS.out W (H.out.below (B := 0) HB.out)).mono ?_
  rintro e w1 ⟨⟨n, rfl⟩, hb⟩
  have HBK := Lib.hid (HB.out.trans (hb.mono HB.out.size))
  clear hb d0 d1 HS
  go_wp2_with fail
  go_ret
  exact ⟨rfl, HBK.out⟩
end Go.Proofs.YtlbkbjeajcadiaaGreatDoor.O

/- What a finder of components is in memory; the first contracts. -/
namespace Go.Proofs.YtlbkbjeajcadiaaGreatDoor.K
open Go.RowKit M T
set_option linter.unusedVariables false
set_option linter.unusedSimpArgs false

def iv (l : List Nat) : List Value := l.map fun (x : Nat) => .int .i64 (x : Int)
theorem iv_length (l : List Nat) : (iv l).length = l.length := by simp [iv]
theorem iv_append (l m : List Nat) : iv (l ++ m) = iv l ++ iv m := by simp [iv]
theorem iv_get (l : List Nat) (i x : Nat) (h : l[i]? = some x) : (iv l)[i]? = some (.int .i64 (x : Int)) := by simp [iv, h]
theorem iv_one (l : List Nat) : ∀ u ∈ iv l, u.oneCell' = true := by
  intro u hu
  obtain ⟨x, _, rfl⟩ := List.mem_map.1 hu
  rfl
/-- a row of n numbers -/
def tab (n : Nat) (f : Nat → Int) : Array Value := ((List.range n).map fun v => Value.int .i64 (f v)).toArray
theorem tab_size (n : Nat) (f : Nat → Int) : (tab n f).size = n := by simp [tab]
theorem tab_get (n : Nat) (f : Nat → Int) (v : Nat) (h : v < n) : (tab n f)[v]? = some (.int .i64 (f v)) := by simp [tab, h]
theorem tab_set (n : Nat) (f : Nat → Int) (v : Nat) (x : Int) : (tab n f).setIfInBounds v (.int .i64 x) = tab n (upd f v x) := by
  apply Array.ext_getElem?
  intro j
  rw [Array.getElem?_setIfInBounds]
  by_cases hj : j < n
  · rw [tab_get n _ j hj, tab_get n _ j hj, tab_size]
    by_cases e : v = j
    · subst e; simp [upd_same, hj]
    · rw [if_neg e, upd_other f x (fun e2 => e e2.symm)]
  · have h1 : (tab n f)[j]? = none := by rw [Array.getElem?_eq_none_iff, tab_size]; omega
    have h2 : (tab n (upd f v x))[j]? = none := by rw [Array.getElem?_eq_none_iff, tab_size]; omega
    rw [h1, h2, tab_size]
    by_cases e : v = j
    · subst e; simp [hj]
    · rw [if_neg e]
theorem tab_congr (n : Nat) (f g : Nat → Int) (h : ∀ v, v < n → f v = g v) : tab n f = tab n g := by
  unfold tab
  congr 1
  exact List.map_congr_left fun v hv => by rw [h v (List.mem_range.1 hv)]
/-- rows behind a row -/
def hdrs (R : List (Option Addr × Nat)) (C : List (List Nat)) : List Value := List.zipWith (fun r c => Value.slice r.1 c.length r.2) R C

/-- where a finder's things lie -/
structure Lay where
  eo : Option Addr
  ec : Nat
  gN : Nat
  gL : Nat
  gO : Nat
  so : Option Addr
  sc : Nat
  co : Option Addr
  cc : Nat
  R : List (Option Addr × Nat)
def Foot (m : Lay) (b : Nat) (k : Nat) : Prop := k = b ∨ k = m.gN ∨ k = m.gL ∨ k = m.gO ∨ (∃ a, m.so = some a ∧ k = a.block) ∨ ∃ a, m.co = some a ∧ k = a.block
theorem own_heap {w : World} {B n cap size : Nat} {e : TypeId} {ao : Option Addr} {xs : List Value} (h : w.ownsRow B e size (.slice ao n cap) n xs) : ∀ a, ao = some a → ∃ cur, w.heap[a.block]? = some (.cells cur e (0, 0)) ∧ B ≤ a.block := by
  intro a ha
  obtain ⟨ao', cap', e', _, _, _, h4⟩ := own_view h
  cases e'
  obtain ⟨g, cur, rfl, hB, hg, _⟩ := h4 a ha
  exact ⟨cur, hg, hB⟩
section
variable {B n : Nat} {w w1 : World} {b : Nat} {m : Lay} {s : St} {o : Nat → Int}
/-- all but the components' own rows -/
def Rows (m : Lay) (k : Nat) : Prop := ∃ r ∈ m.R, ∃ a, r.1 = some a ∧ k = a.block
theorem row_cell {w : World} {g n : Nat} {f : Nat → Int} {T : TypeId} (h : w.heap[g]? = some (.cells (tab n f) T (0, 0))) (v : Nat) (hv : v < n) : w.cell? ⟨g, v, none⟩ = some (.int .i64 (f v)) ∧ w.frozen? ⟨g, v, none⟩ = false :=
  ⟨(cell_of_row w g v _ _ (0, 0) h).trans (tab_get n f v hv), by simp [World.frozen?, h]⟩
end
end Go.Proofs.YtlbkbjeajcadiaaGreatDoor.K

/- A finder under single stores; the contract of enter. -/
namespace Go.Proofs.YtlbkbjeajcadiaaGreatDoor.K
open Go.RowKit M T
set_option linter.unusedVariables false
set_option linter.unusedSimpArgs false

section
variable {B n : Nat} {w w1 : World} {b : Nat} {m : Lay} {s : St} {o : Nat → Int}
end
end Go.Proofs.YtlbkbjeajcadiaaGreatDoor.K

/- Contracts of the library, at rows of numbers of one's own: Sort, Clone, Index. -/
namespace Go.Proofs.YtlbkbjeajcadiaaGreatDoor.K
open Go.RowKit M T
set_option linter.unusedVariables false
set_option linter.unusedSimpArgs false

theorem iv_int (l : List Nat) : iv l = (l.map fun (x : Nat) => (x : Int)).map (Value.int .i64) := by simp [iv]
end Go.Proofs.YtlbkbjeajcadiaaGreatDoor.K

/- The contract of enter. -/
namespace Go.Proofs.YtlbkbjeajcadiaaGreatDoor.K
open Go.RowKit M T
set_option linter.unusedVariables false
set_option linter.unusedSimpArgs false

theorem info_int : (Tryz.prog.info? 3).map (fun i => (i.zero, i.size, i.bytes)) = some (some (.int .i64 0), 1, 8) := by kernel_rfl

end Go.Proofs.YtlbkbjeajcadiaaGreatDoor.K

/- A finder whose stack is cut, whose components grow; the contracts of leave. -/
namespace Go.Proofs.YtlbkbjeajcadiaaGreatDoor.K
open Go.RowKit M T
set_option linter.unusedVariables false
set_option linter.unusedSimpArgs false

theorem below_dn (B : Nat) (w : World) (k : Nat) : Below B w (w.drewN k) := ⟨rfl, rfl, rfl, Nat.le_refl _, fun _ _ => rfl⟩
theorem iv_take (l : List Nat) (i : Nat) : iv (l.take i) = (iv l).take i := by simp [iv, List.map_take]
theorem own_cut {w : World} {B n cap : Nat} {e : TypeId} {ao : Option Addr} {xs : List Value} (h : w.ownsRow B e 1 (.slice ao n cap) n xs) (i : Nat) (hi : i ≤ n) (ha : ao ≠ none) : w.ownsRow B e 1 (.slice ao i cap) i (xs.take i) := by
  refine ⟨by rw [List.length_take, h.1]; omega, ?_⟩
  rcases h.2 with ⟨h0, _⟩ | ⟨g, c, cur, e0, hb, hg, hnc, hm, hs, ht⟩
  · cases h0; exact absurd rfl ha
  · cases e0
    refine .inr ⟨g, cap, cur, rfl, hb, hg, by omega, hm, hs, ?_⟩
    rw [← ht, List.take_take, Nat.mul_one, Nat.mul_one, Nat.min_eq_left hi]
theorem rowcell {w : World} {B n : Nat} {e : TypeId} {size : Nat} {ao : Option Addr} {cap : Nat} {xs : List Value} (h : w.ownsRow B e size (.slice ao n cap) n xs) (hn : 0 < n) :
    ∃ g, ao = some ⟨g, 0, none⟩ ∧ g < w.heap.size ∧ n ≤ cap ∧ cap ≤ maxLen ∧ ∀ j u, xs[j]? = some u → w.cell? ⟨g, j, none⟩ = some u ∧ w.frozen? ⟨g, j, none⟩ = false := by
  rcases h.2 with ⟨_, h0⟩ | ⟨g, c, cur, e0, hb, hg, hnc, hm, hs, ht⟩
  · omega
  · cases e0
    refine ⟨g, rfl, (Array.getElem?_eq_some_iff.1 hg).1, hnc, hm, fun j u hu => ⟨?_, by simp [World.frozen?, hg]⟩⟩
    rw [cell_of_row w g j cur e (0, 0) hg, ← Array.getElem?_toList]
    rw [← ht, List.getElem?_take] at hu
    split at hu
    · exact hu
    · cases hu
section
variable {B n : Nat} {w w1 : World} {b : Nat} {m : Lay} {s : St} {o : Nat → Int}
theorem hdrs_append {R : List (Option Addr × Nat)} {C : List (List Nat)} (h : R.length = C.length) (r : Option Addr × Nat) (c : List Nat) : hdrs (R ++ [r]) (C ++ [c]) = hdrs R C ++ [.slice r.1 c.length r.2] := by
  unfold hdrs
  rw [List.zipWith_append h]
  rfl
end

end Go.Proofs.YtlbkbjeajcadiaaGreatDoor.K

/- The contract of leave where a component is taken off. -/
namespace Go.Proofs.YtlbkbjeajcadiaaGreatDoor.K
open Go.RowKit M T
set_option linter.unusedVariables false
set_option linter.unusedSimpArgs false

theorem info_ints : (Tryz.prog.info? 186).map (fun i => (i.zero, i.size, i.bytes)) = some (some (.slice none 0 0), 1, 24) := by kernel_rfl
def ofUp (o : Nat → Int) (c : List Nat) (x : Int) : Nat → Int := fun y => if y ∈ c then x else o y
theorem ofUp_step (o : Nat → Int) (c : List Nat) (k v : Nat) (x : Int) (h : c[k]? = some v) : upd (ofUp o (c.take k) x) v x = ofUp o (c.take (k + 1)) x := by
  funext y
  rw [List.take_add_one, h]
  simp only [upd, ofUp, List.mem_append, Option.toList, List.mem_singleton]
  by_cases e : y = v
  · simp [e]
  · simp [e]

end Go.Proofs.YtlbkbjeajcadiaaGreatDoor.K
