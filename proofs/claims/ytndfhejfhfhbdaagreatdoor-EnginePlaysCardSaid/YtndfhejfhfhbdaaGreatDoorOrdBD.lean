/- The document's engine, in memory: Commit. -/
import Derived.Test.YtndfhejfhfhbdaaGreatDoorMrg22
import Derived.Test.YtndfhejfhfhbdaaGreatDoorMrg20
import Derived.Test.YtndfhejfhfhbdaaGreatDoorMrg15
import Derived.Test.YtndfhejfhfhbdaaGreatDoorMrg31
namespace Go.Proofs.YtndfhejfhfhbdaaGreatDoor.O
open Go.RowKit Go.Proofs.YtndfhejfhfhbdaaGreatDoor.M Go.BigFrame Go.Proofs.YtndfhejfhfhbdaaGreatDoor.K
set_option linter.unusedVariables false
set_option linter.unusedSimpArgs false

def refO (lo : Option Addr) (ln lc : Nat) (dn : Option Addr) (dl dc : Nat) : Obj := .cells #[.slice lo ln lc, .slice dn dl dc] 61 (0, 0)
/-- the document's engine: records Y, done D; the blocks G are its own -/
structure RefE (w0 w : World) (p : Nat) (Y : List Rv) (D : List Id) (G : Nat → Prop) : Prop where
  ex : ∃ lo lc dn dc, w.heap[p]? = some (refO lo Y.length lc dn D.length dc) ∧ OwnR w w0.heap.size lo lc Y ∧ OwnL w w0.heap.size dn dc D ∧ (∀ a, lo = some a → G a.block) ∧ (∀ a, dn = some a → G a.block)
  gp : G p
  ok : ∀ x ∈ Y, RvOk w0 x
  di : ∀ i ∈ D, IdI i
  ge : ∀ j, G j → w0.heap.size ≤ j
  lt : ∀ j, G j → j < w.heap.size
  bl : Below w0.heap.size w0 w
theorem own_kept2 {w w1 : World} {S : Nat → Prop} {B : Nat} {e : TypeId} {s n c : Nat} {ro : Option Addr} {xs : List Value} (h : w.ownsRow B e s (.slice ro n c) n xs) (hm : Mods S w w1) (hn : ∀ a, ro = some a → ¬ S a.block) : w1.ownsRow B e s (.slice ro n c) n xs :=
  own_kept h hm fun k hk => by
    cases ro with
    | none => cases hk
    | some a =>
      obtain rfl : a.block = k := Option.some.inj hk
      exact hn a rfl
section
variable {P : Program} {w : World} {α : Type}
theorem step_apps2 (enc : α → List Value) (k : Nat) (hk : ∀ x, (enc x).length = k) (h0 : 0 < k) (h1 : ∀ x, ∀ v ∈ enc x, v.oneCell' = true) {ops : Array Oper} {o : Oper} {a : Act} {K : Act → World → Prop} {Q : Exit → Act → World → Prop} {E : Prop} (hgd : o.guard = none) (s x : Operand) (t : TypeId)
    (ho : o.op = .call { callee := .builtin .append, args := #[s, x], argTypes := #[t, t] }) (B : Nat) (e : TypeId) (i : TypeInfo) (z : Value) (bytes : Nat) (ht : P.underlying t = some (.slice e)) (hi : P.info? e = some i) (hz : i.zero = some z)
    (hsize : i.size = k) (hby : i.bytes = bytes) (hb2 : bytes ≤ 1000) (hzs : z.cells.size = k) (oo : Option Addr) (oc m : Nat) (M : List α) (hMl : M.length = m) (so : Option Addr) (sc n : Nat) (N : List α) (hNl : N.length = n) (hs : a.eval s = .slice oo m oc)
    (hown : w.ownsRow B e k (.slice oo m oc) m (M.flatMap enc)) (hx : a.eval x = .slice so n sc) (hsrc : SrcAt w so (N.flatMap enc)) (hM : m + n ≤ 100000000) (hB : B ≤ w.heap.size)
    (h : ∀ oo' oc' w', w'.ownsRow B e k (.slice oo' (m + n) oc') (m + n) ((M ++ N).flatMap enc) → Mods (fun j => ∃ a, oo = some a ∧ j = a.block) w w' → Below B w w' → (∀ a, oo' = some a → (∃ a0, oo = some a0 ∧ a.block = a0.block) ∨ w.heap.size ≤ a.block) → K (a.put o.dst (.slice oo' (m + n) oc')) w') :
    if Region.wanted o (yielded ops a.tmps) = true then Oper.wp P o a w K Q else E := by
  cases N with
  | nil =>
    obtain rfl : n = 0 := by rw [← hNl]; rfl
    have hrun := run_append_owned_empty (P := P) (w := w) B t o.type e i k ht hi _ _ _ hown so sc
    have hK := h oo oc w (by simpa using hown) (Mods.refl _ _) (Below.refl _ _) (fun a e => .inl ⟨a, e, rfl⟩)
    rw [Nat.add_zero] at hK
    have hw : Region.wanted o (yielded ops a.tmps) = true := by simp [Region.wanted, hgd]
    rw [if_pos hw]
    unfold Oper.wp
    simp [execOp, ho, resolve, invoke, builtin, hs, hx, hrun, Result.andThen]
    exact hK
  | cons y N' =>
    obtain ⟨N, hN⟩ : ∃ N, y :: N' = N := ⟨_, rfl⟩
    have hpos : 0 < n := by rw [← hNl]; simp
    rw [hN] at hNl hsrc h
    clear hN
    have hlen : (N.flatMap enc).length = n * k := by rw [← hNl]; exact flat_len enc k hk N
    have hne : N.flatMap enc ≠ [] := fun e0 => by
      rw [e0] at hlen
      have := Nat.mul_pos hpos h0
      simp at hlen
      omega
    obtain ⟨ad, rfl, hcells⟩ := hsrc hne
    refine step_append_lies _ hgd s x t ho B e i z k bytes ht hi hz hsize hby hzs h0 (.slice oo m oc) m (M.flatMap enc) hs hown ad n sc (N.flatMap enc) hx hlen hcells
      (fun u hu => by obtain ⟨x, hx1, hx2⟩ := List.mem_flatMap.1 hu; exact h1 x u hx2) hpos (by unfold maxLen; omega) ?_ hB w.heap.size rfl ?_
    · have : (m + n) * bytes ≤ 100000000 * 1000 := Nat.mul_le_mul (by omega) hb2
      omega
    · intro g cap w' hown' hgrow hgg _
      have hm : Mods (fun j => ∃ a, oo = some a ∧ j = a.block) w w' := (Mods.refl _ w).then (Mods.of_grown hgrow) (fun k _ hk => by
        cases oo with
        | none => cases hk
        | some a => exact ⟨a, rfl, (Option.some.inj hk).symm⟩)
      have hb : Below B w w' := hm.below (fun j ⟨a, e1, e2⟩ => by
        subst e1
        rw [e2]
        exact (hown.lt a.block rfl).1) hB
      exact h (some ⟨g, 0, none⟩) cap w' (by rw [List.flatMap_append]; exact hown') hm hb (fun a e => by
        cases e
        rcases hgg with h1 | h1
        · left
          cases oo with
          | none => cases h1
          | some a0 => exact ⟨a0, rfl, (Option.some.inj h1).symm⟩
        · right
          exact Nat.le_of_eq h1.symm)
theorem wp_apps2 (enc : α → List Value) (k : Nat) (hk : ∀ x, (enc x).length = k) (h0 : 0 < k) (h1 : ∀ x, ∀ v ∈ enc x, v.oneCell' = true) {o : Oper} {a : Act} {K : Act → World → Prop} {Q : Exit → Act → World → Prop} (hgd : o.guard = none) (s x : Operand) (t : TypeId)
    (ho : o.op = .call { callee := .builtin .append, args := #[s, x], argTypes := #[t, t] }) (B : Nat) (e : TypeId) (i : TypeInfo) (z : Value) (bytes : Nat) (ht : P.underlying t = some (.slice e)) (hi : P.info? e = some i) (hz : i.zero = some z)
    (hsize : i.size = k) (hby : i.bytes = bytes) (hb2 : bytes ≤ 1000) (hzs : z.cells.size = k) (oo : Option Addr) (oc m : Nat) (M : List α) (hMl : M.length = m) (so : Option Addr) (sc n : Nat) (N : List α) (hNl : N.length = n) (hs : a.eval s = .slice oo m oc)
    (hown : w.ownsRow B e k (.slice oo m oc) m (M.flatMap enc)) (hx : a.eval x = .slice so n sc) (hsrc : SrcAt w so (N.flatMap enc)) (hM : m + n ≤ 100000000) (hB : B ≤ w.heap.size)
    (h : ∀ oo' oc' w', w'.ownsRow B e k (.slice oo' (m + n) oc') (m + n) ((M ++ N).flatMap enc) → Mods (fun j => ∃ a, oo = some a ∧ j = a.block) w w' → Below B w w' → (∀ a, oo' = some a → (∃ a0, oo = some a0 ∧ a.block = a0.block) ∨ w.heap.size ≤ a.block) → K (a.put o.dst (.slice oo' (m + n) oc')) w') :
    Oper.wp P o a w K Q := by
  have hh := step_apps2 (ops := #[]) (Q := Q) (E := True) enc k hk h0 h1 hgd s x t ho B e i z bytes ht hi hz hsize hby hb2 hzs oo oc m M hMl so sc n N hNl hs hown hx hsrc hM hB h
  have hw : Region.wanted o (yielded #[] a.tmps) = true := by simp [Region.wanted, hgd]
  rw [if_pos hw] at hh
  exact hh
end
section
variable {w0 w : World} {p : Nat} {Y : List Rv} {D : List Id} {G : Nat → Prop}
theorem RefE.keep {w1 : World} {S : Nat → Prop} (h : RefE w0 w p Y D G) (hm : Mods S w w1) (hn : ∀ j, G j → ¬ S j) (hs : ∀ j, S j → w0.heap.size ≤ j) : RefE w0 w1 p Y D G := by
  obtain ⟨lo, lc, dn, dc, h1, h2, h3, h4, h5⟩ := h.ex
  exact ⟨⟨lo, lc, dn, dc, hm.heap h1 (hn p h.gp), own_kept2 h2 hm (fun a e => hn _ (h4 a e)), own_kept2 h3 hm (fun a e => hn _ (h5 a e)), h4, h5⟩, h.gp, h.ok, h.di, h.ge, fun j hj => Nat.lt_of_lt_of_le (h.lt j hj) hm.size, h.bl.trans (hm.below hs h.bl.size)⟩
theorem RefE.below {w1 : World} (h : RefE w0 w p Y D G) (hb : Below w.heap.size w w1) : RefE w0 w1 p Y D G :=
  h.keep (S := fun _ => False) (M.Mods.of_below hb) (fun _ _ h => h) (fun _ h => h.elim)
theorem RefE.view (h : RefE w0 w p Y D G) : ∃ lo lc dn dc, w.heap[p]? = some (refO lo Y.length lc dn D.length dc) ∧ w.cell? ⟨p, 0, none⟩ = some (.slice lo Y.length lc) ∧ w.cell? ⟨p, 1, none⟩ = some (.slice dn D.length dc) ∧ RecsV w lo lc Y ∧ IdsV w dn dc D ∧ OwnR w w0.heap.size lo lc Y ∧ OwnL w w0.heap.size dn dc D ∧ (∀ a, lo = some a → G a.block ∧ a.block ≠ p) ∧ (∀ a, dn = some a → G a.block ∧ a.block ≠ p) := by
  obtain ⟨lo, lc, dn, dc, h1, h2, h3, h4, h5⟩ := h.ex
  have hc : ∀ j, w.cell? ⟨p, j, none⟩ = (#[.slice lo Y.length lc, .slice dn D.length dc] : Array Value)[j]? := fun j => cell_of_row w p j _ _ _ h1
  refine ⟨lo, lc, dn, dc, h1, hc 0, hc 1, RecsV.of_own h2 (fun x hx => (h.ok x hx).below h.bl), IdsV.of_own h3 h.di, h2, h3, fun a e => ⟨h4 a e, fun ea => ?_⟩, fun a e => ⟨h5 a e, fun ea => ?_⟩⟩
  · obtain ⟨cs, hh⟩ := own_heap h2 a e
    rw [ea, h1] at hh
    exact absurd (Option.some.inj hh.1) (by unfold refO; simp)
  · obtain ⟨cs, hh⟩ := own_heap h3 a e
    rw [ea, h1] at hh
    exact absurd (Option.some.inj hh.1) (by unfold refO; simp)
end
theorem src_at {w : World} {g : Nat} {x : Rv} (h1 : w.heap[g]? = some (.cells (recA x) 38 (0, 0))) : SrcAt w (some ⟨g, 0, none⟩) ([x].flatMap recC) := by
  intro _
  refine ⟨_, rfl, fun j u hj => ?_⟩
  have e : (⟨g, 0, none⟩ : Addr).add j = ⟨g, j, none⟩ := by
    unfold Addr.add
    split
    · next e => rw [e]
    · rw [Nat.zero_add]
  rw [e, cell_of_row _ _ _ _ _ _ h1, ← Array.getElem?_toList]
  simpa using hj
theorem set_self (arr : Array Value) (j : Nat) : arr.setIfInBounds j (arr.getD j undef) = arr := by
  apply Array.ext_getElem?
  intro i
  rw [Array.getElem?_setIfInBounds]
  by_cases h : j = i
  · subst h
    by_cases hj : j < arr.size
    · simp [Array.getD, hj]
    · simp [hj]
  · simp [h]
structure R3S (u : World) (B p g : Nat) (oo : Option Addr) (Y : List Rv) (lc : Nat) (dn : Option Addr) (dl dc : Nat) (x : Rv) (b0 b1 b2 b3 b4 b5 b6 b7 b8 b9 b10 : Bool) (x23 x24 x25 x26 x27 x28 x29 x30 x31 x32 : Value) (w : World) : Prop where
  k0 : b0 = true → x23 = .pointer (some ⟨p, 0, none⟩)
  k1 : b1 = true → x24 = .pointer (some ⟨p, 0, none⟩)
  k2 : b2 = true → x25 = .pointer (some ⟨p, 0, none⟩)
  k3 : b3 = true → x26 = .pointer (some ⟨p, 0, none⟩)
  k4 : b4 = true → x27 = .slice oo Y.length lc
  k5 : b5 = true → x28 = recV x
  k8 : b8 = true → x31 = .pointer (some ⟨p, 0, none⟩)
  k9 : b9 = true → x32 = .pointer (some ⟨p, 0, none⟩)
  kin : b7 = false → Below u.heap.size u w
  kb : b6 = true → b7 = false → ∃ g2, x29 = .slice (some ⟨g2, 0, none⟩) 1 1 ∧ u.heap.size ≤ g2 ∧ w.heap[g2]? = some (.cells (recA x) 38 (0, 0))
  ka : b7 = true → b10 = false → ∃ ao cap, x30 = .slice ao (Y.length + 1) cap ∧ w.ownsRow B 38 16 (.slice ao (Y.length + 1) cap) (Y.length + 1) ((Y ++ [x]).flatMap recC) ∧ Mods (fun j => ∃ a, oo = some a ∧ j = a.block) u w ∧ (∀ a, ao = some a → (∃ a0, oo = some a0 ∧ a.block = a0.block) ∨ u.heap.size ≤ a.block)
  ks : b10 = true → ∃ ao cap, w.ownsRow B 38 16 (.slice ao (Y.length + 1) cap) (Y.length + 1) ((Y ++ [x]).flatMap recC) ∧ Mods (fun j => (∃ a, oo = some a ∧ j = a.block) ∨ j = p) u w ∧ (∀ a, ao = some a → (∃ a0, oo = some a0 ∧ a.block = a0.block) ∨ u.heap.size ≤ a.block) ∧ w.heap[p]? = some (refO ao (Y.length + 1) cap dn dl dc)
  c2_1 : b2 = true → b1 = true
  c3_2 : b3 = true → b2 = true
  c4_3 : b4 = true → b3 = true
  c6_5 : b6 = true → b5 = true
  c7_4 : b7 = true → b4 = true
  c7_6 : b7 = true → b6 = true
  c8_0 : b8 = true → b0 = true
  c9_8 : b9 = true → b8 = true
  c10_9 : b10 = true → b9 = true
  c10_7 : b10 = true → b7 = true
def R3I (u : World) (B p g : Nat) (oo : Option Addr) (Y : List Rv) (lc : Nat) (dn : Option Addr) (dl dc : Nat) (x : Rv) (arr : Array Value) (listed : Array Bool) (a : Act) (w : World) : Prop :=
  ∃ (b0 b1 b2 b3 b4 b5 b6 b7 b8 b9 b10 : Bool) (x23 x24 x25 x26 x27 x28 x29 x30 x31 x32 : Value), listed = #[b0, b1, b2, b3, b4, b5, b6, b7, b8, b9, b10] ∧ a = ⟨((((((((((arr.setIfInBounds 23 x23).setIfInBounds 24 x24).setIfInBounds 25 x25).setIfInBounds 26 x26).setIfInBounds 27 x27).setIfInBounds 28 x28).setIfInBounds 29 x29).setIfInBounds 30 x30).setIfInBounds 31 x31).setIfInBounds 32 x32), []⟩ ∧ R3S u B p g oo Y lc dn dl dc x b0 b1 b2 b3 b4 b5 b6 b7 b8 b9 b10 x23 x24 x25 x26 x27 x28 x29 x30 x31 x32 w
theorem R3_start (u : World) (B p g : Nat) (oo : Option Addr) (Y : List Rv) (lc : Nat) (dn : Option Addr) (dl dc : Nat) (x : Rv) (arr : Array Value) (w : World) (h : ∀ x23 x24 x25 x26 x27 x28 x29 x30 x31 x32, R3S u B p g oo Y lc dn dl dc x false false false false false false false false false false false x23 x24 x25 x26 x27 x28 x29 x30 x31 x32 w) : R3I u B p g oo Y lc dn dl dc x arr (Array.replicate 11 false) ⟨arr, []⟩ w :=
  ⟨false, false, false, false, false, false, false, false, false, false, false, arr.getD 23 undef, arr.getD 24 undef, arr.getD 25 undef, arr.getD 26 undef, arr.getD 27 undef, arr.getD 28 undef, arr.getD 29 undef, arr.getD 30 undef, arr.getD 31 undef, arr.getD 32 undef, rfl, by simp only [set_self], h _ _ _ _ _ _ _ _ _ _⟩
theorem commit_fin {w0 w w3 w8 : World} {p : Nat} {Y : List Rv} {D : List Id} {G : Nat → Prop} {x : Rv} {lo dn oo : Option Addr} {lc dc oc : Nat} (h : RefE w0 w p Y D G) (h0 : RvOk w0 x) (hb3 : Below w.heap.size w w3) (hp3 : w3.heap[p]? = some (refO lo Y.length lc dn D.length dc)) (ho3 : OwnR w3 w0.heap.size lo lc Y) (hd3 : OwnL w3 w0.heap.size dn dc D)
    (g7 : ∀ a, lo = some a → G a.block ∧ a.block ≠ p) (g8 : ∀ a, dn = some a → G a.block ∧ a.block ≠ p) (hm : Mods (fun j => (∃ a, lo = some a ∧ j = a.block) ∨ j = p) w3 w8) (hown : w8.ownsRow w0.heap.size 38 16 (.slice oo (Y.length + 1) oc) (Y.length + 1) ((Y ++ [x]).flatMap recC)) (hfr : ∀ a, oo = some a → (∃ a0, lo = some a0 ∧ a.block = a0.block) ∨ w3.heap.size ≤ a.block)
    (hs : w8.heap[p]? = some (refO oo (Y.length + 1) oc dn D.length dc)) : RefE w0 w8 p (Y ++ [x]) D (FGrow G w w8) ∧ Mods G w w8 := by
  have hlen : (Y ++ [x]).length = Y.length + 1 := by simp
  have hdl : ∀ a, dn = some a → ¬ ((∃ a0, lo = some a0 ∧ a.block = a0.block) ∨ a.block = p) := fun a e h => by
    rcases h with ⟨a0, e0, ea⟩ | ea
    · obtain ⟨cs, hh, _⟩ := own_heap hd3 a e
      obtain ⟨cs2, hh2, _⟩ := own_heap ho3 a0 e0
      rw [ea, hh2] at hh
      exact absurd (Option.some.inj hh) (by simp)
    · exact (g8 a e).2 ea
  have hM : Mods G w w8 := (Mods.of_below (S := G) hb3).then hm (fun k _ hk => by
    rcases hk with ⟨a, e, ea⟩ | ea
    · rw [ea]; exact (g7 a e).1
    · rw [ea]; exact h.gp)
  refine ⟨⟨⟨oo, oc, dn, dc, by rw [hlen]; exact hs, ?_, ?_, fun a e => ?_, fun a e => .inl (g8 a e).1⟩, .inl h.gp, fun z hz => ?_, h.di, fun j hj => ?_, fun j hj => ?_, h.bl.trans (hM.below h.ge h.bl.size)⟩, hM⟩
  · unfold OwnR
    rw [hlen]
    exact hown
  · exact own_kept2 hd3 hm hdl
  · rcases hfr a e with ⟨a0, e0, ea⟩ | hlt
    · exact .inl (by rw [ea]; exact (g7 a0 e0).1)
    · exact .inr ⟨Nat.le_trans hb3.size hlt, (hown.lt a.block (by rw [e]; rfl)).2⟩
  · rcases List.mem_append.1 hz with hz | hz
    · exact h.ok z hz
    · rw [List.mem_singleton.1 hz]; exact h0
  · rcases hj with hj | hj
    · exact h.ge j hj
    · exact Nat.le_trans h.bl.size hj.1
  · rcases hj with hj | hj
    · exact Nat.lt_of_lt_of_le (h.lt j hj) hM.size
    · exact hj.2
set_option maxRecDepth 100000 in
set_option maxHeartbeats 4000000 in
theorem refcommit_no (w0 : World) (p : Nat) (Y : List Rv) (D : List Id) (G : Nat → Prop) (x : Rv) (w : World) (h : RefE w0 w p Y D G) (h0 : RvOk w0 x) (hl : x.deps.length ≤ 1000000) (hk : x.cmd.key.size ≤ 1000000) (hno : (goodR x && !decide (x.id ∈ idsX Y)) = false) :
    Calls Tryz.prog 30 #[.pointer (some ⟨p, 0, none⟩), recV x] w fun e w' => e = .returned (.bool false) ∧ Below w.heap.size w w' := by
  have H := Lib.hid h
  have HO := Lib.hid h0
  clear h h0
  go_enter Tryz.func30, Tryz.ntmps30
  go_upto_region 1 with fail
  obtain ⟨W, hW⟩ : ∃ W, W = w.alloc (recO x) := ⟨_, rfl⟩
  have HB := Lib.hid (show Below w.heap.size w W by rw [hW]; exact (Below.refl _ _).alloc (Nat.le_refl _) _)
  have HX := Lib.hid (show W.heap[w.heap.size]? = some (recO x) by rw [hW]; exact heap_alloc_new w _)
  rw [← hW]
  clear hW
  have HE := Lib.hid (H.out.below HB.out)
  obtain ⟨lo, lc, dn, dc, g0, g1, g2, g3, g4, g5, g6, g7, g8⟩ := HE.out.view
  have HG0 := Lib.hid g0
  have HRV := Lib.hid g3
  have HOR := Lib.hid g5
  have HOL := Lib.hid g6
  have HG7 := Lib.hid g7
  have HG8 := Lib.hid g8
  have hpl := HE.out.lt p HE.out.gp
  have hwl := M.heap_lt HX.out
  have HKR := Lib.hid (fun v : Kin W => refright9_any x v.w ((HO.out.below HE.out.bl).below v.h) (by omega) (by omega) _ rfl)
  obtain ⟨a, ha⟩ : ∃ a, atI (idsX Y) x.id = a := ⟨_, rfl⟩
  have HKA := Lib.hid (fun v : Kin W => refat_any Y lo lc x.id v.w (HRV.out.below v.h) a ha)
  obtain ⟨c0, c1, c2, c3, c4, c5, c6, c7, c8, c9, c10, c11, c12, c13, c14, c15⟩ := box16 HX.out
  have k0 := Kin.cell c0
  have k1 := Kin.cell c1
  have k2 := Kin.cell c2
  have k3 := Kin.cell c3
  have k4 := Kin.cell c4
  have k5 := Kin.cell c5
  have k6 := Kin.cell c6
  have k7 := Kin.cell c7
  have k8 := Kin.cell c8
  have k9 := Kin.cell c9
  have k10 := Kin.cell c10
  have k11 := Kin.cell c11
  have k12 := Kin.cell c12
  have k13 := Kin.cell c13
  have k14 := Kin.cell c14
  have k15 := Kin.cell c15
  have k16 := Kin.cell g1
  clear c0 c1 c2 c3 c4 c5 c6 c7 c8 c9 c10 c11 c12 c13 c14 c15 g0 g1 g2 g3 g4 g5 g6 g7 g8
  obtain ⟨rb, hrb⟩ : ∃ b, recOk x = b := ⟨_, rfl⟩
  obtain ⟨sb, hsb⟩ : ∃ b, decide (x.st = 3) = b := ⟨_, rfl⟩
  have hgd : goodR x = (rb && sb) := by unfold goodR; rw [hrb, hsb]
  rw [hrb] at HKR
  rw [hgd] at hno
  clear hgd hrb
  cases rb with
  | false =>
    clear hno hsb ha
    refine wp_region_kin (by kernel_rfl) (by kernel_rfl) ?_
    repeat (go_big_quiet_step ((first | (go_at_call 49; with_reducible exact Kin.call _ (HKR.out _)) | (go_at_call 14; with_reducible exact Kin.call _ (HKA.out _)))))
    refine wpQuiet_nil ?_
    intro _ hxx
    obtain ⟨xk, rfl⟩ := hxx
    clear k0 k1 k2 k3 k4 k5 k6 k7 k8 k9 k10 k11 k12 k13 k14 k15 k16
    have HBF := Lib.hid (HB.out.trans (xk.h.mono HB.out.size))
    go_wp2_with fail
    go_ret
    exact ⟨rfl, HBF.out⟩
  | true =>
    cases sb with
    | false =>
      have hst : (x.st != 3) = true := by have := of_decide_eq_false hsb; simpa using this
      clear hno hsb ha
      refine wp_region_kin (by kernel_rfl) (by kernel_rfl) ?_
      repeat (go_big_quiet_step ((first | (go_at_call 49; with_reducible exact Kin.call _ (HKR.out _)) | (go_at_call 14; with_reducible exact Kin.call _ (HKA.out _)))))
      refine wpQuiet_nil ?_
      intro _ hxx
      obtain ⟨xk, rfl⟩ := hxx
      clear k0 k1 k2 k3 k4 k5 k6 k7 k8 k9 k10 k11 k12 k13 k14 k15 k16
      have HBF := Lib.hid (HB.out.trans (xk.h.mono HB.out.size))
      go_wp2_with fail
      go_ret
      exact ⟨rfl, HBF.out⟩
    | true =>
      have hst : (x.st != 3) = false := by have := of_decide_eq_true hsb; simpa using this
      have ha0 : 0 ≤ a := by
        have hm : x.id ∈ idsX Y := by simpa using hno
        have : ¬ a < 0 := fun h => atI_neg.1 (ha ▸ h) hm
        omega
      have had : decide (0 ≤ a) = true := decide_eq_true ha0
      clear hno hsb ha
      refine wp_region_kin (by kernel_rfl) (by kernel_rfl) ?_
      repeat (go_big_quiet_step ((first | (go_at_call 49; with_reducible exact Kin.call _ (HKR.out _)) | (go_at_call 14; with_reducible exact Kin.call _ (HKA.out _)))))
      refine wpQuiet_nil ?_
      intro _ hxx
      obtain ⟨xk, rfl⟩ := hxx
      clear k0 k1 k2 k3 k4 k5 k6 k7 k8 k9 k10 k11 k12 k13 k14 k15 k16
      have HBF := Lib.hid (HB.out.trans (xk.h.mono HB.out.size))
      go_wp2_with fail
      go_ret
      exact ⟨rfl, HBF.out⟩
set_option maxRecDepth 100000 in
set_option maxHeartbeats 4000000 in
theorem refcommit_yes (w0 : World) (p : Nat) (Y : List Rv) (D : List Id) (G : Nat → Prop) (x : Rv) (w : World) (h : RefE w0 w p Y D G) (h0 : RvOk w0 x) (hl : x.deps.length ≤ 1000000) (hk : x.cmd.key.size ≤ 1000000) (hY : Y.length ≤ 1000000) (hg : goodR x = true) (hn : x.id ∉ idsX Y) :
    Calls Tryz.prog 30 #[.pointer (some ⟨p, 0, none⟩), recV x] w fun e w' => e = .returned (.bool true) ∧ (RefE w0 w' p (Y ++ [x]) D (FGrow G w w') ∧ Mods G w w') := by
  obtain ⟨i0, hi, hz0, hz1, hz2⟩ := info_parts info_rec
  have H := Lib.hid h
  have HO := Lib.hid h0
  clear h h0
  go_enter Tryz.func30, Tryz.ntmps30
  go_upto_region 1 with fail
  obtain ⟨W, hW⟩ : ∃ W, W = w.alloc (recO x) := ⟨_, rfl⟩
  have HB := Lib.hid (show Below w.heap.size w W by rw [hW]; exact (Below.refl _ _).alloc (Nat.le_refl _) _)
  have HX := Lib.hid (show W.heap[w.heap.size]? = some (recO x) by rw [hW]; exact heap_alloc_new w _)
  rw [← hW]
  clear hW
  have HE := Lib.hid (H.out.below HB.out)
  obtain ⟨lo, lc, dn, dc, g0, g1, g2, g3, g4, g5, g6, g7, g8⟩ := HE.out.view
  have HG0 := Lib.hid g0
  have HRV := Lib.hid g3
  have HOR := Lib.hid g5
  have HOL := Lib.hid g6
  have HG7 := Lib.hid g7
  have HG8 := Lib.hid g8
  have hpl := HE.out.lt p HE.out.gp
  have hwl := M.heap_lt HX.out
  have HKR := Lib.hid (fun v : Kin W => refright9_any x v.w ((HO.out.below HE.out.bl).below v.h) (by omega) (by omega) _ rfl)
  obtain ⟨a, ha⟩ : ∃ a, atI (idsX Y) x.id = a := ⟨_, rfl⟩
  have HKA := Lib.hid (fun v : Kin W => refat_any Y lo lc x.id v.w (HRV.out.below v.h) a ha)
  obtain ⟨c0, c1, c2, c3, c4, c5, c6, c7, c8, c9, c10, c11, c12, c13, c14, c15⟩ := box16 HX.out
  have k0 := Kin.cell c0
  have k1 := Kin.cell c1
  have k2 := Kin.cell c2
  have k3 := Kin.cell c3
  have k4 := Kin.cell c4
  have k5 := Kin.cell c5
  have k6 := Kin.cell c6
  have k7 := Kin.cell c7
  have k8 := Kin.cell c8
  have k9 := Kin.cell c9
  have k10 := Kin.cell c10
  have k11 := Kin.cell c11
  have k12 := Kin.cell c12
  have k13 := Kin.cell c13
  have k14 := Kin.cell c14
  have k15 := Kin.cell c15
  have k16 := Kin.cell g1
  clear c0 c1 c2 c3 c4 c5 c6 c7 c8 c9 c10 c11 c12 c13 c14 c15 g0 g1 g2 g3 g4 g5 g6 g7 g8
  have hgd : recOk x = true ∧ x.st = 3 := by unfold goodR at hg; simpa using hg
  rw [hgd.1] at HKR
  have hst : (x.st != 3) = false := by have := hgd.2; simpa using this
  have ha0 : ¬ 0 ≤ a := by
    have : a < 0 := by rw [← ha]; exact atI_neg.2 hn
    omega
  have had : decide (0 ≤ a) = false := decide_eq_false ha0
  clear hgd hg hn ha
  refine wp_region_kin (by kernel_rfl) (by kernel_rfl) ?_
  repeat (go_big_quiet_step ((first | (go_at_call 49; with_reducible exact Kin.call _ (HKR.out _)) | (go_at_call 14; with_reducible exact Kin.call _ (HKA.out _)))))
  refine wpQuiet_nil ?_
  intro _ hxx
  obtain ⟨xk, rfl⟩ := hxx
  clear k0 k1 k2 k3 k4 k5 k6 k7 k8 k9 k10 k11 k12 k13 k14 k15 k16
  have HBK := Lib.hid xk.h
  obtain ⟨W2, hW2⟩ : ∃ W2, xk.w = W2 := ⟨_, rfl⟩
  rw [hW2] at HBK
  rw [hW2]
  clear hW2 xk
  go_upto_region 3 with fail
  have HE2 := Lib.hid (HE.out.below HBK.out)
  have g0 := (HBK.out.block p hpl).trans HG0.out
  have HX2 := Lib.hid ((HBK.out.block _ hwl).trans HX.out)
  have HP2 := Lib.hid g0
  have hc : ∀ j, W2.cell? ⟨p, j, none⟩ = (#[.slice lo Y.length lc, .slice dn D.length dc] : Array Value)[j]? := fun j => cell_of_row W2 p j _ _ _ g0
  clear hc
  have hp2 := M.heap_lt HP2.out
  have hw2 := M.heap_lt HX2.out
  have HOR2 := Lib.hid (Go.Proofs.YtndfhejfhfhbdaaGreatDoor.R.own_below HOR.out HBK.out)
  have HOL2 := Lib.hid (Go.Proofs.YtndfhejfhfhbdaaGreatDoor.R.own_below HOL.out HBK.out)
  have HNP := Lib.hid (show ¬ ∃ a, lo = some a ∧ p = a.block from fun ⟨a, e, ea⟩ => (HG7.out a e).2 ea.symm)
  have hzz2 : w0.heap.size ≤ W2.heap.size := HE2.out.bl.size
  refine wp_region_inv (R3I W2 w0.heap.size p w.heap.size lo Y lc dn D.length dc x) (by kernel_rfl) (by kernel_rfl) ?_ ?_ ?_
  · refine R3_start _ _ _ _ _ _ _ _ _ _ _ _ _ (fun _ _ _ _ _ _ _ _ _ _ => ?_)
    constructor
    all_goals (first | exact (fun _ => below_drawn W2) | (intro e; cases e))
  ·
    intro listed a wx i o hI hil ho hn he
    obtain ⟨b0, b1, b2, b3, b4, b5, b6, b7, b8, b9, b10, x23, x24, x25, x26, x27, x28, x29, x30, x31, x32, rfl, rfl, h⟩ := hI
    have hin : i = 0 ∨ i = 1 ∨ i = 2 ∨ i = 3 ∨ i = 4 ∨ i = 5 ∨ i = 6 ∨ i = 7 ∨ i = 8 ∨ i = 9 ∨ i = 10 := by
      have : i < 11 := hil
      omega
    have H := Lib.hid h
    clear h hil
    rcases hin with rfl | rfl | rfl | rfl | rfl | rfl | rfl | rfl | rfl | rfl | rfl <;> obtain rfl := Option.some.inj ho
    ·
      refine wpOp_hid rfl (fun K hK => ?_)
      simp only [List.setIfInBounds_toArray, List.set_cons_succ, List.set_cons_zero]
      go_simp
      refine hK.out _ _ ⟨true, b1, b2, b3, b4, b5, b6, b7, b8, b9, b10, (.pointer (some ⟨p, 0, none⟩)), x24, x25, x26, x27, x28, x29, x30, x31, x32, rfl, ?_, ?_⟩
      · simp only [List.setIfInBounds_toArray, List.set_cons_succ, List.set_cons_zero]
      exact { H.out with
        k0 := fun _ => rfl
        c8_0 := fun _ => rfl }
    ·
      refine wpOp_hid rfl (fun K hK => ?_)
      simp only [List.setIfInBounds_toArray, List.set_cons_succ, List.set_cons_zero]
      go_simp
      refine hK.out _ _ ⟨b0, true, b2, b3, b4, b5, b6, b7, b8, b9, b10, x23, (.pointer (some ⟨p, 0, none⟩)), x25, x26, x27, x28, x29, x30, x31, x32, rfl, ?_, ?_⟩
      · simp only [List.setIfInBounds_toArray, List.set_cons_succ, List.set_cons_zero]
      exact { H.out with
        k1 := fun _ => rfl
        c2_1 := fun _ => rfl }
    ·
      have d1 : b1 = true := he { on := 1, ground := .data } (by simp) (by kernel_rfl)
      obtain rfl := H.out.k1 d1
      refine wpOp_hid rfl (fun K hK => ?_)
      simp only [List.setIfInBounds_toArray, List.set_cons_succ, List.set_cons_zero]
      go_simp
      refine hK.out _ _ ⟨b0, b1, true, b3, b4, b5, b6, b7, b8, b9, b10, x23, (.pointer (some ⟨p, 0, none⟩)), (.pointer (some ⟨p, 0, none⟩)), x26, x27, x28, x29, x30, x31, x32, rfl, ?_, ?_⟩
      · simp only [List.setIfInBounds_toArray, List.set_cons_succ, List.set_cons_zero]
      exact { H.out with
        k2 := fun _ => rfl
        c2_1 := fun _ => d1
        c3_2 := fun _ => rfl }
    ·
      have d2 : b2 = true := he { on := 2, ground := .data } (by simp) (by kernel_rfl)
      obtain rfl := H.out.k2 d2
      refine wpOp_hid rfl (fun K hK => ?_)
      simp only [List.setIfInBounds_toArray, List.set_cons_succ, List.set_cons_zero]
      go_simp
      refine hK.out _ _ ⟨b0, b1, b2, true, b4, b5, b6, b7, b8, b9, b10, x23, x24, (.pointer (some ⟨p, 0, none⟩)), (.pointer (some ⟨p, 0, none⟩)), x27, x28, x29, x30, x31, x32, rfl, ?_, ?_⟩
      · simp only [List.setIfInBounds_toArray, List.set_cons_succ, List.set_cons_zero]
      exact { H.out with
        k3 := fun _ => rfl
        c3_2 := fun _ => d2
        c4_3 := fun _ => rfl }
    ·
      have hy7 : b7 = false := by
        cases h : b7 with
        | false => rfl
        | true =>
          have h1 := (H.out.c7_4 h)
          have h2 : b4 = false := hn
          rw [h2] at h1
          cases h1
      have d3 : b3 = true := he { on := 3, ground := .data } (by simp) (by kernel_rfl)
      obtain rfl := H.out.k3 d3
      refine wpOp_hid rfl (fun K hK => ?_)
      simp only [List.setIfInBounds_toArray, List.set_cons_succ, List.set_cons_zero]
      have hbl := H.out.kin hy7
      have n0 : wx.cell? ⟨p, 0, none⟩ = some (.slice lo Y.length lc) := cell_of_row wx p 0 _ _ _ ((hbl.block _ hp2).trans HP2.out)
      clear hbl
      go_simp
      refine hK.out _ _ ⟨b0, b1, b2, b3, true, b5, b6, b7, b8, b9, b10, x23, x24, x25, (.pointer (some ⟨p, 0, none⟩)), (.slice lo Y.length lc), x28, x29, x30, x31, x32, rfl, ?_, ?_⟩
      · simp only [List.setIfInBounds_toArray, List.set_cons_succ, List.set_cons_zero]
      exact { H.out with
        k4 := fun _ => rfl
        c4_3 := fun _ => d3
        c7_4 := fun _ => rfl }
    ·
      have hy7 : b7 = false := by
        cases h : b7 with
        | false => rfl
        | true =>
          have h1 := (H.out.c6_5 (H.out.c7_6 h))
          have h2 : b5 = false := hn
          rw [h2] at h1
          cases h1
      refine wpOp_hid rfl (fun K hK => ?_)
      simp only [List.setIfInBounds_toArray, List.set_cons_succ, List.set_cons_zero]
      have hbl := H.out.kin hy7
      obtain ⟨n0, n1, n2, n3, n4, n5, n6, n7, n8, n9, n10, n11, n12, n13, n14, n15⟩ := box16 ((hbl.block _ hw2).trans HX2.out)
      clear hbl
      go_simp
      refine hK.out _ _ ⟨b0, b1, b2, b3, b4, true, b6, b7, b8, b9, b10, x23, x24, x25, x26, x27, (recV x), x29, x30, x31, x32, rfl, ?_, ?_⟩
      · simp only [List.setIfInBounds_toArray, List.set_cons_succ, List.set_cons_zero]
      exact { H.out with
        k5 := fun _ => rfl
        c6_5 := fun _ => rfl }
    ·
      have hy7 : b7 = false := by
        cases h : b7 with
        | false => rfl
        | true =>
          have h1 := (H.out.c7_6 h)
          have h2 : b6 = false := hn
          rw [h2] at h1
          cases h1
      have hy10 : b10 = false := by
        cases h : b10 with
        | false => rfl
        | true =>
          have h1 := (H.out.c7_6 (H.out.c10_7 h))
          have h2 : b6 = false := hn
          rw [h2] at h1
          cases h1
      have d5 : b5 = true := he { on := 5, ground := .data } (by simp) (by kernel_rfl)
      obtain rfl := H.out.k5 d5
      subst hy7 hy10
      have HBL := Lib.hid ((H.out.kin rfl).trans (((Below.refl wx.heap.size wx).alloc (Nat.le_refl _) (.cells (recA x) 38)).mono (H.out.kin rfl).size))
      refine wpOp_hid rfl (fun K hK => ?_)
      simp only [List.setIfInBounds_toArray, List.set_cons_succ, List.set_cons_zero]
      go_simp
      refine hK.out _ _ ⟨b0, b1, b2, b3, b4, b5, true, false, b8, b9, false, x23, x24, x25, x26, x27, (recV x), (.slice (some ⟨wx.heap.size, 0, none⟩) 1 1), x30, x31, x32, rfl, ?_, ?_⟩
      · simp only [List.setIfInBounds_toArray, List.set_cons_succ, List.set_cons_zero]
      exact { H.out with
        kin := fun _ => HBL.out
        kb := fun _ _ => ⟨wx.heap.size, rfl, (H.out.kin rfl).size, heap_alloc_new wx _⟩
        ka := fun e => by cases e
        ks := fun e => by cases e
        c6_5 := fun _ => d5
        c7_6 := fun _ => rfl }
    ·
      have hap : b7 = false := hn
      have hy10 : b10 = false := by
        cases h : b10 with
        | false => rfl
        | true =>
          have h1 := (H.out.c10_7 h)
          have h2 : b7 = false := hn
          rw [h2] at h1
          cases h1
      have d4 : b4 = true := he { on := 4, ground := .data } (by simp) (by kernel_rfl)
      obtain rfl := H.out.k4 d4
      have d6 : b6 = true := he { on := 6, ground := .data } (by simp) (by kernel_rfl)
      subst hap hy10
      obtain ⟨gn, rfl, hgu, hgn⟩ := H.out.kb d6 rfl
      have hbl := H.out.kin rfl
      have HOW := Lib.hid (Go.Proofs.YtndfhejfhfhbdaaGreatDoor.R.own_below HOR2.out hbl)
      have HM := Lib.hid (Mods.of_below (S := fun j => ∃ a, lo = some a ∧ j = a.block) hbl)
      have HSG := Lib.hid (src_at hgn)
      have hsz0 := hbl.size
      clear hbl hgn
      refine wpOp_hid rfl (fun K hK => ?_)
      simp only [List.setIfInBounds_toArray, List.set_cons_succ, List.set_cons_zero]
      rw [if_pos (by rfl)]
      refine wp_apps2 recC 16 (fun _ => rfl) (by decide) recC_one (by rfl) (.tmp 27) (.tmp 29) 28 (by rfl) w0.heap.size 38 i0 _ 160 Tryz.underlying28 hi hz0 hz1 hz2 (by decide) rfl lo lc Y.length Y rfl _ 1 1 [x] rfl (by rfl) (by exact HOW.out) (by rfl) (by exact HSG.out) (by omega) (by omega) ?_
      intro ao cap w2 hown hmod hbel hfr
      refine hK.out _ _ ⟨b0, b1, b2, b3, b4, b5, b6, true, b8, b9, false, x23, x24, x25, x26, (.slice lo Y.length lc), x28, (.slice (some ⟨gn, 0, none⟩) 1 1), (.slice ao (Y.length + 1) cap), x31, x32, rfl, ?_, ?_⟩
      · simp only [Act.put, List.getElem_toArray, List.getElem_cons_succ, List.getElem_cons_zero, List.setIfInBounds_toArray, List.set_cons_succ, List.set_cons_zero]
      exact { H.out with
        kin := fun e => by cases e
        kb := fun _ e => by cases e
        ka := fun _ _ => ⟨ao, cap, rfl, hown, HM.out.trans hmod, fun a e => (hfr a e).imp id (fun h => Nat.le_trans hsz0 h)⟩
        ks := fun e => by cases e
        c7_4 := fun _ => d4
        c7_6 := fun _ => d6
        c10_7 := fun _ => rfl }
    ·
      have d0 : b0 = true := he { on := 0, ground := .data } (by simp) (by kernel_rfl)
      obtain rfl := H.out.k0 d0
      refine wpOp_hid rfl (fun K hK => ?_)
      simp only [List.setIfInBounds_toArray, List.set_cons_succ, List.set_cons_zero]
      go_simp
      refine hK.out _ _ ⟨b0, b1, b2, b3, b4, b5, b6, b7, true, b9, b10, (.pointer (some ⟨p, 0, none⟩)), x24, x25, x26, x27, x28, x29, x30, (.pointer (some ⟨p, 0, none⟩)), x32, rfl, ?_, ?_⟩
      · simp only [List.setIfInBounds_toArray, List.set_cons_succ, List.set_cons_zero]
      exact { H.out with
        k8 := fun _ => rfl
        c8_0 := fun _ => d0
        c9_8 := fun _ => rfl }
    ·
      have d8 : b8 = true := he { on := 8, ground := .data } (by simp) (by kernel_rfl)
      obtain rfl := H.out.k8 d8
      refine wpOp_hid rfl (fun K hK => ?_)
      simp only [List.setIfInBounds_toArray, List.set_cons_succ, List.set_cons_zero]
      go_simp
      refine hK.out _ _ ⟨b0, b1, b2, b3, b4, b5, b6, b7, b8, true, b10, x23, x24, x25, x26, x27, x28, x29, x30, (.pointer (some ⟨p, 0, none⟩)), (.pointer (some ⟨p, 0, none⟩)), rfl, ?_, ?_⟩
      · simp only [List.setIfInBounds_toArray, List.set_cons_succ, List.set_cons_zero]
      exact { H.out with
        k9 := fun _ => rfl
        c9_8 := fun _ => d8
        c10_9 := fun _ => rfl }
    ·
      have hst : b10 = false := hn
      have d9 : b9 = true := he { on := 9, ground := .data } (by simp) (by kernel_rfl)
      obtain rfl := H.out.k9 d9
      have d7 : b7 = true := he { on := 7, ground := .data } (by simp) (by kernel_rfl)
      subst hst
      obtain ⟨ao, cap, rfl, hown, hm, hfr⟩ := H.out.ka d7 rfl
      have HOWN2 := Lib.hid hown
      have HM2 := Lib.hid hm
      have HFR2 := Lib.hid hfr
      have hg9 := hm.heap HP2.out HNP.out
      have HG9 := Lib.hid hg9
      have n0 : wx.cell? ⟨p, 0, none⟩ = some (.slice lo Y.length lc) := cell_of_row wx p 0 _ _ _ hg9
      have nf : wx.frozen? ⟨p, 0, none⟩ = false := by simp [World.frozen?, hg9, refO]
      clear hown hm hg9 hfr
      refine wpOp_hid rfl (fun K hK => ?_)
      simp only [List.setIfInBounds_toArray, List.set_cons_succ, List.set_cons_zero]
      go_simp
      refine hK.out _ _ ⟨b0, b1, b2, b3, b4, b5, b6, b7, b8, b9, true, x23, x24, x25, x26, x27, x28, x29, (.slice ao (Y.length + 1) cap), x31, (.pointer (some ⟨p, 0, none⟩)), rfl, ?_, ?_⟩
      · simp only [List.setIfInBounds_toArray, List.set_cons_succ, List.set_cons_zero]
      have ms : Mods (fun j => j = p) wx (wx.setCell ⟨p, 0, none⟩ (.slice ao (Y.length + 1) cap)) := (Mods.refl (fun j => j = p) wx).setCell (p := ⟨p, 0, none⟩) (fun _ => rfl) _
      have hs9 := heap_set wx p 0 (.slice ao (Y.length + 1) cap) p _ _ _ HG9.out
      rw [if_pos rfl] at hs9
      have hop : ∀ a, ao = some a → ¬ a.block = p := fun a e ea => by
        obtain ⟨cs, hh, _⟩ := own_heap HOWN2.out a e
        rw [ea, HG9.out] at hh
        exact absurd (Option.some.inj hh) (by unfold refO; simp)
      exact { H.out with
        kin := fun e => by rw [d7] at e; cases e
        kb := fun _ e => by rw [d7] at e; cases e
        ka := fun _ e => by cases e
        ks := fun _ => ⟨ao, cap, own_kept2 HOWN2.out ms hop, (HM2.out.mono (fun _ _ e => .inl e)).trans (ms.mono (fun _ _ e => .inr e)), HFR2.out, hs9⟩
        c10_9 := fun _ => d9
        c10_7 := fun _ => d7 }
  · intro listed a wx hI hall
    obtain ⟨b0, b1, b2, b3, b4, b5, b6, b7, b8, b9, b10, x23, x24, x25, x26, x27, x28, x29, x30, x31, x32, rfl, rfl, h⟩ := hI
    obtain rfl : b10 = true := hall 10 (by decide)
    obtain ⟨ao, cap, hown, hm, hfr, hs⟩ := h.ks rfl
    have HFIN := Lib.hid (commit_fin H.out HO.out (HB.out.trans (HBK.out.mono HB.out.size)) HP2.out HOR2.out HOL2.out HG7.out HG8.out hm hown hfr hs)
    clear h hown hm hfr hs
    simp only [List.setIfInBounds_toArray, List.set_cons_succ, List.set_cons_zero]
    go_wp2_with fail
    go_ret
    exact ⟨rfl, HFIN.out⟩
end Go.Proofs.YtndfhejfhfhbdaaGreatDoor.O
