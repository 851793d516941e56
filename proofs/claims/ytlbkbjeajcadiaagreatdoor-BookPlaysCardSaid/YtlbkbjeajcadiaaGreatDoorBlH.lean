/- The document's Hang. -/
import Derived.Test.YtlbkbjeajcadiaaGreatDoorBlG
import Derived.Test.YtlbkbjeajcadiaaGreatDoorMrg25
import Derived.Test.YtlbkbjeajcadiaaGreatDoorInv
namespace Go.Proofs.YtlbkbjeajcadiaaGreatDoor.B
open Go.RowKit Go.Proofs.YtlbkbjeajcadiaaGreatDoor.M Go.BigFrame Go.Maps Go.Proofs.YtlbkbjeajcadiaaGreatDoor.O Go.Proofs.YtlbkbjeajcadiaaGreatDoor.P Go.Proofs.YtlbkbjeajcadiaaGreatDoor.Mp Go.Proofs.YtlbkbjeajcadiaaGreatDoor.Rw Go.Proofs.YtlbkbjeajcadiaaGreatDoor.R
set_option linter.unusedVariables false
set_option linter.unusedSimpArgs false

section
variable {P : Program} {w : World} {α : Type}
theorem step_apps2 (enc : α → List Value) (k : Nat) (hk : ∀ x, (enc x).length = k) (h0 : 0 < k) (h1 : ∀ x, ∀ v ∈ enc x, v.oneCell' = true) {ops : Array Oper} {o : Oper} {a : Act} {K : Act → World → Prop} {Q : Exit → Act → World → Prop} {E : Prop} (hgd : o.guard = none) (s x : Operand) (t : TypeId)
    (ho : o.op = .call { callee := .builtin .append, args := #[s, x], argTypes := #[t, t] }) (B : Nat) (e : TypeId) (i : TypeInfo) (z : Value) (bytes : Nat) (ht : P.underlying t = some (.slice e)) (hi : P.info? e = some i) (hz : i.zero = some z)
    (hsize : i.size = k) (hby : i.bytes = bytes) (hb2 : bytes ≤ 1000) (hzs : z.cells.size = k) (oo : Option Addr) (oc m : Nat) (M : List α) (hMl : M.length = m) (so : Option Addr) (sc n : Nat) (N : List α) (hNl : N.length = n) (hs : a.eval s = .slice oo m oc)
    (hown : w.ownsRow B e k (.slice oo m oc) m (M.flatMap enc)) (hx : a.eval x = .slice so n sc) (hsrc : SrcAt w so (N.flatMap enc)) (hM : m + n ≤ 100000000) (hB : B ≤ w.heap.size)
    (h : ∀ oo' oc' w', w'.ownsRow B e k (.slice oo' (m + n) oc') (m + n) ((M ++ N).flatMap enc) → Mods (fun j => ∃ a, oo = some a ∧ j = a.block) w w' → Below B w w' → (∀ a, oo' = some a → (∃ a0, oo = some a0 ∧ a.block = a0.block) ∨ w.heap.size ≤ a.block) → K (a.put o.dst (.slice oo' (m + n) oc')) w') :
    if Region.wanted o (yielded ops a.tmps) = true then Oper.wp P o a w K Q else E := by
  cases N with
  | nil =>
    obtain rfl : n = 0 := by rw [← hNl]; rfl
    have hrun := run_append_owned_empty (P := P) (w := w) B t o.type e i k ht hi _ _ _ hown so sc
    have hK := h oo oc w (by simpa using hown) (Mods.refl _ _) (Below.refl _ _) (fun a e => .inl ⟨a, e, rfl⟩)
    rw [Nat.add_zero] at hK
    have hw : Region.wanted o (yielded ops a.tmps) = true := by simp [Region.wanted, hgd]
    rw [if_pos hw]
    unfold Oper.wp
    simp [execOp, ho, resolve, invoke, builtin, hs, hx, hrun, Result.andThen]
    exact hK
  | cons y N' =>
    obtain ⟨N, hN⟩ : ∃ N, y :: N' = N := ⟨_, rfl⟩
    have hpos : 0 < n := by rw [← hNl]; simp
    rw [hN] at hNl hsrc h
    clear hN
    have hlen : (N.flatMap enc).length = n * k := by rw [← hNl]; exact Rw.flat_len enc k hk N
    have hne : N.flatMap enc ≠ [] := fun e0 => by
      rw [e0] at hlen
      have := Nat.mul_pos hpos h0
      simp at hlen
      omega
    obtain ⟨ad, rfl, hcells⟩ := hsrc hne
    refine step_append_lies _ hgd s x t ho B e i z k bytes ht hi hz hsize hby hzs h0 (.slice oo m oc) m (M.flatMap enc) hs hown ad n sc (N.flatMap enc) hx hlen hcells
      (fun u hu => by obtain ⟨x, hx1, hx2⟩ := List.mem_flatMap.1 hu; exact h1 x u hx2) hpos (by unfold maxLen; omega) ?_ hB w.heap.size rfl ?_
    · have : (m + n) * bytes ≤ 100000000 * 1000 := Nat.mul_le_mul (by omega) hb2
      omega
    · intro g cap w' hown' hgrow hgg _
      have hm : Mods (fun j => ∃ a, oo = some a ∧ j = a.block) w w' := (Mods.refl _ w).then (Mods.of_grown hgrow) (fun k _ hk => by
        cases oo with
        | none => cases hk
        | some a => exact ⟨a, rfl, (Option.some.inj hk).symm⟩)
      have hb : Below B w w' := hm.below (fun j ⟨a, e1, e2⟩ => by
        subst e1
        rw [e2]
        exact (hown.lt a.block rfl).1) hB
      exact h (some ⟨g, 0, none⟩) cap w' (by rw [List.flatMap_append]; exact hown') hm hb (fun a e => by
        cases e
        rcases hgg with h1 | h1
        · left
          cases oo with
          | none => cases h1
          | some a0 => exact ⟨a0, rfl, (Option.some.inj h1).symm⟩
        · right
          exact Nat.le_of_eq h1.symm)
theorem wp_apps2 (enc : α → List Value) (k : Nat) (hk : ∀ x, (enc x).length = k) (h0 : 0 < k) (h1 : ∀ x, ∀ v ∈ enc x, v.oneCell' = true) {o : Oper} {a : Act} {K : Act → World → Prop} {Q : Exit → Act → World → Prop} (hgd : o.guard = none) (s x : Operand) (t : TypeId)
    (ho : o.op = .call { callee := .builtin .append, args := #[s, x], argTypes := #[t, t] }) (B : Nat) (e : TypeId) (i : TypeInfo) (z : Value) (bytes : Nat) (ht : P.underlying t = some (.slice e)) (hi : P.info? e = some i) (hz : i.zero = some z)
    (hsize : i.size = k) (hby : i.bytes = bytes) (hb2 : bytes ≤ 1000) (hzs : z.cells.size = k) (oo : Option Addr) (oc m : Nat) (M : List α) (hMl : M.length = m) (so : Option Addr) (sc n : Nat) (N : List α) (hNl : N.length = n) (hs : a.eval s = .slice oo m oc)
    (hown : w.ownsRow B e k (.slice oo m oc) m (M.flatMap enc)) (hx : a.eval x = .slice so n sc) (hsrc : SrcAt w so (N.flatMap enc)) (hM : m + n ≤ 100000000) (hB : B ≤ w.heap.size)
    (h : ∀ oo' oc' w', w'.ownsRow B e k (.slice oo' (m + n) oc') (m + n) ((M ++ N).flatMap enc) → Mods (fun j => ∃ a, oo = some a ∧ j = a.block) w w' → Below B w w' → (∀ a, oo' = some a → (∃ a0, oo = some a0 ∧ a.block = a0.block) ∨ w.heap.size ≤ a.block) → K (a.put o.dst (.slice oo' (m + n) oc')) w') :
    Oper.wp P o a w K Q := by
  have hh := step_apps2 (ops := #[]) (Q := Q) (E := True) enc k hk h0 h1 hgd s x t ho B e i z bytes ht hi hz hsize hby hb2 hzs oo oc m M hMl so sc n N hNl hs hown hx hsrc hM hB h
  have hw : Region.wanted o (yielded #[] a.tmps) = true := by simp [Region.wanted, hgd]
  rw [if_pos hw] at hh
  exact hh
end
theorem src_id {w : World} {g : Nat} {x : O.Id} (h1 : w.heap[g]? = some (.cells #[.int .i64 x.r, .int .i64 x.n] 31 (0, 0))) : SrcAt w (some ⟨g, 0, none⟩) ([x].flatMap idC) := by
  intro _
  refine ⟨_, rfl, fun j u hj => ?_⟩
  have e : (⟨g, 0, none⟩ : Addr).add j = ⟨g, j, none⟩ := by
    unfold Addr.add
    split
    · next e => rw [e]
    · rw [Nat.zero_add]
  rw [e, cell_of_row _ _ _ _ _ _ h1, ← Array.getElem?_toList]
  simpa using hj
theorem set_self (arr : Array Value) (j : Nat) : arr.setIfInBounds j (arr.getD j undef) = arr := by
  apply Array.ext_getElem?
  intro i
  rw [Array.getElem?_setIfInBounds]
  by_cases h : j = i
  · subst h
    by_cases hj : j < arr.size
    · simp [Array.getD, hj]
    · simp [hj]
  · simp [h]
theorem own_apart_attr {w : World} {B n cap k : Nat} {ao : Option Addr} {xs : List Value} {a1 : Option Addr} {n1 c1 : Nat} {sq tg : Int} (h : w.ownsRow B 31 2 (.slice ao n cap) n xs) (e : (Value.slice ao n cap).ownBlock = some k) (hg : w.heap[k]? = some (atrO a1 n1 c1 sq tg)) : False := by
  cases ao with
  | none => cases e
  | some a =>
    obtain rfl : a.block = k := Option.some.inj e
    obtain ⟨cs, hh, _⟩ := K.own_heap h a rfl
    rw [hg] at hh
    exact absurd (Option.some.inj hh) (by simp)
structure H8S (u : World) (B p : Nat) (oo : Option Addr) (Y : List O.Id) (lc : Nat) (tag : Int) (b off k n cap0 : Nat) (x : O.Id) (b0 b1 b2 b3 b4 b5 b6 b7 b8 b9 b10 : Bool) (x68 x69 x70 x71 x72 x73 x74 x75 x76 x77 : Value) (w : World) : Prop where
  k0 : b0 = true → x68 = .pointer (some ⟨p, 0, none⟩)
  k1 : b1 = true → x69 = .slice oo Y.length lc
  k2 : b2 = true → x70 = .slice (some ⟨b, off, none⟩) n cap0
  k3 : b3 = true → x71 = .int .i64 k
  k4 : b4 = true → x72 = .pointer (some ⟨b, off + k * 16, none⟩)
  k5 : b5 = true → x73 = .pointer (some ⟨b, off + k * 16, none⟩)
  k6 : b6 = true → x74 = idV x
  k9 : b9 = true → x77 = .pointer (some ⟨p, 0, none⟩)
  kin : b8 = false → Below u.heap.size u w
  kb : b7 = true → b8 = false → ∃ g2, x75 = .slice (some ⟨g2, 0, none⟩) 1 1 ∧ u.heap.size ≤ g2 ∧ w.heap[g2]? = some (.cells #[.int .i64 x.r, .int .i64 x.n] 31 (0, 0))
  ka : b8 = true → b10 = false → ∃ ao cap, x76 = .slice ao (Y.length + 1) cap ∧ w.ownsRow B 31 2 (.slice ao (Y.length + 1) cap) (Y.length + 1) ((Y ++ [x]).flatMap idC) ∧ Mods (fun j => ∃ a, oo = some a ∧ j = a.block) u w ∧ (∀ a, ao = some a → (∃ a0, oo = some a0 ∧ a.block = a0.block) ∨ u.heap.size ≤ a.block)
  ks : b10 = true → ∃ ao cap, w.ownsRow B 31 2 (.slice ao (Y.length + 1) cap) (Y.length + 1) ((Y ++ [x]).flatMap idC) ∧ Mods (fun j => (∃ a, oo = some a ∧ j = a.block) ∨ j = p) u w ∧ (∀ a, ao = some a → (∃ a0, oo = some a0 ∧ a.block = a0.block) ∨ u.heap.size ≤ a.block) ∧ w.heap[p]? = some (atrO ao (Y.length + 1) cap 0 tag)
  c1_0 : b1 = true → b0 = true
  c4_2 : b4 = true → b2 = true
  c4_3 : b4 = true → b3 = true
  c5_4 : b5 = true → b4 = true
  c6_5 : b6 = true → b5 = true
  c7_6 : b7 = true → b6 = true
  c8_1 : b8 = true → b1 = true
  c8_7 : b8 = true → b7 = true
  c9_8 : b9 = true → b8 = true
  c10_9 : b10 = true → b9 = true
  c10_8 : b10 = true → b8 = true
def H8I (u : World) (B p : Nat) (oo : Option Addr) (Y : List O.Id) (lc : Nat) (tag : Int) (b off k n cap0 : Nat) (x : O.Id) (arr : Array Value) (listed : Array Bool) (a : Act) (w : World) : Prop :=
  ∃ (b0 b1 b2 b3 b4 b5 b6 b7 b8 b9 b10 : Bool) (x68 x69 x70 x71 x72 x73 x74 x75 x76 x77 : Value), listed = #[b0, b1, b2, b3, b4, b5, b6, b7, b8, b9, b10] ∧ a = ⟨((((((((((arr.setIfInBounds 68 x68).setIfInBounds 69 x69).setIfInBounds 70 x70).setIfInBounds 71 x71).setIfInBounds 72 x72).setIfInBounds 73 x73).setIfInBounds 74 x74).setIfInBounds 75 x75).setIfInBounds 76 x76).setIfInBounds 77 x77), []⟩ ∧ H8S u B p oo Y lc tag b off k n cap0 x b0 b1 b2 b3 b4 b5 b6 b7 b8 b9 b10 x68 x69 x70 x71 x72 x73 x74 x75 x76 x77 w
theorem H8_start (u : World) (B p : Nat) (oo : Option Addr) (Y : List O.Id) (lc : Nat) (tag : Int) (b off k n cap0 : Nat) (x : O.Id) (arr : Array Value) (w : World) (h : ∀ x68 x69 x70 x71 x72 x73 x74 x75 x76 x77, H8S u B p oo Y lc tag b off k n cap0 x false false false false false false false false false false false x68 x69 x70 x71 x72 x73 x74 x75 x76 x77 w) : H8I u B p oo Y lc tag b off k n cap0 x arr (Array.replicate 11 false) ⟨arr, []⟩ w :=
  ⟨false, false, false, false, false, false, false, false, false, false, false, arr.getD 68 undef, arr.getD 69 undef, arr.getD 70 undef, arr.getD 71 undef, arr.getD 72 undef, arr.getD 73 undef, arr.getD 74 undef, arr.getD 75 undef, arr.getD 76 undef, arr.getD 77 undef, rfl, by simp only [set_self], h _ _ _ _ _ _ _ _ _ _⟩
theorem mostV_app (l : List Int) (v : Int) : mostV (l ++ [v]) = max (mostV l) v := by
  unfold mostV
  rw [List.foldl_append]
  rfl
def metB (c : Cmd) (i : O.Id) (x : Rv) : Bool := decide (x.id ≠ i) && meetsR c x
theorem metR_next {X : List Rv} {c : Cmd} {i : O.Id} {k : Nat} {x : Rv} (h : X[k]? = some x) : metR (X.take (k + 1)) c i = metR (X.take k) c i ++ (if metB c i x = true then [x] else []) := by
  unfold metR
  rw [List.take_add_one, h, List.filter_append]
  congr 1
  show List.filter _ [x] = _
  unfold metB
  rw [List.filter_cons, List.filter_nil]
/-- what the document's Hang has come to -/
structure HaS (W wr : World) (B p : Nat) (tag : Int) (oo : Option Addr) (oc : Nat) (L : List O.Id) : Prop where
  box : wr.heap[p]? = some (atrO oo L.length oc 0 tag)
  own : OwnL wr B oo oc L
  mods : Mods (fun j => j = p) W wr
  ne : ∀ a, oo = some a → W.heap.size ≤ a.block
theorem HaS.below {W wr wx : World} {B p : Nat} {tag : Int} {oo : Option Addr} {oc : Nat} {L : List O.Id} (h : HaS W wr B p tag oo oc L) (hb : Below wr.heap.size wr wx) : HaS W wx B p tag oo oc L :=
  ⟨(hb.block _ (M.heap_lt h.box)).trans h.box, eown_b h.own hb, h.mods.then (Mods.of_below (S := fun _ => False) hb) (fun _ _ h => h.elim), h.ne⟩
set_option maxRecDepth 100000 in
set_option maxHeartbeats 4000000 in
theorem refhang_any (X : List Rv) (ao : Option Addr) (cap : Nat) (c : Cmd) (i : O.Id) (tag : Int) (w : World) (h : RecsV w ao cap X) (hl : X.length ≤ 1000) (hok : ∀ x ∈ X, recOk x = true) :
    Calls Tryz.prog 23 #[.slice ao X.length cap, cmdV c, idV i, .int .i64 tag] w fun e w' => ∃ oo oc, e = .returned (.agg #[.slice oo (setI ((metR X c i).map Rv.id)).length oc, .int .i64 (hangV tag (mostV ((metR X c i).map Rv.seq))), .int .i64 tag]) ∧ (OwnL w' w.heap.size oo oc (setI ((metR X c i).map Rv.id)) ∧ Below w.heap.size w w') := by
  obtain ⟨hl1, hl2⟩ := h.le
  unfold maxLen at hl2
  obtain ⟨i0, hi, hz0, hz1, hz2⟩ := info_parts info_id
  have H := Lib.hid h
  have HOK := Lib.hid hok
  clear h hok
  go_enter Tryz.func23, Tryz.ntmps23
  go_upto_region 2 with fail
  obtain ⟨W, hW⟩ : ∃ W, W = (((w.alloc (.cells (cmdA c) 24)).alloc (idO i)).alloc (.cells #[.slice none 0 0, .int .i64 0, .int .i64 0] 38)).alloc (.cells #[.slice none 0 0, .int .i64 0, .int .i64 tag] 38) := ⟨_, rfl⟩
  rw [← hW]
  have HB : Hid (Below w.heap.size w W) := Lib.hid (by rw [hW]; exact ((((Below.refl _ _).alloc (Nat.le_refl _) _).alloc (by simp) _).alloc (by simp; omega) _).alloc (by simp; omega) _)
  have HC : Hid (W.heap[w.heap.size]? = some (.cells (cmdA c) 24 (0, 0))) := Lib.hid (by rw [hW, heap_al, if_neg (by simp only [World.size_alloc]; omega), heap_al, if_neg (by simp only [World.size_alloc]; omega), heap_al, if_neg (by simp only [World.size_alloc]; omega)]; exact heap_alloc_new w _)
  have HX : Hid (W.heap[w.heap.size + 1]? = some (idO i)) := Lib.hid (by rw [hW, heap_al, if_neg (by simp only [World.size_alloc]; omega), heap_al, if_neg (by simp only [World.size_alloc]; omega), heap_al, if_pos (by simp)])
  have HZ : Hid (W.heap[w.heap.size + 1 + 1]? = some (atrO none 0 0 0 0)) := Lib.hid (by rw [hW, heap_al, if_neg (by simp only [World.size_alloc]; omega), heap_al, if_pos (by simp)])
  have HP : Hid (W.heap[w.heap.size + 1 + 1 + 1]? = some (atrO none 0 0 0 tag)) := Lib.hid (by rw [hW, heap_al, if_pos (by simp)])
  clear hW
  obtain ⟨gz, hgz⟩ : ∃ g, w.heap.size + 1 + 1 = g := ⟨_, rfl⟩
  rw [hgz] at HZ HP ⊢
  obtain ⟨p, hp⟩ : ∃ g, gz + 1 = g := ⟨_, rfl⟩
  rw [hp] at HP ⊢
  obtain ⟨BB, hBB⟩ : ∃ B, W.heap.size = B := ⟨_, rfl⟩
  have HNE := Lib.hid (show w.heap.size ≠ p ∧ w.heap.size + 1 ≠ p ∧ gz ≠ p ∧ w.heap.size ≤ gz ∧ w.heap.size ≤ p ∧ p < BB ∧ BB = W.heap.size from ⟨by omega, by omega, by omega, by omega, by omega, by rw [← hBB]; exact M.heap_lt HP.out, hBB.symm⟩)
  have HS0 := Lib.hid (show HaS W W BB p tag none 0 [] from ⟨HP.out, World.ownsRow_nil _ _ _ _, Mods.refl _ _, fun a e => by cases e⟩)
  clear hgz hp hBB
  go_wp2_with fail
  go_loopw [10, 11] (fun mv kv wr => ∃ (k : Nat) (m : Int) (L : List O.Id) (oo : Option Addr) (oc : Nat), mv = .int .i64 m ∧ kv = .int .i64 k ∧ k ≤ X.length ∧ (metR (X.take k) c i).map Rv.id = L ∧ mostV ((metR (X.take k) c i).map Rv.seq) = m ∧ L.length ≤ k ∧ m ≤ 1099511627776 ∧ HaS W wr BB p tag oo oc L) (fun _ kv _ => X.length - (intOf kv).toNat)
  case atStart => exact ⟨0, 0, [], none, 0, rfl, rfl, Nat.zero_le _, rfl, rfl, Nat.le_refl _, by decide, HS0.out⟩
  case round =>
    obtain ⟨k, m, L, oo, oc, rfl, rfl, hk, hL, hm, hLk, hmb, hs⟩ := hrel
    have HLE := Lib.hid hL
    have HME := Lib.hid hm
    have HS := Lib.hid hs
    clear hL hm hs HS0
    have HBR := Lib.hid (HB.out.trans (HS.out.mods.below (fun j e => by have := HNE.out; omega) HB.out.size))
    by_cases hkl : k < X.length
    · have hii : (k : Int) < (X.length : Int) := by omega
      obtain ⟨x, hx⟩ : ∃ x, X[k]? = some x := ⟨_, List.getElem?_eq_getElem hkl⟩
      have HNX := Lib.hid (metR_next (c := c) (i := i) hx)
      have HRK := Lib.hid (HOK.out x (List.mem_of_getElem? hx))
      obtain ⟨b, off, e0, hbl, hrec⟩ := H.out.row k x hx
      subst e0
      have HRC := Lib.hid (show ∀ wx, Below w.heap.size w wx → RecAt wx b (off + k * 16) x from fun wx hb => hrec.below hb hbl)
      have HBL := Lib.hid hbl
      have HCW := Lib.hid (show ∀ wx, Below wr.heap.size wr wx → wx.heap[w.heap.size]? = some (.cells (cmdA c) 24 (0, 0)) ∧ wx.heap[w.heap.size + 1]? = some (idO i) from fun wx hb => by
        have h1 := HS.out.mods.heap HC.out HNE.out.1
        have h2 := HS.out.mods.heap HX.out HNE.out.2.1
        exact ⟨(hb.block _ (M.heap_lt h1)).trans h1, (hb.block _ (M.heap_lt h2)).trans h2⟩)
      clear hx hrec hbl
      obtain ⟨o, ho⟩ : ∃ o, (decide (x.st ≠ 3) && decide (x.cmd.kind = 0) && decide (c.kind ≠ 0)) = o := ⟨_, rfl⟩
      obtain ⟨mt, hmt⟩ : ∃ y, metB c i x = y := ⟨_, rfl⟩
      have HOO := Lib.hid ho
      have HMT := Lib.hid (show (decide (x.id ≠ i) && (decide (x.st ≠ 0) && (o || meet c x.cmd))) = mt by rw [← hmt, ← ho]; rfl)
      have HMB := Lib.hid hmt
      clear ho hmt
      go_upto_region 6 with fail
      go_cut [12] (fun ov wx => ov = .bool o ∧ Below wr.heap.size wr wx)
      case first =>
        have c2 := (HRC.out wr HBR.out).c2
        have c7 := (HRC.out wr HBR.out).c7
        obtain ⟨⟨d0, _⟩, _⟩ := box6 (HCW.out wr (Below.refl _ _)).1
        cases h1 : (x.st != 3) with
        | false =>
          have HO := Lib.hid (show false = o by
            have h2 : x.st = 3 := by simpa using h1
            rw [← HOO.out, show decide (x.st ≠ 3) = false from decide_eq_false (fun h => h h2)]; rfl)
          go_wp2_with fail
          go_meet
          exact ⟨by rw [HO.out], Below.refl _ _⟩
        | true =>
          have h2 : x.st ≠ 3 := by simpa using h1
          have HST := Lib.hid h2
          clear h2
          cases h3 : (x.cmd.kind == 0) with
          | false =>
            have HO := Lib.hid (show false = o by
              have h4 : x.cmd.kind ≠ 0 := by simpa using h3
              rw [← HOO.out, decide_eq_false h4, Bool.and_false]; rfl)
            go_wp2_with fail
            go_meet
            exact ⟨by rw [HO.out], Below.refl _ _⟩
          | true =>
            have HO := Lib.hid (show (c.kind != 0) = o by
              have h4 : x.cmd.kind = 0 := by simpa using h3
              rw [← HOO.out, decide_eq_true HST.out, decide_eq_true h4, Bool.true_and, Bool.true_and]
              rw [Bool.eq_iff_iff]; simp)
            go_wp2_with fail
            go_meet
            exact ⟨by rw [HO.out], Below.refl _ _⟩
      case rest =>
      obtain ⟨rfl, hb6⟩ := hcut
      obtain ⟨w6, rfl⟩ : ∃ w1, w1 = wc := ⟨_, rfl⟩
      have HB6 := Lib.hid hb6
      have HBW6 := Lib.hid (HBR.out.trans (hb6.mono HBR.out.size))
      clear hb6
      go_upto_region 7 with fail
      go_cut [67] (fun mv wx => mv = .bool mt ∧ Below wr.heap.size wr wx)
      case first =>
        have HRM := Lib.hid (fun (y : Kin w6) => refmeet_any c x.cmd y.w _ rfl)
        obtain ⟨c0, c1, c2, c3, c4, c5, c6, c7, c8, c9, c10, c11, c12, c13, c14, c15⟩ := HRC.out w6 HBW6.out
        obtain ⟨⟨d0, d1, d2, d3, d4, d5⟩, _⟩ := box6 (HCW.out w6 HB6.out).1
        obtain ⟨⟨f0, f1⟩, _⟩ := box2 (HCW.out w6 HB6.out).2
        have k0 := Kin.cell c0
        have k1 := Kin.cell c1
        have k2 := Kin.cell c2
        have k7 := Kin.cell c7
        have k8 := Kin.cell c8
        have k9 := Kin.cell c9
        have k10 := Kin.cell c10
        have k11 := Kin.cell c11
        have k12 := Kin.cell c12
        have j0 := Kin.cell d0
        have j1 := Kin.cell d1
        have j2 := Kin.cell d2
        have j3 := Kin.cell d3
        have j4 := Kin.cell d4
        have j5 := Kin.cell d5
        have g0 := Kin.cell f0
        have g1 := Kin.cell f1
        clear c0 c1 c2 c3 c4 c5 c6 c7 c8 c9 c10 c11 c12 c13 c14 c15 d0 d1 d2 d3 d4 d5 f0 f1
        by_cases hid : x.id = i
        · have HO := Lib.hid (show false = mt by rw [← HMT.out, show decide (x.id ≠ i) = false from decide_eq_false (fun h => h hid)]; rfl)
          subst hid
          have q1 := neq_no x.id
          refine wp_region_kin (by kernel_rfl) (by kernel_rfl) ?_
          repeat (go_big_quiet_step (fail))
          refine wpQuiet_nil ?_
          intro _ hxx
          obtain ⟨xk, rfl⟩ := hxx
          have HX2 := Lib.hid (HB6.out.trans (xk.h.mono HB6.out.size))
          go_wp2_with fail
          go_meet
          exact ⟨by rw [HO.out], HX2.out⟩
        · have q1 := neq_yes hid
          have HM1 := Lib.hid (show (decide (x.st ≠ 0) && (o || meet c x.cmd)) = mt by rw [← HMT.out, show decide (x.id ≠ i) = true from decide_eq_true hid, Bool.true_and])
          cases h1 : (x.st != 0) with
          | false =>
            have HO := Lib.hid (show false = mt by
              have h2 : x.st = 0 := by simpa using h1
              rw [← HM1.out, show decide (x.st ≠ 0) = false from decide_eq_false (fun h => h h2)]; rfl)
            refine wp_region_kin (by kernel_rfl) (by kernel_rfl) ?_
            repeat (go_big_quiet_step (fail))
            refine wpQuiet_nil ?_
            intro _ hxx
            obtain ⟨xk, rfl⟩ := hxx
            have HX2 := Lib.hid (HB6.out.trans (xk.h.mono HB6.out.size))
            go_wp2_with fail
            go_meet
            exact ⟨by rw [HO.out], HX2.out⟩
          | true =>
            have HM2 := Lib.hid (show (o || meet c x.cmd) = mt by
              have h2 : x.st ≠ 0 := by simpa using h1
              rw [← HM1.out, decide_eq_true h2, Bool.true_and])
            cases o with
            | true =>
              refine wp_region_kin (by kernel_rfl) (by kernel_rfl) ?_
              repeat (go_big_quiet_step (fail))
              refine wpQuiet_nil ?_
              intro _ hxx
              obtain ⟨xk, rfl⟩ := hxx
              have HX2 := Lib.hid (HB6.out.trans (xk.h.mono HB6.out.size))
              go_wp2_with fail
              go_meet
              exact ⟨by rw [← HM2.out]; rfl, HX2.out⟩
            | false =>
              refine wp_region_kin (by kernel_rfl) (by kernel_rfl) ?_
              repeat (go_big_quiet_step ((go_at_call 12; exact Kin.call _ (HRM.out _))))
              refine wpQuiet_nil ?_
              intro _ hxx
              obtain ⟨xk, rfl⟩ := hxx
              have HX2 := Lib.hid (HB6.out.trans (xk.h.mono HB6.out.size))
              go_wp2_with fail
              go_meet
              exact ⟨by rw [← HM2.out]; rfl, HX2.out⟩
      case rest =>
      obtain ⟨rfl, hb7⟩ := hcut
      obtain ⟨w7, rfl⟩ : ∃ w1, w1 = wc := ⟨_, rfl⟩
      have HB7 := Lib.hid hb7
      have HBW7 := Lib.hid (HBR.out.trans (hb7.mono HBR.out.size))
      have HS7 := Lib.hid (HS.out.below hb7)
      clear hb7
      cases mt with
      | false =>
        have HN := Lib.hid (show metR (X.take (k + 1)) c i = metR (X.take k) c i by rw [HNX.out, HMB.out, if_neg Bool.false_ne_true, List.append_nil])
        go_wp2_with fail
        go_roundw
        case rel => exact ⟨k + 1, m, L, oo, oc, rfl, by go_num, by omega, by rw [HN.out]; exact HLE.out, by rw [HN.out]; exact HME.out, by omega, hmb, HS7.out⟩
        case measure => simp [intOf]; omega
      | true =>
        have HN := Lib.hid (show metR (X.take (k + 1)) c i = metR (X.take k) c i ++ [x] by rw [HNX.out, HMB.out, if_pos rfl])
        have HSQ := Lib.hid (show x.seq ≤ 1099511627776 from seq_ok HRK.out (fun h0 => by
          have h1 := HMB.out
          unfold metB meetsR at h1
          rw [h0] at h1
          simp at h1))
        go_upto_region 8 with fail
        have HP2 := Lib.hid HS7.out.box
        have hp2 := M.heap_lt HP2.out
        have HOR2 := Lib.hid HS7.out.own
        have HNP := Lib.hid (show ¬ ∃ a, oo = some a ∧ p = a.block from fun ⟨a, e, ea⟩ => by have := HS7.out.ne a e; have := HNE.out; omega)
        have hbl3 := Nat.lt_of_lt_of_le HBL.out HBW7.out.size
        have HC0 := Lib.hid (HRC.out w7 HBW7.out).c0
        have HC1 := Lib.hid (HRC.out w7 HBW7.out).c1
        have hzz2 : BB ≤ w7.heap.size := by have := HS7.out.mods.size; have := HNE.out; omega
        refine wp_region_inv (H8I w7 BB p oo L oc tag b off k X.length cap x.id) (by kernel_rfl) (by kernel_rfl) ?_ ?_ ?_
        · refine H8_start _ _ _ _ _ _ _ _ _ _ _ _ _ _ _ (fun _ _ _ _ _ _ _ _ _ _ => ?_)
          constructor
          all_goals (first | exact (fun _ => below_drawn w7) | (intro e; cases e))
        ·
          intro listed a wx i o hI hil ho hn he
          obtain ⟨b0, b1, b2, b3, b4, b5, b6, b7, b8, b9, b10, x68, x69, x70, x71, x72, x73, x74, x75, x76, x77, rfl, rfl, h⟩ := hI
          have hin : i = 0 ∨ i = 1 ∨ i = 2 ∨ i = 3 ∨ i = 4 ∨ i = 5 ∨ i = 6 ∨ i = 7 ∨ i = 8 ∨ i = 9 ∨ i = 10 := by
            have : i < 11 := hil
            omega
          have H := Lib.hid h
          clear h hil
          rcases hin with rfl | rfl | rfl | rfl | rfl | rfl | rfl | rfl | rfl | rfl | rfl <;> obtain rfl := Option.some.inj ho
          ·
            refine wpOp_hid rfl (fun K hK => ?_)
            simp only [List.setIfInBounds_toArray, List.set_cons_succ, List.set_cons_zero]
            go_simp
            refine hK.out _ _ ⟨true, b1, b2, b3, b4, b5, b6, b7, b8, b9, b10, (.pointer (some ⟨p, 0, none⟩)), x69, x70, x71, x72, x73, x74, x75, x76, x77, rfl, ?_, ?_⟩
            · simp only [List.setIfInBounds_toArray, List.set_cons_succ, List.set_cons_zero]
            exact { H.out with
              k0 := fun _ => rfl
              c1_0 := fun _ => rfl }
          ·
            have hy8 : b8 = false := by
              cases h : b8 with
              | false => rfl
              | true =>
                have h1 := (H.out.c8_1 h)
                have h2 : b1 = false := hn
                rw [h2] at h1
                cases h1
            have d0 : b0 = true := he { on := 0, ground := .data } (by simp) (by kernel_rfl)
            obtain rfl := H.out.k0 d0
            refine wpOp_hid rfl (fun K hK => ?_)
            simp only [List.setIfInBounds_toArray, List.set_cons_succ, List.set_cons_zero]
            have hbl := H.out.kin hy8
            have n0 : wx.cell? ⟨p, 0, none⟩ = some (.slice oo L.length oc) := cell_of_row wx p 0 _ _ _ ((hbl.block _ hp2).trans HP2.out)
            clear hbl
            go_simp
            refine hK.out _ _ ⟨b0, true, b2, b3, b4, b5, b6, b7, b8, b9, b10, (.pointer (some ⟨p, 0, none⟩)), (.slice oo L.length oc), x70, x71, x72, x73, x74, x75, x76, x77, rfl, ?_, ?_⟩
            · simp only [List.setIfInBounds_toArray, List.set_cons_succ, List.set_cons_zero]
            exact { H.out with
              k1 := fun _ => rfl
              c1_0 := fun _ => d0
              c8_1 := fun _ => rfl }
          ·
            refine wpOp_hid rfl (fun K hK => ?_)
            simp only [List.setIfInBounds_toArray, List.set_cons_succ, List.set_cons_zero]
            go_simp
            refine hK.out _ _ ⟨b0, b1, true, b3, b4, b5, b6, b7, b8, b9, b10, x68, x69, (.slice (some ⟨b, off, none⟩) X.length cap), x71, x72, x73, x74, x75, x76, x77, rfl, ?_, ?_⟩
            · simp only [List.setIfInBounds_toArray, List.set_cons_succ, List.set_cons_zero]
            exact { H.out with
              k2 := fun _ => rfl
              c4_2 := fun _ => rfl }
          ·
            refine wpOp_hid rfl (fun K hK => ?_)
            simp only [List.setIfInBounds_toArray, List.set_cons_succ, List.set_cons_zero]
            go_simp
            refine hK.out _ _ ⟨b0, b1, b2, true, b4, b5, b6, b7, b8, b9, b10, x68, x69, x70, (.int .i64 k), x72, x73, x74, x75, x76, x77, rfl, ?_, ?_⟩
            · simp only [List.setIfInBounds_toArray, List.set_cons_succ, List.set_cons_zero]
            exact { H.out with
              k3 := fun _ => rfl
              c4_3 := fun _ => rfl }
          ·
            have d2 : b2 = true := he { on := 2, ground := .data } (by simp) (by kernel_rfl)
            obtain rfl := H.out.k2 d2
            have d3 : b3 = true := he { on := 3, ground := .data } (by simp) (by kernel_rfl)
            obtain rfl := H.out.k3 d3
            refine wpOp_hid rfl (fun K hK => ?_)
            simp only [List.setIfInBounds_toArray, List.set_cons_succ, List.set_cons_zero]
            go_simp
            refine hK.out _ _ ⟨b0, b1, b2, b3, true, b5, b6, b7, b8, b9, b10, x68, x69, (.slice (some ⟨b, off, none⟩) X.length cap), (.int .i64 k), (.pointer (some ⟨b, off + k * 16, none⟩)), x73, x74, x75, x76, x77, rfl, ?_, ?_⟩
            · simp only [List.setIfInBounds_toArray, List.set_cons_succ, List.set_cons_zero]
            exact { H.out with
              k4 := fun _ => rfl
              c4_2 := fun _ => d2
              c4_3 := fun _ => d3
              c5_4 := fun _ => rfl }
          ·
            have d4 : b4 = true := he { on := 4, ground := .data } (by simp) (by kernel_rfl)
            obtain rfl := H.out.k4 d4
            refine wpOp_hid rfl (fun K hK => ?_)
            simp only [List.setIfInBounds_toArray, List.set_cons_succ, List.set_cons_zero]
            go_simp
            refine hK.out _ _ ⟨b0, b1, b2, b3, b4, true, b6, b7, b8, b9, b10, x68, x69, x70, x71, (.pointer (some ⟨b, off + k * 16, none⟩)), (.pointer (some ⟨b, off + k * 16, none⟩)), x74, x75, x76, x77, rfl, ?_, ?_⟩
            · simp only [List.setIfInBounds_toArray, List.set_cons_succ, List.set_cons_zero]
            exact { H.out with
              k5 := fun _ => rfl
              c5_4 := fun _ => d4
              c6_5 := fun _ => rfl }
          ·
            have hy8 : b8 = false := by
              cases h : b8 with
              | false => rfl
              | true =>
                have h1 := (H.out.c7_6 (H.out.c8_7 h))
                have h2 : b6 = false := hn
                rw [h2] at h1
                cases h1
            have d5 : b5 = true := he { on := 5, ground := .data } (by simp) (by kernel_rfl)
            obtain rfl := H.out.k5 d5
            refine wpOp_hid rfl (fun K hK => ?_)
            simp only [List.setIfInBounds_toArray, List.set_cons_succ, List.set_cons_zero]
            have hbl := H.out.kin hy8
            have n1 := (hbl.cell (p := ⟨b, _, none⟩) hbl3).trans HC0.out
            have n2 := (hbl.cell (p := ⟨b, _, none⟩) hbl3).trans HC1.out
            clear hbl
            go_simp
            refine hK.out _ _ ⟨b0, b1, b2, b3, b4, b5, true, b7, b8, b9, b10, x68, x69, x70, x71, x72, (.pointer (some ⟨b, off + k * 16, none⟩)), (idV x.id), x75, x76, x77, rfl, ?_, ?_⟩
            · simp only [List.setIfInBounds_toArray, List.set_cons_succ, List.set_cons_zero]
            exact { H.out with
              k6 := fun _ => rfl
              c6_5 := fun _ => d5
              c7_6 := fun _ => rfl }
          ·
            have hy8 : b8 = false := by
              cases h : b8 with
              | false => rfl
              | true =>
                have h1 := (H.out.c8_7 h)
                have h2 : b7 = false := hn
                rw [h2] at h1
                cases h1
            have hy10 : b10 = false := by
              cases h : b10 with
              | false => rfl
              | true =>
                have h1 := (H.out.c8_7 (H.out.c10_8 h))
                have h2 : b7 = false := hn
                rw [h2] at h1
                cases h1
            have d6 : b6 = true := he { on := 6, ground := .data } (by simp) (by kernel_rfl)
            obtain rfl := H.out.k6 d6
            subst hy8 hy10
            have HBL := Lib.hid ((H.out.kin rfl).trans (((Below.refl wx.heap.size wx).alloc (Nat.le_refl _) (.cells #[.int .i64 x.id.r, .int .i64 x.id.n] 31)).mono (H.out.kin rfl).size))
            refine wpOp_hid rfl (fun K hK => ?_)
            simp only [List.setIfInBounds_toArray, List.set_cons_succ, List.set_cons_zero]
            go_simp
            refine hK.out _ _ ⟨b0, b1, b2, b3, b4, b5, b6, true, false, b9, false, x68, x69, x70, x71, x72, x73, (idV x.id), (.slice (some ⟨wx.heap.size, 0, none⟩) 1 1), x76, x77, rfl, ?_, ?_⟩
            · simp only [List.setIfInBounds_toArray, List.set_cons_succ, List.set_cons_zero]
            exact { H.out with
              kin := fun _ => HBL.out
              kb := fun _ _ => ⟨wx.heap.size, rfl, (H.out.kin rfl).size, heap_alloc_new wx _⟩
              ka := fun e => by cases e
              ks := fun e => by cases e
              c7_6 := fun _ => d6
              c8_7 := fun _ => rfl }
          ·
            have hap : b8 = false := hn
            have hy10 : b10 = false := by
              cases h : b10 with
              | false => rfl
              | true =>
                have h1 := (H.out.c10_8 h)
                have h2 : b8 = false := hn
                rw [h2] at h1
                cases h1
            have d1 : b1 = true := he { on := 1, ground := .data } (by simp) (by kernel_rfl)
            obtain rfl := H.out.k1 d1
            have d7 : b7 = true := he { on := 7, ground := .data } (by simp) (by kernel_rfl)
            subst hap hy10
            obtain ⟨gn, rfl, hgu, hgn⟩ := H.out.kb d7 rfl
            have hbl := H.out.kin rfl
            have HOW := Lib.hid (Go.Proofs.YtlbkbjeajcadiaaGreatDoor.R.own_below HOR2.out hbl)
            have HM := Lib.hid (Mods.of_below (S := fun j => ∃ a, oo = some a ∧ j = a.block) hbl)
            have HSG := Lib.hid (src_id hgn)
            have hsz0 := hbl.size
            clear hbl hgn
            refine wpOp_hid rfl (fun K hK => ?_)
            simp only [List.setIfInBounds_toArray, List.set_cons_succ, List.set_cons_zero]
            rw [if_pos (by rfl)]
            refine wp_apps2 idC 2 (fun _ => rfl) (by decide) idC_one (by rfl) (.tmp 69) (.tmp 75) 36 (by rfl) BB 31 i0 _ 16 Tryz.underlying36 hi hz0 hz1 hz2 (by decide) rfl oo oc L.length L rfl _ 1 1 [x.id] rfl (by rfl) (by exact HOW.out) (by rfl) (by exact HSG.out) (by omega) (by omega) ?_
            intro ao cap w2 hown hmod hbel hfr
            refine hK.out _ _ ⟨b0, b1, b2, b3, b4, b5, b6, b7, true, b9, false, x68, (.slice oo L.length oc), x70, x71, x72, x73, x74, (.slice (some ⟨gn, 0, none⟩) 1 1), (.slice ao (L.length + 1) cap), x77, rfl, ?_, ?_⟩
            · simp only [Act.put, List.getElem_toArray, List.getElem_cons_succ, List.getElem_cons_zero, List.setIfInBounds_toArray, List.set_cons_succ, List.set_cons_zero]
            exact { H.out with
              kin := fun e => by cases e
              kb := fun _ e => by cases e
              ka := fun _ _ => ⟨ao, cap, rfl, hown, HM.out.trans hmod, fun a e => (hfr a e).imp id (fun h => Nat.le_trans hsz0 h)⟩
              ks := fun e => by cases e
              c8_1 := fun _ => d1
              c8_7 := fun _ => d7
              c9_8 := fun _ => rfl
              c10_8 := fun _ => rfl }
          ·
            have d8 : b8 = true := he { on := 8, ground := .phase } (by simp) (by kernel_rfl)
            refine wpOp_hid rfl (fun K hK => ?_)
            simp only [List.setIfInBounds_toArray, List.set_cons_succ, List.set_cons_zero]
            go_simp
            refine hK.out _ _ ⟨b0, b1, b2, b3, b4, b5, b6, b7, b8, true, b10, x68, x69, x70, x71, x72, x73, x74, x75, x76, (.pointer (some ⟨p, 0, none⟩)), rfl, ?_, ?_⟩
            · simp only [List.setIfInBounds_toArray, List.set_cons_succ, List.set_cons_zero]
            exact { H.out with
              k9 := fun _ => rfl
              c9_8 := fun _ => d8
              c10_9 := fun _ => rfl }
          ·
            have hst : b10 = false := hn
            have d9 : b9 = true := he { on := 9, ground := .data } (by simp) (by kernel_rfl)
            obtain rfl := H.out.k9 d9
            have d8 : b8 = true := he { on := 8, ground := .data } (by simp) (by kernel_rfl)
            subst hst
            obtain ⟨ao, cap, rfl, hown, hm, hfr⟩ := H.out.ka d8 rfl
            have HOWN2 := Lib.hid hown
            have HM2 := Lib.hid hm
            have HFR2 := Lib.hid hfr
            have hg9 := hm.heap HP2.out HNP.out
            have HG9 := Lib.hid hg9
            have n0 : wx.cell? ⟨p, 0, none⟩ = some (.slice oo L.length oc) := cell_of_row wx p 0 _ _ _ hg9
            have nf : wx.frozen? ⟨p, 0, none⟩ = false := by simp [World.frozen?, hg9]
            clear hown hm hg9 hfr
            refine wpOp_hid rfl (fun K hK => ?_)
            simp only [List.setIfInBounds_toArray, List.set_cons_succ, List.set_cons_zero]
            go_simp
            refine hK.out _ _ ⟨b0, b1, b2, b3, b4, b5, b6, b7, b8, b9, true, x68, x69, x70, x71, x72, x73, x74, x75, (.slice ao (L.length + 1) cap), (.pointer (some ⟨p, 0, none⟩)), rfl, ?_, ?_⟩
            · simp only [List.setIfInBounds_toArray, List.set_cons_succ, List.set_cons_zero]
            have ms : Mods (fun j => j = p) wx (wx.setCell ⟨p, 0, none⟩ (.slice ao (L.length + 1) cap)) := (Mods.refl (fun j => j = p) wx).setCell (p := ⟨p, 0, none⟩) (fun _ => rfl) _
            have hs9 := heap_set wx p 0 (.slice ao (L.length + 1) cap) p _ _ _ HG9.out
            rw [if_pos rfl] at hs9
            have hop : ∀ k, (Value.slice ao (L.length + 1) cap).ownBlock = some k → ¬ k = p := fun k e ea => by subst ea; exact own_apart_attr HOWN2.out e HG9.out
            exact { H.out with
              kin := fun e => by rw [d8] at e; cases e
              kb := fun _ e => by rw [d8] at e; cases e
              ka := fun _ e => by cases e
              ks := fun _ => ⟨ao, cap, own_kept HOWN2.out ms hop, (HM2.out.mono (fun _ _ e => .inl e)).trans (ms.mono (fun _ _ e => .inr e)), HFR2.out, hs9⟩
              c10_9 := fun _ => d9
              c10_8 := fun _ => d8 }
        · intro listed a wx hI hall
          obtain ⟨b0, b1, b2, b3, b4, b5, b6, b7, b8, b9, b10, x68, x69, x70, x71, x72, x73, x74, x75, x76, x77, rfl, rfl, h⟩ := hI
          obtain rfl : b10 = true := hall 10 (by decide)
          obtain ⟨ao2, cap2, hown, hm, hfr, hs⟩ := h.ks rfl
          have hlen : (L ++ [x.id]).length = L.length + 1 := by simp
          have HSX := Lib.hid (show HaS W wx BB p tag ao2 cap2 (L ++ [x.id]) from ⟨by rw [hlen]; exact hs, by unfold OwnL; rw [hlen]; exact hown, HS7.out.mods.then hm (fun q hq hk => by
            rcases hk with ⟨a, e, ea⟩ | e
            · have := HS7.out.ne a e; omega
            · exact e), fun a e => by
            rcases hfr a e with ⟨a0, e0, ea⟩ | hlt
            · rw [ea]; exact HS7.out.ne a0 e0
            · exact Nat.le_trans HS7.out.mods.size hlt⟩)
          have HBWX := Lib.hid (HB.out.trans (HSX.out.mods.below (fun j e => by have := HNE.out; omega) HB.out.size))
          have HN1 := Lib.hid (show (metR (X.take (k + 1)) c i).map Rv.id = L ++ [x.id] by rw [HN.out, List.map_append, HLE.out]; rfl)
          have HN2 := Lib.hid (show mostV ((metR (X.take (k + 1)) c i).map Rv.seq) = max m x.seq by rw [HN.out, List.map_append, ← HME.out]; exact mostV_app _ _)
          clear h hown hm hfr hs hall hlen
          have c14 := (HRC.out wx HBWX.out).c14
          simp only [List.setIfInBounds_toArray, List.set_cons_succ, List.set_cons_zero]
          go_wp2_with fail
          go_roundw
          case rel => exact ⟨k + 1, max m x.seq, L ++ [x.id], ao2, cap2, by first | rfl | simp, by go_num, by omega, HN1.out, HN2.out, by simp; omega, by have := HSQ.out; omega, HSX.out⟩
          case measure => simp [intOf]; omega
    · obtain rfl : k = X.length := by omega
      have hii : ¬ (X.length : Int) < (X.length : Int) := by omega
      rw [List.take_of_length_le (Nat.le_refl _)] at HLE HME
      obtain ⟨S, hS⟩ : ∃ S, setI L = S := ⟨_, rfl⟩
      have HSE := Lib.hid (show setI ((metR X c i).map Rv.id) = S by rw [HLE.out, hS])
      have HRS := Lib.hid (show Calls Tryz.prog 45 #[.slice oo L.length oc] wr fun e w' => ∃ oo oc, e = .returned (.slice oo S.length oc) ∧ (OwnL w' wr.heap.size oo oc S ∧ Below wr.heap.size wr w') by
        rw [← hS]
        refine refset_any L oo oc wr (IdsV.of_own HS.out.own (fun d hd => ?_)) (by omega)
        rw [← HLE.out] at hd
        obtain ⟨y, hy, rfl⟩ := List.mem_map.1 hd
        exact (H.out.ok y (List.mem_filter.1 hy).1).id)
      have HQ := Lib.hid (show mostV ((metR X c i).map Rv.seq) = m from HME.out)
      have HZR := Lib.hid (HS.out.mods.heap HZ.out HNE.out.2.2.1)
      have hBB := HS.out.mods.size
      have hm0 : 0 ≤ m := by rw [← HME.out]; exact (mostV_gen _ 0).1
      clear hS
      obtain ⟨⟨a0, a1, a2⟩, af, _⟩ := box3 HS.out.box
      go_upto_region 10 with fail
      go_wp2_with fail
      refine HRS.out.mono ?_
      rintro e w3 ⟨oo2, oc2, rfl, ho3, hb3⟩
      have HO3 := Lib.hid ho3
      have HB3 := Lib.hid hb3
      have HP3 := Lib.hid ((hb3.block _ (M.heap_lt HS.out.box)).trans HS.out.box)
      have HZ3 := Lib.hid ((hb3.block _ (M.heap_lt HZR.out)).trans HZR.out)
      clear ho3 hb3 HRS a0 a1 a2 af
      obtain ⟨⟨a0, a1, a2⟩, af, _⟩ := box3 HP3.out
      have af0 := af 0
      go_upto_region 11 with fail
      obtain ⟨w4, hw4⟩ : ∃ w4, w4 = w3.setCell ⟨p, 0, none⟩ (.slice oo2 S.length oc2) := ⟨_, rfl⟩
      rw [← hw4]
      have hP4 : w4.heap[p]? = some (atrO oo2 S.length oc2 0 tag) := by
        have s1 := heap_set w3 p 0 (.slice oo2 S.length oc2) p _ _ _ HP3.out
        rw [if_pos rfl, ← hw4] at s1
        exact s1
      have hm4 : Mods (fun j => j = p) w3 w4 := by rw [hw4]; exact (Mods.refl (fun j => j = p) w3).setCell (p := ⟨p, 0, none⟩) (fun _ => rfl) _
      have HP4 := Lib.hid hP4
      have HM4 := Lib.hid hm4
      clear hP4 hm4 hw4 a0 a1 a2 af af0
      have hpl := M.heap_lt HS.out.box
      have hgl := M.heap_lt HZR.out
      have HNK := Lib.hid (show ∀ q, (Value.slice oo2 S.length oc2).ownBlock = some q → wr.heap.size ≤ q from fun q hq => (HO3.out.lt q hq).1)
      have HO4 := Lib.hid (show OwnL w4 w.heap.size oo2 oc2 S from own_kept (own_base HO3.out (fun q hq => by have := HNK.out q hq; have := HBR.out.size; omega)) HM4.out (fun q hq e => by have := HNK.out q hq; omega))
      have HZ4 := Lib.hid (HM4.out.heap HZ3.out HNE.out.2.2.1)
      have HB4 := Lib.hid (show Below w.heap.size w w4 from (HBR.out.trans (HB3.out.mono HBR.out.size)).trans (HM4.out.below (fun j e => by have := HNE.out; omega) (Nat.le_trans HBR.out.size HB3.out.size)))
      cases ht : (tag == 1) with
      | false =>
        have HV := Lib.hid (show hangV tag m = 0 by unfold hangV; rw [if_neg (by simpa using ht)])
        obtain ⟨⟨a0, a1, a2⟩, _⟩ := box3 (HP4.out)
        obtain ⟨⟨z0, z1, z2⟩, zf, _⟩ := box3 (HZ4.out)
        have zf0 := zf 0
        have zf1 := zf 1
        have zf2 := zf 2
        go_wp2_with fail
        refine ret_attr gz oo2 S.length oc2 0 tag 8 (by rfl) (by rfl) (set3 (HZ4.out)) rfl ?_
        have hms := set3_mods w4 gz (.slice oo2 S.length oc2) (.int .i64 0) (.int .i64 tag)
        refine ⟨oo2, oc2, by rw [HSE.out, HQ.out, HV.out], ?_, (HB4.out).trans (hms.below (fun j e => by have := HNE.out; omega) (HB4.out).size)⟩
        rw [HSE.out]
        exact own_kept (HO4.out) hms (fun q hq e => by have := HNK.out q hq; omega)
      | true =>
        have HV := Lib.hid (show hangV tag m = m + 1 by unfold hangV; rw [if_pos (by simpa using ht)])
        obtain ⟨⟨a0, a1, a2⟩, af, _⟩ := box3 HP4.out
        have af1 := af 1
        go_upto_region 13 with fail
        obtain ⟨w5, hw5⟩ : ∃ w5, w5 = w4.setCell ⟨p, 1, none⟩ (.int .i64 (m + 1)) := ⟨_, rfl⟩
        rw [← hw5]
        have hP5 : w5.heap[p]? = some (atrO oo2 S.length oc2 (m + 1) tag) := by
          have s1 := heap_set w4 p 1 (.int .i64 (m + 1)) p _ _ _ HP4.out
          rw [if_pos rfl, ← hw5] at s1
          exact s1
        have hm5 : Mods (fun j => j = p) w4 w5 := by rw [hw5]; exact (Mods.refl (fun j => j = p) w4).setCell (p := ⟨p, 1, none⟩) (fun _ => rfl) _
        have HP5 := Lib.hid hP5
        have HM5 := Lib.hid hm5
        clear hP5 hm5 hw5 a0 a1 a2 af af1
        have HO5 := Lib.hid (show OwnL w5 w.heap.size oo2 oc2 S from own_kept HO4.out HM5.out (fun q hq e => by have := HNK.out q hq; omega))
        have HZ5 := Lib.hid (HM5.out.heap HZ4.out HNE.out.2.2.1)
        have HB5 := Lib.hid (show Below w.heap.size w w5 from HB4.out.trans (HM5.out.below (fun j e => by have := HNE.out; omega) HB4.out.size))
        obtain ⟨⟨a0, a1, a2⟩, _⟩ := box3 (HP5.out)
        obtain ⟨⟨z0, z1, z2⟩, zf, _⟩ := box3 (HZ5.out)
        have zf0 := zf 0
        have zf1 := zf 1
        have zf2 := zf 2
        go_wp2_with fail
        refine ret_attr gz oo2 S.length oc2 (m + 1) tag 8 (by rfl) (by rfl) (set3 (HZ5.out)) rfl ?_
        have hms := set3_mods w5 gz (.slice oo2 S.length oc2) (.int .i64 (m + 1)) (.int .i64 tag)
        refine ⟨oo2, oc2, by rw [HSE.out, HQ.out, HV.out], ?_, (HB5.out).trans (hms.below (fun j e => by have := HNE.out; omega) (HB5.out).size)⟩
        rw [HSE.out]
        exact own_kept (HO5.out) hms (fun q hq e => by have := HNK.out q hq; omega)
end Go.Proofs.YtlbkbjeajcadiaaGreatDoor.B
