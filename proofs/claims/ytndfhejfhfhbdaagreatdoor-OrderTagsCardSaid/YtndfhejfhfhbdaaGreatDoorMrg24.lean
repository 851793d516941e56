/- Several texts in one. -/
import Derived.Test.YtndfhejfhfhbdaaGreatDoorMrg23
import Derived.Test.YtndfhejfhfhbdaaGreatDoorCompS
import Derived.Test.YtndfhejfhfhbdaaGreatDoorMrg2
import Derived.Test.YtndfhejfhfhbdaaGreatDoorMrg21
import Derived.Laws.OwnMore

/- What the order of records is: by nodes, and by records. -/
namespace Go.Proofs.YtndfhejfhfhbdaaGreatDoor.O
open Go.RowKit Go.Proofs.YtndfhejfhfhbdaaGreatDoor.M Go.BigFrame Go.Proofs.YtndfhejfhfhbdaaGreatDoor.K Go.Proofs.YtndfhejfhfhbdaaGreatDoor.T
set_option linter.unusedVariables false
set_option linter.unusedSimpArgs false

theorem Cmps.of {E : Nat → List Int} {n : Nat} {L : List (List Nat)} {q : Nat → Nat} (h : Comp E n L q) : Cmps E n L q := ⟨h.d1, h.d2, h.d3, h.d4, h.d5⟩
theorem inorder_ext {E E2 : Nat → List Int} {n : Nat} {L : List (List Nat)} {q : Nat → Nat} (he : ∀ u w, T.Edge E n u w ↔ T.Edge E2 n u w) (h : InOrder E n L q) : InOrder E2 n L q := by
  have hc := Cmps.ext (Cmps.of h.co) he
  refine ⟨⟨hc.d1, hc.d2, hc.d3, hc.d4, hc.d5⟩, fun p p' h1 h2 h3 => ?_⟩
  obtain ⟨u, v, a, b, c, d⟩ := h.le p p' h1 h2 h3
  exact ⟨u, v, a, (he u v).1 b, c, d⟩
theorem leads_ext {E E2 : Nat → List Int} {n : Nat} {f : Int} {l : List Nat} (he : ∀ u w, T.Edge E n u w ↔ T.Edge E2 n u w) (h : LeadsTo E n f l) : LeadsTo E2 n f l := by
  refine ⟨h.srt, fun v => (h.mem v).trans ⟨?_, ?_⟩⟩
  · rintro ⟨h1, u, h2, h3, h4⟩
    exact ⟨h1, u, h2, h3, path_ext (fun u w => (he u w).1) h4⟩
  · rintro ⟨h1, u, h2, h3, h4⟩
    exact ⟨h1, u, h2, h3, path_ext (fun u w => (he u w).2) h4⟩
theorem EdAt.ext {B : Nat} {w : World} {eo : Option Addr} {n ec : Nat} {E E2 : Nat → List Int} (h : EdAt B w eo n ec E) (he : ∀ i, i < n → E i = E2 i) : EdAt B w eo n ec E2 :=
  ⟨h.le, fun i hi => by rw [← he i hi]; exact h.row i hi⟩
/-- the order of nodes that lie by their ids -/
def Row (s : List Nd) (out : List Id) : Prop := ∃ L q, InOrder (edR s) s.length L q ∧ out = rowI s L
theorem Row.one {s : List Nd} {a b : List Id} (h : Row s a) (h2 : Row s b) : a = b := by
  obtain ⟨L, q, h3, rfl⟩ := h
  obtain ⟨L2, q2, h4, rfl⟩ := h2
  rw [h3.one h4]
theorem Row.cmps {s : List Nd} {a : List Id} (h : Row s a) : ∃ L q, Cmps (edR s) s.length L q ∧ a = rowI s L := by
  obtain ⟨L, q, h3, rfl⟩ := h
  exact ⟨L, q, .of h3.co, rfl⟩
/-- records by their ids -/
def iR (a b : Rv) : Bool := ilt a.id b.id
def srtR (X : List Rv) : List Rv := srt iR X
def nds (X : List Rv) : List Nd := X.map Rv.nd
theorem nds_ids (X : List Rv) : idsOf (nds X) = idsX X := by unfold idsOf nds; rw [List.map_map]; rfl
theorem srtR_nd (X : List Rv) : nds (srtR X) = byIds (nds X) := (srt_map iln Rv.nd X).symm
theorem srtR_perm (X : List Rv) : (srtR X).Perm X := srt_perm X
theorem srtR_len (X : List Rv) : (srtR X).length = X.length := (srtR_perm X).length_eq
theorem nodup_inj {α β : Type} (f : α → β) : ∀ {l : List α}, (l.map f).Nodup → ∀ {a b}, a ∈ l → b ∈ l → f a = f b → a = b
  | [], _, _, _, h, _, _ => by cases h
  | x :: l, hn, a, b, ha, hb, e => by
    rw [List.map_cons, List.nodup_cons] at hn
    rcases List.mem_cons.1 ha with e1 | e1 <;> rcases List.mem_cons.1 hb with e2 | e2
    · rw [e1, e2]
    · exact absurd (List.mem_map.2 ⟨b, e2, by rw [← e, e1]⟩) hn.1
    · exact absurd (List.mem_map.2 ⟨a, e1, by rw [e, e2]⟩) hn.1
    · exact nodup_inj f hn.2 e1 e2 e
theorem nodup_of_map {α β : Type} (f : α → β) {l : List α} (h : (l.map f).Nodup) : l.Nodup := List.Pairwise.of_map f (fun a b h e => h (congrArg f e)) h
theorem iR_tot {X : List Rv} (h : (idsX X).Nodup) : Tot iR X :=
  ⟨fun a => ilt_irr _, fun a b c => ilt_trans, fun a ha b hb hne => ilt_tri fun e => hne (nodup_inj Rv.id h ha hb e)⟩
theorem pw_strict {α : Type} {lt : α → α → Bool} {l : List α} (hT : Tot lt l) (hn : l.Nodup) (h : l.Pairwise (fun a b => lt b a = false)) : l.Pairwise (fun a b => lt a b = true) := by
  have h2 : l.Pairwise (fun a b => a ∈ l ∧ b ∈ l ∧ a ≠ b) := by
    have := List.Pairwise.and_mem.1 hn
    exact this.imp fun ⟨a, b, c⟩ => ⟨a, b, c⟩
  exact (List.Pairwise.and h h2).imp fun ⟨h1, ha, hb, hne⟩ => (hT.tri _ ha _ hb hne).resolve_right (by rw [h1]; simp)
theorem srtR_one {X m : List Rv} (hn : (idsX X).Nodup) (hp : m.Perm X) (hs : m.Pairwise (fun a b => ilt b.id a.id = false)) : m = srtR X := by
  have hT := iR_tot hn
  have hX := nodup_of_map _ hn
  exact srt_one hT hX hp (pw_strict (hT.perm hp) (hp.nodup_iff.2 hX) hs)
theorem srtR_same {X m : List Rv} (hn : (idsX X).Nodup) (hp : m.Perm X) : srtR m = srtR X := srt_same (iR_tot hn) (nodup_of_map _ hn) hp
theorem srtR_ids {X : List Rv} (hn : (idsX X).Nodup) : (idsX (srtR X)).Nodup := ((srtR_perm X).map Rv.id).nodup_iff.2 hn
/-- the records of a component -/
def partR (s : List Rv) (c : List Nat) : List Rv := c.map fun i => s.getD i default
theorem partR_nd (s : List Rv) (c : List Nat) : nds (partR s c) = part (nds s) c := by
  unfold nds partR part
  rw [List.map_map]
  congr 1
  funext i
  simp only [Function.comp_apply, List.getD, List.getElem?_map]
  cases s[i]? with
  | none => rfl
  | some a => rfl
theorem partR_app (s : List Rv) (c d : List Nat) : partR s (c ++ d) = partR s c ++ partR s d := List.map_append
theorem partR_one {s : List Rv} {i : Nat} {x : Rv} (h : s[i]? = some x) : partR s [i] = [x] := by unfold partR; simp [List.getD, h]
/-- what is sorted within is one -/
theorem within_one {l m : List Rv} (hn : (idsX l).Nodup) (hp : m.Perm l) (hs : m.Pairwise (fun a b => wlt b.nd a.nd = false)) : m.map Rv.id = O.within (nds l) := by
  have hU : Unl (nds l) := by unfold Unl; rw [nds_ids]; exact hn
  have hp2 : (nds m).Perm (nds l) := hp.map _
  have hs2 : (nds m).Pairwise (fun a b => wlt b a = false) := by unfold nds; rw [List.pairwise_map]; exact hs
  have := srt_one hU.wlt hU.nodup hp2 (pw_strict (hU.wlt.perm hp2) (hp2.nodup_iff.2 hU.nodup) hs2)
  unfold O.within
  rw [← this, nds_ids]
theorem edR_get {s : List Rv} {u : Nat} {x : Rv} (h : s[u]? = some x) : edR (nds s) u = x.deps.map (atI (idsX s)) := by
  unfold edR
  have : (nds s)[u]? = some x.nd := by unfold nds; rw [List.getElem?_map, h]; rfl
  rw [this]
  simp only [nds_ids]
  rfl
theorem rows_ed (X : List Rv) (i : Nat) (hi : i < X.length) : (((rowsG X X.length)[i]?).getD []).map (fun k : Nat => (k : Int)) = edP (nds X) i := by
  have hx : X[i]? = some X[i] := List.getElem?_eq_getElem hi
  unfold rowsG edP
  rw [List.take_length, List.getElem?_map, hx, edR_get hx]
  exact plN_ed _ _
end Go.Proofs.YtndfhejfhfhbdaaGreatDoor.O

/- append of rows; order.Order. -/
namespace Go
section
variable {P : Program} {w : World}
/-- nothing is appended -/
theorem run_append_owned_empty (base : Nat) (t ty e : TypeId) (i : TypeInfo) (size : Nat) (ht : P.underlying t = some (.slice e)) (hi : P.info? e = some i)
    (v : Value) (n : Nat) (xs : List Value) (hown : w.ownsRow base e size v n xs) (ao : Option Addr) (c : Nat) :
    (Builtin.append_ #[t, t] ty #[v, .slice ao 0 c]).run P w = .ok v w := by
  rcases hown.2 with ⟨rfl, rfl⟩ | ⟨g, cap, cur, rfl, _, _, hnc, _⟩
  · cases ao <;> simp [Builtin.append_, run_underlying ht, sizeOf, typeInfo, hi, Builtin.lenOf, Builtin.firstCells, loadCells, loadCellsFrom]
  · cases ao <;> simp [Builtin.append_, run_underlying ht, sizeOf, typeInfo, hi, Builtin.lenOf, Builtin.firstCells, hnc, loadCells, loadCellsFrom, storeCells]
end
end Go
namespace Go.Proofs.YtndfhejfhfhbdaaGreatDoor.O
open Go.RowKit Go.Proofs.YtndfhejfhfhbdaaGreatDoor.M Go.BigFrame Go.Proofs.YtndfhejfhfhbdaaGreatDoor.K Go.Proofs.YtndfhejfhfhbdaaGreatDoor.T
set_option linter.unusedVariables false
set_option linter.unusedSimpArgs false

section
variable {P : Program} {w : World} {α : Type}
/-- what is appended lies here -/
def SrcAt (w : World) (so : Option Addr) (l : List Value) : Prop := l ≠ [] → ∃ ad, so = some ad ∧ ∀ j u, l[j]? = some u → w.cell? (ad.add j) = some u
theorem SrcAt.of_own {B : Nat} {e : TypeId} {k n : Nat} {so : Option Addr} {sc : Nat} {l : List Value} (h : w.ownsRow B e k (.slice so n sc) n l) : SrcAt w so l := by
  intro hne
  obtain ⟨ao', cap', e0, h1, h2, h3, h4⟩ := M.own_view h
  cases e0
  cases so with
  | none =>
    rcases h.2 with ⟨h5, h6⟩ | ⟨g, cap, cur, h5, _⟩
    · refine absurd (List.eq_nil_of_length_eq_zero ?_) hne
      rw [h.1, h6, Nat.zero_mul]
    · cases h5
  | some a =>
    obtain ⟨g, cur, rfl, _, hg, hsz, htk⟩ := h4 a rfl
    refine ⟨_, rfl, fun j u hj => ?_⟩
    have hjl : j < n * k := by
      have := (List.getElem?_eq_some_iff.1 hj).1
      rw [← htk, List.length_take] at this
      omega
    have ea : (⟨g, 0, none⟩ : Addr).add j = ⟨g, 0 + j, none⟩ := by
      unfold Addr.add
      split
      · next e => rw [e]
      · rfl
    rw [ea, cell_of_row w g _ _ _ _ hg, Nat.zero_add, ← Array.getElem?_toList, ← hj, ← htk, List.getElem?_take_of_lt hjl]
theorem wpList_apps (enc : α → List Value) (k : Nat) (hk : ∀ x, (enc x).length = k) (h0 : 0 < k) (h1 : ∀ x, ∀ v ∈ enc x, v.oneCell' = true) {ops : Array Oper} {rest : List Oper} {o : Oper} {a : Act} {Q : Exit → Act → World → Prop} (hgd : o.guard = none) (s x : Operand) (t : TypeId)
    (ho : o.op = .call { callee := .builtin .append, args := #[s, x], argTypes := #[t, t] }) (B : Nat) (e : TypeId) (i : TypeInfo) (z : Value) (bytes : Nat) (ht : P.underlying t = some (.slice e)) (hi : P.info? e = some i) (hz : i.zero = some z)
    (hsize : i.size = k) (hby : i.bytes = bytes) (hb2 : bytes ≤ 1000) (hzs : z.cells.size = k) (oo : Option Addr) (oc m : Nat) (M : List α) (hMl : M.length = m) (so : Option Addr) (sc n : Nat) (N : List α) (hNl : N.length = n) (hs : a.eval s = .slice oo m oc)
    (hown : w.ownsRow B e k (.slice oo m oc) m (M.flatMap enc)) (hx : a.eval x = .slice so n sc) (hsrc : SrcAt w so (N.flatMap enc)) (hM : m + n ≤ 100000000) (hB : B ≤ w.heap.size)
    (h : ∀ oo' oc' w', w'.ownsRow B e k (.slice oo' (m + n) oc') (m + n) ((M ++ N).flatMap enc) → Mods (fun j => ∃ a, oo = some a ∧ j = a.block) w w' → Below B w w' → wpList P ops Q rest (a.put o.dst (.slice oo' (m + n) oc')) w') :
    wpList P ops Q (o :: rest) a w := by
  cases N with
  | nil =>
    obtain rfl : n = 0 := by rw [← hNl]; rfl
    have hrun := run_append_owned_empty (P := P) (w := w) B t o.type e i k ht hi _ _ _ hown so sc
    have hK := h oo oc w (by simpa using hown) (Mods.refl _ _) (Below.refl _ _)
    rw [Nat.add_zero] at hK
    refine wpList_plain hgd fun K hKK => ?_
    unfold Oper.wp
    simp [execOp, ho, resolve, invoke, builtin, hs, hx, hrun, Result.andThen]
    exact hKK _ _ hK
  | cons y N' =>
    obtain ⟨N, hN⟩ : ∃ N, y :: N' = N := ⟨_, rfl⟩
    have hpos : 0 < n := by rw [← hNl]; simp
    rw [hN] at hNl hsrc h
    clear hN
    have hlen : (N.flatMap enc).length = n * k := by rw [← hNl]; exact flat_len enc k hk N
    have hne : N.flatMap enc ≠ [] := fun e0 => by
      rw [e0] at hlen
      have := Nat.mul_pos hpos h0
      simp at hlen
      omega
    obtain ⟨ad, rfl, hcells⟩ := hsrc hne
    refine wpList_append_lies _ hgd s x t ho B e i z k bytes ht hi hz hsize hby hzs h0 (.slice oo m oc) m (M.flatMap enc) hs hown ad n sc (N.flatMap enc) hx hlen hcells
      (fun u hu => by obtain ⟨x, hx1, hx2⟩ := List.mem_flatMap.1 hu; exact h1 x u hx2) hpos (by unfold maxLen; omega) ?_ hB w.heap.size rfl ?_
    · have : (m + n) * bytes ≤ 100000000 * 1000 := Nat.mul_le_mul (by omega) hb2
      omega
    · intro g cap w' hown' hgrow _ _
      have hm : Mods (fun j => ∃ a, oo = some a ∧ j = a.block) w w' := (Mods.refl _ w).then (Mods.of_grown hgrow) (fun k _ hk => by
        cases oo with
        | none => cases hk
        | some a => exact ⟨a, rfl, (Option.some.inj hk).symm⟩)
      have hb : Below B w w' := hm.below (fun j ⟨a, e1, e2⟩ => by
        subst e1
        rw [e2]
        exact (hown.lt a.block rfl).1) hB
      exact h (some ⟨g, 0, none⟩) cap w' (by rw [List.flatMap_append]; exact hown') hm hb
/-- what stands ahead of a place, and behind it -/
theorem flat_cut (enc : α → List Value) (k : Nat) (hk : ∀ x, (enc x).length = k) (l : List α) (i : Nat) : l.flatMap enc = (l.take i).flatMap enc ++ (l.drop i).flatMap enc ∧ (i < l.length → ((l.take i).flatMap enc).length = i * k) ∧ (l.length ≤ i → (l.flatMap enc).length ≤ i * k) := by
  refine ⟨by rw [← List.flatMap_append, List.take_append_drop], fun h => ?_, fun h => ?_⟩
  · rw [flat_len enc k hk, List.length_take, Nat.min_eq_left (Nat.le_of_lt h)]
  · rw [flat_len enc k hk]
    exact Nat.mul_le_mul_right k h
theorem flat_drop (enc : α → List Value) (k : Nat) (hk : ∀ x, (enc x).length = k) (l : List α) (i : Nat) : (l.drop i).flatMap enc = (l.flatMap enc).drop (i * k) := by
  obtain ⟨h1, h2, h3⟩ := flat_cut enc k hk l i
  rcases Nat.lt_or_ge i l.length with h | h
  · rw [h1, ← h2 h, List.drop_left]
  · rw [List.drop_eq_nil_of_le h, List.drop_eq_nil_of_le (h3 h)]
    rfl
theorem flat_take (enc : α → List Value) (k : Nat) (hk : ∀ x, (enc x).length = k) (l : List α) (i : Nat) : (l.take i).flatMap enc = (l.flatMap enc).take (i * k) := by
  obtain ⟨h1, h2, h3⟩ := flat_cut enc k hk l i
  rcases Nat.lt_or_ge i l.length with h | h
  · rw [h1, ← h2 h, List.take_left]
  · rw [List.take_of_length_le h, List.take_of_length_le (h3 h)]
theorem SrcAt.front {so : Option Addr} {l : List Value} (h : SrcAt w so l) (j : Nat) : SrcAt w so (l.take j) := by
  intro hne
  obtain ⟨ad, h1, h2⟩ := h (fun e => hne (by rw [e]; simp))
  refine ⟨ad, h1, fun i u hi => h2 i u ?_⟩
  have := (List.getElem?_eq_some_iff.1 hi).1
  rw [List.length_take] at this
  rwa [List.getElem?_take_of_lt (by omega)] at hi
theorem SrcAt.back {so : Option Addr} {l : List Value} (h : SrcAt w so l) (j : Nat) : SrcAt w (so.map (·.add j)) (l.drop j) := by
  intro hne
  obtain ⟨ad, h1, h2⟩ := h (fun e => hne (by rw [e]; simp))
  subst h1
  refine ⟨ad.add j, rfl, fun i u hi => ?_⟩
  rw [List.getElem?_drop] at hi
  have := h2 _ u hi
  rwa [Addr.add_add]
end
theorem part_ids {s : List Rv} {c : List Nat} (hn : (idsX s).Nodup) (hc : c.Pairwise (· < ·)) (hl : ∀ x ∈ c, x < s.length) : (idsX (partR s c)).Nodup := by
  have e : idsX (partR s c) = c.map fun i => (idsX s).getD i default := by
    show (c.map fun i => s.getD i default).map Rv.id = _
    rw [List.map_map]
    refine List.map_congr_left fun i hi => ?_
    obtain ⟨y, h1⟩ : ∃ y, s[i]? = some y := ⟨_, List.getElem?_eq_getElem (hl i hi)⟩
    simp [List.getD, h1]
  rw [e]
  unfold List.Nodup
  rw [List.pairwise_map]
  refine (List.Pairwise.and_mem.1 hc).imp fun {a b} ⟨ha, hb, hab⟩ => ?_
  have h1 := hl a ha
  have h2 := hl b hb
  obtain ⟨ya, e1⟩ : ∃ y, (idsX s)[a]? = some y := ⟨_, List.getElem?_eq_getElem (by simpa using h1)⟩
  obtain ⟨yb, e2⟩ : ∃ y, (idsX s)[b]? = some y := ⟨_, List.getElem?_eq_getElem (by simpa using h2)⟩
  simp only [List.getD, e1, e2, Option.getD_some]
  intro e3
  have e4 : (idsX s)[a]? = (idsX s)[b]? := by rw [e1, e2, e3]
  have := (List.getElem?_inj (by simpa using h1) hn).1 e4
  omega
theorem rowI_next (s : List Nd) {L : List (List Nat)} {k : Nat} {c : List Nat} (hc : L[k]? = some c) : rowI s (L.take (k + 1)) = rowI s (L.take k) ++ within (part s c) := by
  unfold rowI
  rw [List.take_add_one, hc]
  simp
theorem within_len (l : List Nd) : (within l).length = l.length := by unfold within idsOf; rw [List.length_map]; exact (srt_perm l).length_eq
theorem partR_len (s : List Rv) (c : List Nat) : (partR s c).length = c.length := List.length_map _
/-- the components of sorted records -/
theorem inorder_row {X S : List Rv} (hS : nds S = byIds (nds X)) (hU : Unl (nds X)) {L : List (List Nat)} {q : Nat → Nat} (h : InOrder (edP (nds S)) S.length L q) : Row (byIds (nds X)) (rowI (nds S) L) := by
  have hU2 : Unl (nds S) := by rw [hS]; exact hU.perm (byIds_perm _)
  have hl : (nds S).length = S.length := List.length_map _
  refine ⟨L, q, ?_, by rw [hS]⟩
  rw [← hS, hl]
  rw [← hl] at h ⊢
  exact inorder_ext (fun u w => (edgeP hU2).trans (edgeR hU2).symm) h
end Go.Proofs.YtndfhejfhfhbdaaGreatDoor.O
