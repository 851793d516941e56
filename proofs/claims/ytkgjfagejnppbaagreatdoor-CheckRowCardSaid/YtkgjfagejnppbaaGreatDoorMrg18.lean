/- Several texts in one. -/
import Derived.Test.YtkgjfagejnppbaaGreatDoorMrg17
import Derived.Test.YtkgjfagejnppbaaGreatDoorMrg1
import Derived.Test.YtkgjfagejnppbaaGreatDoorMrg15
import Derived.Laws.OwnMore

/- What the order of records is: by nodes, and by records. -/
namespace Go.Proofs.YtkgjfagejnppbaaGreatDoor.O
open Go.RowKit Go.Proofs.YtkgjfagejnppbaaGreatDoor.M Go.BigFrame Go.Proofs.YtkgjfagejnppbaaGreatDoor.K Go.Proofs.YtkgjfagejnppbaaGreatDoor.T
set_option linter.unusedVariables false
set_option linter.unusedSimpArgs false

theorem Cmps.of {E : Nat → List Int} {n : Nat} {L : List (List Nat)} {q : Nat → Nat} (h : Comp E n L q) : Cmps E n L q := ⟨h.d1, h.d2, h.d3, h.d4, h.d5⟩
theorem inorder_ext {E E2 : Nat → List Int} {n : Nat} {L : List (List Nat)} {q : Nat → Nat} (he : ∀ u w, T.Edge E n u w ↔ T.Edge E2 n u w) (h : InOrder E n L q) : InOrder E2 n L q := by
  have hc := Cmps.ext (Cmps.of h.co) he
  refine ⟨⟨hc.d1, hc.d2, hc.d3, hc.d4, hc.d5⟩, fun p p' h1 h2 h3 => ?_⟩
  obtain ⟨u, v, a, b, c, d⟩ := h.le p p' h1 h2 h3
  exact ⟨u, v, a, (he u v).1 b, c, d⟩
theorem EdAt.ext {B : Nat} {w : World} {eo : Option Addr} {n ec : Nat} {E E2 : Nat → List Int} (h : EdAt B w eo n ec E) (he : ∀ i, i < n → E i = E2 i) : EdAt B w eo n ec E2 :=
  ⟨h.le, fun i hi => by rw [← he i hi]; exact h.row i hi⟩
/-- the order of nodes that lie by their ids -/
def Row (s : List Nd) (out : List Id) : Prop := ∃ L q, InOrder (edR s) s.length L q ∧ out = rowI s L
theorem Row.one {s : List Nd} {a b : List Id} (h : Row s a) (h2 : Row s b) : a = b := by
  obtain ⟨L, q, h3, rfl⟩ := h
  obtain ⟨L2, q2, h4, rfl⟩ := h2
  rw [h3.one h4]
theorem Row.cmps {s : List Nd} {a : List Id} (h : Row s a) : ∃ L q, Cmps (edR s) s.length L q ∧ a = rowI s L := by
  obtain ⟨L, q, h3, rfl⟩ := h
  exact ⟨L, q, .of h3.co, rfl⟩
/-- records by their ids -/
def iR (a b : Rv) : Bool := ilt a.id b.id
def srtR (X : List Rv) : List Rv := srt iR X
def nds (X : List Rv) : List Nd := X.map Rv.nd
theorem nds_ids (X : List Rv) : idsOf (nds X) = idsX X := by unfold idsOf nds; rw [List.map_map]; rfl
theorem srtR_nd (X : List Rv) : nds (srtR X) = byIds (nds X) := (srt_map iln Rv.nd X).symm
theorem srtR_perm (X : List Rv) : (srtR X).Perm X := srt_perm X
theorem nodup_inj {α β : Type} (f : α → β) : ∀ {l : List α}, (l.map f).Nodup → ∀ {a b}, a ∈ l → b ∈ l → f a = f b → a = b
  | [], _, _, _, h, _, _ => by cases h
  | x :: l, hn, a, b, ha, hb, e => by
    rw [List.map_cons, List.nodup_cons] at hn
    rcases List.mem_cons.1 ha with e1 | e1 <;> rcases List.mem_cons.1 hb with e2 | e2
    · rw [e1, e2]
    · exact absurd (List.mem_map.2 ⟨b, e2, by rw [← e, e1]⟩) hn.1
    · exact absurd (List.mem_map.2 ⟨a, e1, by rw [e, e2]⟩) hn.1
    · exact nodup_inj f hn.2 e1 e2 e
theorem nodup_of_map {α β : Type} (f : α → β) {l : List α} (h : (l.map f).Nodup) : l.Nodup := List.Pairwise.of_map f (fun a b h e => h (congrArg f e)) h
theorem iR_tot {X : List Rv} (h : (idsX X).Nodup) : Tot iR X :=
  ⟨fun a => ilt_irr _, fun a b c => ilt_trans, fun a ha b hb hne => ilt_tri fun e => hne (nodup_inj Rv.id h ha hb e)⟩
theorem pw_strict {α : Type} {lt : α → α → Bool} {l : List α} (hT : Tot lt l) (hn : l.Nodup) (h : l.Pairwise (fun a b => lt b a = false)) : l.Pairwise (fun a b => lt a b = true) := by
  have h2 : l.Pairwise (fun a b => a ∈ l ∧ b ∈ l ∧ a ≠ b) := by
    have := List.Pairwise.and_mem.1 hn
    exact this.imp fun ⟨a, b, c⟩ => ⟨a, b, c⟩
  exact (List.Pairwise.and h h2).imp fun ⟨h1, ha, hb, hne⟩ => (hT.tri _ ha _ hb hne).resolve_right (by rw [h1]; simp)
theorem srtR_one {X m : List Rv} (hn : (idsX X).Nodup) (hp : m.Perm X) (hs : m.Pairwise (fun a b => ilt b.id a.id = false)) : m = srtR X := by
  have hT := iR_tot hn
  have hX := nodup_of_map _ hn
  exact srt_one hT hX hp (pw_strict (hT.perm hp) (hp.nodup_iff.2 hX) hs)
theorem srtR_same {X m : List Rv} (hn : (idsX X).Nodup) (hp : m.Perm X) : srtR m = srtR X := srt_same (iR_tot hn) (nodup_of_map _ hn) hp
theorem srtR_ids {X : List Rv} (hn : (idsX X).Nodup) : (idsX (srtR X)).Nodup := ((srtR_perm X).map Rv.id).nodup_iff.2 hn
/-- the records of a component -/
def partR (s : List Rv) (c : List Nat) : List Rv := c.map fun i => s.getD i default
theorem partR_nd (s : List Rv) (c : List Nat) : nds (partR s c) = part (nds s) c := by
  unfold nds partR part
  rw [List.map_map]
  congr 1
  funext i
  simp only [Function.comp_apply, List.getD, List.getElem?_map]
  cases s[i]? with
  | none => rfl
  | some a => rfl
theorem partR_app (s : List Rv) (c d : List Nat) : partR s (c ++ d) = partR s c ++ partR s d := List.map_append
theorem partR_one {s : List Rv} {i : Nat} {x : Rv} (h : s[i]? = some x) : partR s [i] = [x] := by unfold partR; simp [List.getD, h]
/-- what is sorted within is one -/
theorem within_one {l m : List Rv} (hn : (idsX l).Nodup) (hp : m.Perm l) (hs : m.Pairwise (fun a b => wlt b.nd a.nd = false)) : m.map Rv.id = O.within (nds l) := by
  have hU : Unl (nds l) := by unfold Unl; rw [nds_ids]; exact hn
  have hp2 : (nds m).Perm (nds l) := hp.map _
  have hs2 : (nds m).Pairwise (fun a b => wlt b a = false) := by unfold nds; rw [List.pairwise_map]; exact hs
  have := srt_one hU.wlt hU.nodup hp2 (pw_strict (hU.wlt.perm hp2) (hp2.nodup_iff.2 hU.nodup) hs2)
  unfold O.within
  rw [← this, nds_ids]
theorem edR_get {s : List Rv} {u : Nat} {x : Rv} (h : s[u]? = some x) : edR (nds s) u = x.deps.map (atI (idsX s)) := by
  unfold edR
  have : (nds s)[u]? = some x.nd := by unfold nds; rw [List.getElem?_map, h]; rfl
  rw [this]
  simp only [nds_ids]
  rfl
theorem rows_ed (X : List Rv) (i : Nat) (hi : i < X.length) : (((rowsG X X.length)[i]?).getD []).map (fun k : Nat => (k : Int)) = edP (nds X) i := by
  have hx : X[i]? = some X[i] := List.getElem?_eq_getElem hi
  unfold rowsG edP
  rw [List.take_length, List.getElem?_map, hx, edR_get hx]
  exact plN_ed _ _
end Go.Proofs.YtkgjfagejnppbaaGreatDoor.O

/- append of rows; order.Order. -/
namespace Go
section
variable {P : Program} {w : World}
/-- nothing is appended -/
theorem run_append_owned_empty (base : Nat) (t ty e : TypeId) (i : TypeInfo) (size : Nat) (ht : P.underlying t = some (.slice e)) (hi : P.info? e = some i)
    (v : Value) (n : Nat) (xs : List Value) (hown : w.ownsRow base e size v n xs) (ao : Option Addr) (c : Nat) :
    (Builtin.append_ #[t, t] ty #[v, .slice ao 0 c]).run P w = .ok v w := by
  rcases hown.2 with ⟨rfl, rfl⟩ | ⟨g, cap, cur, rfl, _, _, hnc, _⟩
  · cases ao <;> simp [Builtin.append_, run_underlying ht, sizeOf, typeInfo, hi, Builtin.lenOf, Builtin.firstCells, loadCells, loadCellsFrom]
  · cases ao <;> simp [Builtin.append_, run_underlying ht, sizeOf, typeInfo, hi, Builtin.lenOf, Builtin.firstCells, hnc, loadCells, loadCellsFrom, storeCells]
end
end Go
namespace Go.Proofs.YtkgjfagejnppbaaGreatDoor.O
open Go.RowKit Go.Proofs.YtkgjfagejnppbaaGreatDoor.M Go.BigFrame Go.Proofs.YtkgjfagejnppbaaGreatDoor.K Go.Proofs.YtkgjfagejnppbaaGreatDoor.T
set_option linter.unusedVariables false
set_option linter.unusedSimpArgs false

section
variable {P : Program} {w : World} {α : Type}
/-- what is appended lies here -/
def SrcAt (w : World) (so : Option Addr) (l : List Value) : Prop := l ≠ [] → ∃ ad, so = some ad ∧ ∀ j u, l[j]? = some u → w.cell? (ad.add j) = some u
theorem SrcAt.of_own {B : Nat} {e : TypeId} {k n : Nat} {so : Option Addr} {sc : Nat} {l : List Value} (h : w.ownsRow B e k (.slice so n sc) n l) : SrcAt w so l := by
  intro hne
  obtain ⟨ao', cap', e0, h1, h2, h3, h4⟩ := M.own_view h
  cases e0
  cases so with
  | none =>
    rcases h.2 with ⟨h5, h6⟩ | ⟨g, cap, cur, h5, _⟩
    · refine absurd (List.eq_nil_of_length_eq_zero ?_) hne
      rw [h.1, h6, Nat.zero_mul]
    · cases h5
  | some a =>
    obtain ⟨g, cur, rfl, _, hg, hsz, htk⟩ := h4 a rfl
    refine ⟨_, rfl, fun j u hj => ?_⟩
    have hjl : j < n * k := by
      have := (List.getElem?_eq_some_iff.1 hj).1
      rw [← htk, List.length_take] at this
      omega
    have ea : (⟨g, 0, none⟩ : Addr).add j = ⟨g, 0 + j, none⟩ := by
      unfold Addr.add
      split
      · next e => rw [e]
      · rfl
    rw [ea, cell_of_row w g _ _ _ _ hg, Nat.zero_add, ← Array.getElem?_toList, ← hj, ← htk, List.getElem?_take_of_lt hjl]
theorem wpList_apps (enc : α → List Value) (k : Nat) (hk : ∀ x, (enc x).length = k) (h0 : 0 < k) (h1 : ∀ x, ∀ v ∈ enc x, v.oneCell' = true) {ops : Array Oper} {rest : List Oper} {o : Oper} {a : Act} {Q : Exit → Act → World → Prop} (hgd : o.guard = none) (s x : Operand) (t : TypeId)
    (ho : o.op = .call { callee := .builtin .append, args := #[s, x], argTypes := #[t, t] }) (B : Nat) (e : TypeId) (i : TypeInfo) (z : Value) (bytes : Nat) (ht : P.underlying t = some (.slice e)) (hi : P.info? e = some i) (hz : i.zero = some z)
    (hsize : i.size = k) (hby : i.bytes = bytes) (hb2 : bytes ≤ 1000) (hzs : z.cells.size = k) (oo : Option Addr) (oc m : Nat) (M : List α) (hMl : M.length = m) (so : Option Addr) (sc n : Nat) (N : List α) (hNl : N.length = n) (hs : a.eval s = .slice oo m oc)
    (hown : w.ownsRow B e k (.slice oo m oc) m (M.flatMap enc)) (hx : a.eval x = .slice so n sc) (hsrc : SrcAt w so (N.flatMap enc)) (hM : m + n ≤ 100000000) (hB : B ≤ w.heap.size)
    (h : ∀ oo' oc' w', w'.ownsRow B e k (.slice oo' (m + n) oc') (m + n) ((M ++ N).flatMap enc) → Mods (fun j => ∃ a, oo = some a ∧ j = a.block) w w' → Below B w w' → wpList P ops Q rest (a.put o.dst (.slice oo' (m + n) oc')) w') :
    wpList P ops Q (o :: rest) a w := by
  cases N with
  | nil =>
    obtain rfl : n = 0 := by rw [← hNl]; rfl
    have hrun := run_append_owned_empty (P := P) (w := w) B t o.type e i k ht hi _ _ _ hown so sc
    have hK := h oo oc w (by simpa using hown) (Mods.refl _ _) (Below.refl _ _)
    rw [Nat.add_zero] at hK
    refine wpList_plain hgd fun K hKK => ?_
    unfold Oper.wp
    simp [execOp, ho, resolve, invoke, builtin, hs, hx, hrun, Result.andThen]
    exact hKK _ _ hK
  | cons y N' =>
    obtain ⟨N, hN⟩ : ∃ N, y :: N' = N := ⟨_, rfl⟩
    have hpos : 0 < n := by rw [← hNl]; simp
    rw [hN] at hNl hsrc h
    clear hN
    have hlen : (N.flatMap enc).length = n * k := by rw [← hNl]; exact flat_len enc k hk N
    have hne : N.flatMap enc ≠ [] := fun e0 => by
      rw [e0] at hlen
      have := Nat.mul_pos hpos h0
      simp at hlen
      omega
    obtain ⟨ad, rfl, hcells⟩ := hsrc hne
    refine wpList_append_lies _ hgd s x t ho B e i z k bytes ht hi hz hsize hby hzs h0 (.slice oo m oc) m (M.flatMap enc) hs hown ad n sc (N.flatMap enc) hx hlen hcells
      (fun u hu => by obtain ⟨x, hx1, hx2⟩ := List.mem_flatMap.1 hu; exact h1 x u hx2) hpos (by unfold maxLen; omega) ?_ hB w.heap.size rfl ?_
    · have : (m + n) * bytes ≤ 100000000 * 1000 := Nat.mul_le_mul (by omega) hb2
      omega
    · intro g cap w' hown' hgrow _ _
      have hm : Mods (fun j => ∃ a, oo = some a ∧ j = a.block) w w' := (Mods.refl _ w).then (Mods.of_grown hgrow) (fun k _ hk => by
        cases oo with
        | none => cases hk
        | some a => exact ⟨a, rfl, (Option.some.inj hk).symm⟩)
      have hb : Below B w w' := hm.below (fun j ⟨a, e1, e2⟩ => by
        subst e1
        rw [e2]
        exact (hown.lt a.block rfl).1) hB
      exact h (some ⟨g, 0, none⟩) cap w' (by rw [List.flatMap_append]; exact hown') hm hb
theorem SrcAt.back {so : Option Addr} {l : List Value} (h : SrcAt w so l) (j : Nat) : SrcAt w (so.map (·.add j)) (l.drop j) := by
  intro hne
  obtain ⟨ad, h1, h2⟩ := h (fun e => hne (by rw [e]; simp))
  subst h1
  refine ⟨ad.add j, rfl, fun i u hi => ?_⟩
  rw [List.getElem?_drop] at hi
  have := h2 _ u hi
  rwa [Addr.add_add]
end
theorem part_ids {s : List Rv} {c : List Nat} (hn : (idsX s).Nodup) (hc : c.Pairwise (· < ·)) (hl : ∀ x ∈ c, x < s.length) : (idsX (partR s c)).Nodup := by
  have e : idsX (partR s c) = c.map fun i => (idsX s).getD i default := by
    show (c.map fun i => s.getD i default).map Rv.id = _
    rw [List.map_map]
    refine List.map_congr_left fun i hi => ?_
    obtain ⟨y, h1⟩ : ∃ y, s[i]? = some y := ⟨_, List.getElem?_eq_getElem (hl i hi)⟩
    simp [List.getD, h1]
  rw [e]
  unfold List.Nodup
  rw [List.pairwise_map]
  refine (List.Pairwise.and_mem.1 hc).imp fun {a b} ⟨ha, hb, hab⟩ => ?_
  have h1 := hl a ha
  have h2 := hl b hb
  obtain ⟨ya, e1⟩ : ∃ y, (idsX s)[a]? = some y := ⟨_, List.getElem?_eq_getElem (by simpa using h1)⟩
  obtain ⟨yb, e2⟩ : ∃ y, (idsX s)[b]? = some y := ⟨_, List.getElem?_eq_getElem (by simpa using h2)⟩
  simp only [List.getD, e1, e2, Option.getD_some]
  intro e3
  have e4 : (idsX s)[a]? = (idsX s)[b]? := by rw [e1, e2, e3]
  have := (List.getElem?_inj (by simpa using h1) hn).1 e4
  omega
theorem rowI_next (s : List Nd) {L : List (List Nat)} {k : Nat} {c : List Nat} (hc : L[k]? = some c) : rowI s (L.take (k + 1)) = rowI s (L.take k) ++ within (part s c) := by
  unfold rowI
  rw [List.take_add_one, hc]
  simp
theorem partR_len (s : List Rv) (c : List Nat) : (partR s c).length = c.length := List.length_map _
/-- the components of sorted records -/
theorem inorder_row {X S : List Rv} (hS : nds S = byIds (nds X)) (hU : Unl (nds X)) {L : List (List Nat)} {q : Nat → Nat} (h : InOrder (edP (nds S)) S.length L q) : Row (byIds (nds X)) (rowI (nds S) L) := by
  have hU2 : Unl (nds S) := by rw [hS]; exact hU.perm (byIds_perm _)
  have hl : (nds S).length = S.length := List.length_map _
  refine ⟨L, q, ?_, by rw [hS]⟩
  rw [← hS, hl]
  rw [← hl] at h ⊢
  exact inorder_ext (fun u w => (edgeP hU2).trans (edgeR hU2).symm) h
end Go.Proofs.YtkgjfagejnppbaaGreatDoor.O

/- order.graph. -/
namespace Go.Proofs.YtkgjfagejnppbaaGreatDoor.O
open Go.RowKit Go.Proofs.YtkgjfagejnppbaaGreatDoor.M Go.BigFrame Go.Proofs.YtkgjfagejnppbaaGreatDoor.K
set_option linter.unusedVariables false
set_option linter.unusedSimpArgs false

theorem PMap.below {w w1 : World} {b k : Nat} {ids : List Id} (h : PMap w b ids k) (hb : Below w.heap.size w w1) : PMap w1 b ids k := by
  have hl := h.lt
  obtain ⟨es, clock, h1, h2⟩ := h
  exact ⟨es, clock, (hb.block b hl).trans h1, h2⟩
theorem iv_flat (l : List Nat) : l.flatMap (fun n : Nat => [Value.int .i64 (n : Int)]) = iv l := by
  induction l with
  | nil => rfl
  | cons a l ih => rw [List.flatMap_cons, ih]; rfl
theorem own_empty (w : World) (e : TypeId) (s : Nat) (t : Nat × Nat) : (w.alloc (.cells #[] e)).ownsRow w.heap.size e s (.slice (some ⟨w.heap.size, 0, none⟩) 0 0) 0 [] := by
  have h := heap_alloc_new w (.cells #[] e)
  exact ⟨by simp, .inr ⟨w.heap.size, 0, #[], rfl, Nat.le_refl _, h, Nat.le_refl _, by simp, by simp, by simp⟩⟩
theorem at_idx {l : List Id} {d : Id} (h : d ∈ l) : l[l.idxOf d]? = some d := by
  rw [List.getElem?_eq_getElem (List.idxOf_lt_length_iff.2 h), List.getElem_idxOf]
theorem take_ids (X : List Rv) : (idsX X).take X.length = idsX X := List.take_of_length_le (by simp)
theorem own_some {w : World} {B : Nat} {e : TypeId} {s : Nat} {oo : Option Addr} {n c : Nat} {xs : List Value} (h : w.ownsRow B e s (.slice oo n c) n xs) (h0 : 0 < n) : ∃ g, oo = some ⟨g, 0, none⟩ := by
  obtain ⟨ao', cap', e0, h1, h2, h3, h4⟩ := M.own_view h
  cases e0
  cases oo with
  | none => have := (h3 rfl).1; omega
  | some a =>
    obtain ⟨g, cur, rfl, _⟩ := h4 a rfl
    exact ⟨g, rfl⟩
theorem OutAt.base {B B2 : Nat} {w : World} {oo : Option Addr} {oc : Nat} {R : List (Option Addr × Nat)} {L : List (List Nat)} (h : OutAt B w oo oc R L) (hb : B2 ≤ B) : OutAt B2 w oo oc R L :=
  ⟨own_base h.top (fun q hq => Nat.le_trans hb (h.top.lt q hq).1), h.rl, fun i c r hc hr => own_base (h.row i c r hc hr) (fun q hq => Nat.le_trans hb ((h.row i c r hc hr).lt q hq).1)⟩
/-- one round's row of edges -/
def GRow (w : World) (B g c : Nat) (M : List Nat) : Prop := w.ownsRow B 3 1 (.slice (some ⟨g, 0, none⟩) M.length c) M.length (iv M)
set_option maxRecDepth 100000 in
set_option maxHeartbeats 4000000 in
theorem graph_any (X : List Rv) (ao : Option Addr) (cap : Nat) (w : World) (h : RecsV w ao cap X) (hl : X.length ≤ 10000) (hn : (idsX X).Nodup) (hdl : ∀ x ∈ X, x.deps.length ≤ 10000) :
    Calls Tryz.prog 80 #[.slice ao X.length cap] w fun e w' => ∃ oo oc R, e = .returned (.slice oo X.length oc) ∧ (OutAt w.heap.size w' oo oc R (rowsG X X.length) ∧ Below w.heap.size w w') := by
  obtain ⟨hl1, hl2⟩ := h.le
  unfold maxLen at hl2
  obtain ⟨i0, hi, hz0, hz1, hz2⟩ := info_parts info_int
  obtain ⟨i1, hi1, hy0, hy1, hy2⟩ := info_parts info_ints
  have H0 := Lib.hid h
  have HND := Lib.hid hn
  have HDL := Lib.hid hdl
  have HPL := Lib.hid (places_any X ao cap w h (by omega))
  clear h hn hdl
  go_enter Tryz.func80, Tryz.ntmps80
  go_wp2_with fail
  refine HPL.out.mono ?_
  rintro e W ⟨rfl, hp, hb⟩
  have HP := Lib.hid hp
  have HB := Lib.hid hb
  have H := Lib.hid (H0.out.below hb)
  clear hp hb HPL H0
  go_wp2_with fail
  go_loopw [4, 16] (fun ov kv wr => ∃ (k : Nat) (oo : Option Addr) (oc : Nat) (R : List (Option Addr × Nat)), ov = .slice oo (rowsG X k).length oc ∧ kv = .int .i64 k ∧ k ≤ X.length ∧ OutAt W.heap.size wr oo oc R (rowsG X k) ∧ Below W.heap.size W wr) (fun _ kv _ => X.length - (intOf kv).toNat)
  case atStart => exact ⟨0, none, 0, [], rfl, rfl, Nat.zero_le _, OutAt.nil _ _, Below.refl _ _⟩
  case round =>
    obtain ⟨k, oo, oc, R, rfl, rfl, hk, ho, hb⟩ := hrel
    have HO := Lib.hid ho
    have HBR := Lib.hid hb
    clear ho hb
    have hWr := HBR.out.size
    by_cases hkl : k < X.length
    · have hii : (k : Int) < (X.length : Int) := by omega
      obtain ⟨x, hx⟩ : ∃ x, X[k]? = some x := ⟨_, List.getElem?_eq_getElem hkl⟩
      have HX := Lib.hid hx
      obtain ⟨b, off, e0, hbl, hrec⟩ := H.out.row k x hx
      subst e0
      obtain ⟨c0, c1, c2, c3, c4, c5, c6, c7, c8, c9, c10, c11, c12, c13, c14, c15⟩ := hrec.below HBR.out hbl
      clear hx hrec
      go_upto_region 6 with fail
      obtain ⟨w1, hw1⟩ : ∃ w1, w1 = wr.alloc (recO x) := ⟨_, rfl⟩
      have hba : w1.heap[wr.heap.size]? = some (recO x) := by rw [hw1]; exact heap_alloc_new wr _
      rw [← hw1]
      clear c0 c1 c2 c3 c4 c5 c6 c7 c8 c9 c10 c11 c12 c13 c14 c15
      obtain ⟨c0, c1, c2, c3, c4, c5, c6, c7, c8, c9, c10, c11, c12, c13, c14, c15⟩ := box16 hba
      go_upto_region 8 with fail
      obtain ⟨w2, hw2⟩ : ∃ w2, w2 = (wr.alloc (recO x)).alloc (.cells #[] 3) := ⟨_, rfl⟩
      obtain ⟨B1, hB1⟩ : ∃ B1, B1 = wr.heap.size + 1 := ⟨_, rfl⟩
      have HOW := Lib.hid (show w2.ownsRow B1 3 1 (.slice (some ⟨B1, 0, none⟩) 0 0) 0 [] by
        have := own_empty (wr.alloc (recO x)) 3 1 (0, 0)
        rw [← hw2] at this
        simpa [hB1] using this)
      have HB2 := Lib.hid (show Below wr.heap.size wr w2 by rw [hw2]; exact ((Below.refl _ _).alloc (Nat.le_refl _) _).alloc (by simp) _)
      have hs2 : w2.heap.size = B1 + 1 := by rw [hw2, hB1]; simp
      have HP2 := Lib.hid (HP.out.below HBR.out)
      have HD2 := Lib.hid ((H.out.ok x (List.mem_of_getElem? HX.out)).deps.below (B := 0) HBR.out)
      have HOK := Lib.hid (show ∀ y ∈ idsX X, IdI y from fun y hy => by
        obtain ⟨z, hz, rfl⟩ := List.mem_map.1 hy
        exact (H.out.ok z hz).id)
      have HBI := Lib.hid hB1
      have hdx := HDL.out x (List.mem_of_getElem? HX.out)
      rw [← hw2, ← hB1]
      clear hw1 hba hw2 hB1 c0 c1 c2 c3 c4 c5 c6 c7 c8 c9 c10 c11 c12 c13 c14 c15
      obtain ⟨wa, rfl⟩ : ∃ wa, wa = wr := ⟨_, rfl⟩
      obtain ⟨xo, hxo⟩ : ∃ xo, x.ao = xo := ⟨_, rfl⟩
      rw [hxo]
      have HXO := Lib.hid hxo
      clear hxo
      go_loopw [7, 25] (fun ev kv wq => ∃ (j : Nat) (M : List Nat) (g c : Nat), ev = .slice (some ⟨g, 0, none⟩) M.length c ∧ kv = .int .i64 j ∧ j ≤ x.deps.length ∧ M = plN (idsX X) (x.deps.take j) ∧ wq.ownsRow B1 3 1 (.slice (some ⟨g, 0, none⟩) M.length c) M.length (iv M) ∧ Below B1 w2 wq) (fun _ kv _ => x.deps.length - (intOf kv).toNat)
      case atStart => exact ⟨0, [], B1, 0, rfl, rfl, Nat.zero_le _, by simp [plN], HOW.out, Below.refl _ _⟩
      case round =>
        obtain ⟨j, M, g, c, rfl, rfl, hj, hM, hown, hbq⟩ := hrel
        have HM := Lib.hid hM
        have HOQ := Lib.hid hown
        have HBQ := Lib.hid hbq
        have hMl : M.length ≤ 10000 := by
          have h1 : M.length ≤ (x.deps.take j).length := by rw [hM]; exact List.length_filterMap_le _ _
          rw [List.length_take] at h1
          omega
        clear hM hown hbq
        have hsq := HBQ.out.size
        have HBA := Lib.hid (HB2.out.trans (HBQ.out.mono (B' := wa.heap.size) (by have := HBI.out; omega)))
        have HPQ := Lib.hid (HP2.out.below HBA.out)
        have HDQ := Lib.hid (HD2.out.below (B := 0) HBA.out)
        by_cases hjl : j < x.deps.length
        · have hjj : (j : Int) < (x.deps.length : Int) := by omega
          obtain ⟨d, hd⟩ : ∃ d, x.deps[j]? = some d := ⟨_, List.getElem?_eq_getElem hjl⟩
          have HD := Lib.hid hd
          obtain ⟨b2, off2, e2, hbl2, y0, y1⟩ := HDQ.out.row j d hd
          have HID := Lib.hid (HDQ.out.ok d (List.mem_of_getElem? hd))
          obtain rfl : xo = some ⟨b2, off2, none⟩ := HXO.out.symm.trans e2
          clear hd e2
          go_upto_region 10 with fail
          obtain ⟨w3, hw3⟩ : ∃ w3, w3 = wr.alloc (idO d) := ⟨_, rfl⟩
          have hb3 : Below wr.heap.size wr w3 := by rw [hw3]; exact (Below.refl _ _).alloc (Nat.le_refl _) _
          have HB3 := Lib.hid (HBQ.out.trans (hb3.mono (by omega)))
          have HO3 := Lib.hid (show w3.ownsRow B1 3 1 (.slice (some ⟨g, 0, none⟩) M.length c) M.length (iv M) by rw [hw3]; exact HOQ.out.alloc _)
          have HP3 := Lib.hid (HPQ.out.below hb3)
          obtain ⟨⟨z0, z1⟩, _⟩ := box2 (show w3.heap[wr.heap.size]? = some (idO d) by rw [hw3]; exact heap_alloc_new wr _)
          rw [← hw3]
          clear hw3 hb3 y0 y1
          have hs3 := HB3.out.size
          by_cases hdm : d ∈ idsX X
          · have hhas : Maps.has (pmap (idsX X) X.length) (klI d) = true := by rw [pmap_has HOK.out HID.out _ (by simp), take_ids]; exact decide_eq_true hdm
            have hidx : (idsX X)[(idsX X).idxOf d]? = some d := at_idx hdm
            have hat0 := pmap_at HOK.out HND.out hidx (.lit (.int .i64 0)) X.length (by have := List.idxOf_lt_length_iff.2 hdm; simpa using this) (by simp)
            have HHAS := Lib.hid hhas
            have HAT := Lib.hid hat0
            have HN := Lib.hid (show M ++ [(idsX X).idxOf d] = plN (idsX X) (x.deps.take (j + 1)) by rw [List.take_add_one, HD.out]; simp only [Option.toList_some]; rw [plN_app, ← HM.out, plN_in hdm])
            clear hhas hidx hat0 hdm
            go_upto_region 11 with (at_lookup; refine wpList_lookup_own_ok_int _ rfl (.tmp 30) (.tmp 31) 171 rfl 37 3 .i64 id_keyed Tryz.underlying171 Tryz.underlying3 (Tryz.zeroValue3 _) w.heap.size X.length (pmap (idsX X) X.length) rfl HP3.out (idV d) (klI d) rfl (key_id d HID.out) ?_; intro cc hat hwc; rw [HHAS.out]; obtain rfl : cc = ((idsX X).idxOf d : Int) := (by rw [HAT.out] at hat; cases hat; rfl); clear hat hwc)
            clear z0 z1
            go_wp2_with (refine wpList_app (fun n : Nat => [Value.int .i64 (n : Int)]) 1 (fun _ => rfl) (by decide) (fun n v hv => by rw [List.mem_singleton.1 hv]; rfl) (by rfl) (.tmp 36) (.tmp 38) 87 (by rfl) B1 3 i0 _ 8 Tryz.underlying87 hi hz0 hz1 hz2 (by decide) rfl (some ⟨g, 0, none⟩) c M ((idsX X).idxOf d) #[.int .i64 ((idsX X).idxOf d : Nat)] rfl (by rfl) (by rw [iv_flat]; exact HO3.out) (by rfl) (by omega) (by omega) ?_; intro oo' oc' w7 hown hmod hbel; rw [iv_flat] at hown; have HOW7 := Lib.hid hown; have HBE7 := Lib.hid hbel; clear hown hmod hbel)
            obtain ⟨g3, rfl⟩ := own_some HOW7.out (by simp)
            go_roundw
            case rel => exact ⟨j + 1, M ++ [(idsX X).idxOf d], g3, oc', by simp, by go_num, by omega, HN.out, HOW7.out, HB3.out.trans HBE7.out⟩
            case measure => simp [intOf]; omega
          · have hhas : Maps.has (pmap (idsX X) X.length) (klI d) = false := by rw [pmap_has HOK.out HID.out _ (by simp), take_ids]; exact decide_eq_false hdm
            have HHAS := Lib.hid hhas
            have HN := Lib.hid (show M = plN (idsX X) (x.deps.take (j + 1)) by rw [List.take_add_one, HD.out]; simp only [Option.toList_some]; rw [plN_app, ← HM.out, plN_out hdm, List.append_nil])
            clear hhas hdm
            go_upto_region 11 with (at_lookup; refine wpList_lookup_own_ok_int _ rfl (.tmp 30) (.tmp 31) 171 rfl 37 3 .i64 id_keyed Tryz.underlying171 Tryz.underlying3 (Tryz.zeroValue3 _) w.heap.size X.length (pmap (idsX X) X.length) rfl HP3.out (idV d) (klI d) rfl (key_id d HID.out) ?_; intro cc hat hwc; rw [HHAS.out]; clear hat hwc)
            clear z0 z1
            go_wp2_with fail
            go_roundw
            case rel => exact ⟨j + 1, M, g, c, rfl, by go_num, by omega, HN.out, HO3.out, HB3.out⟩
            case measure => simp [intOf]; omega
        · obtain rfl : j = x.deps.length := by omega
          have hjj : ¬ (x.deps.length : Int) < (x.deps.length : Int) := by omega
          have HN := Lib.hid (show rowsG X k ++ [M] = rowsG X (k + 1) by
            unfold rowsG
            rw [List.take_add_one, HX.out, HM.out, List.take_length]
            simp)
          have hB1 : w2.heap.size = B1 + 1 := hs2
          have HTOP := Lib.hid (show wr.ownsRow W.heap.size 87 1 (.slice oo (rowsG X k).length oc) (rowsG X k).length (hdrs R (rowsG X k)) from Go.Proofs.YtkgjfagejnppbaaGreatDoor.R.own_below HO.out.top HBA.out)
          have HOA := Lib.hid (HO.out.below HBA.out)
          have hrl : (rowsG X k).length ≤ 10000 := by unfold rowsG; rw [List.length_map, List.length_take]; omega
          have hsa := HBA.out.size
          go_wp2_with (refine wpList_append_lies _ (by rfl) (.tmp 41) (.tmp 43) 90 (by rfl) W.heap.size 87 i1 _ 1 24 Tryz.underlying90 hi1 hy0 hy1 hy2 rfl (by decide) (.slice oo (rowsG X k).length oc) (rowsG X k).length (hdrs R (rowsG X k)) (by rfl) (by exact HTOP.out.alloc _) ⟨wr.heap.size, 0, none⟩ 1 1 [.slice (some ⟨g, 0, none⟩) M.length c] (by rfl) (by rfl) (World.news_of_block (cs := #[.slice (some ⟨g, 0, none⟩) M.length c]) (t := 87) (fr := (0, 0)) (heap_alloc_new wr _)) (by simp [Value.oneCell']) (by omega) (by unfold maxLen; omega) (by omega) (by simp; omega) (wr.heap.size + 1) (by simp) ?_; intro gg cg w7 hown hgrow hat hlt7; have HG7 := Lib.hid (And.intro hown (And.intro hgrow hat)); clear hown hgrow hat)
          have hmore := HOA.out.more (own_base HOQ.out (fun q hq => by have := (HOQ.out.lt q hq).1; have := HBI.out; omega)) HG7.out.1 HG7.out.2.1
          rw [HN.out] at hmore
          have HZ := Lib.hid hmore.1
          have HBZ := Lib.hid (show Below W.heap.size W w7 from (HBR.out.trans (HBA.out.mono hWr)).trans (hmore.2.below (fun q ⟨a, e1, e2⟩ => by subst e1; rw [e2]; exact (HTOP.out.lt a.block rfl).1) (Nat.le_trans hWr HBA.out.size)))
          clear hmore
          go_roundw
          case rel => exact ⟨k + 1, some ⟨gg, 0, none⟩, cg, _, by rw [← HN.out]; simp, by go_num, by omega, HZ.out, HBZ.out⟩
          case measure => simp [intOf]; omega
    · obtain rfl : k = X.length := by omega
      have hii : ¬ (X.length : Int) < (X.length : Int) := by omega
      have HF := Lib.hid (show OutAt w.heap.size wr oo oc R (rowsG X X.length) from HO.out.base HB.out.size)
      have HBF := Lib.hid (HB.out.trans (HBR.out.mono HB.out.size))
      have hrl : (rowsG X X.length).length = X.length := by unfold rowsG; simp
      go_wp2_with fail
      go_ret
      exact ⟨oo, oc, rfl, ⟨R, HF.out⟩, HBF.out⟩
end Go.Proofs.YtkgjfagejnppbaaGreatDoor.O
