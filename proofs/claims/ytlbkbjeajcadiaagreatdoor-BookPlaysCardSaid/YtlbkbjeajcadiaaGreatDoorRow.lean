/- Rows of structs in memory, whatever the struct: of one's own, and as they are read; append. -/
import Derived.Test.YtlbkbjeajcadiaaGreatDoorMem
import Derived.Deep.AppendLies
import Derived.Laws.OwnMore
namespace Go.Proofs.YtlbkbjeajcadiaaGreatDoor.Rw
open Go.RowKit Go.Proofs.YtlbkbjeajcadiaaGreatDoor.M
set_option linter.unusedVariables false
set_option linter.unusedSimpArgs false

section
variable {P : Program} {w : World} {α : Type}
/-- nothing is appended -/
theorem run_append_owned_empty (base : Nat) (t ty e : TypeId) (i : TypeInfo) (size : Nat) (ht : P.underlying t = some (.slice e)) (hi : P.info? e = some i)
    (v : Value) (n : Nat) (xs : List Value) (hown : w.ownsRow base e size v n xs) (ao : Option Addr) (c : Nat) :
    (Builtin.append_ #[t, t] ty #[v, .slice ao 0 c]).run P w = .ok v w := by
  rcases hown.2 with ⟨rfl, rfl⟩ | ⟨g, cap, cur, rfl, _, _, hnc, _⟩
  · cases ao <;> simp [Builtin.append_, run_underlying ht, sizeOf, typeInfo, hi, Builtin.lenOf, Builtin.firstCells, loadCells, loadCellsFrom]
  · cases ao <;> simp [Builtin.append_, run_underlying ht, sizeOf, typeInfo, hi, Builtin.lenOf, Builtin.firstCells, hnc, loadCells, loadCellsFrom, storeCells]
theorem flat_len (enc : α → List Value) (k : Nat) (hk : ∀ x, (enc x).length = k) : ∀ l : List α, (l.flatMap enc).length = l.length * k
  | [] => by simp
  | a :: t => by rw [List.flatMap_cons, List.length_append, hk, flat_len enc k hk t, List.length_cons, Nat.add_mul, Nat.one_mul, Nat.add_comm]
theorem flat_get (enc : α → List Value) (k : Nat) (hk : ∀ x, (enc x).length = k) : ∀ (l : List α) (i : Nat) (x : α), l[i]? = some x → ∀ j, j < k → (l.flatMap enc)[i * k + j]? = (enc x)[j]?
  | [], i, x, h, j, hj => by simp at h
  | a :: t, 0, x, h, j, hj => by
    cases h
    rw [List.flatMap_cons, Nat.zero_mul, Nat.zero_add, List.getElem?_append_left (by rw [hk]; exact hj)]
  | a :: t, i + 1, x, h, j, hj => by
    have ih := flat_get enc k hk t i x (by simpa using h) j hj
    rw [List.flatMap_cons, List.getElem?_append_right (by rw [hk, Nat.add_mul, Nat.one_mul]; omega), ← ih, hk]
    congr 1
    rw [Nat.add_mul, Nat.one_mul]
    omega
/-- what is appended lies here -/
def SrcAt (w : World) (so : Option Addr) (l : List Value) : Prop := l ≠ [] → ∃ ad, so = some ad ∧ ∀ j u, l[j]? = some u → w.cell? (ad.add j) = some u
theorem SrcAt.of_own {B : Nat} {e : TypeId} {k n : Nat} {so : Option Addr} {sc : Nat} {l : List Value} (h : w.ownsRow B e k (.slice so n sc) n l) : SrcAt w so l := by
  intro hne
  obtain ⟨ao', cap', e0, h1, h2, h3, h4⟩ := own_view h
  cases e0
  cases so with
  | none =>
    rcases h.2 with ⟨h5, h6⟩ | ⟨g, cap, cur, h5, _⟩
    · refine absurd (List.eq_nil_of_length_eq_zero ?_) hne
      rw [h.1, h6, Nat.zero_mul]
    · cases h5
  | some a =>
    obtain ⟨g, cur, rfl, _, hg, hsz, htk⟩ := h4 a rfl
    refine ⟨_, rfl, fun j u hj => ?_⟩
    have hjl : j < n * k := by
      have := (List.getElem?_eq_some_iff.1 hj).1
      rw [← htk, List.length_take] at this
      omega
    have ea : (⟨g, 0, none⟩ : Addr).add j = ⟨g, 0 + j, none⟩ := by
      unfold Addr.add
      split
      · next e => rw [e]
      · rfl
    rw [ea, cell_of_row w g _ _ _ _ hg, Nat.zero_add, ← Array.getElem?_toList, ← hj, ← htk, List.getElem?_take_of_lt hjl]
theorem wpList_apps2 (enc : α → List Value) (k : Nat) (hk : ∀ x, (enc x).length = k) (h0 : 0 < k) (h1 : ∀ x, ∀ v ∈ enc x, v.oneCell' = true) {ops : Array Oper} {rest : List Oper} {o : Oper} {a : Act} {Q : Exit → Act → World → Prop} (hgd : o.guard = none) (s x : Operand) (t : TypeId)
    (ho : o.op = .call { callee := .builtin .append, args := #[s, x], argTypes := #[t, t] }) (B : Nat) (e : TypeId) (i : TypeInfo) (z : Value) (bytes : Nat) (ht : P.underlying t = some (.slice e)) (hi : P.info? e = some i) (hz : i.zero = some z)
    (hsize : i.size = k) (hby : i.bytes = bytes) (hb2 : bytes ≤ 1000) (hzs : z.cells.size = k) (oo : Option Addr) (oc m : Nat) (M : List α) (hMl : M.length = m) (so : Option Addr) (sc n : Nat) (N : List α) (hNl : N.length = n) (hs : a.eval s = .slice oo m oc)
    (hown : w.ownsRow B e k (.slice oo m oc) m (M.flatMap enc)) (hx : a.eval x = .slice so n sc) (hsrc : SrcAt w so (N.flatMap enc)) (hM : m + n ≤ 100000000) (hB : B ≤ w.heap.size)
    (h : ∀ oo' oc' w', w'.ownsRow B e k (.slice oo' (m + n) oc') (m + n) ((M ++ N).flatMap enc) → Mods (fun j => ∃ a, oo = some a ∧ j = a.block) w w' → Below B w w' → (∀ a, oo' = some a → (∃ a0, oo = some a0 ∧ a.block = a0.block) ∨ w.heap.size ≤ a.block) → wpList P ops Q rest (a.put o.dst (.slice oo' (m + n) oc')) w') :
    wpList P ops Q (o :: rest) a w := by
  cases N with
  | nil =>
    obtain rfl : n = 0 := by rw [← hNl]; rfl
    have hrun := run_append_owned_empty (P := P) (w := w) B t o.type e i k ht hi _ _ _ hown so sc
    have hK := h oo oc w (by simpa using hown) (Mods.refl _ _) (Below.refl _ _) (fun a e => .inl ⟨a, e, rfl⟩)
    rw [Nat.add_zero] at hK
    refine wpList_plain hgd fun K hKK => ?_
    unfold Oper.wp
    simp [execOp, ho, resolve, invoke, builtin, hs, hx, hrun, Result.andThen]
    exact hKK _ _ hK
  | cons y N' =>
    obtain ⟨N, hN⟩ : ∃ N, y :: N' = N := ⟨_, rfl⟩
    have hpos : 0 < n := by rw [← hNl]; simp
    rw [hN] at hNl hsrc h
    clear hN
    have hlen : (N.flatMap enc).length = n * k := by rw [← hNl]; exact flat_len enc k hk N
    have hne : N.flatMap enc ≠ [] := fun e0 => by
      rw [e0] at hlen
      have := Nat.mul_pos hpos h0
      simp at hlen
      omega
    obtain ⟨ad, rfl, hcells⟩ := hsrc hne
    refine wpList_append_lies _ hgd s x t ho B e i z k bytes ht hi hz hsize hby hzs h0 (.slice oo m oc) m (M.flatMap enc) hs hown ad n sc (N.flatMap enc) hx hlen hcells
      (fun u hu => by obtain ⟨x, hx1, hx2⟩ := List.mem_flatMap.1 hu; exact h1 x u hx2) hpos (by unfold maxLen; omega) ?_ hB w.heap.size rfl ?_
    · have : (m + n) * bytes ≤ 100000000 * 1000 := Nat.mul_le_mul (by omega) hb2
      omega
    · intro g cap w' hown' hgrow hgg _
      have hm : Mods (fun j => ∃ a, oo = some a ∧ j = a.block) w w' := (Mods.refl _ w).then (Mods.of_grown hgrow) (fun k _ hk => by
        cases oo with
        | none => cases hk
        | some a => exact ⟨a, rfl, (Option.some.inj hk).symm⟩)
      have hb : Below B w w' := hm.below (fun j ⟨a, e1, e2⟩ => by
        subst e1
        rw [e2]
        exact (hown.lt a.block rfl).1) hB
      exact h (some ⟨g, 0, none⟩) cap w' (by rw [List.flatMap_append]; exact hown') hm hb (fun a e => by
        cases e
        rcases hgg with h1 | h1
        · left
          cases oo with
          | none => cases h1
          | some a0 => exact ⟨a0, rfl, (Option.some.inj h1).symm⟩
        · right
          exact Nat.le_of_eq h1.symm)
end
/-- a kind of rows: the slice's type, the elements' type, how many cells an element has, its cells, its bytes -/
structure RowS (α : Type) where
  t : TypeId
  e : TypeId
  k : Nat
  enc : α → List Value
  bytes : Nat
structure RowS.Law {α : Type} (S : RowS α) : Prop where
  und : Tryz.prog.underlying S.t = some (.slice S.e)
  info : ∃ i z, Tryz.prog.info? S.e = some i ∧ i.zero = some z ∧ i.size = S.k ∧ i.bytes = S.bytes ∧ z.cells.size = S.k
  len : ∀ x, (S.enc x).length = S.k
  pos : 0 < S.k
  by_ : S.bytes ≤ 1000
  one : ∀ x, ∀ v ∈ S.enc x, v.oneCell' = true
theorem info_of {t : TypeId} {z : Value} {k b : Nat} (h : (Tryz.prog.info? t).map (fun i => (i.zero, i.size, i.bytes)) = some (some z, k, b)) (hz : z.cells.size = k) : ∃ i z, Tryz.prog.info? t = some i ∧ i.zero = some z ∧ i.size = k ∧ i.bytes = b ∧ z.cells.size = k := by
  obtain ⟨i, hi, e⟩ := Option.map_eq_some_iff.1 h
  simp only [Prod.mk.injEq] at e
  exact ⟨i, z, hi, e.1, e.2.1, e.2.2, hz⟩
section
variable {α : Type} {S : RowS α} {w w1 w2 : World} {B B2 oc : Nat} {oo : Option Addr} {X Y : List α}
/-- a row of one's own -/
def OwnG (S : RowS α) (w : World) (B : Nat) (oo : Option Addr) (oc : Nat) (X : List α) : Prop := w.ownsRow B S.e S.k (.slice oo X.length oc) X.length (X.flatMap S.enc)
/-- a row as it is read -/
structure RowV (S : RowS α) (w : World) (oo : Option Addr) (oc : Nat) (X : List α) : Prop where
  le : X.length ≤ oc ∧ oc ≤ maxLen
  row : ∀ i x, X[i]? = some x → ∃ b off, oo = some ⟨b, off, none⟩ ∧ b < w.heap.size ∧ ∀ j, j < S.k → w.cell? ⟨b, off + i * S.k + j, none⟩ = (S.enc x)[j]?
theorem OwnG.nil (S : RowS α) (w : World) (B : Nat) : OwnG S w B none 0 [] := World.ownsRow_nil _ _ _ _
theorem OwnG.keep {F : Nat → Prop} (h : OwnG S w B oo oc X) (hm : Mods F w w1) (hn : ∀ a, oo = some a → ¬ F a.block) : OwnG S w1 B oo oc X :=
  own_kept h hm fun k hk => by
    cases oo with
    | none => cases hk
    | some a =>
      obtain rfl : a.block = k := Option.some.inj hk
      exact hn a rfl
theorem OwnG.below (h : OwnG S w B oo oc X) (hb : Below w.heap.size w w1) : OwnG S w1 B oo oc X := h.keep (F := fun _ => False) (Mods.of_below hb) (fun _ _ h => h)
theorem OwnG.cells (h : OwnG S w B oo oc X) : ∀ a, oo = some a → ∃ cur, w.heap[a.block]? = some (.cells cur S.e (0, 0)) ∧ B ≤ a.block ∧ a.block < w.heap.size := by
  intro a e
  obtain ⟨ao', cap', e0, _, _, _, h4⟩ := own_view h
  cases e0
  obtain ⟨g, cur, rfl, hB, hg, _⟩ := h4 a e
  exact ⟨cur, hg, hB, M.heap_lt hg⟩
theorem OwnG.base (h : OwnG S w B oo oc X) (hb : B2 ≤ B) : OwnG S w B2 oo oc X := own_base h fun k hk => by
  cases oo with
  | none => cases hk
  | some a =>
    obtain rfl : a.block = k := Option.some.inj hk
    obtain ⟨_, _, h2, _⟩ := h.cells a rfl
    omega
theorem OwnG.rebase (h : OwnG S w B oo oc X) (hb : ∀ a, oo = some a → B2 ≤ a.block) : OwnG S w B2 oo oc X := own_base h fun k hk => by
  cases oo with
  | none => cases hk
  | some a =>
    obtain rfl : a.block = k := Option.some.inj hk
    exact hb a rfl
theorem OwnG.len (h : OwnG S w B oo oc X) : X.length ≤ oc ∧ oc ≤ maxLen := by
  obtain ⟨ao', cap', e0, h1, h2, _⟩ := own_view h
  cases e0
  exact ⟨h1, h2⟩
/-- rows of two kinds lie apart -/
theorem OwnG.apart {β : Type} {S2 : RowS β} {oo2 : Option Addr} {oc2 : Nat} {Y : List β} (h : OwnG S w B oo oc X) (h2 : OwnG S2 w B2 oo2 oc2 Y) (he : S.e ≠ S2.e) : ∀ a, oo = some a → ∀ a2, oo2 = some a2 → a.block ≠ a2.block := by
  intro a e a2 e2 hb
  obtain ⟨c1, h1, _⟩ := h.cells a e
  obtain ⟨c2, h2, _⟩ := h2.cells a2 e2
  rw [hb, h2] at h1
  simp only [Option.some.injEq, Obj.cells.injEq] at h1
  exact he h1.2.1.symm
/-- one stays where one of another kind grows -/
theorem OwnG.beside {β : Type} {S2 : RowS β} {oo2 : Option Addr} {oc2 : Nat} {Y : List β} (h : OwnG S w B oo oc X) (h2 : OwnG S2 w B2 oo2 oc2 Y) (he : S.e ≠ S2.e) (hm : Mods (fun j => ∃ a, oo2 = some a ∧ j = a.block) w w1) : OwnG S w1 B oo oc X :=
  h.keep hm fun a e ⟨a2, e2, eb⟩ => h.apart h2 he a e a2 e2 eb
theorem OwnG.view (hS : S.Law) (h : OwnG S w B oo oc X) : RowV S w oo oc X := by
  obtain ⟨ao', cap', e0, h1, h2, h3, h4⟩ := own_view h
  cases e0
  refine ⟨⟨h1, h2⟩, fun i x hx => ?_⟩
  have hil := (List.getElem?_eq_some_iff.1 hx).1
  cases oo with
  | none =>
    have := (h3 rfl).1
    omega
  | some a =>
    obtain ⟨g, cur, rfl, hB, hg, hsz, htk⟩ := h4 a rfl
    refine ⟨g, 0, rfl, M.heap_lt hg, fun j hj => ?_⟩
    have hjl : i * S.k + j < X.length * S.k := by
      have : (i + 1) * S.k ≤ X.length * S.k := Nat.mul_le_mul_right _ hil
      rw [Nat.add_mul, Nat.one_mul] at this
      omega
    have ec := flat_get S.enc S.k hS.len X i x hx j hj
    rw [← ec, ← htk, List.getElem?_take_of_lt hjl, Array.getElem?_toList, Nat.zero_add]
    cases hv : cur[i * S.k + j]? with
    | none =>
      rw [World.cell?, hg]
      simp [hv]
    | some v =>
      rw [World.cell?, hg]
      simp [hv]
theorem RowV.keep {F : Nat → Prop} (h : RowV S w oo oc X) (hm : Mods F w w1) (hn : ∀ a, oo = some a → ¬ F a.block) : RowV S w1 oo oc X :=
  ⟨h.le, fun i x hx => by
    obtain ⟨b, off, e, hb, hc⟩ := h.row i x hx
    exact ⟨b, off, e, Nat.lt_of_lt_of_le hb hm.size, fun j hj => (hm.cell (p := ⟨b, off + i * S.k + j, none⟩) hb (hn ⟨b, off, none⟩ e)).trans (hc j hj)⟩⟩
theorem RowV.below (h : RowV S w oo oc X) (hb : Below w.heap.size w w1) : RowV S w1 oo oc X := h.keep (F := fun _ => False) (Mods.of_below hb) (fun _ _ h => h)
theorem RowV.nil (S : RowS α) (w : World) : RowV S w none 0 [] := ⟨⟨Nat.le_refl _, Nat.zero_le _⟩, fun i x h => by simp at h⟩
theorem RowV.src (hS : S.Law) (h : RowV S w oo oc X) : SrcAt w oo (X.flatMap S.enc) := by
  intro hne
  have hl : 0 < X.length := by
    cases X with
    | nil => exact absurd rfl hne
    | cons a t => simp
  obtain ⟨x0, hx0⟩ : ∃ x, X[0]? = some x := ⟨_, List.getElem?_eq_getElem hl⟩
  obtain ⟨b, off, e, _, _⟩ := h.row 0 x0 hx0
  refine ⟨_, e, fun j u hj => ?_⟩
  have hjl : j < X.length * S.k := by rw [← flat_len S.enc S.k hS.len]; exact (List.getElem?_eq_some_iff.1 hj).1
  have hk := hS.pos
  have hq : j / S.k < X.length := (Nat.div_lt_iff_lt_mul hk).2 hjl
  have hr : j % S.k < S.k := Nat.mod_lt _ hk
  obtain ⟨x, hx⟩ : ∃ x, X[j / S.k]? = some x := ⟨_, List.getElem?_eq_getElem hq⟩
  obtain ⟨b2, off2, e2, _, hc⟩ := h.row _ x hx
  rw [e] at e2
  cases e2
  have h1 := flat_get S.enc S.k hS.len X _ x hx _ hr
  have ej : j / S.k * S.k + j % S.k = j := Nat.div_add_mod' j S.k
  rw [ej, hj] at h1
  have h2 := hc _ hr
  rw [Nat.add_assoc, ej] at h2
  have ea : (⟨b, off, none⟩ : Addr).add j = ⟨b, off + j, none⟩ := by
    unfold Addr.add
    split
    · next e => rw [e]; rfl
    · rfl
  rw [ea, h2, ← h1]
/-- append, of a row that lies somewhere -/
theorem wpList_rowApps (hS : S.Law) {ops : Array Oper} {rest : List Oper} {o : Oper} {a : Act} {Q : Exit → Act → World → Prop} (hgd : o.guard = none) (s x : Operand)
    (ho : o.op = .call { callee := .builtin .append, args := #[s, x], argTypes := #[S.t, S.t] }) (B : Nat) (oo : Option Addr) (oc : Nat) (so : Option Addr) (sc : Nat) (X Y : List α) (hs : a.eval s = .slice oo X.length oc)
    (hown : OwnG S w B oo oc X) (hx : a.eval x = .slice so Y.length sc) (hsrc : SrcAt w so (Y.flatMap S.enc)) (hM : X.length + Y.length ≤ 100000000) (hB : B ≤ w.heap.size)
    (h : ∀ oo' oc' w', OwnG S w' B oo' oc' (X ++ Y) → Mods (fun j => ∃ a, oo = some a ∧ j = a.block) w w' → Below B w w' → (∀ a, oo' = some a → (∃ a0, oo = some a0 ∧ a.block = a0.block) ∨ w.heap.size ≤ a.block) → wpList Tryz.prog ops Q rest (a.put o.dst (.slice oo' (X.length + Y.length) oc')) w') :
    wpList Tryz.prog ops Q (o :: rest) a w := by
  obtain ⟨i, z, h1, h2, h3, h4, h5⟩ := hS.info
  refine wpList_apps2 S.enc S.k hS.len hS.pos hS.one hgd s x S.t ho B S.e i z S.bytes hS.und h1 h2 h3 h4 hS.by_ h5 oo oc X.length X rfl so sc Y.length Y rfl hs hown hx hsrc hM hB ?_
  intro oo' oc' w' k1 k2 k3 k4
  refine h oo' oc' w' ?_ k2 k3 k4
  unfold OwnG
  rw [List.length_append]
  exact k1
/-- append, of elements that lie in a block that was made for them -/
theorem wpList_rowApp (hS : S.Law) {ops : Array Oper} {rest : List Oper} {o : Oper} {a : Act} {Q : Exit → Act → World → Prop} (hgd : o.guard = none) (s x : Operand)
    (ho : o.op = .call { callee := .builtin .append, args := #[s, x], argTypes := #[S.t, S.t] }) (B : Nat) (oo : Option Addr) (oc n : Nat) (X Y : List α) (g : Nat) (cs : Array Value) (hg : w.heap[g]? = some (.cells cs S.e (0, 0))) (hcs : cs.toList = Y.flatMap S.enc) (hn : Y.length = n) (hs : a.eval s = .slice oo X.length oc)
    (hown : OwnG S w B oo oc X) (hx : a.eval x = .slice (some ⟨g, 0, none⟩) n n) (hM : X.length + Y.length ≤ 100000000) (hB : B ≤ w.heap.size)
    (h : ∀ oo' oc' w', OwnG S w' B oo' oc' (X ++ Y) → Mods (fun j => ∃ a, oo = some a ∧ j = a.block) w w' → Below B w w' → (∀ a, oo' = some a → (∃ a0, oo = some a0 ∧ a.block = a0.block) ∨ w.heap.size ≤ a.block) → wpList Tryz.prog ops Q rest (a.put o.dst (.slice oo' (X.length + Y.length) oc')) w') :
    wpList Tryz.prog ops Q (o :: rest) a w := by
  refine wpList_rowApps hS hgd s x ho B oo oc (some ⟨g, 0, none⟩) n X Y hs hown (by rw [hx, hn]) (fun _ => ⟨_, rfl, fun j u hj => ?_⟩) hM hB h
  have ea : (⟨g, 0, none⟩ : Addr).add j = ⟨g, 0 + j, none⟩ := by
    unfold Addr.add
    split
    · next e => rw [e]
    · rfl
  rw [ea, World.cell?, hg]
  rw [← hcs, Array.getElem?_toList] at hj
  simp [hj]
end
end Go.Proofs.YtlbkbjeajcadiaaGreatDoor.Rw
