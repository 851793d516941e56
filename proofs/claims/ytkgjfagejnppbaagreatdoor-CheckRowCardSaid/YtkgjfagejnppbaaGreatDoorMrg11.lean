/- Several texts in one. -/
import Derived.Test.YtkgjfagejnppbaaGreatDoorMrg10
import Derived.Deep.AppendLies
import Derived.Test.YtkgjfagejnppbaaGreatDoorAppC

/- ids.Set: Clone, Compact. -/
namespace Go.Proofs.YtkgjfagejnppbaaGreatDoor.O
open Go.RowKit Go.Proofs.YtkgjfagejnppbaaGreatDoor.M Go.BigFrame
set_option linter.unusedVariables false
set_option linter.unusedSimpArgs false

theorem info_id : (Tryz.prog.info? 37).map (fun i => (i.zero, i.size, i.bytes)) = some (some (.agg #[.int .i64 0, .int .i64 0]), 2, 16) := by kernel_rfl
theorem zero_id (w : World) : (zeroValue 37).run Tryz.prog w = .ok (.agg #[.int .i64 0, .int .i64 0]) w := by kernel_rfl
theorem ret_val {a b : Value} (h : a = b) : Ending.returned a = .returned b := by rw [h]
theorem cellsI_one (l : List Id) : ∀ u ∈ cellsI l, u.oneCell' = true := by
  intro u hu
  unfold cellsI at hu
  obtain ⟨x, _, h⟩ := List.mem_flatMap.1 hu
  rcases List.mem_cons.1 h with rfl | h
  · rfl
  · rw [List.mem_singleton.1 h]; rfl
theorem cellsI_take (l : List Id) (i : Nat) : cellsI (l.take i) = (cellsI l).take (i * 2) := by
  induction l generalizing i with
  | nil => simp [cellsI]
  | cons x l ih =>
    cases i with
    | zero => simp [cellsI]
    | succ i =>
      have := ih i
      simp only [cellsI, List.take_succ_cons, List.flatMap_cons] at this ⊢
      rw [this, show (i + 1) * 2 = i * 2 + 2 by omega]
      rfl
theorem cellsI_set (M : List Id) (i : Nat) (x : Id) : cellsI (M.set i x) = ((cellsI M).set (i * 2) (.int .i64 x.r)).set (i * 2 + 1) (.int .i64 x.n) := by
  induction M generalizing i with
  | nil => simp [cellsI]
  | cons y M ih =>
    cases i with
    | zero => rfl
    | succ i =>
      have := ih i
      rw [show (i + 1) * 2 = i * 2 + 2 by omega]
      show idC y ++ cellsI (M.set i x) = _
      rw [this]
      rfl
theorem own_setcell {w : World} {B : Nat} {e : TypeId} {size g n cap : Nat} {xs : List Value} (h : w.ownsRow B e size (.slice (some ⟨g, 0, none⟩) n cap) n xs) (j : Nat) (hj : j < xs.length) (u : Value) :
    (w.setCell ⟨g, j, none⟩ u).ownsRow B e size (.slice (some ⟨g, 0, none⟩) n cap) n (xs.set j u) := by
  refine ⟨by rw [List.length_set]; exact h.1, ?_⟩
  rcases h.2 with ⟨h0, _⟩ | ⟨g', c, cur, e0, hb, hg, hnc, hm, hs, ht⟩
  · cases h0
  · cases e0
    refine .inr ⟨g, cap, cur.setIfInBounds j u, rfl, hb, ?_, hnc, hm, ?_, ?_⟩
    · have := heap_set w g j u g _ _ _ hg
      rwa [if_pos rfl] at this
    · simpa using hs
    · rw [Array.toList_setIfInBounds, List.take_set, ht]
set_option maxRecDepth 100000 in
set_option maxHeartbeats 4000000 in
theorem cloneI_any (l : List Id) (ao : Option Addr) (cap : Nat) (w : World) (h : IdsV w ao cap l) (hl : l.length ≤ 1000000) :
    Calls Tryz.prog 46 #[.slice ao l.length cap] w fun e w' => ∃ ao' cap', e = .returned (.slice ao' l.length cap') ∧ (w'.ownsRow w.heap.size 37 2 (.slice ao' l.length cap') l.length (cellsI l) ∧ Below w.heap.size w w') := by
  have q22 : ∀ (w : World) (a : Option Addr) (n c n' c' : Nat), (binOp .eql 28 (.slice a n c) (.slice none n' c')).run Tryz.prog w = .ok (.bool a.isNone) w := fun w a n c n' c' => Lib.run_eql_slice_nil w _ _ a n c n' c' Tryz.underlying28
  obtain ⟨hl1, hl2⟩ := h.le
  unfold maxLen at hl2
  cases ao with
  | none =>
    have hc := h.nz rfl
    subst hc
    have hl0 : l = [] := List.length_eq_zero_iff.1 (by omega)
    subst hl0
    clear h
    go_enter Tryz.func46, Tryz.ntmps46
    go_wp2_with fail
    go_ret
    exact ⟨none, 0, rfl, World.ownsRow_nil _ _ _ _, Below.refl _ _⟩
  | some a =>
    obtain ⟨i0, hi, hz0, hz1, hz2⟩ := info_parts info_id
    have hcell : ∀ (j : Nat) (u : Value), (cellsI l)[j]? = some u → w.cell? (a.add j) = some u := fun j u hu => by
      have hj : j < l.length * 2 := by rw [← cellsI_len]; exact (List.getElem?_eq_some_iff.1 hu).1
      obtain ⟨x, hx⟩ : ∃ x, l[j / 2]? = some x := ⟨_, List.getElem?_eq_getElem (by omega)⟩
      obtain ⟨b, off, e0, _, c0, c1⟩ := h.row (j / 2) x hx
      cases e0
      obtain ⟨q0, q1⟩ := cellsI_get l (j / 2) x hx
      rw [Addr.add_lit]
      rcases (by omega : j = j / 2 * 2 ∨ j = j / 2 * 2 + 1) with e | e
      · rw [e] at hu ⊢
        rw [q0] at hu
        rw [← hu]; exact c0
      · rw [e] at hu ⊢
        rw [q1] at hu
        rw [← hu]; exact c1
    have HC := Lib.hid (show ∀ j u, (cellsI l)[j]? = some u → (w.alloc (.cells #[] 37)).cell? (a.add j) = some u from fun j u hu => by
      have h := hcell j u hu
      rw [World.cell?_alloc_some _ _ _ (by rw [h]; rfl)]; exact h)
    have HO := Lib.hid (World.ownsRow_made (base := w.heap.size) (e := 37) (size := 2) w #[] 0 (Nat.le_refl _) (Nat.zero_le _) rfl)
    have HONE := Lib.hid (cellsI_one l)
    have HN := Lib.hid (cellsI_len l)
    clear hcell h
    go_enter Tryz.func46, Tryz.ntmps46
    go_wp2_with (at_builtin; refine wpList_append_own _ rfl _ _ 28 rfl w.heap.size 37 i0 (.agg #[.int .i64 0, .int .i64 0]) 2 16 Tryz.underlying28 hi hz0 hz1 hz2 rfl (by decide) _ 0 [] rfl HO.out a l.length cap (cellsI l) rfl HN.out HC.out HONE.out (by unfold maxLen; omega) (by omega) (by simp) ?_; intro v' w1 hown hgrow _)
    obtain ⟨ao', cap', rfl, _⟩ := own_view hown
    go_ret
    refine ⟨ao', cap', by simp, by simpa using hown, ?_⟩
    exact ((Below.refl _ w).alloc (Nat.le_refl _) _).grown hgrow (by simp) (fun k hk => Nat.le_of_eq (Option.some.inj hk))
/-- no neighbours are the same, up to k -/
def NA (l : List Id) (k : Nat) : Prop := ∀ j x y, j + 1 < k → l[j]? = some x → l[j + 1]? = some y → x ≠ y
/-- what is left of the first k -/
def kept (l : List Id) (k : Nat) : List Id := (l.take k).foldl keepN []
theorem keepN_same {o : List Id} {x : Id} (h : o.getLast? = some x) : keepN o x = o := by unfold keepN; rw [if_pos h]
theorem keepN_more {o : List Id} {x : Id} (h : o.getLast? ≠ some x) : keepN o x = o ++ [x] := by unfold keepN; rw [if_neg h]
theorem kept_last (l : List Id) : ∀ k, (kept l k).getLast? = (l.take k).getLast? := by
  intro k
  induction k with
  | zero => simp [kept]
  | succ k ih =>
    unfold kept at *
    cases hx : l[k]? with
    | none =>
      have : l.take (k + 1) = l.take k := by rw [List.take_add_one, hx]; simp
      rw [this]; exact ih
    | some x =>
      rw [List.take_add_one, hx, List.foldl_append]
      show (keepN _ x).getLast? = _
      unfold keepN
      split
      · rename_i h; rw [h]; simp
      · simp
theorem take_last {l : List Id} {k : Nat} {y : Id} (hy : l[k]? = some y) : (l.take (k + 1)).getLast? = some y := by
  rw [List.take_add_one, hy]; simp
theorem kept_same {l : List Id} {k : Nat} {x : Id} (hy : l[k]? = some x) (hx : l[k + 1]? = some x) : kept l (k + 1 + 1) = kept l (k + 1) := by
  have h := (kept_last l (k + 1)).trans (take_last hy)
  unfold kept at *
  rw [List.take_add_one, hx, List.foldl_append]
  exact keepN_same h
theorem kept_more {l : List Id} {k : Nat} {x y : Id} (hy : l[k]? = some y) (hx : l[k + 1]? = some x) (hne : y ≠ x) : kept l (k + 1 + 1) = kept l (k + 1) ++ [x] := by
  have h := (kept_last l (k + 1)).trans (take_last hy)
  unfold kept at *
  rw [List.take_add_one, hx, List.foldl_append]
  exact keepN_more (by rw [h]; exact fun e => hne (Option.some.inj e))
/-- while neighbours are left out: the row R, the place K to write, t read -/
structure Cmp2 (l : List Id) (K t : Nat) (R : List Id) : Prop where
  len : R.length = l.length
  k : K = (kept l t).length
  lo : R.take K = kept l t
  hi : ∀ j, t ≤ j + 1 → R[j]? = l[j]?
theorem Cmp2.same {l R : List Id} {K k : Nat} {x : Id} (h : Cmp2 l K (k + 1) R) (hy : l[k]? = some x) (hx : l[k + 1]? = some x) : Cmp2 l K (k + 1 + 1) R :=
  ⟨h.len, by rw [kept_same hy hx]; exact h.k, by rw [kept_same hy hx]; exact h.lo, fun j hj => h.hi j (by omega)⟩
theorem Cmp2.more {l R : List Id} {K k : Nat} {x y : Id} (h : Cmp2 l K (k + 1) R) (hy : l[k]? = some y) (hx : l[k + 1]? = some x) (hne : y ≠ x) (hK : K ≤ k) : Cmp2 l (K + 1) (k + 1 + 1) (R.set K x) := by
  have hl : k + 1 < l.length := (List.getElem?_eq_some_iff.1 hx).1
  refine ⟨by rw [List.length_set]; exact h.len, ?_, ?_, fun j hj => ?_⟩
  · rw [kept_more hy hx hne, List.length_append, ← h.k]; rfl
  · rw [kept_more hy hx hne, List.take_add_one, List.take_set_of_le (by omega), h.lo, List.getElem?_set_self (by rw [h.len]; omega)]
    rfl
  · rw [List.getElem?_set_ne (by omega)]
    exact h.hi j (by omega)
abbrev OwnI (w : World) (B g n cap : Nat) (R : List Id) : Prop := w.ownsRow B 37 2 (.slice (some ⟨g, 0, none⟩) n cap) n (cellsI R)
theorem OwnI.cells {w : World} {B g n cap : Nat} {R : List Id} (h : OwnI w B g n cap R) {j : Nat} {x : Id} (hx : R[j]? = some x) : w.cell? ⟨g, j * 2, none⟩ = some (.int .i64 x.r) ∧ w.cell? ⟨g, j * 2 + 1, none⟩ = some (.int .i64 x.n) ∧ (∀ o, w.frozen? ⟨g, o, none⟩ = false) ∧ g < w.heap.size := by
  obtain ⟨hxl, h2⟩ := h
  rcases h2 with ⟨h0, _⟩ | ⟨g', c', cur, e0, hB, hg, hnc, hcm, hcs, htk⟩
  · cases h0
  cases e0
  obtain ⟨q0, q1⟩ := cellsI_get R j x hx
  have key : ∀ o u, (cellsI R)[o]? = some u → w.cell? ⟨g, o, none⟩ = some u := fun o u hu => by
    rw [cell_of_row w g o _ _ _ hg, ← Array.getElem?_toList]
    rw [← htk, List.getElem?_take] at hu
    split at hu
    · exact hu
    · cases hu
  exact ⟨key _ _ q0, key _ _ q1, fun o => by simp [World.frozen?, hg], M.heap_lt hg⟩
end Go.Proofs.YtkgjfagejnppbaaGreatDoor.O

/- ids.Set, and the document's Set. -/
namespace Go.Proofs.YtkgjfagejnppbaaGreatDoor.O
open Go.RowKit Go.Proofs.YtkgjfagejnppbaaGreatDoor.M Go.BigFrame
set_option linter.unusedVariables false
set_option linter.unusedSimpArgs false

section
variable {P : Program} {w : World} {α : Type}
/-- append, of one element that lies in a new block, to a row of one's own -/
theorem wpList_app (enc : α → List Value) (k : Nat) (hk : ∀ x, (enc x).length = k) (h0 : 0 < k) (h1 : ∀ x, ∀ v ∈ enc x, v.oneCell' = true) {ops : Array Oper} {rest : List Oper} {o : Oper} {a : Act} {Q : Exit → Act → World → Prop} (hgd : o.guard = none) (s x : Operand) (t : TypeId)
    (ho : o.op = .call { callee := .builtin .append, args := #[s, x], argTypes := #[t, t] }) (B : Nat) (e : TypeId) (i : TypeInfo) (z : Value) (bytes : Nat) (ht : P.underlying t = some (.slice e)) (hi : P.info? e = some i) (hz : i.zero = some z)
    (hsize : i.size = k) (hby : i.bytes = bytes) (hb2 : bytes ≤ 1000) (hzs : z.cells.size = k) (oo : Option Addr) (oc : Nat) (M : List α) (y : α) (cs : Array Value) (hcs : cs.toList = enc y) (hs : a.eval s = .slice oo M.length oc)
    (hown : w.ownsRow B e k (.slice oo M.length oc) M.length (M.flatMap enc)) (hx : a.eval x = .slice (some ⟨w.heap.size, 0, none⟩) 1 1) (hM : M.length ≤ 100000000) (hB : B ≤ w.heap.size)
    (h : ∀ oo' oc' w', w'.ownsRow B e k (.slice oo' (M ++ [y]).length oc') (M ++ [y]).length ((M ++ [y]).flatMap enc) → Mods (fun j => ∃ a, oo = some a ∧ j = a.block) w w' → Below B w w' → wpList P ops Q rest (a.put o.dst (.slice oo' (M ++ [y]).length oc')) w') :
    wpList P ops Q (o :: rest) a (w.alloc (.cells cs e)) := by
  refine wpList_append_lies _ hgd s x t ho B e i z k bytes ht hi hz hsize hby hzs h0 (.slice oo M.length oc) M.length (M.flatMap enc) hs (hown.alloc _) ⟨w.heap.size, 0, none⟩ 1 1 (enc y) hx (by rw [hk]; omega)
    (by rw [← hcs]; exact World.news_of_block (cs := cs) (t := e) (fr := (0, 0)) (heap_alloc_new w _)) (h1 y) (by omega) (by unfold maxLen; omega) ?_ (by simp; omega) (w.heap.size + 1) (by simp) ?_
  · have : (M.length + 1) * bytes ≤ 100000001 * 1000 := Nat.mul_le_mul (by omega) hb2
    omega
  · intro g cap w' hown' hgrow _ _
    have hm : Mods (fun j => ∃ a, oo = some a ∧ j = a.block) w w' := ((Mods.refl _ w).alloc _).then (Mods.of_grown hgrow) (fun k _ hk => by
      cases oo with
      | none => cases hk
      | some a => exact ⟨a, rfl, (Option.some.inj hk).symm⟩)
    have hb : Below B w w' := hm.below (fun j ⟨a, e1, e2⟩ => by
      subst e1
      rw [e2]
      exact (hown.lt a.block rfl).1) hB
    have hl : (M ++ [y]).length = M.length + 1 := by simp
    have := h (some ⟨g, 0, none⟩) cap w' (by rw [hl, List.flatMap_append]; simpa using hown') hm hb
    rwa [hl] at this
end
theorem idC_one (x : Id) : ∀ v ∈ idC x, v.oneCell' = true := by
  intro v hv
  rcases List.mem_cons.1 hv with rfl | hv
  · rfl
  · rw [List.mem_singleton.1 hv]; rfl
abbrev OwnL (w : World) (B : Nat) (oo : Option Addr) (oc : Nat) (M : List Id) : Prop := w.ownsRow B 37 2 (.slice oo M.length oc) M.length (M.flatMap idC)
/-- the document's add: where it stands -/
def AddSt (o : List Id) (x : Id) (k : Nat) (done : Bool) (M : List Id) : Prop :=
  (done = false ∧ M = o.take k ∧ ∀ j y, j < k → o[j]? = some y → ilt x y = false) ∨ (done = true ∧ insE ilt x o = M ++ o.drop k)
theorem insE_front {o : List Id} {x : Id} : ∀ k, (∀ j y, j < k → o[j]? = some y → ilt x y = false) → insE ilt x o = o.take k ++ insE ilt x (o.drop k) := by
  induction o with
  | nil => intro k _; simp
  | cons a o ih =>
    intro k h
    cases k with
    | zero => simp
    | succ k =>
      have h0 := h 0 a (by omega) rfl
      show (if ilt x a then x :: a :: o else a :: insE ilt x o) = _
      rw [h0, if_neg (by simp), ih k (fun j y hj hy => h (j + 1) y (by omega) (by simpa using hy))]
      simp
theorem AddSt.start (o : List Id) (x : Id) : AddSt o x 0 false [] := .inl ⟨rfl, by simp, fun j y hj => absurd hj (by omega)⟩
theorem drop_at {o : List Id} {k : Nat} {y : Id} (hy : o[k]? = some y) : o.drop k = y :: o.drop (k + 1) := by
  have hk := (List.getElem?_eq_some_iff.1 hy).1
  rw [← List.getElem_cons_drop hk, (List.getElem?_eq_some_iff.1 hy).2]
theorem AddSt.put {o : List Id} {x y : Id} {k : Nat} {M : List Id} (h : AddSt o x k false M) (hy : o[k]? = some y) (hlt : ilt x y = true) : AddSt o x (k + 1) true (M ++ [x] ++ [y]) := by
  rcases h with ⟨_, rfl, hno⟩ | ⟨h, _⟩
  · refine .inr ⟨rfl, ?_⟩
    rw [insE_front k hno, drop_at hy]
    show o.take k ++ (if ilt x y then x :: y :: o.drop (k + 1) else y :: insE ilt x (o.drop (k + 1))) = _
    rw [hlt, if_pos rfl]
    simp
  · cases h
theorem AddSt.go {o : List Id} {x y : Id} {k : Nat} {M : List Id} (h : AddSt o x k false M) (hy : o[k]? = some y) (hlt : ilt x y = false) : AddSt o x (k + 1) false (M ++ [y]) := by
  rcases h with ⟨_, rfl, hno⟩ | ⟨h, _⟩
  · refine .inl ⟨rfl, by rw [List.take_add_one, hy]; rfl, fun j z hj hz => ?_⟩
    by_cases e : j = k
    · subst e; rw [hy] at hz; cases hz; exact hlt
    · exact hno j z (by omega) hz
  · cases h
theorem AddSt.more {o : List Id} {x y : Id} {k : Nat} {M : List Id} (h : AddSt o x k true M) (hy : o[k]? = some y) : AddSt o x (k + 1) true (M ++ [y]) := by
  rcases h with ⟨h, _⟩ | ⟨_, h⟩
  · cases h
  · refine .inr ⟨rfl, ?_⟩
    rw [h, drop_at hy]
    simp
theorem AddSt.len {o : List Id} {x : Id} {k : Nat} {b : Bool} {M : List Id} (h : AddSt o x k b M) (hk : k ≤ o.length) : M.length ≤ o.length + 1 := by
  rcases h with ⟨_, rfl, _⟩ | ⟨_, h⟩
  · rw [List.length_take]; omega
  · have := (insE_perm (lt := ilt) x o).length_eq
    rw [h, List.length_append, List.length_cons] at this
    omega
end Go.Proofs.YtkgjfagejnppbaaGreatDoor.O

/- ids.Set and the document's Set: the contracts. -/
namespace Go.Proofs.YtkgjfagejnppbaaGreatDoor.O
open Go.RowKit Go.Proofs.YtkgjfagejnppbaaGreatDoor.M Go.BigFrame
set_option linter.unusedVariables false
set_option linter.unusedSimpArgs false

end Go.Proofs.YtkgjfagejnppbaaGreatDoor.O

/- The contract of cmd.Check. -/
namespace Go.Proofs.YtkgjfagejnppbaaGreatDoor.P
open Go.RowKit Go.Proofs.YtkgjfagejnppbaaGreatDoor.R Go.Proofs.YtkgjfagejnppbaaGreatDoor.M Go.BigFrame
set_option linter.unusedVariables false
set_option linter.unusedSimpArgs false

def cmdEq (c d : Cmd) : Bool := (c.kind == d.kind) && ((c.client == d.client) && ((c.seq == d.seq) && ((c.key.toList == d.key.toList) && ((c.val.toList == d.val.toList) && (c.rev == d.rev)))))
set_option maxHeartbeats 2000000 in
theorem run_cmd_neq (c d : Cmd) (w : World) : (binOp .neq 30 (cmdV c) (cmdV d)).run Tryz.prog w = .ok (.bool (!cmdEq c d)) w := by
  have h1 : Tryz.prog.underlying 30 = some (.struct (Tryz.prog.fieldsOf 30)) := by kernel_rfl
  have h2 : Tryz.prog.stoodInHeld 30 = false := by kernel_rfl
  unfold cmdEq
  rw [run_neq_struct, show (10000 : Nat) = 9999 + 1 from rfl, run_equalIn_struct _ _ _ _ _ h1 h2]
  cases e1 : (c.kind == d.kind)
  · simp [go_sem, e1, Result.andThen]
  cases e2 : (c.client == d.client)
  · simp [go_sem, e1, e2, Result.andThen]
  cases e3 : (c.seq == d.seq)
  · simp [go_sem, e1, e2, e3, Result.andThen]
  cases e4 : (c.key.toList == d.key.toList)
  · simp [go_sem, e1, e2, e3, e4, Result.andThen]
  cases e5 : (c.val.toList == d.val.toList)
  · simp [go_sem, e1, e2, e3, e4, e5, Result.andThen]
  cases e6 : (c.rev == d.rev)
  · simp [go_sem, e1, e2, e3, e4, e5, e6, Result.andThen]
  simp [go_sem, e1, e2, e3, e4, e5, e6, Result.andThen]
theorem ba_eq (a b : ByteArray) : (a.toList == b.toList) = decide (a = b) := by
  rw [Bool.eq_iff_iff, beq_iff_eq, decide_eq_true_eq]
  constructor
  · intro h
    apply ba_ext
    rw [ByteArray.toList_eq, ByteArray.toList_eq] at h
    exact h
  · intro h; rw [h]
theorem cmdEq_iff (c d : Cmd) : cmdEq c d = true ↔ c = d := by
  unfold cmdEq
  rw [ba_eq, ba_eq]
  simp only [Bool.and_eq_true, beq_iff_eq, decide_eq_true_eq]
  constructor
  · rintro ⟨h1, h2, h3, h4, h5, h6⟩
    cases c; cases d
    simp only at *
    subst h1 h2 h3 h4 h5 h6
    rfl
  · intro h; subst h; exact ⟨rfl, rfl, rfl, rfl, rfl, rfl⟩
/-- what is wrong in form, as the program asks -/
theorem formBad_eq (c : Cmd) (hk : out c.kind 6 = false) : formBad c = (!cmdEq c (namedC c) || (!bare c && (decide (c.client = 0) || decide (c.seq = 0)))) := by
  have hk2 : 0 ≤ c.kind ∧ c.kind ≤ 6 := by
    unfold out at hk
    simp only [Bool.or_eq_false_iff, decide_eq_false_iff_not] at hk
    omega
  have he : ((!cmdEq c (namedC c)) = true) ↔ ¬ c = namedC c := by
    rw [Bool.not_eq_true', ← Bool.not_eq_true, cmdEq_iff]
  rw [Bool.eq_iff_iff, Bool.or_eq_true, he]
  obtain ⟨kind, client, seq, key, val, rev⟩ := c
  simp only at hk2
  have hkk : kind = 0 ∨ kind = 1 ∨ kind = 2 ∨ kind = 3 ∨ kind = 4 ∨ kind = 5 ∨ kind = 6 := by omega
  unfold formBad bare namedC
  clear he hk hk2
  rcases hkk with rfl | rfl | rfl | rfl | rfl | rfl | rfl <;> by_cases a : client = 0 <;> by_cases b : seq = 0 <;> by_cases d : key = nul <;> by_cases e : val = nul <;> by_cases f : rev = 0 <;> simp [a, b, d, e, f]
end Go.Proofs.YtkgjfagejnppbaaGreatDoor.P
