/- Memory words that every seat's proofs share: what a call may have turned; bytes that a slice holds. -/
import Derived.Test.YtlbkbjeajcadiaaGreatDoorRows
import Derived.Below
import Derived.OneCell
import Derived.Tactics
import Derived.Deep.RegionLaw
import Derived.Laws.Append
import Derived.Deep.Quiet
import Derived.Lib.Hide
namespace Go.Proofs.YtlbkbjeajcadiaaGreatDoor.M
open Go.RowKit

/-- of the blocks that there were, none but those of S has turned -/
structure Mods (S : Nat → Prop) (w w' : World) : Prop where
  os : w'.os = w.os
  tape : w'.tape = w.tape
  output : w'.output = w.output
  size : w.heap.size ≤ w'.heap.size
  block : ∀ k, k < w.heap.size → ¬ S k → w'.heap[k]? = w.heap[k]?

section
variable {S T : Nat → Prop} {w w1 w2 : World}
theorem Mods.refl (S : Nat → Prop) (w : World) : Mods S w w := ⟨rfl, rfl, rfl, Nat.le_refl _, fun _ _ _ => rfl⟩
theorem Mods.mono (h : Mods S w w1) (hs : ∀ k, k < w.heap.size → S k → T k) : Mods T w w1 := ⟨h.os, h.tape, h.output, h.size, fun k hk hn => h.block k hk (fun hS => hn (hs k hk hS))⟩
/-- one behind the other: the second may turn new blocks too -/
theorem Mods.then (h : Mods S w w1) (h' : Mods T w1 w2) (hs : ∀ k, k < w.heap.size → T k → S k) : Mods S w w2 :=
  ⟨h'.os.trans h.os, h'.tape.trans h.tape, h'.output.trans h.output, Nat.le_trans h.size h'.size,
    fun k hk hn => (h'.block k (Nat.lt_of_lt_of_le hk h.size) (fun hT => hn (hs k hk hT))).trans (h.block k hk hn)⟩
theorem Mods.trans (h : Mods S w w1) (h' : Mods S w1 w2) : Mods S w w2 := h.then h' fun _ _ h => h
theorem Mods.drew (h : Mods S w w1) : Mods S w w1.drew := ⟨h.os, h.tape, h.output, h.size, h.block⟩
theorem Mods.drewN (h : Mods S w w1) (n : Nat) : Mods S w (w1.drewN n) := ⟨h.os, h.tape, h.output, h.size, h.block⟩
theorem Mods.alloc (h : Mods S w w1) (o : Obj) : Mods S w (w1.alloc o) :=
  h.trans ⟨rfl, rfl, rfl, by simp, fun k hk _ => Below.heap_alloc _ _ _ hk⟩
theorem Mods.setCell (h : Mods S w w1) {p : Addr} (hp : p.block < w.heap.size → S p.block) (u : Value) : Mods S w (w1.setCell p u) :=
  ⟨h.os, h.tape, h.output, by simpa [World.setCell] using h.size, fun k hk hn => (Below.heap_setCell _ _ _ _ (fun e => by subst e; exact hn (hp hk))).trans (h.block k hk hn)⟩
theorem Mods.grown (h : Mods S w w1) {row : Option Nat} (hg : w1.grownBy w2 row) (hr : ∀ k, row = some k → k < w.heap.size → S k) : Mods S w w2 :=
  ⟨hg.os.trans h.os, hg.tape.trans h.tape, hg.output.trans h.output, Nat.le_trans h.size hg.size,
    fun k hk hn => (hg.block k (Nat.lt_of_lt_of_le hk h.size) (fun e => hn (hr k e.symm hk))).trans (h.block k hk hn)⟩
theorem Mods.of_grown {row : Option Nat} (hg : w.grownBy w1 row) : Mods (fun k => row = some k) w w1 :=
  ⟨hg.os, hg.tape, hg.output, hg.size, fun k hk hn => hg.block k hk (fun e => hn e.symm)⟩
theorem Mods.of_below (h : Below w.heap.size w w1) : Mods S w w1 := ⟨h.os, h.tape, h.output, h.size, fun k hk _ => h.block k hk⟩
theorem Mods.below {B : Nat} (h : Mods S w w1) (hs : ∀ k, S k → B ≤ k) (hB : B ≤ w.heap.size) : Below B w w1 :=
  ⟨h.os, h.tape, h.output, h.size, fun k hk => h.block k (Nat.lt_of_lt_of_le hk hB) (fun hS => by have := hs k hS; omega)⟩
theorem Mods.cell (h : Mods S w w1) {p : Addr} (hp : p.block < w.heap.size) (hn : ¬ S p.block) : w1.cell? p = w.cell? p := World.cell?_of_block (w := w) (h.block p.block hp hn)
theorem Mods.frozen (h : Mods S w w1) {p : Addr} (hp : p.block < w.heap.size) (hn : ¬ S p.block) : w1.frozen? p = w.frozen? p := World.frozen?_of_block (w := w) (h.block p.block hp hn)
theorem Mods.heap (h : Mods S w w1) {k : Nat} {o : Obj} (hk : w.heap[k]? = some o) (hn : ¬ S k) : w1.heap[k]? = some o := (h.block k (Array.getElem?_eq_some_iff.1 hk).1 hn).trans hk
theorem heap_lt {k : Nat} {o : Obj} (h : w.heap[k]? = some o) : k < w.heap.size := (Array.getElem?_eq_some_iff.1 h).1
/-- a row of one's own, kept -/
theorem own_kept {base : Nat} {e : TypeId} {size : Nat} {v : Value} {n : Nat} {xs : List Value} (h : w.ownsRow base e size v n xs) (hm : Mods S w w1) (hn : ∀ k, v.ownBlock = some k → ¬ S k) : w1.ownsRow base e size v n xs := by
  refine ⟨h.1, ?_⟩
  rcases h.2 with h2 | ⟨g, cap, cur, rfl, hb, hg, r⟩
  · exact .inl h2
  · exact .inr ⟨g, cap, cur, rfl, hb, hm.heap hg (hn g rfl), r⟩
theorem own_base {base base' : Nat} {e : TypeId} {size : Nat} {v : Value} {n : Nat} {xs : List Value} (h : w.ownsRow base e size v n xs) (hb : ∀ k, v.ownBlock = some k → base' ≤ k) : w.ownsRow base' e size v n xs := by
  refine ⟨h.1, ?_⟩
  rcases h.2 with h2 | ⟨g, cap, cur, rfl, _, r⟩
  · exact .inl h2
  · exact .inr ⟨g, cap, cur, rfl, hb g rfl, r⟩
theorem own_view {base : Nat} {e : TypeId} {size : Nat} {v : Value} {n : Nat} {xs : List Value} (h : w.ownsRow base e size v n xs) :
    ∃ ao cap, v = .slice ao n cap ∧ n ≤ cap ∧ cap ≤ maxLen ∧ (ao = none → n = 0 ∧ cap = 0) ∧ ∀ a, ao = some a → ∃ g cur, a = ⟨g, 0, none⟩ ∧ base ≤ g ∧ w.heap[g]? = some (.cells cur e (0, 0)) ∧ cur.size = cap * size ∧ cur.toList.take (n * size) = xs := by
  rcases h.2 with ⟨rfl, rfl⟩ | ⟨g, cap, cur, rfl, hb, hg, hn, hm, hs, ht⟩
  · exact ⟨none, 0, rfl, Nat.le_refl _, Nat.zero_le _, fun _ => ⟨rfl, rfl⟩, fun a h => by cases h⟩
  · exact ⟨_, cap, rfl, hn, hm, fun h => (by cases h), fun a ha => ⟨g, cur, (Option.some.inj ha).symm, hb, hg, hs, ht⟩⟩
end

theorem bcell {W w1 : World} (hb : Below W.heap.size W w1) : (∀ b o, b < W.heap.size → w1.cell? ⟨b, o, none⟩ = W.cell? ⟨b, o, none⟩) ∧ (∀ b o, b < W.heap.size → w1.frozen? ⟨b, o, none⟩ = W.frozen? ⟨b, o, none⟩) :=
  ⟨fun b o h => hb.cell (p := ⟨b, o, none⟩) h, fun b o h => hb.frozen (p := ⟨b, o, none⟩) h⟩
theorem heap_al (w : World) (o : Obj) (k : Nat) : (w.alloc o).heap[k]? = if k = w.heap.size then some o else w.heap[k]? := by
  show (w.heap.push o)[k]? = _
  rw [Array.getElem?_push]
/-- a store into a block of cells, block by block -/
theorem heap_set (w : World) (b o : Nat) (v : Value) (k : Nat) (cs : Array Value) (T : TypeId) (fr : Nat × Nat) (h : w.heap[b]? = some (.cells cs T fr)) :
    (w.setCell ⟨b, o, none⟩ v).heap[k]? = if k = b then some (.cells (cs.setIfInBounds o v) T fr) else w.heap[k]? := by
  by_cases hk : k = b
  · subst hk
    rw [if_pos rfl]
    have hlt := (Array.getElem?_eq_some_iff.1 h).1
    simp only [World.setCell, Array.getElem?_modify, if_true, h]
    simp
  · rw [if_neg hk]; exact Below.heap_setCell _ _ _ _ hk
theorem ret_box {P : Program} {f : Func} {Q : Ending → World → Prop} {a : Act} {W : World} (b : Nat) (cs : Array Value) (T : TypeId) (v : Value) (hW : W.heap[b]? = some (.cells cs T (0, 0)))
    (hres : ∀ W' : World, W'.heap[b]? = some (.cells cs T (0, 0)) → (results f a.tmps).run P W' = .ok v W') (hd : a.defers = []) (hQ : Q (.returned v) W) : bodyPost P f Q .ret a W :=
  bodyPost_ret (hres W hW) hd hQ
theorem drewN_add (w : World) (n m : Nat) : (w.drewN n).drewN m = w.drewN (n + m) := by simp [World.drewN, Nat.add_assoc]
theorem drewN_one (w : World) (n : Nat) : (w.drewN n).drew = w.drewN (n + 1) := rfl
/-- a struct of three cells: its cells, and a store into one -/
theorem box3 {w : World} {b : Nat} {x y z : Value} {T : TypeId} (h : w.heap[b]? = some (.cells #[x, y, z] T (0, 0))) :
    (w.cell? ⟨b, 0, none⟩ = some x ∧ w.cell? ⟨b, 1, none⟩ = some y ∧ w.cell? ⟨b, 2, none⟩ = some z) ∧ (∀ o, w.frozen? ⟨b, o, none⟩ = false) ∧
      (∀ o, o < 3 → ∀ v, (w.setCell ⟨b, o, none⟩ v).cell? ⟨b, o, none⟩ = some v) := by
  have hc : ∀ j, w.cell? ⟨b, j, none⟩ = #[x, y, z][j]? := fun j => cell_of_row w b j _ T (0, 0) h
  refine ⟨⟨hc 0, hc 1, hc 2⟩, fun o => by simp [World.frozen?, h], fun o ho v => ?_⟩
  rcases (by omega : o = 0 ∨ o = 1 ∨ o = 2) with rfl | rfl | rfl
  · exact World.cell?_setCell_same _ _ _ (hc 0)
  · exact World.cell?_setCell_same _ _ _ (hc 1)
  · exact World.cell?_setCell_same _ _ _ (hc 2)
theorem box2 {w : World} {b : Nat} {x y : Value} {T : TypeId} (h : w.heap[b]? = some (.cells #[x, y] T (0, 0))) :
    (w.cell? ⟨b, 0, none⟩ = some x ∧ w.cell? ⟨b, 1, none⟩ = some y) ∧ (∀ o, w.frozen? ⟨b, o, none⟩ = false) ∧
      (∀ o, o < 2 → ∀ v, (w.setCell ⟨b, o, none⟩ v).cell? ⟨b, o, none⟩ = some v) := by
  have hc : ∀ j, w.cell? ⟨b, j, none⟩ = #[x, y][j]? := fun j => cell_of_row w b j _ T (0, 0) h
  refine ⟨⟨hc 0, hc 1⟩, fun o => by simp [World.frozen?, h], fun o ho v => ?_⟩
  rcases (by omega : o = 0 ∨ o = 1) with rfl | rfl
  · exact World.cell?_setCell_same _ _ _ (hc 0)
  · exact World.cell?_setCell_same _ _ _ (hc 1)
/-- clear, of a row's elements -/
theorem run_clear_row {P : Program} (w : World) (t e ty : TypeId) (z : Value) (ht : P.underlying t = some (.slice e)) (hv : ∀ w, (zeroValue e).run P w = .ok z w) (g off n c : Nat) (cur : Array Value)
    (hg : w.heap[g]? = some (.cells cur e (0, 0))) (zs : List Value) (hz : (Builtin.zeroCells z.cells n).toList = zs) (hfit : off + zs.length ≤ cur.size) (h1 : ∀ u ∈ zs, u.oneCell' = true) (hn : 0 < n) :
    (Builtin.clear_ #[t] ty #[.slice (some ⟨g, off, none⟩) n c]).run P w = .ok (.tuple #[]) (w.setRow g (cur.toList.take off ++ zs ++ cur.toList.drop (off + zs.length)).toArray) := by
  have hst := run_storeCells_at P g off e zs 0 cur w hg (by simpa using hfit) h1
  simp only [Nat.add_zero] at hst
  cases n with
  | zero => omega
  | succ n => simp [Builtin.clear_, run_underlying ht, hv, hz, hst]
/-- append in place, within the capacity, as one step of a region that draws -/
theorem step_append_cut {P : Program} {w : World} {ops : Array Oper} {o : Oper} {a : Act} {K : Act → World → Prop} {Q : Exit → Act → World → Prop} {E : Prop} (hgd : o.guard = none) (s x : Operand) (t : TypeId)
    (ho : o.op = .call { callee := .builtin .append, args := #[s, x], argTypes := #[t, t] }) (e : TypeId) (i : TypeInfo) (size : Nat) (ht : P.underlying t = some (.slice e)) (hi : P.info? e = some i) (hsize : i.size = size)
    (g n cap : Nat) (cur : Array Value) (hg : w.heap[g]? = some (.cells cur e (0, 0))) (hs : a.eval s = .slice (some ⟨g, 0, none⟩) n cap) (ad : Addr) (m c : Nat) (hx : a.eval x = .slice (some ad) m c)
    (news : List Value) (hl : news.length = m * size) (hnews : ∀ j u, news[j]? = some u → w.cell? (ad.add j) = some u) (h1 : ∀ u ∈ news, u.oneCell' = true) (hroom : n + m ≤ cap) (hfit : n * size + news.length ≤ cur.size)
    (h : K (a.put o.dst (.slice (some ⟨g, 0, none⟩) (n + m) cap)) (w.setRow g (cur.toList.take (n * size) ++ news ++ cur.toList.drop (n * size + news.length)).toArray)) :
    if Region.wanted o (yielded ops a.tmps) = true then Oper.wp P o a w K Q else E := by
  have hw : Region.wanted o (yielded ops a.tmps) = true := by simp [Region.wanted, hgd]
  rw [if_pos hw]
  subst hsize
  have hr := run_append_room (P := P) w t o.type e i ht hi g n cap cur hg ad m c news hl hnews h1 hroom hfit
  unfold Oper.wp execOp
  simp only [ho, resolve, invoke, builtin, Sem.run_bind, Sem.run_pure, Result.andThen_ok, List.map_toArray, List.map_cons, List.map_nil, hs, hx, hr]
  exact h
/-- append to a row of one's own, as one step of a region that draws -/
theorem step_append_own {P : Program} {w : World} {ops : Array Oper} {o : Oper} {a : Act} {K : Act → World → Prop} {Q : Exit → Act → World → Prop} {E : Prop} (hgd : o.guard = none) (s x : Operand) (t : TypeId)
    (ho : o.op = .call { callee := .builtin .append, args := #[s, x], argTypes := #[t, t] })
    (base : Nat) (e : TypeId) (i : TypeInfo) (z : Value) (size bytes : Nat) (ht : P.underlying t = some (.slice e)) (hi : P.info? e = some i) (hz : i.zero = some z)
    (hsize : i.size = size) (hby : i.bytes = bytes) (hzs : z.cells.size = size) (hsz : 0 < size)
    (v : Value) (n : Nat) (xs : List Value) (hs : a.eval s = v) (hown : w.ownsRow base e size v n xs)
    (ad : Addr) (m c : Nat) (news : List Value) (hx : a.eval x = .slice (some ad) m c) (hl : news.length = m * size) (hnews : ∀ j u, news[j]? = some u → w.cell? (ad.add j) = some u) (h1 : ∀ u ∈ news, u.oneCell' = true)
    (h63 : n + m ≤ maxLen) (hbytes : (n + m) * bytes ≤ 140737488355328) (hbase : base ≤ w.heap.size)
    (h : ∀ ao cap w', w'.ownsRow base e size (.slice ao (n + m) cap) (n + m) (xs ++ news) → w.grownBy w' v.ownBlock → K (a.put o.dst (.slice ao (n + m) cap)) w') :
    if Region.wanted o (yielded ops a.tmps) = true then Oper.wp P o a w K Q else E := by
  have hw : Region.wanted o (yielded ops a.tmps) = true := by simp [Region.wanted, hgd]
  rw [if_pos hw]
  refine wp_append_own w s x t ho base e i z size bytes ht hi hz hsize hby hzs hsz v n xs hs hown ad m c news hx hl hnews h1 h63 hbytes hbase fun v' w' h2 h3 _ => ?_
  obtain ⟨ao, cap, rfl, _⟩ := own_view h2
  exact h ao cap w' h2 h3
theorem Mods.setRow {S : Nat → Prop} {w w1 : World} (h : Mods S w w1) {g : Nat} (hg : g < w.heap.size → S g) (cs : Array Value) : Mods S w (w1.setRow g cs) :=
  ⟨h.os, h.tape, h.output, by simpa [World.setRow] using h.size, fun k hk hn => (setRow_other _ _ _ _ (fun e => by subst e; exact hn (hg hk))).trans (h.block k hk hn)⟩
/-- it may be written -/
def Thaw (w : World) (ao : Option Addr) : Prop := ∀ a, ao = some a → a.block < w.heap.size ∧ ∀ o, w.frozen? ⟨a.block, o, none⟩ = false
theorem Thaw.keep {S : Nat → Prop} {w w1 : World} {ao : Option Addr} (h : Thaw w ao) (hm : Mods S w w1) (hs : ∀ a, ao = some a → ¬ S a.block) : Thaw w1 ao := fun a ha =>
  ⟨Nat.lt_of_lt_of_le (h a ha).1 hm.size, fun o => (hm.frozen (p := ⟨a.block, o, none⟩) (h a ha).1 (hs a ha)).trans ((h a ha).2 o)⟩
theorem Thaw.of_own {w : World} {base : Nat} {e : TypeId} {size n cap : Nat} {ao : Option Addr} {xs : List Value} (h : w.ownsRow base e size (.slice ao n cap) n xs) : Thaw w ao := by
  rintro a rfl
  rcases h.2 with ⟨h2, _⟩ | ⟨g, c, cur, e0, _, hg, _⟩
  · cases h2
  · cases e0
    exact ⟨(Array.getElem?_eq_some_iff.1 hg).1, fun o => by simp [World.frozen?, hg]⟩
/-- a slice that holds these bytes -/
def BytesV (w : World) (v : Value) (l : List UInt8) : Prop :=
  ∃ ao cap, v = .slice ao l.length cap ∧ l.length ≤ cap ∧ cap ≤ maxLen ∧ (ao = none → cap = 0) ∧
    ∀ j, j < l.length → ∃ b off, ao = some ⟨b, off, none⟩ ∧ w.cell? ⟨b, off + j, none⟩ = some (.int .u8 ((l.getD j 0).toNat : Int))
/-- where they lie -/
def BytesAway (S : Nat → Prop) (v : Value) (l : List UInt8) : Prop := ∀ k, v.ownBlock = some k → l ≠ [] → ¬ S k
section
variable {S : Nat → Prop} {w w1 : World} {v : Value} {l : List UInt8}
theorem BytesV.lt (h : BytesV w v l) : ∀ k, v.ownBlock = some k → l ≠ [] → k < w.heap.size := by
  obtain ⟨ao, cap, rfl, _, _, _, hc⟩ := h
  intro k hk hl
  obtain ⟨b, off, rfl, h0⟩ := hc 0 (List.length_pos_iff.2 hl)
  simp only [Value.ownBlock, Option.some.injEq] at hk
  subst hk
  exact World.block_lt_of_cell? w _ h0
theorem BytesV.keep (h : BytesV w v l) (hm : Mods S w w1) (ha : BytesAway S v l) : BytesV w1 v l := by
  have hlt := h.lt
  obtain ⟨ao, cap, rfl, h1, h2, h3, hc⟩ := h
  refine ⟨ao, cap, rfl, h1, h2, h3, fun j hj => ?_⟩
  obtain ⟨b, off, rfl, h0⟩ := hc j hj
  have hl : l ≠ [] := by intro e; rw [e] at hj; simp at hj
  exact ⟨b, off, rfl, (hm.cell (p := ⟨b, off + j, none⟩) (hlt b rfl hl) (ha b rfl hl)).trans h0⟩
theorem BytesV.nil (w : World) : BytesV w (.slice none 0 0) [] := ⟨none, 0, rfl, Nat.le_refl _, Nat.zero_le _, fun _ => rfl, fun j hj => by simp at hj⟩
/-- the bytes' cells -/
def byteVals (l : List UInt8) : List Value := l.map fun b => .int .u8 (b.toNat : Int)
theorem byteVals_length (l : List UInt8) : (byteVals l).length = l.length := by simp [byteVals]
theorem byteVals_get (l : List UInt8) (j : Nat) (h : j < l.length) : (byteVals l)[j]? = some (.int .u8 ((l.getD j 0).toNat : Int)) := by
  simp [byteVals, List.getElem?_map, List.getElem?_eq_getElem h, List.getD]
theorem BytesV.of_own {base : Nat} {e : TypeId} (h : w.ownsRow base e 1 v l.length (byteVals l)) : BytesV w v l := by
  obtain ⟨ao, cap, rfl, h1, h2, h3, h4⟩ := own_view h
  refine ⟨ao, cap, rfl, h1, h2, fun e => (h3 e).2, fun j hj => ?_⟩
  cases ao with
  | none => have := (h3 rfl).1; omega
  | some a =>
    obtain ⟨g, cur, rfl, _, hg, hs, ht⟩ := h4 a rfl
    refine ⟨g, 0, rfl, ?_⟩
    have := byteVals_get l j hj
    rw [← ht, List.getElem?_take, if_pos (by omega)] at this
    rw [Nat.zero_add, cell_of_row w g j cur e (0, 0) hg, ← Array.getElem?_toList]
    exact this
end
end Go.Proofs.YtlbkbjeajcadiaaGreatDoor.M
