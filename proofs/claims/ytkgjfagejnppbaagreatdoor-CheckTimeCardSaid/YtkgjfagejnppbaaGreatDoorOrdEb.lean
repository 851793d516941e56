/- The engine's maps in memory. -/
import Derived.Test.YtkgjfagejnppbaaGreatDoorMrg15
import Derived.Maps.RangeWalk
namespace Go.Proofs.YtkgjfagejnppbaaGreatDoor.O
open Go.RowKit Go.Proofs.YtkgjfagejnppbaaGreatDoor.M Go.BigFrame Go.Maps
set_option linter.unusedVariables false
set_option linter.unusedSimpArgs false

abbrev tId : TypeId := 37
abbrev tMR : TypeId := 104
abbrev tMB : TypeId := 105
set_option maxRecDepth 100000 in
/-- what reads as an id is one -/
theorem key_id_inv {key : Value} {kl : Lit} (h : keyOf Tryz.prog tId key = some kl) : ∃ i, key = idV i ∧ kl = klI i ∧ IdI i := by
  have hc : Tryz.prog.cellsOf 37 = 2 := by kernel_rfl
  have hc3 : Tryz.prog.cellsOf 3 = 1 := by kernel_rfl
  have h0 : ∀ (d : Nat) (v : Value) (l : List Lit), Tryz.prog.keyLits (d + 1) 3 [v] = some l → ∃ x : Int, v = .int .i64 x ∧ (Lit.int .i64 x).wf = true ∧ l = [.int .i64 x] := fun d v l hv => by
    unfold Program.keyLits at hv
    rw [Tryz.underlying3] at hv
    cases v <;> simp at hv
    obtain ⟨⟨rfl, hw⟩, rfl⟩ := hv
    exact ⟨_, rfl, hw, rfl⟩
  cases key with
  | agg cs =>
    simp only [keyOf, Tryz.underlying37, Value.formed, hc] at h
    split at h
    · rename_i hk
      simp only [Bool.and_eq_true, beq_iff_eq] at hk
      obtain ⟨l⟩ := cs
      have hl : l.length = 2 := by simpa using hk.2
      match l, hl with
      | [a, b], _ =>
        obtain ⟨ls, hls, rfl⟩ := Option.map_eq_some_iff.1 h
        obtain ⟨d, hd⟩ := types_pos
        rw [hd] at hls
        have hls : Tryz.prog.keyLits (d + 1 + 1) 37 [a, b] = some ls := by simpa [Value.cells] using hls
        unfold Program.keyLits at hls
        rw [Tryz.underlying37] at hls
        simp [hc, hc3, Option.bind_eq_some_iff] at hls
        obtain ⟨la, ha, lb, ⟨lc, hb, rfl⟩, rfl⟩ := hls
        obtain ⟨x, rfl, hx, rfl⟩ := h0 d _ _ ha
        obtain ⟨y, rfl, hy, rfl⟩ := h0 d _ _ hb
        refine ⟨⟨x, y⟩, rfl, by simp [klI], ?_, ?_⟩
        · simp only [Lit.wf, Bool.and_eq_true, decide_eq_true_eq] at hx
          exact hx
        · simp only [Lit.wf, Bool.and_eq_true, decide_eq_true_eq] at hy
          exact hy
    · cases h
  | _ => simp [keyOf, Tryz.underlying37, Value.formed] at h
theorem mods_turned {w w1 : World} {b : Nat} (h : w.mapTurned w1 b) : M.Mods (fun k => k = b) w w1 :=
  ⟨h.grown.os, h.grown.tape, h.grown.output, h.grown.size, fun k hk hn => h.grown.block k hk (fun e => hn (Option.some.inj e))⟩

/-! A set of ids: a map to true. -/
noncomputable abbrev boolE : Value → Option (DataW Unit × List MemPlace) := plainElem Tryz.prog 4
theorem boolE_mk (x : Bool) : boolE (.bool x) = some (.lit (.bool x), []) := plainElem_bool Tryz.underlying4 x
set_option maxRecDepth 100000 in
theorem boolE_inv {v : Value} {x : Bool} {ps : List MemPlace} (h : boolE v = some (.lit (.bool x), ps)) : v = .bool x := by
  unfold boolE plainElem at h
  rw [Tryz.underlying4] at h
  cases v <;> simp at h
  rw [h.1]
structure BRel (D : DataW Unit) (O : List Id) : Prop where
  has : ∀ i, IdI i → Maps.has D (klI i) = decide (i ∈ O)
  at_ : ∀ i, IdI i → D.atKey (klI i) (.lit (.bool false)) = .lit (.bool (decide (i ∈ O)))
  sz : Maps.size D = O.length
theorem BRel.nil : BRel (.map []) [] := ⟨fun i _ => by simp [Maps.has], fun i _ => by simp; rfl, rfl⟩
theorem BRel.put {D : DataW Unit} {O : List Id} {i : Id} (h : BRel D O) (hm : Maps.Tidy D) (hi : IdI i) (hn : i ∉ O) : BRel (D.put (klI i) (.lit (.bool true))) (O ++ [i]) := by
  refine ⟨?_, ?_, ?_⟩
  · intro k hk
    by_cases e : k = i
    · subst e
      rw [has_put_same hm.isMap (klI_key _)]; simp
    · rw [has_put_other (fun e2 => e (klI_inj hk hi e2)), h.has k hk]
      simp [e]
  · intro k hk
    by_cases e : k = i
    · subst e
      rw [atKey_put_same hm.isMap (klI_key _)]; simp
    · rw [atKey_put_other (fun e2 => e (klI_inj hk hi e2)), h.at_ k hk]
      simp [e]
  · rw [Maps.size_put hm, h.has i hi, h.sz]
    simp [hn]
/-- how many entries a map has -/
def mapSz (w : World) (b : Nat) : Nat := match w.heap[b]? with
  | some (.map es _) => es.size
  | _ => 0
/-- block b is a set of at most n entries -/
def MapB (w : World) (b n : Nat) (O : List Id) : Prop := ∃ D, w.ownsMap Tryz.prog tId boolE b n D ∧ BRel D O
theorem MapB.lt {w : World} {b n : Nat} {O : List Id} (h : MapB w b n O) : b < w.heap.size := by
  obtain ⟨D, h1, _⟩ := h
  exact h1.lt
theorem MapB.mono {w : World} {b n m : Nat} {O : List Id} (h : MapB w b n O) (hm : n ≤ m) : MapB w b m O := by
  obtain ⟨D, h1, h2⟩ := h
  exact ⟨D, h1.mono hm, h2⟩
theorem MapB.keep {w w1 : World} {b n : Nat} {O : List Id} {S : Nat → Prop} (h : MapB w b n O) (hm : M.Mods S w w1) (hn : ¬ S b) : MapB w1 b n O := by
  have hlt := h.lt
  obtain ⟨D, ⟨es, clock, hb, r⟩, h2⟩ := h
  exact ⟨D, ⟨es, clock, (hm.block b hlt hn).trans hb, r⟩, h2⟩
theorem MapB.below {w w1 : World} {b n : Nat} {O : List Id} (h : MapB w b n O) (hm : Below w.heap.size w w1) : MapB w1 b n O :=
  h.keep (S := fun _ => False) (M.Mods.of_below hm) (fun h => h)
theorem MapB.made (w : World) : MapB (w.alloc (.map #[] 0)) w.heap.size 0 [] := ⟨.map [], World.ownsMap_made _ _ _ _, BRel.nil⟩
theorem MapB.sz {w : World} {b n : Nat} {O : List Id} (h : MapB w b n O) : mapSz w b = O.length := by
  obtain ⟨D, ⟨es, clock, hb, _, _, rfl⟩, h2⟩ := h
  rw [← h2.sz]
  unfold mapSz
  rw [hb]
  simp [Maps.size, length_sorted]
theorem MapB.look {w : World} {b n : Nat} {O : List Id} (h : MapB w b n O) {i : Id} (hi : IdI i) : (Instr.lookup tMB (.map (some b)) (idV i) false).run Tryz.prog w = .ok (.bool (decide (i ∈ O))) w := by
  obtain ⟨D, h1, h2⟩ := h
  obtain ⟨v, ps, hrun, hv⟩ := h1.lookup id_keyed Tryz.underlying105 (z := .bool false) (by kernel_rfl) (boolE_mk false) (key_id i hi)
  rw [h2.at_ i hi] at hv
  rw [hrun, boolE_inv hv]
theorem MapB.put {w : World} {b n : Nat} {O : List Id} (h : MapB w b n O) (hn : n < maxLen) {i : Id} (hi : IdI i) (hx : i ∉ O) :
    ∃ w1, (Instr.mapUpdate tMB (.map (some b)) (idV i) (.bool true)).run Tryz.prog w = .ok () w1 ∧ MapB w1 b (n + 1) (O ++ [i]) ∧ M.Mods (fun k => k = b) w w1 := by
  obtain ⟨D, h1, h2⟩ := h
  obtain ⟨w1, hrun, r1, r2⟩ := h1.store id_keyed Tryz.underlying105 hn (key_id i hi) (boolE_mk true)
  exact ⟨w1, hrun, ⟨_, r1, h2.put (h1.tidy id_keyed) hi hx⟩, mods_turned r2⟩

/-! Records by their ids. -/
def zeroR : Rv := ⟨⟨0, 0⟩, 0, ⟨0, 0⟩, ⟨0, 0⟩, ⟨0, 0, 0, P.nul, P.nul, 0⟩, [], 0, 0, none, 0⟩
open Classical in
noncomputable def recE (v : Value) : Option (DataW Value × List MemPlace) := if ∃ x : Rv, v = recV x then some (.held v, []) else none
theorem recE_mk (x : Rv) : recE (recV x) = some (.held (recV x), []) := if_pos ⟨x, rfl⟩
theorem recE_inv {v : Value} {y : DataW Value × List MemPlace} (h : recE v = some y) : ∃ x, v = recV x ∧ y = (.held (recV x), []) := by
  unfold recE at h
  split at h
  · rename_i hx
    obtain ⟨x, rfl⟩ := hx
    exact ⟨x, rfl, (Option.some.inj h).symm⟩
  · cases h
structure RRel (D : DataW Value) (W : List Rv) : Prop where
  has : ∀ i, IdI i → Maps.has D (klI i) = decide (i ∈ idsX W)
  at_ : ∀ x ∈ W, ∀ z, D.atKey (klI x.id) z = .held (recV x)
/-- what a look-up gives -/
def lookR (W : List Rv) (i : Id) : Rv := (W.find? fun x => decide (x.id = i)).getD zeroR
theorem RRel.look {D : DataW Value} {W : List Rv} (h : RRel D W) {i : Id} (hi : IdI i) : D.atKey (klI i) (.held (recV zeroR)) = .held (recV (lookR W i)) := by
  unfold lookR
  cases hf : W.find? (fun x => decide (x.id = i)) with
  | none =>
    have hn : i ∉ idsX W := fun hm => by
      obtain ⟨x, hx, e⟩ := List.mem_map.1 hm
      have := List.find?_eq_none.1 hf x hx
      simp [e] at this
    exact Maps.atKey_of_not_has (by rw [h.has i hi]; simpa using hn) _
  | some x =>
    have h1 := List.mem_of_find?_eq_some hf
    have h2 : x.id = i := by have := List.find?_some hf; simpa using this
    subst h2
    exact h.at_ x h1 _
theorem RRel.nil : RRel (.map []) [] := ⟨fun i _ => by simp [Maps.has], fun x hx => by cases hx⟩
theorem RRel.put {D : DataW Value} {W : List Rv} {x : Rv} (h : RRel D W) (hm : IsMap D) (hi : IdI x.id) (hok : ∀ y ∈ W, IdI y.id) (hn : x.id ∉ idsX W) : RRel (D.put (klI x.id) (.held (recV x))) (W ++ [x]) := by
  constructor
  · intro k hk
    by_cases e : k = x.id
    · subst e
      rw [has_put_same hm (klI_key _)]; simp
    · rw [has_put_other (fun e2 => e (klI_inj hk hi e2)), h.has k hk]
      simp [e]
  · intro y hy z
    rcases List.mem_append.1 hy with hy | hy
    · have hne : y.id ≠ x.id := fun e => hn (e ▸ List.mem_map.2 ⟨y, hy, rfl⟩)
      rw [atKey_put_other (fun e2 => hne (klI_inj (hok y hy) hi e2))]
      exact h.at_ y hy z
    · rw [List.mem_singleton.1 hy, atKey_put_same hm (klI_key _)]
theorem RRel.del {D : DataW Value} {W : List Rv} {j : Id} (h : RRel D W) (hj : IdI j) (hok : ∀ y ∈ W, IdI y.id) : RRel (D.del (klI j)) (W.filter fun x => !decide (x.id = j)) := by
  constructor
  · intro k hk
    by_cases e : k = j
    · subst e
      rw [has_del_same]
      symm
      rw [decide_eq_false_iff_not]
      intro hm
      obtain ⟨x, hx, e⟩ := List.mem_map.1 hm
      have := (List.mem_filter.1 hx).2
      simp [e] at this
    · rw [has_del_other (fun e2 => e (klI_inj hk hj e2)), h.has k hk]
      congr 1
      rw [eq_iff_iff]
      constructor
      · intro hm
        obtain ⟨x, hx, rfl⟩ := List.mem_map.1 hm
        exact List.mem_map.2 ⟨x, List.mem_filter.2 ⟨hx, by simpa using e⟩, rfl⟩
      · intro hm
        obtain ⟨x, hx, rfl⟩ := List.mem_map.1 hm
        exact List.mem_map.2 ⟨x, (List.mem_filter.1 hx).1, rfl⟩
  · intro y hy z
    obtain ⟨hy1, hy2⟩ := List.mem_filter.1 hy
    have hne : y.id ≠ j := by simpa using hy2
    rw [atKey_del_other (fun e2 => hne (klI_inj (hok y hy1) hj e2))]
    exact h.at_ y hy1 z
/-- block b is a map of at most n entries: these records by their ids -/
structure MapR (w : World) (b n : Nat) (W : List Rv) : Prop where
  own : ∃ D, w.ownsMap Tryz.prog tId recE b n D ∧ RRel D W
  nd : (idsX W).Nodup
  ok : ∀ x ∈ W, IdI x.id
theorem MapR.lt {w : World} {b n : Nat} {W : List Rv} (h : MapR w b n W) : b < w.heap.size := by
  obtain ⟨D, h1, _⟩ := h.own
  exact h1.lt
theorem MapR.mono {w : World} {b n m : Nat} {W : List Rv} (h : MapR w b n W) (hm : n ≤ m) : MapR w b m W := by
  obtain ⟨D, h1, h2⟩ := h.own
  exact ⟨⟨D, h1.mono hm, h2⟩, h.nd, h.ok⟩
theorem MapR.keep {w w1 : World} {b n : Nat} {W : List Rv} {S : Nat → Prop} (h : MapR w b n W) (hm : M.Mods S w w1) (hn : ¬ S b) : MapR w1 b n W := by
  have hlt := h.lt
  obtain ⟨D, ⟨es, clock, hb, r⟩, h2⟩ := h.own
  exact ⟨⟨D, ⟨es, clock, (hm.block b hlt hn).trans hb, r⟩, h2⟩, h.nd, h.ok⟩
theorem MapR.below {w w1 : World} {b n : Nat} {W : List Rv} (h : MapR w b n W) (hm : Below w.heap.size w w1) : MapR w1 b n W :=
  h.keep (S := fun _ => False) (M.Mods.of_below hm) (fun h => h)
theorem MapR.made (w : World) : MapR (w.alloc (.map #[] 0)) w.heap.size 0 [] := ⟨⟨.map [], World.ownsMap_made _ _ _ _, RRel.nil⟩, .nil, fun x h => by cases h⟩
theorem MapR.look_ok {w : World} {b n : Nat} {W : List Rv} (h : MapR w b n W) {i : Id} (hi : IdI i) : (Instr.lookup tMR (.map (some b)) (idV i) true).run Tryz.prog w = .ok (.tuple #[recV (lookR W i), .bool (decide (i ∈ idsX W))]) w := by
  obtain ⟨D, h1, h2⟩ := h.own
  obtain ⟨v, ps, hrun, hv⟩ := h1.look_ok id_keyed Tryz.underlying104 (z := recV zeroR) (by kernel_rfl) (recE_mk zeroR) (key_id i hi)
  rw [h2.look hi] at hv
  obtain ⟨x, rfl, hx⟩ := recE_inv hv
  have e : recV (lookR W i) = recV x := by simpa using congrArg Prod.fst hx
  rw [h2.has i hi] at hrun
  rw [hrun, e]
theorem MapR.put {w : World} {b n : Nat} {W : List Rv} (h : MapR w b n W) (hn : n < maxLen) {x : Rv} (hi : IdI x.id) (hx : x.id ∉ idsX W) :
    ∃ w1, (Instr.mapUpdate tMR (.map (some b)) (idV x.id) (recV x)).run Tryz.prog w = .ok () w1 ∧ MapR w1 b (n + 1) (W ++ [x]) ∧ M.Mods (fun k => k = b) w w1 := by
  obtain ⟨D, h1, h2⟩ := h.own
  obtain ⟨w1, hrun, r1, r2⟩ := h1.store id_keyed Tryz.underlying104 hn (key_id x.id hi) (recE_mk x)
  refine ⟨w1, hrun, ⟨⟨_, r1, h2.put h1.isMap hi h.ok hx⟩, ?_, fun y hy => ?_⟩, mods_turned r2⟩
  · unfold idsX
    rw [List.map_append]
    refine List.nodup_append.2 ⟨h.nd, by simp, fun a ha b hb => ?_⟩
    simp at hb
    subst hb
    exact fun e => hx (e ▸ ha)
  · rcases List.mem_append.1 hy with hy | hy
    · exact h.ok y hy
    · rw [List.mem_singleton.1 hy]; exact hi
theorem MapR.del {w : World} {b n : Nat} {W : List Rv} (h : MapR w b n W) {j : Id} (hj : IdI j) (ty : TypeId) :
    ∃ w1, (Builtin.delete_ #[tMR, tId] ty #[.map (some b), idV j]).run Tryz.prog w = .ok (.tuple #[]) w1 ∧ MapR w1 b n (W.filter fun x => !decide (x.id = j)) ∧ M.Mods (fun k => k = b) w w1 := by
  obtain ⟨D, h1, h2⟩ := h.own
  obtain ⟨w1, hrun, r1, r2⟩ := h1.drop id_keyed Tryz.underlying104 (key_id j hj) ty
  exact ⟨w1, hrun, ⟨⟨_, r1, h2.del hj h.ok⟩, h.nd.sublist (List.filter_sublist.map _), fun y hy => h.ok y (List.mem_filter.1 hy).1⟩, mods_turned r2⟩
/-- 'for i, r := range m' under way: left: which records are still to come -/
structure RngR (w : World) (b r n : Nat) (W : List Rv) (left : List Rv) (cnt : Nat) : Prop where
  own : ∃ D lf, w.ranges Tryz.prog tId recE b r n D lf cnt ∧ RRel D W ∧ ∀ x ∈ W, (lf (klI x.id) = true ↔ x ∈ left)
  nd : (idsX W).Nodup
  ok : ∀ x ∈ W, IdI x.id
  sub : left.Sublist W
theorem RngR.lt {w : World} {b r n : Nat} {W left : List Rv} {cnt : Nat} (h : RngR w b r n W left cnt) : r < w.heap.size ∧ b < w.heap.size := by
  obtain ⟨D, lf, h1, _⟩ := h.own
  exact ⟨h1.lt, h1.owns.lt⟩
theorem RngR.left_eq {w : World} {b r n : Nat} {W left : List Rv} {cnt : Nat} (h : RngR w b r n W left cnt) : w.rangeLeft b r = cnt := by
  obtain ⟨D, lf, h1, _⟩ := h.own
  exact h1.left_eq
theorem RngR.map {w : World} {b r n : Nat} {W left : List Rv} {cnt : Nat} (h : RngR w b r n W left cnt) : MapR w b n W := by
  obtain ⟨D, lf, h1, h2, _⟩ := h.own
  exact ⟨⟨D, h1.owns, h2⟩, h.nd, h.ok⟩
theorem RngR.keep {w w1 : World} {b r n : Nat} {W left : List Rv} {cnt : Nat} {S : Nat → Prop} (h : RngR w b r n W left cnt) (hm : M.Mods S w w1) (hb : ¬ S b) (hr : ¬ S r) : RngR w1 b r n W left cnt := by
  obtain ⟨h0, h00⟩ := h.lt
  obtain ⟨D, lf, h1, h2⟩ := h.own
  obtain ⟨es, clock, since, seen, c0, e1, F, hs, hD, e2, rest⟩ := h1
  exact ⟨⟨D, lf, ⟨es, clock, since, seen, c0, (hm.block b h00 hb).trans e1, F, hs, hD, (hm.block r h0 hr).trans e2, rest⟩, h2⟩, h.nd, h.ok, h.sub⟩
theorem RngR.below {w w1 : World} {b r n : Nat} {W left : List Rv} {cnt : Nat} (h : RngR w b r n W left cnt) (hm : Below w.heap.size w w1) : RngR w1 b r n W left cnt :=
  h.keep (S := fun _ => False) (M.Mods.of_below hm) (fun h => h) (fun h => h)
/-- what comes next -/
theorem RngR.next {w : World} {b r n : Nat} {W left : List Rv} {cnt : Nat} (h : RngR w b r n W left cnt) (ty : TypeId) :
    (cnt = 0 ∧ left = [] ∧ (Instr.next (.pointer (some ⟨r, 0, none⟩)) false ty).run Tryz.prog w = .ok (.tuple #[.bool false]) w) ∨
    ∃ x w' cnt', x ∈ left ∧ (Instr.next (.pointer (some ⟨r, 0, none⟩)) false ty).run Tryz.prog w = .ok (.tuple #[.bool true, idV x.id, recV x]) w' ∧ RngR w' b r n W (left.filter fun y => !decide (y.id = x.id)) cnt' ∧ cnt' < cnt ∧ M.Mods (fun k => k = r) w w' ∧
      (Instr.entry (.pointer (some ⟨r, 0, none⟩))).run Tryz.prog w' = .ok (.tuple #[idV x.id, recV x]) w' := by
  obtain ⟨D, lf, h1, h2, h3⟩ := h.own
  rcases h1.next id_keyed ty with ⟨h0, hl, hrun⟩ | ⟨key, v, kl, y, w', cnt', hkey, hlk, hv, hat, hrun, hrg, hlt, hgr, hsz, hen⟩
  · refine .inl ⟨h0, ?_, hrun⟩
    refine List.eq_nil_iff_forall_not_mem.2 fun x hx => ?_
    have := (h3 x (h.sub.subset hx)).2 hx
    rw [hl] at this; cases this
  · obtain ⟨i, rfl, rfl, hi⟩ := key_id_inv hkey
    have hh : Maps.has D (klI i) = true := Maps.has_true_of_atKey hat
    rw [h2.has i hi, decide_eq_true_eq] at hh
    obtain ⟨x, hx, rfl⟩ := List.mem_map.1 hh
    obtain ⟨x2, rfl, rfl⟩ := recE_inv hv
    have e1 : recV x = recV x2 := by
      have := (h2.at_ x hx (.lit (.bool false))).symm.trans (hat (.lit (.bool false)))
      simpa using this
    rw [← e1] at hrun hen
    refine .inr ⟨x, w', cnt', (h3 x hx).1 hlk, hrun, ⟨⟨D, _, hrg, h2, fun y hy => ?_⟩, h.nd, h.ok, List.filter_sublist.trans h.sub⟩, hlt, ⟨hgr.os, hgr.tape, hgr.output, hgr.size, fun k hk hn => hgr.block k hk (fun e => hn (Option.some.inj e))⟩, hen⟩
    rw [List.mem_filter, ← h3 y hy, Bool.and_eq_true]
    refine and_congr_right fun _ => ?_
    have key : (klI y.id).sameKey (klI x.id) = true ↔ y.id = x.id := by
     constructor
     · intro e; exact klI_inj (h.ok y hy) (h.ok x hx) (WideAt.sameKey_eq e)
     · intro e; rw [e]; exact WideAt.sameKey_self (klI_key _)
    cases hs : (klI y.id).sameKey (klI x.id) with
    | true => simp [key.1 hs]
    | false =>
      have : ¬ y.id = x.id := fun e => by rw [key.2 e] at hs; cases hs
      simp [this]
theorem MapR.range {w : World} {b n : Nat} {W : List Rv} (h : MapR w b n W) : ∃ w' cnt, (Instr.range tMR (.map (some b))).run Tryz.prog w = .ok (.pointer (some ⟨w.heap.size, 0, none⟩)) w' ∧ RngR w' b w.heap.size n W W cnt ∧ Below w.heap.size w w' := by
  obtain ⟨D, h1, h2⟩ := h.own
  obtain ⟨w', hrun, hrg, hgr, hsz⟩ := h1.range id_keyed Tryz.underlying104
  refine ⟨w', _, hrun, ⟨⟨D, _, hrg, h2, fun x hx => ?_⟩, h.nd, h.ok, List.Sublist.refl _⟩, ?_⟩
  · rw [h2.has x.id (h.ok x hx), decide_eq_true_eq]
    exact ⟨fun _ => hx, fun _ => List.mem_map.2 ⟨x, hx, rfl⟩⟩
  · exact (Below.refl _ _).grown hgr (Nat.le_refl _) (fun j e => by cases e)
end Go.Proofs.YtkgjfagejnppbaaGreatDoor.O
