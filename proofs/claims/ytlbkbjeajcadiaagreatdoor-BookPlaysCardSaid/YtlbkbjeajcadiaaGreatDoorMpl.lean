/- Maps in memory, whatever their keys and values: a list of pairs whose keys are all apart. -/
import Derived.Test.YtlbkbjeajcadiaaGreatDoorMem
import Derived.Maps.Keyed
import Derived.Maps.Own
import Derived.Maps.OwnSet
import Derived.Maps.Views
import Derived.Maps.RangeWalk
import Derived.DeepKeys4
namespace Go.Proofs.YtlbkbjeajcadiaaGreatDoor.Mp
open Go.RowKit Go.Proofs.YtlbkbjeajcadiaaGreatDoor.M Go.Maps
set_option linter.unusedVariables false
set_option linter.unusedSimpArgs false

/-- a kind of maps: its type, its values' type, its keys' type; keys and values as Go has them, keys as they are compared; the zero -/
structure MapS (κ ν : Type) where
  t : TypeId
  e : TypeId
  kt : TypeId
  key : κ → Value
  lit : κ → Lit
  ok : κ → Prop
  enc : ν → Value
  z : ν
structure MapS.Law {κ ν : Type} (S : MapS κ ν) : Prop where
  keyed : Maps.Keyed Tryz.prog S.kt
  und : Tryz.prog.underlying S.t = some (.map S.kt S.e)
  zero : ∀ w, (zeroValue S.e).run Tryz.prog w = .ok (S.enc S.z) w
  mkk : ∀ k, S.ok k → keyOf Tryz.prog S.kt (S.key k) = some (S.lit k)
  isk : ∀ k, WideAt.IsKeyLit (S.lit k)
  inj : ∀ a b, S.key a = S.key b → a = b
/-- what reads as a key is one: what a range asks -/
def MapS.Inv {κ ν : Type} (S : MapS κ ν) : Prop := ∀ x kl, keyOf Tryz.prog S.kt x = some kl → ∃ k, x = S.key k ∧ kl = S.lit k ∧ S.ok k
section
variable {κ ν : Type} {S : MapS κ ν}
theorem MapS.Law.linj (h : S.Law) {a b : κ} (ha : S.ok a) (hb : S.ok b) (e : S.lit a = S.lit b) : a = b := h.inj a b (h.keyed.inj (h.mkk a ha) (e ▸ h.mkk b hb))
open Classical in
noncomputable def heldE (enc : ν → Value) (v : Value) : Option (DataW Value × List MemPlace) := if ∃ x, v = enc x then some (.held v, []) else none
theorem heldE_mk (enc : ν → Value) (x : ν) : heldE enc (enc x) = some (.held (enc x), []) := if_pos ⟨x, rfl⟩
theorem heldE_inv {enc : ν → Value} {v : Value} {y : DataW Value × List MemPlace} (h : heldE enc v = some y) : ∃ x, v = enc x ∧ y = (.held (enc x), []) := by
  unfold heldE at h
  split at h
  · rename_i hx
    obtain ⟨x, rfl⟩ := hx
    exact ⟨x, rfl, (Option.some.inj h).symm⟩
  · cases h
theorem turned_mods {w w1 : World} {b : Nat} (h : w.mapTurned w1 b) : M.Mods (fun k => k = b) w w1 :=
  ⟨h.grown.os, h.grown.tape, h.grown.output, h.grown.size, fun k hk hn => h.grown.block k hk (fun e => hn (Option.some.inj e))⟩
variable [DecidableEq κ]
def hasD (L : List (κ × ν)) (k : κ) : Bool := decide (k ∈ L.map Prod.fst)
def findD (L : List (κ × ν)) (k : κ) : Option ν := (L.find? fun p => decide (p.1 = k)).map Prod.snd
def lookD (L : List (κ × ν)) (k : κ) (z : ν) : ν := (findD L k).getD z
def delD (L : List (κ × ν)) (k : κ) : List (κ × ν) := L.filter fun p => !decide (p.1 = k)
def putD (L : List (κ × ν)) (k : κ) (v : ν) : List (κ × ν) := delD L k ++ [(k, v)]
theorem findD_none {L : List (κ × ν)} {k : κ} : findD L k = none ↔ k ∉ L.map Prod.fst := by
  unfold findD
  rw [Option.map_eq_none_iff, List.find?_eq_none]
  simp only [decide_eq_true_eq, List.mem_map, not_exists, not_and]
theorem findD_has {L : List (κ × ν)} {k : κ} : hasD L k = (findD L k).isSome := by
  unfold hasD
  cases h : findD L k with
  | none => simpa using findD_none.1 h
  | some v =>
    have : ¬ findD L k = none := by rw [h]; simp
    rw [findD_none, Classical.not_not] at this
    simpa using this
theorem findD_some {L : List (κ × ν)} {k : κ} {v : ν} (h : findD L k = some v) : (k, v) ∈ L := by
  unfold findD at h
  obtain ⟨p, hp, rfl⟩ := Option.map_eq_some_iff.1 h
  have h1 := List.mem_of_find?_eq_some hp
  have h2 := List.find?_some hp
  simp only [decide_eq_true_eq] at h2
  subst h2
  exact h1
theorem findD_of {L : List (κ × ν)} (hn : (L.map Prod.fst).Nodup) {k : κ} {v : ν} (h : (k, v) ∈ L) : findD L k = some v := by
  induction L with
  | nil => cases h
  | cons p L ih =>
    rw [List.map_cons, List.nodup_cons] at hn
    unfold findD
    rw [List.find?_cons]
    by_cases e : p.1 = k
    · simp only [e, decide_true]
      rcases List.mem_cons.1 h with h | h
      · rw [← h]; rfl
      · exact absurd (List.mem_map.2 ⟨_, h, rfl⟩) (by rw [← e]; exact hn.1)
    · simp only [e, decide_false]
      rcases List.mem_cons.1 h with h | h
      · rw [← h] at e; exact absurd rfl e
      · exact ih hn.2 h
theorem findD_del {L : List (κ × ν)} {k j : κ} : findD (delD L k) j = if j = k then none else findD L j := by
  split
  · rename_i e
    subst e
    rw [findD_none]
    intro h
    obtain ⟨p, hp, e⟩ := List.mem_map.1 h
    have := (List.mem_filter.1 hp).2
    simp [e] at this
  · rename_i e
    unfold findD delD
    rw [List.find?_filter]
    congr 1
    apply congrArg (fun f => List.find? f L)
    funext p
    by_cases h : p.1 = j
    · simp [h, e]
    · simp [h]
theorem findD_app {L L2 : List (κ × ν)} {j : κ} : findD (L ++ L2) j = (findD L j).or (findD L2 j) := by
  unfold findD
  rw [List.find?_append]
  cases List.find? (fun p => decide (p.1 = j)) L <;> simp
theorem findD_put {L : List (κ × ν)} {k j : κ} {v : ν} : findD (putD L k v) j = if j = k then some v else findD L j := by
  unfold putD
  rw [findD_app, findD_del]
  by_cases e : j = k
  · subst e
    simp [findD]
  · rw [if_neg e, if_neg e]
    have : findD [(k, v)] j = none := by rw [findD_none]; simpa using e
    rw [this, Option.or_none]
theorem hasD_put {L : List (κ × ν)} {k j : κ} {v : ν} : hasD (putD L k v) j = (decide (j = k) || hasD L j) := by
  rw [findD_has, findD_put, findD_has]
  by_cases e : j = k <;> simp [e]
theorem hasD_del {L : List (κ × ν)} {k j : κ} : hasD (delD L k) j = (!decide (j = k) && hasD L j) := by
  rw [findD_has, findD_del, findD_has]
  by_cases e : j = k <;> simp [e]
theorem delD_nodup {L : List (κ × ν)} (h : (L.map Prod.fst).Nodup) (k : κ) : ((delD L k).map Prod.fst).Nodup := h.sublist (List.filter_sublist.map _)
theorem putD_nodup {L : List (κ × ν)} (h : (L.map Prod.fst).Nodup) (k : κ) (v : ν) : ((putD L k v).map Prod.fst).Nodup := by
  unfold putD
  rw [List.map_append]
  refine List.nodup_append.2 ⟨delD_nodup h k, by simp, fun a ha b hb => ?_⟩
  simp at hb
  subst hb
  obtain ⟨p, hp, rfl⟩ := List.mem_map.1 ha
  have := (List.mem_filter.1 hp).2
  simpa using this
theorem delD_len {L : List (κ × ν)} (hn : (L.map Prod.fst).Nodup) (k : κ) : (delD L k).length + (if hasD L k = true then 1 else 0) = L.length := by
  induction L with
  | nil => simp [delD, hasD]
  | cons p L ih =>
    rw [List.map_cons, List.nodup_cons] at hn
    have ih := ih hn.2
    unfold delD hasD at ih ⊢
    rw [List.filter_cons]
    by_cases e : p.1 = k
    · subst e
      have h0 : decide (p.1 ∈ L.map Prod.fst) = false := by simpa using hn.1
      rw [h0] at ih
      simp at ih ⊢
      omega
    · have : decide (k ∈ List.map Prod.fst (p :: L)) = decide (k ∈ List.map Prod.fst L) := by
        rw [List.map_cons]
        simp [Ne.symm e]
      rw [this]
      simp only [e, decide_false, Bool.not_false, if_true, List.length_cons]
      omega
structure Rel (S : MapS κ ν) (D : DataW Value) (L : List (κ × ν)) : Prop where
  has : ∀ i, S.ok i → Maps.has D (S.lit i) = hasD L i
  at_ : ∀ p ∈ L, ∀ z, D.atKey (S.lit p.1) z = .held (S.enc p.2)
  sz : Maps.size D = L.length
theorem Rel.nil : Rel S (.map []) ([] : List (κ × ν)) := ⟨fun i _ => by simp [Maps.has, hasD], fun x hx => (by cases hx), rfl⟩
theorem Rel.look {D : DataW Value} {L : List (κ × ν)} (h : Rel S D L) {i : κ} (hi : S.ok i) : D.atKey (S.lit i) (.held (S.enc S.z)) = .held (S.enc (lookD L i S.z)) := by
  unfold lookD
  cases hf : findD L i with
  | none => exact Maps.atKey_of_not_has (by rw [h.has i hi, findD_has, hf]; rfl) _
  | some v => exact h.at_ _ (findD_some hf) _
theorem Rel.put (hS : S.Law) {D : DataW Value} {L : List (κ × ν)} (h : Rel S D L) (hm : Tidy D) (hn : (L.map Prod.fst).Nodup) (hok : ∀ p ∈ L, S.ok p.1) {k : κ} (hi : S.ok k) (v : ν) : Rel S (D.put (S.lit k) (.held (S.enc v))) (putD L k v) := by
  refine ⟨fun j hj => ?_, fun p hp z => ?_, ?_⟩
  · rw [hasD_put]
    by_cases e : j = k
    · subst e
      rw [has_put_same hm.isMap (hS.isk _)]; simp
    · rw [has_put_other (fun e2 => e (hS.linj hj hi e2)), h.has j hj]
      simp [e]
  · rcases List.mem_append.1 hp with hp | hp
    · obtain ⟨hp, hne⟩ := List.mem_filter.1 hp
      have hne : p.1 ≠ k := by simpa using hne
      rw [atKey_put_other (fun e2 => hne (hS.linj (hok p hp) hi e2))]
      exact h.at_ p hp z
    · rw [List.mem_singleton.1 hp, atKey_put_same hm.isMap (hS.isk _)]
  · rw [Maps.size_put hm, h.has k hi, h.sz]
    have := delD_len hn k
    unfold putD
    rw [List.length_append, List.length_singleton]
    split at this <;> rename_i hh <;> simp only [hh] <;> simp <;> omega
theorem Rel.del (hS : S.Law) {D : DataW Value} {L : List (κ × ν)} (h : Rel S D L) (hm : Tidy D) (hn : (L.map Prod.fst).Nodup) (hok : ∀ p ∈ L, S.ok p.1) {k : κ} (hi : S.ok k) : Rel S (D.del (S.lit k)) (delD L k) := by
  refine ⟨fun j hj => ?_, fun p hp z => ?_, ?_⟩
  · rw [hasD_del]
    by_cases e : j = k
    · subst e
      rw [has_del_same]; simp
    · rw [has_del_other (fun e2 => e (hS.linj hj hi e2)), h.has j hj]
      simp [e]
  · obtain ⟨hp, hne⟩ := List.mem_filter.1 hp
    have hne : p.1 ≠ k := by simpa using hne
    rw [atKey_del_other (fun e2 => hne (hS.linj (hok p hp) hi e2))]
    exact h.at_ p hp z
  · have h1 := Maps.size_del (k := S.lit k) hm
    have h2 := delD_len hn k
    rw [h.has k hi, h.sz] at h1
    split at h1 <;> rename_i hh <;> simp only [hh] at h2 <;> simp at h2 <;> omega
/-- block b is a map of at most n entries: these pairs -/
structure MapL (S : MapS κ ν) (w : World) (b n : Nat) (L : List (κ × ν)) : Prop where
  own : ∃ D, w.ownsMap Tryz.prog S.kt (heldE S.enc) b n D ∧ Rel S D L
  nd : (L.map Prod.fst).Nodup
  ok : ∀ p ∈ L, S.ok p.1
theorem MapL.lt {w : World} {b n : Nat} {L : List (κ × ν)} (h : MapL S w b n L) : b < w.heap.size := by
  obtain ⟨D, h1, _⟩ := h.own
  exact h1.lt
theorem MapL.mono {w : World} {b n m : Nat} {L : List (κ × ν)} (h : MapL S w b n L) (hm : n ≤ m) : MapL S w b m L := by
  obtain ⟨D, h1, h2⟩ := h.own
  exact ⟨⟨D, h1.mono hm, h2⟩, h.nd, h.ok⟩
theorem MapL.len_le {w : World} {b n : Nat} {L : List (κ × ν)} (h : MapL S w b n L) : L.length ≤ n := by
  obtain ⟨D, h1, h2⟩ := h.own
  rw [← h2.sz]; exact h1.size_le
theorem MapL.keep {w w1 : World} {b n : Nat} {L : List (κ × ν)} {F : Nat → Prop} (h : MapL S w b n L) (hm : M.Mods F w w1) (hn : ¬ F b) : MapL S w1 b n L := by
  have hlt := h.lt
  obtain ⟨D, ⟨es, clock, hb, r⟩, h2⟩ := h.own
  exact ⟨⟨D, ⟨es, clock, (hm.block b hlt hn).trans hb, r⟩, h2⟩, h.nd, h.ok⟩
theorem MapL.below {w w1 : World} {b n : Nat} {L : List (κ × ν)} (h : MapL S w b n L) (hm : Below w.heap.size w w1) : MapL S w1 b n L :=
  h.keep (F := fun _ => False) (M.Mods.of_below hm) (fun h => h)
theorem MapL.made (w : World) : MapL S (w.alloc (.map #[] 0)) w.heap.size 0 [] := ⟨⟨.map [], World.ownsMap_made _ _ _ _, Rel.nil⟩, .nil, fun x h => by cases h⟩
theorem MapL.nocells {w : World} {b n : Nat} {L : List (κ × ν)} (h : MapL S w b n L) {cs : Array Value} {t : TypeId} {fr : Nat × Nat} (hc : w.heap[b]? = some (.cells cs t fr)) : False := by
  obtain ⟨D, ⟨es, clock, hb, _⟩, _⟩ := h.own
  rw [hb] at hc; cases hc
theorem MapL.look (hS : S.Law) {w : World} {b n : Nat} {L : List (κ × ν)} (h : MapL S w b n L) {i : κ} (hi : S.ok i) {v : ν} (hv : lookD L i S.z = v) :
    (Instr.lookup S.t (.map (some b)) (S.key i) false).run Tryz.prog w = .ok (S.enc v) w := by
  obtain ⟨D, h1, h2⟩ := h.own
  obtain ⟨x, ps, hrun, hx⟩ := h1.lookup hS.keyed hS.und (hS.zero w) (heldE_mk S.enc S.z) (hS.mkk i hi)
  rw [h2.look hi, hv] at hx
  obtain ⟨y, rfl, hy⟩ := heldE_inv hx
  have e : S.enc v = S.enc y := by simpa using congrArg Prod.fst hy
  rw [hrun, e]
theorem MapL.look_ok (hS : S.Law) {w : World} {b n : Nat} {L : List (κ × ν)} (h : MapL S w b n L) {i : κ} (hi : S.ok i) {v : ν} (hv : lookD L i S.z = v) {is : Bool} (hb : hasD L i = is) :
    (Instr.lookup S.t (.map (some b)) (S.key i) true).run Tryz.prog w = .ok (.tuple #[S.enc v, .bool is]) w := by
  obtain ⟨D, h1, h2⟩ := h.own
  obtain ⟨x, ps, hrun, hx⟩ := h1.look_ok hS.keyed hS.und (hS.zero w) (heldE_mk S.enc S.z) (hS.mkk i hi)
  rw [h2.look hi, hv] at hx
  obtain ⟨y, rfl, hy⟩ := heldE_inv hx
  have e : S.enc v = S.enc y := by simpa using congrArg Prod.fst hy
  rw [h2.has i hi, hb] at hrun
  rw [hrun, e]
omit [DecidableEq κ] in
theorem look_nil (hS : S.Law) (w : World) {i : κ} (hi : S.ok i) : (Instr.lookup S.t (.map none) (S.key i) false).run Tryz.prog w = .ok (S.enc S.z) w := Maps.look_nil false hS.keyed hS.und (hS.zero w) (hS.mkk i hi)
theorem MapL.len (hS : S.Law) {w : World} {b n : Nat} {L : List (κ × ν)} (h : MapL S w b n L) (ty : TypeId) : (Builtin.len_ #[S.t] ty #[.map (some b)]).run Tryz.prog w = .ok (.int .i64 L.length) w := by
  obtain ⟨D, h1, h2⟩ := h.own
  have := h1.len hS.und ty
  rw [h2.sz] at this
  exact this
theorem MapL.put (hS : S.Law) {w : World} {b n : Nat} {L : List (κ × ν)} (h : MapL S w b n L) (hn : n < maxLen) {k : κ} (hi : S.ok k) (v : ν) :
    ∃ w1, (Instr.mapUpdate S.t (.map (some b)) (S.key k) (S.enc v)).run Tryz.prog w = .ok () w1 ∧ MapL S w1 b (n + 1) (putD L k v) ∧ M.Mods (fun k => k = b) w w1 := by
  obtain ⟨D, h1, h2⟩ := h.own
  obtain ⟨w1, hrun, r1, r2⟩ := h1.store hS.keyed hS.und hn (hS.mkk k hi) (heldE_mk S.enc v)
  refine ⟨w1, hrun, ⟨⟨_, r1, h2.put hS (h1.tidy hS.keyed) h.nd h.ok hi v⟩, putD_nodup h.nd k v, fun p hp => ?_⟩, turned_mods r2⟩
  rcases List.mem_append.1 hp with hp | hp
  · exact h.ok p (List.mem_filter.1 hp).1
  · rw [List.mem_singleton.1 hp]; exact hi
theorem MapL.del (hS : S.Law) {w : World} {b n : Nat} {L : List (κ × ν)} (h : MapL S w b n L) {k : κ} (hi : S.ok k) (ty : TypeId) :
    ∃ w1, (Builtin.delete_ #[S.t, S.kt] ty #[.map (some b), S.key k]).run Tryz.prog w = .ok (.tuple #[]) w1 ∧ MapL S w1 b n (delD L k) ∧ M.Mods (fun k => k = b) w w1 := by
  obtain ⟨D, h1, h2⟩ := h.own
  obtain ⟨w1, hrun, r1, r2⟩ := h1.drop hS.keyed hS.und (hS.mkk k hi) ty
  exact ⟨w1, hrun, ⟨⟨_, r1, h2.del hS (h1.tidy hS.keyed) h.nd h.ok hi⟩, delD_nodup h.nd k, fun p hp => h.ok p (List.mem_filter.1 hp).1⟩, turned_mods r2⟩
omit [DecidableEq κ] in
theorem del_nil (hS : S.Law) (w : World) {i : κ} (hi : S.ok i) (ty : TypeId) : (Builtin.delete_ #[S.t, S.kt] ty #[.map none, S.key i]).run Tryz.prog w = .ok (.tuple #[]) w := Maps.drop_nil hS.keyed hS.und (hS.mkk i hi) ty
/-- 'for k, v := range m' under way: left: which pairs are still to come -/
structure RngL (S : MapS κ ν) (w : World) (b r n : Nat) (L left : List (κ × ν)) (cnt : Nat) : Prop where
  own : ∃ D lf, w.ranges Tryz.prog S.kt (heldE S.enc) b r n D lf cnt ∧ Rel S D L ∧ ∀ p ∈ L, (lf (S.lit p.1) = true ↔ p ∈ left)
  nd : (L.map Prod.fst).Nodup
  ok : ∀ p ∈ L, S.ok p.1
  sub : left.Sublist L
theorem RngL.lt {w : World} {b r n : Nat} {L left : List (κ × ν)} {cnt : Nat} (h : RngL S w b r n L left cnt) : r < w.heap.size ∧ b < w.heap.size := by
  obtain ⟨D, lf, h1, _⟩ := h.own
  exact ⟨h1.lt, h1.owns.lt⟩
theorem RngL.left_eq {w : World} {b r n : Nat} {L left : List (κ × ν)} {cnt : Nat} (h : RngL S w b r n L left cnt) : w.rangeLeft b r = cnt := by
  obtain ⟨D, lf, h1, _⟩ := h.own
  exact h1.left_eq
theorem RngL.map {w : World} {b r n : Nat} {L left : List (κ × ν)} {cnt : Nat} (h : RngL S w b r n L left cnt) : MapL S w b n L := by
  obtain ⟨D, lf, h1, h2, _⟩ := h.own
  exact ⟨⟨D, h1.owns, h2⟩, h.nd, h.ok⟩
theorem RngL.keep {w w1 : World} {b r n : Nat} {L left : List (κ × ν)} {cnt : Nat} {F : Nat → Prop} (h : RngL S w b r n L left cnt) (hm : M.Mods F w w1) (hb : ¬ F b) (hr : ¬ F r) : RngL S w1 b r n L left cnt := by
  obtain ⟨h0, h00⟩ := h.lt
  obtain ⟨D, lf, h1, h2⟩ := h.own
  obtain ⟨es, clock, since, seen, c0, e1, F, hs, hD, e2, rest⟩ := h1
  exact ⟨⟨D, lf, ⟨es, clock, since, seen, c0, (hm.block b h00 hb).trans e1, F, hs, hD, (hm.block r h0 hr).trans e2, rest⟩, h2⟩, h.nd, h.ok, h.sub⟩
theorem RngL.below {w w1 : World} {b r n : Nat} {L left : List (κ × ν)} {cnt : Nat} (h : RngL S w b r n L left cnt) (hm : Below w.heap.size w w1) : RngL S w1 b r n L left cnt :=
  h.keep (F := fun _ => False) (M.Mods.of_below hm) (fun h => h) (fun h => h)
/-- what comes next -/
theorem RngL.next (hS : S.Law) (hI : S.Inv) {w : World} {b r n : Nat} {L left : List (κ × ν)} {cnt : Nat} (h : RngL S w b r n L left cnt) (ty : TypeId) :
    (cnt = 0 ∧ left = [] ∧ (Instr.next (.pointer (some ⟨r, 0, none⟩)) false ty).run Tryz.prog w = .ok (.tuple #[.bool false]) w) ∨
    ∃ p w' cnt', p ∈ left ∧ (Instr.next (.pointer (some ⟨r, 0, none⟩)) false ty).run Tryz.prog w = .ok (.tuple #[.bool true, S.key p.1, S.enc p.2]) w' ∧ RngL S w' b r n L (delD left p.1) cnt' ∧ cnt' < cnt ∧ M.Mods (fun k => k = r) w w' ∧
      (Instr.entry (.pointer (some ⟨r, 0, none⟩))).run Tryz.prog w' = .ok (.tuple #[S.key p.1, S.enc p.2]) w' := by
  obtain ⟨D, lf, h1, h2, h3⟩ := h.own
  rcases h1.next hS.keyed ty with ⟨h0, hl, hrun⟩ | ⟨key, v, kl, y, w', cnt', hkey, hlk, hv, hat, hrun, hrg, hlt, hgr, hsz, hen⟩
  · refine .inl ⟨h0, ?_, hrun⟩
    refine List.eq_nil_iff_forall_not_mem.2 fun x hx => ?_
    have := (h3 x (h.sub.subset hx)).2 hx
    rw [hl] at this; cases this
  · obtain ⟨i, rfl, rfl, hi⟩ := hI _ _ hkey
    have hh : Maps.has D (S.lit i) = true := Maps.has_true_of_atKey hat
    rw [h2.has i hi] at hh
    unfold hasD at hh
    rw [decide_eq_true_eq] at hh
    obtain ⟨x, hx, rfl⟩ := List.mem_map.1 hh
    obtain ⟨x2, rfl, rfl⟩ := heldE_inv hv
    have e1 : S.enc x.2 = S.enc x2 := by
      have := (h2.at_ x hx (.lit (.bool false))).symm.trans (hat (.lit (.bool false)))
      simpa using this
    rw [← e1] at hrun hen
    refine .inr ⟨x, w', cnt', (h3 x hx).1 hlk, hrun, ⟨⟨D, _, hrg, h2, fun y hy => ?_⟩, h.nd, h.ok, List.filter_sublist.trans h.sub⟩, hlt, ⟨hgr.os, hgr.tape, hgr.output, hgr.size, fun k hk hn => hgr.block k hk (fun e => hn (Option.some.inj e))⟩, hen⟩
    unfold delD
    rw [List.mem_filter, ← h3 y hy, Bool.and_eq_true]
    refine and_congr_right fun _ => ?_
    have key : (S.lit y.1).sameKey (S.lit x.1) = true ↔ y.1 = x.1 := by
     constructor
     · intro e; exact hS.linj (h.ok y hy) (h.ok x hx) (WideAt.sameKey_eq e)
     · intro e; rw [e]; exact WideAt.sameKey_self (hS.isk _)
    cases hs : (S.lit y.1).sameKey (S.lit x.1) with
    | true => simp [key.1 hs]
    | false =>
      have : ¬ y.1 = x.1 := fun e => by rw [key.2 e] at hs; cases hs
      simp [this]
theorem MapL.range (hS : S.Law) {w : World} {b n : Nat} {L : List (κ × ν)} (h : MapL S w b n L) : ∃ w' cnt, (Instr.range S.t (.map (some b))).run Tryz.prog w = .ok (.pointer (some ⟨w.heap.size, 0, none⟩)) w' ∧ RngL S w' b w.heap.size n L L cnt ∧ Below w.heap.size w w' := by
  obtain ⟨D, h1, h2⟩ := h.own
  obtain ⟨w', hrun, hrg, hgr, hsz⟩ := h1.range hS.keyed hS.und
  refine ⟨w', _, hrun, ⟨⟨D, _, hrg, h2, fun x hx => ?_⟩, h.nd, h.ok, List.Sublist.refl _⟩, ?_⟩
  · rw [h2.has x.1 (h.ok x hx)]
    unfold hasD
    rw [decide_eq_true_eq]
    exact ⟨fun _ => hx, fun _ => List.mem_map.2 ⟨x, hx, rfl⟩⟩
  · exact (Below.refl _ _).grown hgr (Nat.le_refl _) (fun j e => by cases e)
/-! The same, at the operation. -/
theorem wpList_putL (hS : S.Law) {ops : Array Oper} {rest : List Oper} {o : Oper} {a : Act} {Q : Exit → Act → World → Prop} {w : World} {b n : Nat} {L : List (κ × ν)} (h : MapL S w b n L) (hn : n < maxLen) (k : κ) (hi : S.ok k) (v : ν)
    (hg : o.guard = none) (m x y : Operand) (hop : o.op = Op.mapUpdate S.t m x y) (hm : a.eval m = .map (some b)) (hk : a.eval x = S.key k) (hv : a.eval y = S.enc v)
    (hK : ∀ w', MapL S w' b (n + 1) (putD L k v) → M.Mods (fun k => k = b) w w' → wpList Tryz.prog ops Q rest (a.put o.dst undef) w') : wpList Tryz.prog ops Q (o :: rest) a w := by
  refine wpList_plain hg fun K' hK' => ?_
  obtain ⟨w', hrun, r1, r2⟩ := h.put hS hn hi v
  unfold Oper.wp
  simp [execOp, hop, hm, hk, hv, hrun, Result.andThen]
  exact hK' _ _ (hK w' r1 r2)
theorem wpList_delL (hS : S.Law) {ops : Array Oper} {rest : List Oper} {o : Oper} {a : Act} {Q : Exit → Act → World → Prop} {w : World} {b n : Nat} {L : List (κ × ν)} (h : MapL S w b n L) (k : κ) (hi : S.ok k)
    (hg : o.guard = none) (m x : Operand) (hop : o.op = Op.call { callee := Callee.builtin Builtin.delete, args := #[m, x], argTypes := #[S.t, S.kt] }) (hm : a.eval m = .map (some b)) (hk : a.eval x = S.key k)
    (hK : ∀ w', MapL S w' b n (delD L k) → M.Mods (fun k => k = b) w w' → wpList Tryz.prog ops Q rest (a.put o.dst (.tuple #[])) w') : wpList Tryz.prog ops Q (o :: rest) a w := by
  refine wpList_plain hg fun K' hK' => ?_
  obtain ⟨w', hrun, r1, r2⟩ := h.del hS hi o.type
  unfold Oper.wp
  simp [execOp, hop, resolve, invoke, builtin, hm, hk, hrun, Result.andThen]
  exact hK' _ _ (hK w' r1 r2)
theorem wpList_nextL (hS : S.Law) (hI : S.Inv) {ops : Array Oper} {rest : List Oper} {o : Oper} {a : Act} {Q : Exit → Act → World → Prop} {w : World} {b r n : Nat} {L left : List (κ × ν)} {cnt : Nat} (h : RngL S w b r n L left cnt)
    (hg : o.guard = none) (it : Operand) (hop : o.op = Op.next it false) (hit : a.eval it = .pointer (some ⟨r, 0, none⟩))
    (hDone : Hid (left = []) → wpList Tryz.prog ops Q rest (a.put o.dst (.tuple #[.bool false])) w)
    (hMore : ∀ p w' cnt', Hid (p ∈ left) → Hid (RngL S w' b r n L (delD left p.1) cnt') → Hid (cnt' < cnt) → Hid (M.Mods (fun k => k = r) w w') → (Instr.entry (.pointer (some ⟨r, 0, none⟩))).run Tryz.prog w' = .ok (.tuple #[S.key p.1, S.enc p.2]) w' → wpList Tryz.prog ops Q rest (a.put o.dst (.tuple #[.bool true, S.key p.1, S.enc p.2])) w') :
    wpList Tryz.prog ops Q (o :: rest) a w := by
  refine wpList_plain hg fun K' hK' => ?_
  unfold Oper.wp
  rcases h.next hS hI o.type with ⟨h0, hl, hrun⟩ | ⟨x, w', cnt', hx, hrun, hrg, hlt, hm, hen⟩
  · simp [execOp, hop, hit, hrun, Result.andThen]
    exact hK' _ _ (hDone (Lib.hid hl))
  · simp [execOp, hop, hit, hrun, Result.andThen]
    exact hK' _ _ (hMore x w' cnt' (Lib.hid hx) (Lib.hid hrg) (Lib.hid hlt) (Lib.hid hm) hen)
theorem wpList_rangeL (hS : S.Law) {ops : Array Oper} {rest : List Oper} {o : Oper} {a : Act} {Q : Exit → Act → World → Prop} {w : World} {b n : Nat} {L : List (κ × ν)} (h : MapL S w b n L)
    (hg : o.guard = none) (m : Operand) (hop : o.op = Op.range S.t m) (hm : a.eval m = .map (some b))
    (hK : ∀ w' cnt, RngL S w' b w.heap.size n L L cnt → Below w.heap.size w w' → wpList Tryz.prog ops Q rest (a.put o.dst (.pointer (some ⟨w.heap.size, 0, none⟩))) w') :
    wpList Tryz.prog ops Q (o :: rest) a w := by
  refine wpList_plain hg fun K' hK' => ?_
  obtain ⟨w', cnt, hrun, r1, r2⟩ := h.range hS
  unfold Oper.wp
  simp [execOp, hop, hm, hrun, Result.andThen]
  exact hK' _ _ (hK w' cnt r1 r2)
end
end Go.Proofs.YtlbkbjeajcadiaaGreatDoor.Mp
