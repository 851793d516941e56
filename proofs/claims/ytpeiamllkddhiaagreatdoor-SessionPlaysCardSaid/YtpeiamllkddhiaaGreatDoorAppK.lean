/- The settings as a map in memory: what a map of settings reads as; look, put, strike; its keys. -/
import Derived.Test.YtpeiamllkddhiaaGreatDoorAppP
import Derived.Test.YtpeiamllkddhiaaGreatDoorMrg3
import Derived.Maps.OwnSet
import Derived.Sort.KeysCollected
import Derived.StringKeys
namespace Go.Proofs.YtpeiamllkddhiaaGreatDoor.P
open Go.RowKit Go.Maps
set_option linter.unusedVariables false

def settV (v : ByteArray) (r : Int) : Value := .agg #[.string v, .int .i64 r]
def settD (v : ByteArray) (r : Int) : DataW Unit := .agg [.lit (.string v.data.toList), .lit (.int .i64 r)]
/-- how a setting reads -/
def settL : List Value → Option (DataW Unit × List MemPlace)
  | [.string s, .int .i64 r] => some (settD s r, [])
  | _ => none
def settR : Value → Option (DataW Unit × List MemPlace)
  | .agg cs => settL cs.toList
  | _ => none
theorem settR_mk (v : ByteArray) (r : Int) : settR (settV v r) = some (settD v r, []) := rfl
theorem settD_inj {v v2 : ByteArray} {r r2 : Int} (h : settD v r = settD v2 r2) : v = v2 ∧ r = r2 := by
  unfold settD at h
  simp only [DataW.agg.injEq, List.cons.injEq, DataW.lit.injEq, Lit.string.injEq, Lit.int.injEq, and_true, true_and] at h
  exact ⟨ba_ext h.1, h.2⟩
theorem settR_inv {x : Value} {v : ByteArray} {r : Int} {ps : List MemPlace} (h : settR x = some (settD v r, ps)) : x = settV v r := by
  cases x with
  | agg cs =>
    have h : settL cs.toList = _ := h
    obtain ⟨l⟩ := cs
    simp only at h
    unfold settL at h
    split at h
    · simp only [Option.some.injEq, Prod.mk.injEq] at h
      obtain ⟨rfl, rfl⟩ := settD_inj h.1
      rfl
    · cases h
  | _ => cases h
def kl (k : ByteArray) : Lit := .string k.data.toList
theorem kl_inj {a b : ByteArray} (h : kl a = kl b) : a = b := by
  unfold kl at h
  exact ba_ext (by simpa using h)
theorem kl_key (k : ByteArray) : WideAt.IsKeyLit (kl k) := by unfold kl WideAt.IsKeyLit; trivial
def valO : Option Ent → ByteArray
  | none => nul
  | some e => e.val
def zD : DataW Unit := settD nul 0
/-- a map that reads as settings -/
structure MRel (D : DataW Unit) (A : List Ent) : Prop where
  has : ∀ k, Maps.has D (kl k) = (look A k).isSome
  at_ : ∀ k, D.atKey (kl k) zD = settD (valO (look A k)) (revO (look A k))
theorem MRel.nil : MRel (.map []) [] := ⟨fun k => rfl, fun k => rfl⟩
theorem MRel.put {D : DataW Unit} {A : List Ent} {e : Ent} (h : MRel D A) (hm : IsMap D) (hs : Srt A) : MRel (D.put (kl e.key) (settD e.val e.rev)) (put A e) := by
  constructor
  · intro k
    rw [look_put hs]
    by_cases hk : e.key = k
    · subst hk
      rw [has_put_same hm (kl_key _), if_pos rfl]; rfl
    · rw [has_put_other (fun e2 => hk (kl_inj e2).symm), if_neg hk]
      exact h.has k
  · intro k
    rw [look_put hs]
    by_cases hk : e.key = k
    · subst hk
      rw [atKey_put_same hm (kl_key _), if_pos rfl]; rfl
    · rw [atKey_put_other (fun e2 => hk (kl_inj e2).symm), if_neg hk]
      exact h.at_ k
theorem MRel.del {D : DataW Unit} {A : List Ent} {j : ByteArray} (h : MRel D A) (hs : Srt A) : MRel (D.del (kl j)) (del A j) := by
  constructor
  · intro k
    rw [look_del hs]
    by_cases hk : j = k
    · subst hk
      rw [has_del_same, if_pos rfl]; rfl
    · rw [has_del_other (fun e2 => hk (kl_inj e2).symm), if_neg hk]
      exact h.has k
  · intro k
    rw [look_del hs]
    by_cases hk : j = k
    · subst hk
      rw [atKey_del_same, if_pos rfl]; rfl
    · rw [atKey_del_other (fun e2 => hk (kl_inj e2).symm), if_neg hk]
      exact h.at_ k
abbrev tStr : TypeId := 9
abbrev tSett : TypeId := 77
abbrev tMap : TypeId := 72
theorem keyedS : Keyed Tryz.prog tStr := string_keyed Tryz.underlying9
theorem key_kl {k : ByteArray} (h : k.size ≤ maxLen) : keyOf Tryz.prog tStr (.string k) = some (kl k) := Go.WideMaps.keyOf_string_mk Tryz.underlying9 h
/-- block b is a map of at most n entries that reads as the settings A -/
def MapA (w : World) (b n : Nat) (A : List Ent) : Prop := ∃ D, w.ownsMap Tryz.prog tStr settR b n D ∧ MRel D A
theorem MapA.lt {w : World} {b n : Nat} {A : List Ent} (h : MapA w b n A) : b < w.heap.size := by
  obtain ⟨D, h1, _⟩ := h
  exact h1.lt
theorem MapA.mono {w : World} {b n m : Nat} {A : List Ent} (h : MapA w b n A) (hm : n ≤ m) : MapA w b m A := by
  obtain ⟨D, h1, h2⟩ := h
  exact ⟨D, h1.mono hm, h2⟩
theorem MapA.keep {w w1 : World} {b n : Nat} {A : List Ent} {S : Nat → Prop} (h : MapA w b n A) (hm : M.Mods S w w1) (hn : ¬ S b) : MapA w1 b n A := by
  have hlt := h.lt
  obtain ⟨D, ⟨es, clock, hb, r⟩, h2⟩ := h
  exact ⟨D, ⟨es, clock, (hm.block b hlt hn).trans hb, r⟩, h2⟩
theorem MapA.below {w w1 : World} {b n : Nat} {A : List Ent} (h : MapA w b n A) (hm : Below w.heap.size w w1) : MapA w1 b n A :=
  h.keep (S := fun _ => False) (M.Mods.of_below hm) (fun h => h)
theorem MapA.made (w : World) : MapA (w.alloc (.map #[] 0)) w.heap.size 0 [] := ⟨.map [], World.ownsMap_made _ _ _ _, MRel.nil⟩
/-- what is under a key -/
theorem MapA.look {w : World} {b n : Nat} {A : List Ent} (h : MapA w b n A) {z : Value} (hz : (zeroValue tSett).run Tryz.prog w = .ok z w) (hzv : z = settV nul 0) {k : ByteArray} (hk : k.size ≤ maxLen) :
    (Instr.lookup tMap (.map (some b)) (.string k) false).run Tryz.prog w = .ok (settV (valO (look A k)) (revO (look A k))) w := by
  subst hzv
  obtain ⟨D, h1, h2⟩ := h
  obtain ⟨v, ps, hrun, hv⟩ := h1.lookup keyedS Tryz.underlying72 hz (settR_mk nul 0) (key_kl hk)
  rw [show settD nul 0 = zD from rfl, h2.at_ k] at hv
  rw [hrun, settR_inv hv]
theorem MapA.look_ok {w : World} {b n : Nat} {A : List Ent} (h : MapA w b n A) {z : Value} (hz : (zeroValue tSett).run Tryz.prog w = .ok z w) (hzv : z = settV nul 0) {k : ByteArray} (hk : k.size ≤ maxLen) :
    (Instr.lookup tMap (.map (some b)) (.string k) true).run Tryz.prog w = .ok (.tuple #[settV (valO (P.look A k)) (revO (P.look A k)), .bool (P.look A k).isSome]) w := by
  subst hzv
  obtain ⟨D, h1, h2⟩ := h
  obtain ⟨v, ps, hrun, hv⟩ := h1.look_ok keyedS Tryz.underlying72 hz (settR_mk nul 0) (key_kl hk)
  rw [show settD nul 0 = zD from rfl, h2.at_ k] at hv
  rw [hrun, settR_inv hv, h2.has k]
theorem mods_turned {w w1 : World} {b : Nat} (h : w.mapTurned w1 b) : M.Mods (fun k => k = b) w w1 :=
  ⟨h.grown.os, h.grown.tape, h.grown.output, h.grown.size, fun k hk hn => h.grown.block k hk (fun e => hn (Option.some.inj e))⟩
/-- a setting is put -/
theorem MapA.put {w : World} {b n : Nat} {A : List Ent} (h : MapA w b n A) (hs : Srt A) (hn : n < maxLen) (e : Ent) (hk : e.key.size ≤ maxLen) :
    ∃ w1, (Instr.mapUpdate tMap (.map (some b)) (.string e.key) (settV e.val e.rev)).run Tryz.prog w = .ok () w1 ∧ MapA w1 b (n + 1) (P.put A e) ∧ M.Mods (fun k => k = b) w w1 := by
  obtain ⟨D, h1, h2⟩ := h
  obtain ⟨w1, hrun, r1, r2⟩ := h1.store keyedS Tryz.underlying72 hn (key_kl hk) (settR_mk e.val e.rev)
  exact ⟨w1, hrun, ⟨_, r1, h2.put h1.isMap hs⟩, mods_turned r2⟩
/-- a setting is struck -/
theorem MapA.del {w : World} {b n : Nat} {A : List Ent} (h : MapA w b n A) (hs : Srt A) (k : ByteArray) (hk : k.size ≤ maxLen) (ty : TypeId) :
    ∃ w1, (Builtin.delete_ #[tMap, tStr] ty #[.map (some b), .string k]).run Tryz.prog w = .ok (.tuple #[]) w1 ∧ MapA w1 b n (P.del A k) ∧ M.Mods (fun k => k = b) w w1 := by
  obtain ⟨D, h1, h2⟩ := h
  obtain ⟨w1, hrun, r1, r2⟩ := h1.drop keyedS Tryz.underlying72 (key_kl hk) ty
  exact ⟨w1, hrun, ⟨_, r1, h2.del hs⟩, mods_turned r2⟩
def keysL (A : List Ent) : List (List UInt8) := A.map fun e => e.key.data.toList
theorem look_isSome {A : List Ent} {k : ByteArray} : (look A k).isSome = true ↔ ∃ e ∈ A, e.key = k := by
  constructor
  · intro h
    cases h1 : look A k with
    | none => rw [h1] at h; cases h
    | some e => exact ⟨e, (look_key h1).2, (look_key h1).1⟩
  · rintro ⟨e, he, hk⟩
    cases h1 : look A k with
    | none => exact absurd hk (look_none h1 e he)
    | some x => rfl
/-- the keys that a map gives, sorted, are those of the settings -/
theorem keys_sorted {w : World} {b n : Nat} {A : List Ent} {D : DataW Unit} (hown : w.ownsMap Tryz.prog tStr settR b n D) (h : MRel D A) (hs : Srt A) {ss : List (List UInt8)} (hp : ss.Perm (strKeys D)) :
    ss.mergeSort (fun x y => decide (x ≤ y)) = keysL A := by
  have hnd : (keysL A).Nodup := by
    unfold keysL
    refine List.pairwise_map.2 (hs.imp fun {a c} hac e => ?_)
    exact lt_ne hac (ba_ext e)
  have hperm : (keysL A).Perm (strKeys D) := by
    obtain ⟨es, hD, hpw, _⟩ := hown.entries keyedS
    obtain ⟨es', hD', hko⟩ := hown.keysOf
    obtain rfl : es = es' := by rw [hD] at hD'; simpa using hD'
    subst hD
    refine perm_strKeys hpw (fun p hp => by obtain ⟨v, hv⟩ := hko p hp; obtain ⟨x, _, hx, _⟩ := Maps.keyOf_str Tryz.underlying9 hv; exact ⟨x, hx⟩) hnd (fun x => ?_)
    have := h.has ⟨x.toArray⟩
    unfold kl at this
    simp only at this
    rw [this, look_isSome]
    unfold keysL
    rw [List.mem_map]
    constructor
    · rintro ⟨e, he, rfl⟩
      exact ⟨e, he, ba_ext (by simp)⟩
    · rintro ⟨e, he, hk⟩
      exact ⟨e, he, by rw [hk]⟩
  rw [show (fun x y : List UInt8 => decide (x ≤ y)) = leB from rfl, mergeSort_of_perm (hp.trans hperm.symm)]
  refine List.mergeSort_of_pairwise ?_
  unfold keysL
  refine List.pairwise_map.2 (hs.imp fun {a c} hac => ?_)
  show leB _ _ = true
  unfold leB
  exact decide_eq_true (List.le_of_lt hac)
theorem MapA.size {w : World} {b n : Nat} {A : List Ent} {D : DataW Unit} (hown : w.ownsMap Tryz.prog tStr settR b n D) : Maps.size D ≤ n := hown.size_le
end Go.Proofs.YtpeiamllkddhiaaGreatDoor.P
