/- Several texts in one. -/
import Derived.Test.YtkgjfagejnppbaaGreatDoorMrg25
import Derived.Test.YtkgjfagejnppbaaGreatDoorMrg5
import Derived.Deep.DeepCutAuto
import Derived.Deep.RegionHeld3
import Derived.Test.YtkgjfagejnppbaaGreatDoorMrg4
import Derived.Test.YtkgjfagejnppbaaGreatDoorMrg20
import Derived.Test.YtkgjfagejnppbaaGreatDoorMrg3
import Derived.Maps.OwnSet
import Derived.Sort.KeysCollected
import Derived.StringKeys

/- The reference's Do. -/
namespace Go.Proofs.YtkgjfagejnppbaaGreatDoor.P
open Go.RowKit Go.Proofs.YtkgjfagejnppbaaGreatDoor.R Go.Proofs.YtkgjfagejnppbaaGreatDoor.M Go.BigFrame
set_option linter.unusedVariables false
set_option linter.unusedSimpArgs false

abbrev repV (r : Rep) : Value := .agg #[.int .i64 r.code, .string r.val, .int .i64 r.rev]
theorem set3 {w : World} {b : Nat} {v0 v1 v2 u0 u1 u2 : Value} {T : TypeId} (h : w.heap[b]? = some (.cells #[v0, v1, v2] T (0, 0))) :
    (((w.setCell ⟨b, 0, none⟩ u0).setCell ⟨b, 1, none⟩ u1).setCell ⟨b, 2, none⟩ u2).heap[b]? = some (.cells #[u0, u1, u2] T (0, 0)) := by
  have s0 := heap_set w b 0 u0 b _ _ _ h
  rw [if_pos rfl] at s0
  have s1 := heap_set _ b 1 u1 b _ _ _ s0
  rw [if_pos rfl] at s1
  have s2 := heap_set _ b 2 u2 b _ _ _ s1
  rw [if_pos rfl] at s2
  exact s2
theorem set3_below {w0 w : World} {B b : Nat} {u0 u1 u2 : Value} (hb : B ≤ b) (h : Below B w0 w) : Below B w0 (((w.setCell ⟨b, 0, none⟩ u0).setCell ⟨b, 1, none⟩ u1).setCell ⟨b, 2, none⟩ u2) :=
  ((h.setCell (p := ⟨b, 0, none⟩) hb _).setCell (p := ⟨b, 1, none⟩) hb _).setCell (p := ⟨b, 2, none⟩) hb _
/-- the boxes of the call: the command, the reply -/
structure DoAt (c : Cmd) (w wx : World) : Prop where
  bel : Below w.heap.size w wx
  cb : wx.heap[w.heap.size]? = some (.cells (cmdA c) 30 (0, 0))
  rb : wx.heap[w.heap.size + 1]? = some (.cells #[.int .i64 0, .string ⟨#[]⟩, .int .i64 0] 33 (0, 0))
theorem DoAt.next {c : Cmd} {w w1 w2 : World} (h : DoAt c w w1) (hb : Below w1.heap.size w1 w2) : DoAt c w w2 :=
  ⟨h.bel.trans (hb.mono h.bel.size), (hb.block _ (M.heap_lt h.cb)).trans h.cb, (hb.block _ (M.heap_lt h.rb)).trans h.rb⟩
theorem DoAt.set3 {c : Cmd} {w w1 : World} {b : Nat} {v0 v1 v2 u0 u1 u2 : Value} {T : TypeId} (h : DoAt c w w1) (hb : w.heap.size + 1 < b) (hB : w1.heap[b]? = some (.cells #[v0, v1, v2] T (0, 0))) :
    DoAt c w (((w1.setCell ⟨b, 0, none⟩ u0).setCell ⟨b, 1, none⟩ u1).setCell ⟨b, 2, none⟩ u2) := by
  have h0 := set3_below (u0 := u0) (u1 := u1) (u2 := u2) hb (Below.refl (w.heap.size + 2) w1)
  exact ⟨set3_below (by omega) h.bel, (h0.block _ (by omega)).trans h.cb, (h0.block _ (by omega)).trans h.rb⟩
/-- what Do leaves -/
def DoPost (A : List Ent) (c : Cmd) (w : World) (e : Ending) (w' : World) : Prop :=
  ∃ oo oc, e = .returned (.tuple #[.slice oo (act A c).1.length oc, repV (act A c).2]) ∧ SetsV w' oo oc (act A c).1 ∧ Below w.heap.size w w'
theorem DoPost.mk {A B : List Ent} {c : Cmd} {w W : World} {R : Rep} {oo : Option Addr} {oc : Nat} (hv : act A c = (B, R)) (hs : SetsV W oo oc B) (hb : Below w.heap.size w W) :
    DoPost A c w (.returned (.tuple #[.slice oo B.length oc, repV R])) W := ⟨oo, oc, by rw [hv], by rw [hv]; exact hs, hb⟩
/-- while settings are found: the boxes of the call, what is out -/
structure FindB (c : Cmd) (w : World) (b : Nat) (R : ByteArray) (m : Int) (wx : World) : Prop where
  at_ : DoAt c w wx
  lt : w.heap.size + 1 < b
  bx : wx.heap[b]? = some (.cells #[.int .i64 0, .string R, .int .i64 m] 33 (0, 0))
theorem FindB.next {c : Cmd} {w w1 w2 : World} {b : Nat} {R : ByteArray} {m : Int} (h : FindB c w b R m w1) (hb : Below w1.heap.size w1 w2) : FindB c w b R m w2 :=
  ⟨h.at_.next hb, h.lt, (hb.block _ (M.heap_lt h.bx)).trans h.bx⟩
theorem FindB.drewN {c : Cmd} {w w1 : World} {b : Nat} {R : ByteArray} {m : Int} (h : FindB c w b R m w1) (n : Nat) : FindB c w b R m (w1.drewN n) := h.next ⟨rfl, rfl, rfl, Nat.le_refl _, fun _ _ => rfl⟩
theorem DoAt.set {c : Cmd} {w w1 : World} {b o : Nat} {u : Value} (h : DoAt c w w1) (hb : w.heap.size + 1 < b) : DoAt c w (w1.setCell ⟨b, o, none⟩ u) := by
  have h0 : Below (w.heap.size + 2) w1 (w1.setCell ⟨b, o, none⟩ u) := (Below.refl _ _).setCell (p := ⟨b, o, none⟩) hb _
  exact ⟨h.bel.setCell (p := ⟨b, o, none⟩) (by show _ ≤ b; omega) _, (h0.block _ (by omega)).trans h.cb, (h0.block _ (by omega)).trans h.rb⟩
/-- behind k settings -/
def FindAt (A : List Ent) (c : Cmd) (w : World) (b k : Nat) (wx : World) : Prop := FindB c w b (joinB (linesB (A.take k) c.key)) ((linesB (A.take k) c.key).length : Nat) wx
theorem findAt_skip {A : List Ent} {c : Cmd} {k : Nat} {x : Ent} (hx : A[k]? = some x) (hb : begs x.key c.key = false) : linesB (A.take (k + 1)) c.key = linesB (A.take k) c.key := by
  rw [List.take_add_one, hx, Option.toList_some, lines_snoc, hb]; rfl
theorem findAt_more {A : List Ent} {c : Cmd} {k : Nat} {x : Ent} (hx : A[k]? = some x) (hb : begs x.key c.key = true) : linesB (A.take (k + 1)) c.key = linesB (A.take k) c.key ++ [lineB x] := by
  rw [List.take_add_one, hx, Option.toList_some, lines_snoc, hb]; rfl
end Go.Proofs.YtkgjfagejnppbaaGreatDoor.P

/- What the laws ask beside: replies' equality, cmd.Writes, cmd.Meet, the reference's Great. -/
namespace Go.Proofs.YtkgjfagejnppbaaGreatDoor.P
open Go.RowKit Go.Proofs.YtkgjfagejnppbaaGreatDoor.R Go.Proofs.YtkgjfagejnppbaaGreatDoor.M Go.BigFrame
set_option linter.unusedVariables false
set_option linter.unusedSimpArgs false

def repEq (r s : Rep) : Bool := (r.code == s.code) && ((r.val.toList == s.val.toList) && (r.rev == s.rev))
set_option maxHeartbeats 2000000 in
theorem run_rep_neq (r s : Rep) (w : World) : (binOp .neq 33 (repV r) (repV s)).run Tryz.prog w = .ok (.bool (!repEq r s)) w := by
  have h1 : Tryz.prog.underlying 33 = some (.struct (Tryz.prog.fieldsOf 33)) := by kernel_rfl
  have h2 : Tryz.prog.stoodInHeld 33 = false := by kernel_rfl
  unfold repEq
  rw [run_neq_struct, show (10000 : Nat) = 9999 + 1 from rfl, run_equalIn_struct _ _ _ _ _ h1 h2]
  cases e1 : (r.code == s.code)
  · simp [go_sem, e1, Result.andThen]
  cases e2 : (r.val.toList == s.val.toList)
  · simp [go_sem, e1, e2, Result.andThen]
  cases e3 : (r.rev == s.rev)
  · simp [go_sem, e1, e2, e3, Result.andThen]
  simp [go_sem, e1, e2, e3, Result.andThen]
/-- is a command greater than is looked at -/
def big (c : Cmd) : Bool := decide (100 < c.key.size) || decide (1100 < c.val.size)
def greatB (L : List Cmd) (m : Nat) : Bool := (L.take m).any big || decide (m < L.length)
end Go.Proofs.YtkgjfagejnppbaaGreatDoor.P

/- Plain: the document's example of the settings; what the App laws ask at their ends. -/
namespace Go.Proofs.YtkgjfagejnppbaaGreatDoor.P
open Go.Proofs.YtkgjfagejnppbaaGreatDoor.R
set_option linter.unusedVariables false

def ka : ByteArray := ⟨#[97]⟩
def vv : ByteArray := ⟨#[118]⟩
def vw : ByteArray := ⟨#[119]⟩
def ex1 : Cmd := ⟨2, 1, 1, ka, vv, 0⟩
def ex2 : Cmd := ⟨4, 1, 2, ka, vw, 1⟩
theorem chk_ex1 : chk ex1 = 0 := by decide +kernel
theorem ex_one : appDo [] ex1 = ([⟨ka, vv, 1⟩], ⟨0, nul, 1⟩) := by
  unfold appDo
  rw [if_pos chk_ex1]
  rfl
/-- a command that gets -/
def getC (k : ByteArray) : Cmd := ⟨1, 1, 1, k, nul, 0⟩
/-- AppFinds -/
def findC (k : ByteArray) : Cmd := ⟨5, 1, 1, k, nul, 0⟩
end Go.Proofs.YtkgjfagejnppbaaGreatDoor.P

/- The settings as a map in memory: what a map of settings reads as; look, put, strike; its keys. -/
namespace Go.Proofs.YtkgjfagejnppbaaGreatDoor.P
open Go.RowKit Go.Maps
set_option linter.unusedVariables false

def settV (v : ByteArray) (r : Int) : Value := .agg #[.string v, .int .i64 r]
def settD (v : ByteArray) (r : Int) : DataW Unit := .agg [.lit (.string v.data.toList), .lit (.int .i64 r)]
/-- how a setting reads -/
def settL : List Value → Option (DataW Unit × List MemPlace)
  | [.string s, .int .i64 r] => some (settD s r, [])
  | _ => none
def settR : Value → Option (DataW Unit × List MemPlace)
  | .agg cs => settL cs.toList
  | _ => none
theorem settR_mk (v : ByteArray) (r : Int) : settR (settV v r) = some (settD v r, []) := rfl
theorem settD_inj {v v2 : ByteArray} {r r2 : Int} (h : settD v r = settD v2 r2) : v = v2 ∧ r = r2 := by
  unfold settD at h
  simp only [DataW.agg.injEq, List.cons.injEq, DataW.lit.injEq, Lit.string.injEq, Lit.int.injEq, and_true, true_and] at h
  exact ⟨ba_ext h.1, h.2⟩
theorem settR_inv {x : Value} {v : ByteArray} {r : Int} {ps : List MemPlace} (h : settR x = some (settD v r, ps)) : x = settV v r := by
  cases x with
  | agg cs =>
    have h : settL cs.toList = _ := h
    obtain ⟨l⟩ := cs
    simp only at h
    unfold settL at h
    split at h
    · simp only [Option.some.injEq, Prod.mk.injEq] at h
      obtain ⟨rfl, rfl⟩ := settD_inj h.1
      rfl
    · cases h
  | _ => cases h
def kl (k : ByteArray) : Lit := .string k.data.toList
theorem kl_inj {a b : ByteArray} (h : kl a = kl b) : a = b := by
  unfold kl at h
  exact ba_ext (by simpa using h)
theorem kl_key (k : ByteArray) : WideAt.IsKeyLit (kl k) := by unfold kl WideAt.IsKeyLit; trivial
def valO : Option Ent → ByteArray
  | none => nul
  | some e => e.val
def zD : DataW Unit := settD nul 0
/-- a map that reads as settings -/
structure MRel (D : DataW Unit) (A : List Ent) : Prop where
  has : ∀ k, Maps.has D (kl k) = (look A k).isSome
  at_ : ∀ k, D.atKey (kl k) zD = settD (valO (look A k)) (revO (look A k))
theorem MRel.nil : MRel (.map []) [] := ⟨fun k => rfl, fun k => rfl⟩
theorem MRel.put {D : DataW Unit} {A : List Ent} {e : Ent} (h : MRel D A) (hm : IsMap D) (hs : Srt A) : MRel (D.put (kl e.key) (settD e.val e.rev)) (put A e) := by
  constructor
  · intro k
    rw [look_put hs]
    by_cases hk : e.key = k
    · subst hk
      rw [has_put_same hm (kl_key _), if_pos rfl]; rfl
    · rw [has_put_other (fun e2 => hk (kl_inj e2).symm), if_neg hk]
      exact h.has k
  · intro k
    rw [look_put hs]
    by_cases hk : e.key = k
    · subst hk
      rw [atKey_put_same hm (kl_key _), if_pos rfl]; rfl
    · rw [atKey_put_other (fun e2 => hk (kl_inj e2).symm), if_neg hk]
      exact h.at_ k
theorem MRel.del {D : DataW Unit} {A : List Ent} {j : ByteArray} (h : MRel D A) (hs : Srt A) : MRel (D.del (kl j)) (del A j) := by
  constructor
  · intro k
    rw [look_del hs]
    by_cases hk : j = k
    · subst hk
      rw [has_del_same, if_pos rfl]; rfl
    · rw [has_del_other (fun e2 => hk (kl_inj e2).symm), if_neg hk]
      exact h.has k
  · intro k
    rw [look_del hs]
    by_cases hk : j = k
    · subst hk
      rw [atKey_del_same, if_pos rfl]; rfl
    · rw [atKey_del_other (fun e2 => hk (kl_inj e2).symm), if_neg hk]
      exact h.at_ k
abbrev tStr : TypeId := 9
abbrev tSett : TypeId := 96
abbrev tMap : TypeId := 66
theorem keyedS : Keyed Tryz.prog tStr := string_keyed Tryz.underlying9
theorem key_kl {k : ByteArray} (h : k.size ≤ maxLen) : keyOf Tryz.prog tStr (.string k) = some (kl k) := Go.WideMaps.keyOf_string_mk Tryz.underlying9 h
/-- block b is a map of at most n entries that reads as the settings A -/
def MapA (w : World) (b n : Nat) (A : List Ent) : Prop := ∃ D, w.ownsMap Tryz.prog tStr settR b n D ∧ MRel D A
theorem MapA.lt {w : World} {b n : Nat} {A : List Ent} (h : MapA w b n A) : b < w.heap.size := by
  obtain ⟨D, h1, _⟩ := h
  exact h1.lt
theorem MapA.mono {w : World} {b n m : Nat} {A : List Ent} (h : MapA w b n A) (hm : n ≤ m) : MapA w b m A := by
  obtain ⟨D, h1, h2⟩ := h
  exact ⟨D, h1.mono hm, h2⟩
theorem MapA.keep {w w1 : World} {b n : Nat} {A : List Ent} {S : Nat → Prop} (h : MapA w b n A) (hm : M.Mods S w w1) (hn : ¬ S b) : MapA w1 b n A := by
  have hlt := h.lt
  obtain ⟨D, ⟨es, clock, hb, r⟩, h2⟩ := h
  exact ⟨D, ⟨es, clock, (hm.block b hlt hn).trans hb, r⟩, h2⟩
theorem MapA.below {w w1 : World} {b n : Nat} {A : List Ent} (h : MapA w b n A) (hm : Below w.heap.size w w1) : MapA w1 b n A :=
  h.keep (S := fun _ => False) (M.Mods.of_below hm) (fun h => h)
theorem MapA.made (w : World) : MapA (w.alloc (.map #[] 0)) w.heap.size 0 [] := ⟨.map [], World.ownsMap_made _ _ _ _, MRel.nil⟩
/-- what is under a key -/
theorem MapA.look {w : World} {b n : Nat} {A : List Ent} (h : MapA w b n A) {z : Value} (hz : (zeroValue tSett).run Tryz.prog w = .ok z w) (hzv : z = settV nul 0) {k : ByteArray} (hk : k.size ≤ maxLen) :
    (Instr.lookup tMap (.map (some b)) (.string k) false).run Tryz.prog w = .ok (settV (valO (look A k)) (revO (look A k))) w := by
  subst hzv
  obtain ⟨D, h1, h2⟩ := h
  obtain ⟨v, ps, hrun, hv⟩ := h1.lookup keyedS Tryz.underlying66 hz (settR_mk nul 0) (key_kl hk)
  rw [show settD nul 0 = zD from rfl, h2.at_ k] at hv
  rw [hrun, settR_inv hv]
theorem MapA.look_ok {w : World} {b n : Nat} {A : List Ent} (h : MapA w b n A) {z : Value} (hz : (zeroValue tSett).run Tryz.prog w = .ok z w) (hzv : z = settV nul 0) {k : ByteArray} (hk : k.size ≤ maxLen) :
    (Instr.lookup tMap (.map (some b)) (.string k) true).run Tryz.prog w = .ok (.tuple #[settV (valO (P.look A k)) (revO (P.look A k)), .bool (P.look A k).isSome]) w := by
  subst hzv
  obtain ⟨D, h1, h2⟩ := h
  obtain ⟨v, ps, hrun, hv⟩ := h1.look_ok keyedS Tryz.underlying66 hz (settR_mk nul 0) (key_kl hk)
  rw [show settD nul 0 = zD from rfl, h2.at_ k] at hv
  rw [hrun, settR_inv hv, h2.has k]
theorem mods_turned {w w1 : World} {b : Nat} (h : w.mapTurned w1 b) : M.Mods (fun k => k = b) w w1 :=
  ⟨h.grown.os, h.grown.tape, h.grown.output, h.grown.size, fun k hk hn => h.grown.block k hk (fun e => hn (Option.some.inj e))⟩
/-- a setting is put -/
theorem MapA.put {w : World} {b n : Nat} {A : List Ent} (h : MapA w b n A) (hs : Srt A) (hn : n < maxLen) (e : Ent) (hk : e.key.size ≤ maxLen) :
    ∃ w1, (Instr.mapUpdate tMap (.map (some b)) (.string e.key) (settV e.val e.rev)).run Tryz.prog w = .ok () w1 ∧ MapA w1 b (n + 1) (P.put A e) ∧ M.Mods (fun k => k = b) w w1 := by
  obtain ⟨D, h1, h2⟩ := h
  obtain ⟨w1, hrun, r1, r2⟩ := h1.store keyedS Tryz.underlying66 hn (key_kl hk) (settR_mk e.val e.rev)
  exact ⟨w1, hrun, ⟨_, r1, h2.put h1.isMap hs⟩, mods_turned r2⟩
/-- a setting is struck -/
theorem MapA.del {w : World} {b n : Nat} {A : List Ent} (h : MapA w b n A) (hs : Srt A) (k : ByteArray) (hk : k.size ≤ maxLen) (ty : TypeId) :
    ∃ w1, (Builtin.delete_ #[tMap, tStr] ty #[.map (some b), .string k]).run Tryz.prog w = .ok (.tuple #[]) w1 ∧ MapA w1 b n (P.del A k) ∧ M.Mods (fun k => k = b) w w1 := by
  obtain ⟨D, h1, h2⟩ := h
  obtain ⟨w1, hrun, r1, r2⟩ := h1.drop keyedS Tryz.underlying66 (key_kl hk) ty
  exact ⟨w1, hrun, ⟨_, r1, h2.del hs⟩, mods_turned r2⟩
def keysL (A : List Ent) : List (List UInt8) := A.map fun e => e.key.data.toList
theorem look_isSome {A : List Ent} {k : ByteArray} : (look A k).isSome = true ↔ ∃ e ∈ A, e.key = k := by
  constructor
  · intro h
    cases h1 : look A k with
    | none => rw [h1] at h; cases h
    | some e => exact ⟨e, (look_key h1).2, (look_key h1).1⟩
  · rintro ⟨e, he, hk⟩
    cases h1 : look A k with
    | none => exact absurd hk (look_none h1 e he)
    | some x => rfl
/-- the keys that a map gives, sorted, are those of the settings -/
theorem keys_sorted {w : World} {b n : Nat} {A : List Ent} {D : DataW Unit} (hown : w.ownsMap Tryz.prog tStr settR b n D) (h : MRel D A) (hs : Srt A) {ss : List (List UInt8)} (hp : ss.Perm (strKeys D)) :
    ss.mergeSort (fun x y => decide (x ≤ y)) = keysL A := by
  have hnd : (keysL A).Nodup := by
    unfold keysL
    refine List.pairwise_map.2 (hs.imp fun {a c} hac e => ?_)
    exact lt_ne hac (ba_ext e)
  have hperm : (keysL A).Perm (strKeys D) := by
    obtain ⟨es, hD, hpw, _⟩ := hown.entries keyedS
    obtain ⟨es', hD', hko⟩ := hown.keysOf
    obtain rfl : es = es' := by rw [hD] at hD'; simpa using hD'
    subst hD
    refine perm_strKeys hpw (fun p hp => by obtain ⟨v, hv⟩ := hko p hp; obtain ⟨x, _, hx, _⟩ := Maps.keyOf_str Tryz.underlying9 hv; exact ⟨x, hx⟩) hnd (fun x => ?_)
    have := h.has ⟨x.toArray⟩
    unfold kl at this
    simp only at this
    rw [this, look_isSome]
    unfold keysL
    rw [List.mem_map]
    constructor
    · rintro ⟨e, he, rfl⟩
      exact ⟨e, he, ba_ext (by simp)⟩
    · rintro ⟨e, he, hk⟩
      exact ⟨e, he, by rw [hk]⟩
  rw [show (fun x y : List UInt8 => decide (x ≤ y)) = leB from rfl, mergeSort_of_perm (hp.trans hperm.symm)]
  refine List.mergeSort_of_pairwise ?_
  unfold keysL
  refine List.pairwise_map.2 (hs.imp fun {a c} hac => ?_)
  show leB _ _ = true
  unfold leB
  exact decide_eq_true (List.le_of_lt hac)
theorem MapA.size {w : World} {b n : Nat} {A : List Ent} {D : DataW Unit} (hown : w.ownsMap Tryz.prog tStr settR b n D) : Maps.size D ≤ n := hown.size_le
end Go.Proofs.YtkgjfagejnppbaaGreatDoor.P

/- The program's settings: New, none, get, put. -/
namespace Go.Proofs.YtkgjfagejnppbaaGreatDoor.P
open Go.RowKit Go.Proofs.YtkgjfagejnppbaaGreatDoor.R Go.Proofs.YtkgjfagejnppbaaGreatDoor.M Go.BigFrame
set_option linter.unusedVariables false
set_option linter.unusedSimpArgs false

/-- settings at p, their map at b -/
structure AppAt (w : World) (p b n : Nat) (A : List Ent) : Prop where
  box : w.heap[p]? = some (.cells #[.map (some b)] 68 (0, 0))
  map : MapA w b n A
theorem AppAt.ne {w : World} {p b n : Nat} {A : List Ent} (h : AppAt w p b n A) : p ≠ b := by
  rintro rfl
  obtain ⟨D, ⟨es, clock, hb, _⟩, _⟩ := h.map
  rw [h.box] at hb
  cases hb
theorem AppAt.keep {w w1 : World} {p b n : Nat} {A : List Ent} {S : Nat → Prop} (h : AppAt w p b n A) (hm : Mods S w w1) (h1 : ¬ S p) (h2 : ¬ S b) : AppAt w1 p b n A :=
  ⟨hm.heap h.box h1, h.map.keep hm h2⟩
theorem AppAt.below {w w1 : World} {p b n : Nat} {A : List Ent} (h : AppAt w p b n A) (hm : Below w.heap.size w w1) : AppAt w1 p b n A :=
  h.keep (S := fun _ => False) (Mods.of_below hm) (fun h => h) (fun h => h)
theorem AppAt.mono {w : World} {p b n m : Nat} {A : List Ent} (h : AppAt w p b n A) (hm : n ≤ m) : AppAt w p b m A := ⟨h.box, h.map.mono hm⟩
theorem AppAt.plt {w : World} {p b n : Nat} {A : List Ent} (h : AppAt w p b n A) : p < w.heap.size := M.heap_lt h.box
theorem AppAt.blt {w : World} {p b n : Nat} {A : List Ent} (h : AppAt w p b n A) : b < w.heap.size := h.map.lt
theorem AppAt.pc {w : World} {p b n : Nat} {A : List Ent} (h : AppAt w p b n A) : w.cell? ⟨p, 0, none⟩ = some (.map (some b)) := cell_of_row w p 0 _ _ (0, 0) h.box
theorem doAt_start (c : Cmd) (w : World) : DoAt c w ((w.alloc (.cells (cmdA c) 30)).alloc (.cells #[.int .i64 0, .string ⟨#[]⟩, .int .i64 0] 33)) := by
  refine ⟨((Below.refl _ _).alloc (Nat.le_refl _) _).alloc (by simp) _, ?_, ?_⟩
  · rw [heap_al, if_neg (by simp), heap_alloc_new]
  · rw [heap_al, if_pos (by simp)]
/-- what a look-up tells, in every world that keeps the map -/
theorem kin_look {W : World} {p b n : Nat} {A : List Ent} (h : AppAt W p b n A) {k : ByteArray} (hk : k.size ≤ 1000000) (x : Kin W) :
    (Instr.lookup 66 (.map (some b)) (.string k) false).run Tryz.prog x.w = .ok (.agg #[.string (valO (look A k)), .int .i64 (revO (look A k))]) x.w :=
  (h.below x.h).map.look (Tryz.zeroValue96 _) rfl (by unfold maxLen; omega)
theorem kin_look_ok {W : World} {p b n : Nat} {A : List Ent} (h : AppAt W p b n A) {k : ByteArray} (hk : k.size ≤ 1000000) (x : Kin W) :
    (Instr.lookup 66 (.map (some b)) (.string k) true).run Tryz.prog x.w = .ok (.tuple #[.agg #[.string (valO (look A k)), .int .i64 (revO (look A k))], .bool (look A k).isSome]) x.w :=
  (h.below x.h).map.look_ok (Tryz.zeroValue96 _) rfl (by unfold maxLen; omega)
set_option maxRecDepth 100000 in
set_option maxHeartbeats 2000000 in
theorem new_any (w : World) :
    Calls Tryz.prog 12 #[] w fun e w' => ∃ p b, e = .returned (.pointer (some ⟨p, 0, none⟩)) ∧ (AppAt w' p b 0 [] ∧ w.heap.size ≤ p ∧ w.heap.size ≤ b ∧ Below w.heap.size w w') := by
  have hmm := @run_makeMap Tryz.prog
  go_enter Tryz.func12, Tryz.ntmps12
  go_wp2_with fail
  go_ret
  refine ⟨w.heap.size + 1, w.heap.size, rfl, ⟨?_, ?_⟩, by omega, by omega, ((Below.refl _ _).alloc (Nat.le_refl _) _).alloc (by simp) _⟩
  · rw [heap_al, if_pos (by simp)]
  · exact (MapA.made w).below ((Below.refl _ _).alloc (Nat.le_refl _) _)
set_option maxRecDepth 100000 in
set_option maxHeartbeats 2000000 in
theorem none_any (c : Cmd) (p : Value) (w : World) :
    Calls Tryz.prog 24 #[p, cmdV c] w fun e w' => e = .returned (repV ⟨0, nul, 0⟩) ∧ Below w.heap.size w w' := by
  go_enter Tryz.func24, Tryz.ntmps24
  go_wp2_with fail
  have hd := doAt_start c w
  refine ret_box (w.heap.size + 1) #[.int .i64 0, .string ⟨#[]⟩, .int .i64 0] 33 (.agg #[.int .i64 0, .string ⟨#[]⟩, .int .i64 0]) ?_ (fun W' h => ?_) rfl ?_
  · exact hd.rb
  · obtain ⟨⟨r0, r1, r2⟩, _, _⟩ := box3 h
    simp [results, Tryz.results24, go_sem, r0, r1, r2]
  · exact ⟨rfl, hd.bel⟩
def getO : Option Ent → Rep
  | none => ⟨8, nul, 0⟩
  | some e => ⟨0, e.val, e.rev⟩
def getR (A : List Ent) (k : ByteArray) : Rep := getO (look A k)
set_option maxRecDepth 100000 in
set_option maxHeartbeats 2000000 in
theorem get_any (p b n : Nat) (A : List Ent) (c : Cmd) (w : World) (h : AppAt w p b n A) (hk : c.key.size ≤ 1000000) (R : Rep) (hR : getR A c.key = R) :
    Calls Tryz.prog 25 #[.pointer (some ⟨p, 0, none⟩), cmdV c] w fun e w' => e = .returned (repV R) ∧ Below w.heap.size w w' := by
  subst hR
  obtain ⟨L, hL⟩ : ∃ L, look A c.key = L := ⟨_, rfl⟩
  have HL := Lib.hid hL
  have HH := Lib.hid h
  have HV : Hid (getR A c.key = getO L) := Lib.hid (by unfold getR; rw [hL])
  clear h hL
  go_enter Tryz.func25, Tryz.ntmps25
  go_upto_region 1 with fail
  obtain ⟨W, hW⟩ : ∃ W, W = (w.alloc (.cells (cmdA c) 30)).alloc (.cells #[.int .i64 0, .string ⟨#[]⟩, .int .i64 0] 33) := ⟨_, rfl⟩
  rw [← hW]
  have HD : Hid (DoAt c w W) := Lib.hid (by rw [hW]; exact doAt_start c w)
  clear hW
  have HA := Lib.hid (HH.out.below HD.out.bel)
  have hzp := HA.out.plt
  have hzc : w.heap.size < W.heap.size := M.heap_lt HD.out.cb
  obtain ⟨⟨c0, c1, c2, c3, c4, c5⟩, _⟩ := box6 HD.out.cb
  cases L with
  | none =>
    have HST := Lib.hid (show ∀ w', Below W.heap.size W w' → (fun w' => w'.cell? ⟨p, 0, none⟩ = some (.map (some b)) ∧ w'.cell? ⟨w.heap.size, 3, none⟩ = some (.string c.key) ∧ (Instr.lookup 66 (.map (some b)) (.string c.key) true).run Tryz.prog w' = .ok (.tuple #[.agg #[.string ⟨#[]⟩, .int .i64 0], .bool false]) w' ∧ Below W.heap.size W w') w' from fun w' hb =>
      ⟨(hb.cell (p := ⟨p, 0, none⟩) hzp).trans HA.out.pc, (hb.cell (p := ⟨w.heap.size, 3, none⟩) hzc).trans c3, by have := kin_look_ok HA.out hk ⟨w', hb⟩; rw [HL.out] at this; exact this, hb⟩)
    clear c0 c1 c2 c3 c4 c5
    go_region_held3 (fun w' => w'.cell? ⟨p, 0, none⟩ = some (.map (some b)) ∧ w'.cell? ⟨w.heap.size, 3, none⟩ = some (.string c.key) ∧ (Instr.lookup 66 (.map (some b)) (.string c.key) true).run Tryz.prog w' = .ok (.tuple #[.agg #[.string ⟨#[]⟩, .int .i64 0], .bool false]) w' ∧ Below W.heap.size W w')
      (first | exact HST.out _ (Below.refl _ _).drew | exact HST.out _ ((Below.refl _ _).drew.alloc (Nat.le_refl _) _))
      (fail)
    all_goals
      obtain ⟨w5, hw5⟩ : ∃ w5, w5 = (W.alloc (.cells #[.string ⟨#[]⟩, .int .i64 0] 96)).drew := ⟨_, rfl⟩
      rw [← hw5]
      have hb5 : Below W.heap.size W w5 := by rw [hw5]; exact ((Below.refl _ _).alloc (Nat.le_refl _) _).drew
      have hx5 : w5.heap[W.heap.size]? = some (.cells #[.string ⟨#[]⟩, .int .i64 0] 96 (0, 0)) := by rw [hw5]; exact heap_alloc_new W _
      have HD5 := Lib.hid (HD.out.next hb5)
      have HX5 := Lib.hid hx5
      have HA5 := Lib.hid (HA.out.below hb5)
      obtain ⟨⟨s0, s1⟩, fs, _⟩ := box2 hx5
      obtain ⟨⟨d0, d1, d2⟩, fd, sd⟩ := box3 HD5.out.rb
      have hW5 : W.heap.size < w5.heap.size := M.heap_lt hx5
      clear hw5 hx5
      go_wp2_with fail
      refine ret_box (w.heap.size + 1) #[.int .i64 8, .string nul, .int .i64 0] 33 (.agg #[.int .i64 8, .string nul, .int .i64 0]) ?_ (fun W' h => ?_) rfl ?_
      · exact set3 HD5.out.rb
      · obtain ⟨⟨r0, r1, r2⟩, _, _⟩ := box3 h
        simp [results, Tryz.results25, go_sem, r0, r1, r2]
      · exact ⟨by rw [HV.out]; rfl, set3_below (by omega) HD5.out.bel⟩
  | some x =>
    have HST := Lib.hid (show ∀ w', Below W.heap.size W w' → (fun w' => w'.cell? ⟨p, 0, none⟩ = some (.map (some b)) ∧ w'.cell? ⟨w.heap.size, 3, none⟩ = some (.string c.key) ∧ (Instr.lookup 66 (.map (some b)) (.string c.key) true).run Tryz.prog w' = .ok (.tuple #[.agg #[.string x.val, .int .i64 x.rev], .bool true]) w' ∧ Below W.heap.size W w') w' from fun w' hb =>
      ⟨(hb.cell (p := ⟨p, 0, none⟩) hzp).trans HA.out.pc, (hb.cell (p := ⟨w.heap.size, 3, none⟩) hzc).trans c3, by have := kin_look_ok HA.out hk ⟨w', hb⟩; rw [HL.out] at this; exact this, hb⟩)
    clear c0 c1 c2 c3 c4 c5
    go_region_held3 (fun w' => w'.cell? ⟨p, 0, none⟩ = some (.map (some b)) ∧ w'.cell? ⟨w.heap.size, 3, none⟩ = some (.string c.key) ∧ (Instr.lookup 66 (.map (some b)) (.string c.key) true).run Tryz.prog w' = .ok (.tuple #[.agg #[.string x.val, .int .i64 x.rev], .bool true]) w' ∧ Below W.heap.size W w')
      (first | exact HST.out _ (Below.refl _ _).drew | exact HST.out _ ((Below.refl _ _).drew.alloc (Nat.le_refl _) _))
      (fail)
    all_goals
      obtain ⟨w5, hw5⟩ : ∃ w5, w5 = (W.alloc (.cells #[.string x.val, .int .i64 x.rev] 96)).drew := ⟨_, rfl⟩
      rw [← hw5]
      have hb5 : Below W.heap.size W w5 := by rw [hw5]; exact ((Below.refl _ _).alloc (Nat.le_refl _) _).drew
      have hx5 : w5.heap[W.heap.size]? = some (.cells #[.string x.val, .int .i64 x.rev] 96 (0, 0)) := by rw [hw5]; exact heap_alloc_new W _
      have HD5 := Lib.hid (HD.out.next hb5)
      have HX5 := Lib.hid hx5
      have HA5 := Lib.hid (HA.out.below hb5)
      obtain ⟨⟨s0, s1⟩, fs, _⟩ := box2 hx5
      obtain ⟨⟨d0, d1, d2⟩, fd, sd⟩ := box3 HD5.out.rb
      have hW5 : W.heap.size < w5.heap.size := M.heap_lt hx5
      clear hw5 hx5
      go_wp2_with fail
      refine ret_box (w.heap.size + 1) #[.int .i64 0, .string x.val, .int .i64 x.rev] 33 (.agg #[.int .i64 0, .string x.val, .int .i64 x.rev]) ?_ (fun W' h => ?_) rfl ?_
      · exact set3 HD5.out.rb
      · obtain ⟨⟨r0, r1, r2⟩, _, _⟩ := box3 h
        simp [results, Tryz.results25, go_sem, r0, r1, r2]
      · exact ⟨by rw [HV.out]; rfl, set3_below (by omega) HD5.out.bel⟩
end Go.Proofs.YtkgjfagejnppbaaGreatDoor.P
