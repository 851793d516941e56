/- Several texts in one. -/
import Derived.Test.YtlbkbjeajcadiaaGreatDoorMrg11
import Derived.Test.YtlbkbjeajcadiaaGreatDoorOrdL
import Derived.Maps.Keyed
import Derived.Maps.Own
import Derived.Maps.OwnSet
import Derived.Maps.Views
import Derived.DeepKeys4
import Derived.Maps.RangeWalk
import Derived.Test.YtlbkbjeajcadiaaGreatDoorAppP
import Derived.Test.YtlbkbjeajcadiaaGreatDoorMrg3
import Derived.Sort.KeysCollected
import Derived.StringKeys

/- Plain law of the book: what the document answers is what the book answers. -/
namespace Go.Proofs.YtlbkbjeajcadiaaGreatDoor.B
open Go.Proofs.YtlbkbjeajcadiaaGreatDoor.O Go.Proofs.YtlbkbjeajcadiaaGreatDoor.P Go.Proofs.YtlbkbjeajcadiaaGreatDoor.Mp
set_option linter.unusedVariables false
set_option linter.unusedSimpArgs false

def mostV (l : List Int) : Int := l.foldl (fun m v => max m v) 0
theorem mostV_gen : ∀ (l : List Int) (m : Int), m ≤ l.foldl (fun m v => max m v) m ∧ (∀ v ∈ l, v ≤ l.foldl (fun m v => max m v) m) ∧ (l.foldl (fun m v => max m v) m = m ∨ l.foldl (fun m v => max m v) m ∈ l) := by
  intro l
  induction l with
  | nil => intro m; exact ⟨Int.le_refl _, fun v h => (by cases h), .inl rfl⟩
  | cons a t ih =>
    intro m
    simp only [List.foldl_cons]
    obtain ⟨h1, h2, h3⟩ := ih (max m a)
    refine ⟨by omega, fun v hv => ?_, ?_⟩
    · rcases List.mem_cons.1 hv with rfl | hv
      · omega
      · exact h2 v hv
    · rcases h3 with h3 | h3
      · rw [h3]
        by_cases e : m ≤ a
        · right; rw [Int.max_eq_right e]; exact List.mem_cons_self
        · left; exact Int.max_eq_left (by omega)
      · exact .inr (List.mem_cons_of_mem _ h3)
theorem mostV_one {l m : List Int} (h : ∀ v, v ∈ l ↔ v ∈ m) : mostV l = mostV m := by
  obtain ⟨a1, a2, a3⟩ := mostV_gen l 0
  obtain ⟨b1, b2, b3⟩ := mostV_gen m 0
  unfold mostV
  refine Int.le_antisymm ?_ ?_
  · rcases a3 with e | e
    · rw [e]; exact b1
    · exact b2 _ ((h _).1 e)
  · rcases b3 with e | e
    · rw [e]; exact a1
    · exact a2 _ ((h _).2 e)
theorem mostN_V (l : List (O.Id × En)) : mostN l = mostV (l.map fun p => p.2.seq) := by
  unfold mostN mostV
  rw [List.foldl_map]
/-- the document's: those that a command meets -/
noncomputable def metR (l : List Rv) (c : Cmd) (but : O.Id) : List Rv := l.filter fun x => decide (x.id ≠ but) && meetsR c x
theorem seq_ix {q : Rv} {e : En} (h : asIx q = some e) : e.seq = q.seq := by
  unfold asIx at h
  split at h
  · cases h
  · split at h <;> (cases h; rfl)
/-- what goes on from what, by what records say -/
theorem goes_core {a a2 b b2 : Rv} (h1 : core a = core a2) (h2 : core b = core b2) : goesOn a b = goesOn a2 b2 := by
  have f : ∀ {x y : Rv}, core x = core y → x.id = y.id ∧ x.st = y.st ∧ x.bal = y.bal ∧ x.took = y.took ∧ x.cmd = y.cmd ∧ x.deps = y.deps ∧ x.seq = y.seq ∧ x.tag = y.tag := fun {x y} h =>
    ⟨(congrArg Rv.id h : _), (congrArg Rv.st h : _), (congrArg Rv.bal h : _), (congrArg Rv.took h : _), (congrArg Rv.cmd h : _), (congrArg Rv.deps h : _), (congrArg Rv.seq h : _), (congrArg Rv.tag h : _)⟩
  obtain ⟨a1, a3, a4, a5, a6, a7, a8, a9⟩ := f h1
  obtain ⟨b1, b3, b4, b5, b6, b7, b8, b9⟩ := f h2
  unfold goesOn
  rw [a1, a3, a4, a5, a6, a7, a8, a9, b1, b3, b4, b5, b6, b7, b8, b9]
/-- the document's Get -/
def refGet (l : List Rv) (i : O.Id) : Rv := (l.find? fun x => decide (x.id = i)).getD (rv0 i)
end Go.Proofs.YtlbkbjeajcadiaaGreatDoor.B

/- Plain law of the book: all records; the next number. -/
namespace Go.Proofs.YtlbkbjeajcadiaaGreatDoor.B
open Go.Proofs.YtlbkbjeajcadiaaGreatDoor.O Go.Proofs.YtlbkbjeajcadiaaGreatDoor.P Go.Proofs.YtlbkbjeajcadiaaGreatDoor.Mp
set_option linter.unusedVariables false
set_option linter.unusedSimpArgs false

theorem foldl_if {α : Type} (f : α → Int) (p : α → Prop) [DecidablePred p] : ∀ (l : List α) (m : Int), l.foldl (fun m x => if p x then max m (f x) else m) m = ((l.filter fun x => decide (p x)).map f).foldl (fun m v => max m v) m := by
  intro l
  induction l with
  | nil => intro m; rfl
  | cons a t ih =>
    intro m
    rw [List.foldl_cons]
    by_cases h : p a
    · rw [if_pos h, List.filter_cons_of_pos (by simp [h]), List.map_cons, List.foldl_cons]
      exact ih _
    · rw [if_neg h, List.filter_cons_of_neg (by simp [h])]
      exact ih _
end Go.Proofs.YtlbkbjeajcadiaaGreatDoor.B

/- book: ids as keys of maps (lines of OrdW and OrdEb, without what those import). -/
namespace Go.Proofs.YtlbkbjeajcadiaaGreatDoor.O
open Go.RowKit Go.Proofs.YtlbkbjeajcadiaaGreatDoor.M Go.BigFrame Go.Maps
set_option linter.unusedVariables false
set_option linter.unusedSimpArgs false

theorem id_laid : laidOutB Tryz.prog = true := by kernel_rfl
theorem id_law : WideMaps.KeyLaw Tryz.prog 31 := deep_law_laid id_laid (m := 2) (by omega) (of_decide_eq_true (by kernel_rfl)) (by kernel_rfl) (by rw [Tryz.underlying31])
theorem id_keyed : Maps.Keyed Tryz.prog 31 := .of_law id_law
def klI (i : Id) : Lit := .string (keyBytes [.int .i64 i.r, .int .i64 i.n])
theorem types_pos : ∃ d, Tryz.prog.types.size + 1 = d + 1 + 1 := ⟨Tryz.prog.types.size - 1, by have h : 0 < Tryz.prog.types.size := of_decide_eq_true (by kernel_rfl); omega⟩
theorem wf_of64 {n : Int} (h : -9223372036854775808 ≤ n ∧ n ≤ 9223372036854775807) : (Lit.int .i64 n).wf = true := by
  simp only [Lit.wf, Bool.and_eq_true, decide_eq_true_eq]
  exact h
theorem key_id (i : Id) (hi : IdI i) : keyOf Tryz.prog 31 (idV i) = some (klI i) := by
  obtain ⟨h1, h2⟩ := hi
  unfold P.InI at h1 h2
  simp [keyOf, Tryz.underlying31, Value.formed, Value.cells, klI]
  have w1 : (Lit.int .i64 i.r).wf = true := wf_of64 h1
  have w2 : (Lit.int .i64 i.n).wf = true := wf_of64 h2
  have hc : Tryz.prog.cellsOf 31 = 2 := by kernel_rfl
  have hc3 : Tryz.prog.cellsOf 3 = 1 := by kernel_rfl
  refine ⟨⟨by kernel_rfl, hc.symm⟩, [.int .i64 i.r, .int .i64 i.n], ?_, rfl⟩
  have e0 : ∀ (d : Nat) (x : Int), (Lit.int .i64 x).wf = true → Tryz.prog.keyLits (d + 1) 3 [.int .i64 x] = some [.int .i64 x] := fun d x hx => by
    unfold Program.keyLits
    rw [Tryz.underlying3]
    simp [hx]
  have e1 : ∀ d : Nat, Tryz.prog.keyLits (d + 1 + 1) 31 [.int .i64 i.r, .int .i64 i.n] = some [.int .i64 i.r, .int .i64 i.n] := fun d => by
    unfold Program.keyLits
    rw [Tryz.underlying31]
    simp [hc, hc3, e0 d _ w1, e0 d _ w2]
  exact e1 _
theorem klI_key (i : Id) : WideAt.IsKeyLit (klI i) := trivial
/-- the map of places, when k records have been walked -/
abbrev tId : TypeId := 31
set_option maxRecDepth 100000 in
/-- what reads as an id is one -/
theorem key_id_inv {key : Value} {kl : Lit} (h : keyOf Tryz.prog tId key = some kl) : ∃ i, key = idV i ∧ kl = klI i ∧ IdI i := by
  have hc : Tryz.prog.cellsOf 31 = 2 := by kernel_rfl
  have hc3 : Tryz.prog.cellsOf 3 = 1 := by kernel_rfl
  have h0 : ∀ (d : Nat) (v : Value) (l : List Lit), Tryz.prog.keyLits (d + 1) 3 [v] = some l → ∃ x : Int, v = .int .i64 x ∧ (Lit.int .i64 x).wf = true ∧ l = [.int .i64 x] := fun d v l hv => by
    unfold Program.keyLits at hv
    rw [Tryz.underlying3] at hv
    cases v <;> simp at hv
    obtain ⟨⟨rfl, hw⟩, rfl⟩ := hv
    exact ⟨_, rfl, hw, rfl⟩
  cases key with
  | agg cs =>
    simp only [keyOf, Tryz.underlying31, Value.formed, hc] at h
    split at h
    · rename_i hk
      simp only [Bool.and_eq_true, beq_iff_eq] at hk
      obtain ⟨l⟩ := cs
      have hl : l.length = 2 := by simpa using hk.2
      match l, hl with
      | [a, b], _ =>
        obtain ⟨ls, hls, rfl⟩ := Option.map_eq_some_iff.1 h
        obtain ⟨d, hd⟩ := types_pos
        rw [hd] at hls
        have hls : Tryz.prog.keyLits (d + 1 + 1) 31 [a, b] = some ls := by simpa [Value.cells] using hls
        unfold Program.keyLits at hls
        rw [Tryz.underlying31] at hls
        simp [hc, hc3, Option.bind_eq_some_iff] at hls
        obtain ⟨la, ha, lb, ⟨lc, hb, rfl⟩, rfl⟩ := hls
        obtain ⟨x, rfl, hx, rfl⟩ := h0 d _ _ ha
        obtain ⟨y, rfl, hy, rfl⟩ := h0 d _ _ hb
        refine ⟨⟨x, y⟩, rfl, by simp [klI], ?_, ?_⟩
        · simp only [Lit.wf, Bool.and_eq_true, decide_eq_true_eq] at hx
          exact hx
        · simp only [Lit.wf, Bool.and_eq_true, decide_eq_true_eq] at hy
          exact hy
    · cases h
  | _ => simp [keyOf, Tryz.underlying31, Value.formed] at h
end Go.Proofs.YtlbkbjeajcadiaaGreatDoor.O

/- The settings as a map in memory: what a map of settings reads as; look, put, strike; its keys. -/
namespace Go.Proofs.YtlbkbjeajcadiaaGreatDoor.P
open Go.RowKit Go.Maps
set_option linter.unusedVariables false

def settV (v : ByteArray) (r : Int) : Value := .agg #[.string v, .int .i64 r]
def settD (v : ByteArray) (r : Int) : DataW Unit := .agg [.lit (.string v.data.toList), .lit (.int .i64 r)]
/-- how a setting reads -/
def settL : List Value → Option (DataW Unit × List MemPlace)
  | [.string s, .int .i64 r] => some (settD s r, [])
  | _ => none
def settR : Value → Option (DataW Unit × List MemPlace)
  | .agg cs => settL cs.toList
  | _ => none
def kl (k : ByteArray) : Lit := .string k.data.toList
theorem kl_inj {a b : ByteArray} (h : kl a = kl b) : a = b := by
  unfold kl at h
  exact ba_ext (by simpa using h)
theorem kl_key (k : ByteArray) : WideAt.IsKeyLit (kl k) := by unfold kl WideAt.IsKeyLit; trivial
def valO : Option Ent → ByteArray
  | none => nul
  | some e => e.val
def zD : DataW Unit := settD nul 0
/-- a map that reads as settings -/
structure MRel (D : DataW Unit) (A : List Ent) : Prop where
  has : ∀ k, Maps.has D (kl k) = (look A k).isSome
  at_ : ∀ k, D.atKey (kl k) zD = settD (valO (look A k)) (revO (look A k))
theorem MRel.nil : MRel (.map []) [] := ⟨fun k => rfl, fun k => rfl⟩
theorem MRel.put {D : DataW Unit} {A : List Ent} {e : Ent} (h : MRel D A) (hm : IsMap D) (hs : Srt A) : MRel (D.put (kl e.key) (settD e.val e.rev)) (put A e) := by
  constructor
  · intro k
    rw [look_put hs]
    by_cases hk : e.key = k
    · subst hk
      rw [has_put_same hm (kl_key _), if_pos rfl]; rfl
    · rw [has_put_other (fun e2 => hk (kl_inj e2).symm), if_neg hk]
      exact h.has k
  · intro k
    rw [look_put hs]
    by_cases hk : e.key = k
    · subst hk
      rw [atKey_put_same hm (kl_key _), if_pos rfl]; rfl
    · rw [atKey_put_other (fun e2 => hk (kl_inj e2).symm), if_neg hk]
      exact h.at_ k
theorem MRel.del {D : DataW Unit} {A : List Ent} {j : ByteArray} (h : MRel D A) (hs : Srt A) : MRel (D.del (kl j)) (del A j) := by
  constructor
  · intro k
    rw [look_del hs]
    by_cases hk : j = k
    · subst hk
      rw [has_del_same, if_pos rfl]; rfl
    · rw [has_del_other (fun e2 => hk (kl_inj e2).symm), if_neg hk]
      exact h.has k
  · intro k
    rw [look_del hs]
    by_cases hk : j = k
    · subst hk
      rw [atKey_del_same, if_pos rfl]; rfl
    · rw [atKey_del_other (fun e2 => hk (kl_inj e2).symm), if_neg hk]
      exact h.at_ k
abbrev tStr : TypeId := 9
theorem keyedS : Keyed Tryz.prog tStr := string_keyed Tryz.underlying9
theorem key_kl {k : ByteArray} (h : k.size ≤ maxLen) : keyOf Tryz.prog tStr (.string k) = some (kl k) := Go.WideMaps.keyOf_string_mk Tryz.underlying9 h
/-- block b is a map of at most n entries that reads as the settings A -/
def MapA (w : World) (b n : Nat) (A : List Ent) : Prop := ∃ D, w.ownsMap Tryz.prog tStr settR b n D ∧ MRel D A
theorem MapA.lt {w : World} {b n : Nat} {A : List Ent} (h : MapA w b n A) : b < w.heap.size := by
  obtain ⟨D, h1, _⟩ := h
  exact h1.lt
theorem MapA.mono {w : World} {b n m : Nat} {A : List Ent} (h : MapA w b n A) (hm : n ≤ m) : MapA w b m A := by
  obtain ⟨D, h1, h2⟩ := h
  exact ⟨D, h1.mono hm, h2⟩
theorem MapA.keep {w w1 : World} {b n : Nat} {A : List Ent} {S : Nat → Prop} (h : MapA w b n A) (hm : M.Mods S w w1) (hn : ¬ S b) : MapA w1 b n A := by
  have hlt := h.lt
  obtain ⟨D, ⟨es, clock, hb, r⟩, h2⟩ := h
  exact ⟨D, ⟨es, clock, (hm.block b hlt hn).trans hb, r⟩, h2⟩
theorem MapA.below {w w1 : World} {b n : Nat} {A : List Ent} (h : MapA w b n A) (hm : Below w.heap.size w w1) : MapA w1 b n A :=
  h.keep (S := fun _ => False) (M.Mods.of_below hm) (fun h => h)
theorem MapA.made (w : World) : MapA (w.alloc (.map #[] 0)) w.heap.size 0 [] := ⟨.map [], World.ownsMap_made _ _ _ _, MRel.nil⟩
def keysL (A : List Ent) : List (List UInt8) := A.map fun e => e.key.data.toList
theorem MapA.size {w : World} {b n : Nat} {A : List Ent} {D : DataW Unit} (hown : w.ownsMap Tryz.prog tStr settR b n D) : Maps.size D ≤ n := hown.size_le
end Go.Proofs.YtlbkbjeajcadiaaGreatDoor.P
