/- Sessions in memory: the map of clients; New, App, Copy. -/
import Derived.Test.YtpeiamllkddhiaaGreatDoorSesP
import Derived.Test.YtpeiamllkddhiaaGreatDoorMrg9
namespace Go.Proofs.YtpeiamllkddhiaaGreatDoor.P
open Go.RowKit Go.Proofs.YtpeiamllkddhiaaGreatDoor.R Go.Proofs.YtpeiamllkddhiaaGreatDoor.M Go.BigFrame Go.Maps
set_option linter.unusedVariables false
set_option linter.unusedSimpArgs false

theorem wf_of {n : Int} (h : InI n) : (Lit.int .i64 n).wf = true := by
  simp only [Lit.wf, Bool.and_eq_true, decide_eq_true_eq]
  exact h
def lastV (s : Int) (r : Rep) : Value := .agg #[.int .i64 s, .int .i64 r.code, .string r.val, .int .i64 r.rev]
def lastD (s : Int) (r : Rep) : DataW Unit := .agg [.lit (.int .i64 s), .lit (.int .i64 r.code), .lit (.string r.val.data.toList), .lit (.int .i64 r.rev)]
def lastL : List Value → Option (DataW Unit × List MemPlace)
  | [.int .i64 s, .int .i64 c, .string v, .int .i64 r] => some (lastD s ⟨c, v, r⟩, [])
  | _ => none
def lastR : Value → Option (DataW Unit × List MemPlace)
  | .agg cs => lastL cs.toList
  | _ => none
theorem lastR_mk (s : Int) (r : Rep) : lastR (lastV s r) = some (lastD s r, []) := rfl
theorem lastD_inj {s s2 : Int} {r r2 : Rep} (h : lastD s r = lastD s2 r2) : s = s2 ∧ r = r2 := by
  unfold lastD at h
  simp only [DataW.agg.injEq, List.cons.injEq, DataW.lit.injEq, Lit.string.injEq, Lit.int.injEq, and_true, true_and] at h
  obtain ⟨h1, h2, h3, h4⟩ := h
  cases r; cases r2
  simp only at h2 h3 h4
  have h3 := ba_ext h3
  subst h1 h2 h3 h4
  exact ⟨rfl, rfl⟩
theorem lastR_inv {x : Value} {s : Int} {r : Rep} {ps : List MemPlace} (h : lastR x = some (lastD s r, ps)) : x = lastV s r := by
  cases x with
  | agg cs =>
    have h : lastL cs.toList = _ := h
    obtain ⟨l⟩ := cs
    simp only at h
    unfold lastL at h
    split at h
    · simp only [Option.some.injEq, Prod.mk.injEq] at h
      obtain ⟨rfl, rfl⟩ := lastD_inj h.1
      rfl
    · cases h
  | _ => cases h
def ki (k : Int) : Lit := .int .i64 k
theorem ki_inj {a b : Int} (h : ki a = ki b) : a = b := by unfold ki at h; simpa using h
theorem ki_key (k : Int) : WideAt.IsKeyLit (ki k) := by unfold ki WideAt.IsKeyLit; trivial
def zL : DataW Unit := lastD 0 Rep.zero
/-- a map that reads as clients -/
structure LRel (D : DataW Unit) (C : List Lst) : Prop where
  has : ∀ k, Maps.has D (ki k) = (lookC C k).isSome
  at_ : ∀ k, D.atKey (ki k) zL = lastD (seqL (lookC C k)) (repL (lookC C k))
theorem LRel.nil : LRel (.map []) [] := ⟨fun k => rfl, fun k => rfl⟩
theorem lookC_put (C : List Lst) (j : Int) (s : Int) (r : Rep) (k : Int) : lookC (dropC C j ++ [⟨j, s, r⟩]) k = if j = k then some ⟨j, s, r⟩ else lookC C k := by
  rw [lookC_app, lookC_drop]
  by_cases h : j = k
  · rw [if_pos h, if_pos h]
    unfold lookC
    rw [List.find?_cons, decide_eq_true (show (⟨j, s, r⟩ : Lst).client = k from h)]
    rfl
  · rw [if_neg h, if_neg h]
    have : lookC [⟨j, s, r⟩] k = none := by
      unfold lookC
      rw [List.find?_cons, decide_eq_false (show ¬ (⟨j, s, r⟩ : Lst).client = k from h)]
      rfl
    rw [this, Option.or_none]
theorem LRel.put {D : DataW Unit} {C : List Lst} {j s : Int} {r : Rep} (h : LRel D C) (hm : IsMap D) : LRel (D.put (ki j) (lastD s r)) (dropC C j ++ [⟨j, s, r⟩]) := by
  constructor
  · intro k
    rw [lookC_put]
    by_cases hk : j = k
    · subst hk
      rw [has_put_same hm (ki_key _), if_pos rfl]; rfl
    · rw [has_put_other (fun e2 => hk (ki_inj e2).symm), if_neg hk]
      exact h.has k
  · intro k
    rw [lookC_put]
    by_cases hk : j = k
    · subst hk
      rw [atKey_put_same hm (ki_key _), if_pos rfl]; rfl
    · rw [atKey_put_other (fun e2 => hk (ki_inj e2).symm), if_neg hk]
      exact h.at_ k
abbrev tInt : TypeId := 3
abbrev tLast : TypeId := 58
abbrev tMapC : TypeId := 53
theorem keyedI : Keyed Tryz.prog tInt := int_keyed Tryz.underlying3
theorem key_ki {k : Int} (h : InI k) : keyOf Tryz.prog tInt (.int .i64 k) = some (ki k) := keyOf_int_mk Tryz.underlying3 (wf_of h)
/-- block q is a map of at most n entries that reads as the clients C -/
def MapC (w : World) (q n : Nat) (C : List Lst) : Prop := ∃ D, w.ownsMap Tryz.prog tInt lastR q n D ∧ LRel D C
theorem MapC.lt {w : World} {q n : Nat} {C : List Lst} (h : MapC w q n C) : q < w.heap.size := by
  obtain ⟨D, h1, _⟩ := h
  exact h1.lt
theorem MapC.mono {w : World} {q n m : Nat} {C : List Lst} (h : MapC w q n C) (hm : n ≤ m) : MapC w q m C := by
  obtain ⟨D, h1, h2⟩ := h
  exact ⟨D, h1.mono hm, h2⟩
theorem MapC.keep {w w1 : World} {q n : Nat} {C : List Lst} {S : Nat → Prop} (h : MapC w q n C) (hm : Mods S w w1) (hn : ¬ S q) : MapC w1 q n C := by
  have hlt := h.lt
  obtain ⟨D, ⟨es, clock, hb, r⟩, h2⟩ := h
  exact ⟨D, ⟨es, clock, (hm.block q hlt hn).trans hb, r⟩, h2⟩
theorem MapC.below {w w1 : World} {q n : Nat} {C : List Lst} (h : MapC w q n C) (hm : Below w.heap.size w w1) : MapC w1 q n C :=
  h.keep (S := fun _ => False) (Mods.of_below hm) (fun h => h)
theorem MapC.made (w : World) : MapC (w.alloc (.map #[] 0)) w.heap.size 0 [] := ⟨.map [], World.ownsMap_made _ _ _ _, LRel.nil⟩
theorem MapC.look {w : World} {q n : Nat} {C : List Lst} (h : MapC w q n C) {k : Int} (hk : InI k) :
    (Instr.lookup tMapC (.map (some q)) (.int .i64 k) false).run Tryz.prog w = .ok (lastV (seqL (lookC C k)) (repL (lookC C k))) w := by
  obtain ⟨D, h1, h2⟩ := h
  obtain ⟨v, ps, hrun, hv⟩ := h1.lookup keyedI Tryz.underlying53 (Tryz.zeroValue58 w) (lastR_mk 0 Rep.zero) (key_ki hk)
  rw [show lastD 0 Rep.zero = zL from rfl, h2.at_ k] at hv
  rw [hrun, lastR_inv hv]
theorem MapC.look_ok {w : World} {q n : Nat} {C : List Lst} (h : MapC w q n C) {k : Int} (hk : InI k) :
    (Instr.lookup tMapC (.map (some q)) (.int .i64 k) true).run Tryz.prog w = .ok (.tuple #[lastV (seqL (lookC C k)) (repL (lookC C k)), .bool (lookC C k).isSome]) w := by
  obtain ⟨D, h1, h2⟩ := h
  obtain ⟨v, ps, hrun, hv⟩ := h1.look_ok keyedI Tryz.underlying53 (Tryz.zeroValue58 w) (lastR_mk 0 Rep.zero) (key_ki hk)
  rw [show lastD 0 Rep.zero = zL from rfl, h2.at_ k] at hv
  rw [hrun, lastR_inv hv, h2.has k]
theorem MapC.put {w : World} {q n : Nat} {C : List Lst} (h : MapC w q n C) (hn : n < maxLen) (k s : Int) (r : Rep) (hk : InI k) :
    ∃ w1, (Instr.mapUpdate tMapC (.map (some q)) (.int .i64 k) (lastV s r)).run Tryz.prog w = .ok () w1 ∧ MapC w1 q (n + 1) (dropC C k ++ [⟨k, s, r⟩]) ∧ Mods (fun k => k = q) w w1 := by
  obtain ⟨D, h1, h2⟩ := h
  obtain ⟨w1, hrun, r1, r2⟩ := h1.store keyedI Tryz.underlying53 hn (key_ki hk) (lastR_mk s r)
  exact ⟨w1, hrun, ⟨_, r1, h2.put h1.isMap⟩, mods_turned r2⟩
theorem wpList_put_last {ops : Array Oper} {rest : List Oper} {o : Oper} {a : Act} {Q : Exit → Act → World → Prop} {w : World} {q n : Nat} {C : List Lst} (h : MapC w q n C) (hn : n < maxLen) (k s : Int) (r : Rep) (hk : InI k)
    (hg : o.guard = none) (m x v : Operand) (hop : o.op = Op.mapUpdate tMapC m x v) (hm : a.eval m = .map (some q)) (hx : a.eval x = .int .i64 k) (hv : a.eval v = .agg #[.int .i64 s, .int .i64 r.code, .string r.val, .int .i64 r.rev])
    (hK : ∀ w', MapC w' q (n + 1) (dropC C k ++ [⟨k, s, r⟩]) → Mods (fun k => k = q) w w' → wpList Tryz.prog ops Q rest (a.put o.dst undef) w') : wpList Tryz.prog ops Q (o :: rest) a w := by
  refine wpList_plain hg fun K' hK' => ?_
  obtain ⟨w', hrun, r1, r2⟩ := h.put hn k s r hk
  unfold Oper.wp
  have hrun : (Instr.mapUpdate tMapC (.map (some q)) (.int .i64 k) (.agg #[.int .i64 s, .int .i64 r.code, .string r.val, .int .i64 r.rev])).run Tryz.prog w = .ok () w' := hrun
  simp [execOp, hop, hm, hx, hv, hrun, Result.andThen]
  exact hK' _ _ (hK w' r1 r2)
/-- sessions at s: their settings at p (the map at b), their clients' map at q -/
structure SesAt (w : World) (s p b q n : Nat) (S : Ses) : Prop where
  box : w.heap[s]? = some (.cells #[.pointer (some ⟨p, 0, none⟩), .map (some q)] 55 (0, 0))
  app : AppAt w p b n S.A
  map : MapC w q n S.C
  bq : b ≠ q
section
variable {w w1 : World} {s p b q n : Nat} {S : Ses}
theorem SesAt.sb (h : SesAt w s p b q n S) : s ≠ b := by
  rintro rfl
  obtain ⟨D, ⟨es, clock, hb, _⟩, _⟩ := h.app.map
  rw [h.box] at hb
  cases hb
theorem SesAt.sq (h : SesAt w s p b q n S) : s ≠ q := by
  rintro rfl
  obtain ⟨D, ⟨es, clock, hb, _⟩, _⟩ := h.map
  rw [h.box] at hb
  cases hb
theorem SesAt.pq (h : SesAt w s p b q n S) : p ≠ q := by
  rintro rfl
  obtain ⟨D, ⟨es, clock, hb, _⟩, _⟩ := h.map
  rw [h.app.box] at hb
  cases hb
theorem SesAt.keep {T : Nat → Prop} (h : SesAt w s p b q n S) (hm : Mods T w w1) (h1 : ¬ T s) (h2 : ¬ T p) (h3 : ¬ T b) (h4 : ¬ T q) : SesAt w1 s p b q n S :=
  ⟨hm.heap h.box h1, h.app.keep hm h2 h3, h.map.keep hm h4, h.bq⟩
theorem SesAt.below (h : SesAt w s p b q n S) (hm : Below w.heap.size w w1) : SesAt w1 s p b q n S :=
  h.keep (T := fun _ => False) (Mods.of_below hm) (fun h => h) (fun h => h) (fun h => h) (fun h => h)
theorem SesAt.mono {m : Nat} (h : SesAt w s p b q n S) (hm : n ≤ m) : SesAt w s p b q m S := ⟨h.box, h.app.mono hm, h.map.mono hm, h.bq⟩
theorem SesAt.slt (h : SesAt w s p b q n S) : s < w.heap.size := M.heap_lt h.box
theorem SesAt.qlt (h : SesAt w s p b q n S) : q < w.heap.size := h.map.lt
end
theorem boxS {w : World} {s : Nat} {u0 u1 : Value} {T : TypeId} (h : w.heap[s]? = some (.cells #[u0, u1] T (0, 0))) : w.cell? ⟨s, 0, none⟩ = some u0 ∧ w.cell? ⟨s, 1, none⟩ = some u1 :=
  ⟨cell_of_row w s 0 _ _ _ h, cell_of_row w s 1 _ _ _ h⟩
set_option maxRecDepth 100000 in
set_option maxHeartbeats 2000000 in
theorem snew_any (w : World) :
    Calls Tryz.prog 6 #[] w fun e w' => ∃ s p b q, e = .returned (.pointer (some ⟨s, 0, none⟩)) ∧ (SesAt w' s p b q 0 ⟨[], []⟩ ∧ w.heap.size ≤ s ∧ w.heap.size ≤ p ∧ w.heap.size ≤ b ∧ w.heap.size ≤ q ∧ Below w.heap.size w w') := by
  have hmm := @run_makeMap Tryz.prog
  go_enter Tryz.func6, Tryz.ntmps6
  go_wp2_with fail
  refine (new_any w).mono ?_
  rintro e w1 ⟨p, b, rfl, ha, hp, hb, hbel⟩
  have HA := Lib.hid ha
  have HB := Lib.hid hbel
  have hsz := hbel.size
  have hbl := ha.blt
  clear ha hbel
  go_wp2_with fail
  go_ret
  have b1 : Below w1.heap.size w1 (w1.alloc (.map #[] 0)) := (Below.refl _ _).alloc (Nat.le_refl _) _
  have b2 : Below (w1.alloc (.map #[] 0)).heap.size (w1.alloc (.map #[] 0)) ((w1.alloc (.map #[] 0)).alloc (.cells #[.pointer (some ⟨p, 0, none⟩), .map (some w1.heap.size)] 55)) := (Below.refl _ _).alloc (Nat.le_refl _) _
  have b3 := b1.trans (b2.mono b1.size)
  refine ⟨w1.heap.size + 1, p, b, w1.heap.size, rfl, ⟨?_, HA.out.below b3, (MapC.made w1).below b2, by omega⟩, by omega, hp, hb, hsz, HB.out.trans (b3.mono hsz)⟩
  rw [heap_al, if_pos (by simp)]
set_option maxRecDepth 100000 in
set_option maxHeartbeats 2000000 in
theorem sapp_any (s p b q n : Nat) (S : Ses) (w : World) (h : SesAt w s p b q n S) :
    Calls Tryz.prog 14 #[.pointer (some ⟨s, 0, none⟩)] w fun e w' => ∃ p2 b2, e = .returned (.pointer (some ⟨p2, 0, none⟩)) ∧ (AppAt w' p2 b2 n S.A ∧ w.heap.size ≤ p2 ∧ w.heap.size ≤ b2 ∧ Below w.heap.size w w') := by
  obtain ⟨s0, s1⟩ := boxS h.box
  have HA := Lib.hid h.app
  clear h
  go_enter Tryz.func14, Tryz.ntmps14
  go_wp2_with fail
  refine (copy_any p b n S.A w HA.out).mono ?_
  rintro e w1 ⟨p2, b2, rfl, ha, hp, hb, hbel⟩
  have HP := Lib.hid (show AppAt w1 p2 b2 n S.A ∧ w.heap.size ≤ p2 ∧ w.heap.size ≤ b2 ∧ Below w.heap.size w w1 from ⟨ha, hp, hb, hbel⟩)
  clear ha hp hb hbel
  go_wp2_with fail
  go_ret
  exact ⟨p2, b2, rfl, HP.out⟩
end Go.Proofs.YtpeiamllkddhiaaGreatDoor.P
