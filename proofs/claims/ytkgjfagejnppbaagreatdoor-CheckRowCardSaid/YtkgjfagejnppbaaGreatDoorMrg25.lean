/- Several texts in one. -/
import Derived.Test.YtkgjfagejnppbaaGreatDoorMrg20
import Derived.Test.YtkgjfagejnppbaaGreatDoorMrg24
import Derived.Test.YtkgjfagejnppbaaGreatDoorMrg21
import Derived.Test.YtkgjfagejnppbaaGreatDoorMrg3
import Derived.Deep.AppendLies
import Derived.Laws.OwnMore
import Derived.Test.YtkgjfagejnppbaaGreatDoorMrg12
import Derived.Sort.Walk0
import Derived.Lib.ItoaLen
import Derived.Deep.DeepCutAuto

/- Two engines side by side: what each call makes of the two. -/
namespace Go.Proofs.YtkgjfagejnppbaaGreatDoor.O
open Go.RowKit Go.Proofs.YtkgjfagejnppbaaGreatDoor.M Go.BigFrame Go.Proofs.YtkgjfagejnppbaaGreatDoor.K
set_option linter.unusedVariables false
set_option linter.unusedSimpArgs false

/-- an engine, and the blocks that are its own -/
structure Eng (w : World) (p n : Nat) (L : List Rv) (D : List Id) (F : Nat → Prop) : Prop where
  ex : ∃ b1 b2 ro rc, EngAt w p b1 b2 n D.length ro rc L D ∧ ∀ j, EngF p b1 b2 ro j → F j
  dp : ∀ x ∈ L, ∀ a, x.ao = some a → x.deps ≠ [] → F a.block
  lt : ∀ j, F j → j < w.heap.size
def FGrow (F : Nat → Prop) (w w' : World) : Nat → Prop := fun j => F j ∨ (w.heap.size ≤ j ∧ j < w'.heap.size)
theorem Eng.keep {w w1 : World} {p n : Nat} {L : List Rv} {D : List Id} {F S : Nat → Prop} (h : Eng w p n L D F) (hm : Mods S w w1) (hn : ∀ j, F j → ¬ S j) : Eng w1 p n L D F := by
  obtain ⟨b1, b2, ro, rc, h1, h2⟩ := h.ex
  exact ⟨⟨b1, b2, ro, rc, h1.keep hm (fun j hj => hn j (h2 j hj)) (fun x hx a e hne => hn _ (h.dp x hx a e hne)), h2⟩, h.dp, fun j hj => Nat.lt_of_lt_of_le (h.lt j hj) hm.size⟩
theorem Eng.below {w w1 : World} {p n : Nat} {L : List Rv} {D : List Id} {F : Nat → Prop} (h : Eng w p n L D F) (hb : Below w.heap.size w w1) : Eng w1 p n L D F :=
  h.keep (S := fun _ => False) (M.Mods.of_below hb) (fun _ _ h => h)
theorem Eng.nd {w : World} {p n : Nat} {L : List Rv} {D : List Id} {F : Nat → Prop} (h : Eng w p n L D F) : (idsX L).Nodup := by
  obtain ⟨_, _, _, _, h1, _⟩ := h.ex
  exact h1.wt.nd
theorem eng_new (w : World) :
    Calls Tryz.prog 30 #[] w fun e w' => ∃ p F, e = .returned (.pointer (some ⟨p, 0, none⟩)) ∧ (Eng w' p 0 [] [] F ∧ (∀ j, F j → w.heap.size ≤ j) ∧ Below w.heap.size w w') := by
  refine (engnew_any w).mono ?_
  rintro e w' ⟨p, b1, b2, rfl, h1, h2, h3⟩
  exact ⟨p, EngF p b1 b2 none, rfl, ⟨⟨b1, b2, none, 0, h1, fun _ h => h⟩, fun x hx => (by cases hx), h1.lts⟩, h2, h3⟩
theorem eng_commit (p n : Nat) (L : List Rv) (D : List Id) (F : Nat → Prop) (x : Rv) (w : World) (h : Eng w p n L D F) (h0 : RvOk w x) (hT : Go.Proofs.YtkgjfagejnppbaaGreatDoor.R.Tabs w) (hl : x.deps.length ≤ 1000000) (hk : x.cmd.key.size ≤ 1000000) (hn : n ≤ 1000000) (hg : goodR x = true) (hth : thereB L D x.id = false) :
    Calls Tryz.prog 31 #[.pointer (some ⟨p, 0, none⟩), recV x] w fun e w' => e = .returned (.bool true) ∧ ∃ y, core y = core x ∧ Eng w' p (n + 1) (L ++ [y]) D (FGrow F w w') ∧ Mods F w w' := by
  obtain ⟨b1, b2, ro, rc, h1, h2⟩ := h.ex
  refine (engcommit_yes p b1 b2 n D.length ro rc L D x w h1 h0 hT hl hk hn hg hth).mono ?_
  rintro e w' ⟨ao, cap, rfl, g1, g2, g3⟩
  refine ⟨rfl, { x with ao := ao, cap := cap }, rfl, ⟨⟨b1, b2, ro, rc, g1, fun j hj => .inl (h2 j hj)⟩, fun z hz a e hne => ?_, fun j hj => ?_⟩, g2.mono fun k _ e => by rw [e]; exact h2 _ (.inr (.inl rfl))⟩
  · rcases List.mem_append.1 hz with hz | hz
    · exact .inl (h.dp z hz a e hne)
    · have := (g1.ok z (List.mem_append_right _ hz)).1.deps.blt a e hne
      rw [List.mem_singleton.1 hz] at e
      exact .inr ⟨g3 a e, this⟩
  · rcases hj with hj | hj
    · exact Nat.lt_of_lt_of_le (h.lt j hj) g2.size
    · exact hj.2
end Go.Proofs.YtkgjfagejnppbaaGreatDoor.O

/- check: its maps in memory. -/
namespace Go.Proofs.YtkgjfagejnppbaaGreatDoor.X
open Go.RowKit Go.Proofs.YtkgjfagejnppbaaGreatDoor.M Go.BigFrame Go.Maps Go.Proofs.YtkgjfagejnppbaaGreatDoor.O Go.Proofs.YtkgjfagejnppbaaGreatDoor.P Go.Proofs.YtkgjfagejnppbaaGreatDoor.Mp
set_option linter.unusedVariables false
set_option linter.unusedSimpArgs false

def cmd0 : Cmd := ⟨0, 0, 0, nul, nul, 0⟩
theorem cmdV_inj {a b : Cmd} (h : cmdV a = cmdV b) : a = b := by
  obtain ⟨a1, a2, a3, a4, a5, a6⟩ := a
  obtain ⟨b1, b2, b3, b4, b5, b6⟩ := b
  simp only [cmdV, Value.agg.injEq, Array.mk.injEq, List.cons.injEq, Value.int.injEq, Value.string.injEq, true_and, and_true] at h
  obtain ⟨rfl, rfl, rfl, rfl, rfl, rfl⟩ := h
  rfl
theorem idV_inj {a b : O.Id} (h : idV a = idV b) : a = b := by
  simp only [Value.agg.injEq, Array.mk.injEq, List.cons.injEq, Value.int.injEq, true_and, and_true] at h
  exact Id.eq_of h.1 h.2
/-- ids to commands -/
def sIC : MapS O.Id Cmd := { t := 77, e := 30, kt := 37, key := idV, lit := klI, ok := IdI, enc := cmdV, z := cmd0 }
set_option maxRecDepth 100000 in
theorem lIC : sIC.Law where
  keyed := id_keyed
  und := Tryz.underlying77
  zero := fun w => by kernel_rfl
  mkk := key_id
  isk := klI_key
  inj := fun a b h => idV_inj h

theorem wfI {n : Int} (h : InI n) : (Lit.int .i64 n).wf = true := wf_of64 h
theorem keyLits_int (d : Nat) {x : Int} (h : InI x) : Tryz.prog.keyLits (d + 1) 3 [.int .i64 x] = some [.int .i64 x] := by
  unfold Program.keyLits
  rw [Tryz.underlying3]
  simp [wfI h]
/-! A client's command. -/
def whoV (a : Who) : Value := .agg #[.int .i64 a.1, .int .i64 a.2]
def klW (a : Who) : Lit := .string (keyBytes [.int .i64 a.1, .int .i64 a.2])
def WhoOk (a : Who) : Prop := InI a.1 ∧ InI a.2
theorem who_law : WideMaps.KeyLaw Tryz.prog 84 := deep_law_laid id_laid (m := 2) (by omega) (of_decide_eq_true (by kernel_rfl)) (by kernel_rfl) (by rw [Tryz.underlying84])
set_option maxRecDepth 100000 in
theorem key_who (a : Who) (ha : WhoOk a) : keyOf Tryz.prog 84 (whoV a) = some (klW a) := by
  obtain ⟨h1, h2⟩ := ha
  have hc : Tryz.prog.cellsOf 84 = 2 := by kernel_rfl
  have hc3 : Tryz.prog.cellsOf 3 = 1 := by kernel_rfl
  simp [keyOf, Tryz.underlying84, Value.formed, Value.cells, klW, whoV]
  refine ⟨⟨by kernel_rfl, hc.symm⟩, [.int .i64 a.1, .int .i64 a.2], ?_, rfl⟩
  have e1 : ∀ d : Nat, Tryz.prog.keyLits (d + 1 + 1) 84 [.int .i64 a.1, .int .i64 a.2] = some [.int .i64 a.1, .int .i64 a.2] := fun d => by
    unfold Program.keyLits
    rw [Tryz.underlying84]
    simp [hc, hc3, keyLits_int d h1, keyLits_int d h2]
  exact e1 _
def sWI : MapS Who Int := { t := 81, e := 3, kt := 84, key := whoV, lit := klW, ok := WhoOk, enc := fun n => .int .i64 n, z := 0 }
set_option maxRecDepth 100000 in
theorem lWI : sWI.Law where
  keyed := .of_law who_law
  und := Tryz.underlying81
  zero := fun w => by kernel_rfl
  mkk := key_who
  isk := fun k => trivial
  inj := fun a b h => by
    simp only [sWI, whoV, Value.agg.injEq, Array.mk.injEq, List.cons.injEq, Value.int.injEq, true_and, and_true] at h
    exact Prod.ext h.1 h.2
/-! A client's greatest number. -/
def sII : MapS Int Int := { t := 82, e := 3, kt := 3, key := fun k => .int .i64 k, lit := fun k => .int .i64 k, ok := InI, enc := fun n => .int .i64 n, z := 0 }
set_option maxRecDepth 100000 in
theorem lII : sII.Law where
  keyed := Maps.int_keyed Tryz.underlying3
  und := Tryz.underlying82
  zero := fun w => by kernel_rfl
  mkk := fun k h => Maps.keyOf_int_mk Tryz.underlying3 (wfI h)
  isk := fun k => trivial
  inj := fun a b h => by
    simp only [sII, Value.int.injEq, true_and] at h
    exact h
/-! Commands that were called. -/
def klC (c : Cmd) : Lit := .string (keyBytes [.int .i64 c.kind, .int .i64 c.client, .int .i64 c.seq, .string c.key.data.toList, .string c.val.data.toList, .int .i64 c.rev])
theorem cmd_law : WideMaps.KeyLaw Tryz.prog 30 := deep_law_laid id_laid (m := 2) (by omega) (of_decide_eq_true (by kernel_rfl)) (by kernel_rfl) (by rw [Tryz.underlying30])
set_option maxRecDepth 100000 in
theorem key_cmd (c : Cmd) (h : CmdOk c) : keyOf Tryz.prog 30 (cmdV c) = some (klC c) := by
  have hc : Tryz.prog.cellsOf 30 = 6 := by kernel_rfl
  have hc3 : Tryz.prog.cellsOf 3 = 1 := by kernel_rfl
  have hcs : Tryz.prog.cellsOf 9 = 1 := by kernel_rfl
  have es : ∀ (d : Nat) (s : ByteArray), s.size ≤ maxLen → Tryz.prog.keyLits (d + 1) 9 [.string s] = some [.string s.data.toList] := fun d s hs => by
    unfold Program.keyLits
    rw [Tryz.underlying9]
    simp [hs]
  simp [keyOf, Tryz.underlying30, Value.formed, Value.cells, klC, cmdV]
  refine ⟨⟨by kernel_rfl, hc.symm⟩, [.int .i64 c.kind, .int .i64 c.client, .int .i64 c.seq, .string c.key.data.toList, .string c.val.data.toList, .int .i64 c.rev], ?_, rfl⟩
  have e1 : ∀ d : Nat, Tryz.prog.keyLits (d + 1 + 1) 30 [.int .i64 c.kind, .int .i64 c.client, .int .i64 c.seq, .string c.key, .string c.val, .int .i64 c.rev] = some [.int .i64 c.kind, .int .i64 c.client, .int .i64 c.seq, .string c.key.data.toList, .string c.val.data.toList, .int .i64 c.rev] := fun d => by
    unfold Program.keyLits
    rw [Tryz.underlying30]
    simp [hc, hc3, hcs, keyLits_int d h.kind, keyLits_int d h.client, keyLits_int d h.seq, keyLits_int d h.rev, es d _ h.key, es d _ h.val]
  exact e1 _
def sCB : MapS Cmd Bool := { t := 80, e := 4, kt := 30, key := cmdV, lit := klC, ok := CmdOk, enc := fun n => .bool n, z := false }
set_option maxRecDepth 100000 in
theorem lCB : sCB.Law where
  keyed := .of_law cmd_law
  und := Tryz.underlying80
  zero := fun w => by kernel_rfl
  mkk := key_cmd
  isk := fun k => trivial
  inj := fun a b h => cmdV_inj h
end Go.Proofs.YtkgjfagejnppbaaGreatDoor.X

/- Rows of structs in memory, whatever the struct: of one's own, and as they are read; append. -/
namespace Go.Proofs.YtkgjfagejnppbaaGreatDoor.Rw
open Go.RowKit Go.Proofs.YtkgjfagejnppbaaGreatDoor.M
set_option linter.unusedVariables false
set_option linter.unusedSimpArgs false

section
variable {P : Program} {w : World} {α : Type}
/-- nothing is appended -/
theorem run_append_owned_empty (base : Nat) (t ty e : TypeId) (i : TypeInfo) (size : Nat) (ht : P.underlying t = some (.slice e)) (hi : P.info? e = some i)
    (v : Value) (n : Nat) (xs : List Value) (hown : w.ownsRow base e size v n xs) (ao : Option Addr) (c : Nat) :
    (Builtin.append_ #[t, t] ty #[v, .slice ao 0 c]).run P w = .ok v w := by
  rcases hown.2 with ⟨rfl, rfl⟩ | ⟨g, cap, cur, rfl, _, _, hnc, _⟩
  · cases ao <;> simp [Builtin.append_, run_underlying ht, sizeOf, typeInfo, hi, Builtin.lenOf, Builtin.firstCells, loadCells, loadCellsFrom]
  · cases ao <;> simp [Builtin.append_, run_underlying ht, sizeOf, typeInfo, hi, Builtin.lenOf, Builtin.firstCells, hnc, loadCells, loadCellsFrom, storeCells]
theorem flat_len (enc : α → List Value) (k : Nat) (hk : ∀ x, (enc x).length = k) : ∀ l : List α, (l.flatMap enc).length = l.length * k
  | [] => by simp
  | a :: t => by rw [List.flatMap_cons, List.length_append, hk, flat_len enc k hk t, List.length_cons, Nat.add_mul, Nat.one_mul, Nat.add_comm]
theorem flat_get (enc : α → List Value) (k : Nat) (hk : ∀ x, (enc x).length = k) : ∀ (l : List α) (i : Nat) (x : α), l[i]? = some x → ∀ j, j < k → (l.flatMap enc)[i * k + j]? = (enc x)[j]?
  | [], i, x, h, j, hj => by simp at h
  | a :: t, 0, x, h, j, hj => by
    cases h
    rw [List.flatMap_cons, Nat.zero_mul, Nat.zero_add, List.getElem?_append_left (by rw [hk]; exact hj)]
  | a :: t, i + 1, x, h, j, hj => by
    have ih := flat_get enc k hk t i x (by simpa using h) j hj
    rw [List.flatMap_cons, List.getElem?_append_right (by rw [hk, Nat.add_mul, Nat.one_mul]; omega), ← ih, hk]
    congr 1
    rw [Nat.add_mul, Nat.one_mul]
    omega
/-- what is appended lies here -/
def SrcAt (w : World) (so : Option Addr) (l : List Value) : Prop := l ≠ [] → ∃ ad, so = some ad ∧ ∀ j u, l[j]? = some u → w.cell? (ad.add j) = some u
theorem SrcAt.of_own {B : Nat} {e : TypeId} {k n : Nat} {so : Option Addr} {sc : Nat} {l : List Value} (h : w.ownsRow B e k (.slice so n sc) n l) : SrcAt w so l := by
  intro hne
  obtain ⟨ao', cap', e0, h1, h2, h3, h4⟩ := own_view h
  cases e0
  cases so with
  | none =>
    rcases h.2 with ⟨h5, h6⟩ | ⟨g, cap, cur, h5, _⟩
    · refine absurd (List.eq_nil_of_length_eq_zero ?_) hne
      rw [h.1, h6, Nat.zero_mul]
    · cases h5
  | some a =>
    obtain ⟨g, cur, rfl, _, hg, hsz, htk⟩ := h4 a rfl
    refine ⟨_, rfl, fun j u hj => ?_⟩
    have hjl : j < n * k := by
      have := (List.getElem?_eq_some_iff.1 hj).1
      rw [← htk, List.length_take] at this
      omega
    have ea : (⟨g, 0, none⟩ : Addr).add j = ⟨g, 0 + j, none⟩ := by
      unfold Addr.add
      split
      · next e => rw [e]
      · rfl
    rw [ea, cell_of_row w g _ _ _ _ hg, Nat.zero_add, ← Array.getElem?_toList, ← hj, ← htk, List.getElem?_take_of_lt hjl]
theorem wpList_apps2 (enc : α → List Value) (k : Nat) (hk : ∀ x, (enc x).length = k) (h0 : 0 < k) (h1 : ∀ x, ∀ v ∈ enc x, v.oneCell' = true) {ops : Array Oper} {rest : List Oper} {o : Oper} {a : Act} {Q : Exit → Act → World → Prop} (hgd : o.guard = none) (s x : Operand) (t : TypeId)
    (ho : o.op = .call { callee := .builtin .append, args := #[s, x], argTypes := #[t, t] }) (B : Nat) (e : TypeId) (i : TypeInfo) (z : Value) (bytes : Nat) (ht : P.underlying t = some (.slice e)) (hi : P.info? e = some i) (hz : i.zero = some z)
    (hsize : i.size = k) (hby : i.bytes = bytes) (hb2 : bytes ≤ 1000) (hzs : z.cells.size = k) (oo : Option Addr) (oc m : Nat) (M : List α) (hMl : M.length = m) (so : Option Addr) (sc n : Nat) (N : List α) (hNl : N.length = n) (hs : a.eval s = .slice oo m oc)
    (hown : w.ownsRow B e k (.slice oo m oc) m (M.flatMap enc)) (hx : a.eval x = .slice so n sc) (hsrc : SrcAt w so (N.flatMap enc)) (hM : m + n ≤ 100000000) (hB : B ≤ w.heap.size)
    (h : ∀ oo' oc' w', w'.ownsRow B e k (.slice oo' (m + n) oc') (m + n) ((M ++ N).flatMap enc) → Mods (fun j => ∃ a, oo = some a ∧ j = a.block) w w' → Below B w w' → (∀ a, oo' = some a → (∃ a0, oo = some a0 ∧ a.block = a0.block) ∨ w.heap.size ≤ a.block) → wpList P ops Q rest (a.put o.dst (.slice oo' (m + n) oc')) w') :
    wpList P ops Q (o :: rest) a w := by
  cases N with
  | nil =>
    obtain rfl : n = 0 := by rw [← hNl]; rfl
    have hrun := run_append_owned_empty (P := P) (w := w) B t o.type e i k ht hi _ _ _ hown so sc
    have hK := h oo oc w (by simpa using hown) (Mods.refl _ _) (Below.refl _ _) (fun a e => .inl ⟨a, e, rfl⟩)
    rw [Nat.add_zero] at hK
    refine wpList_plain hgd fun K hKK => ?_
    unfold Oper.wp
    simp [execOp, ho, resolve, invoke, builtin, hs, hx, hrun, Result.andThen]
    exact hKK _ _ hK
  | cons y N' =>
    obtain ⟨N, hN⟩ : ∃ N, y :: N' = N := ⟨_, rfl⟩
    have hpos : 0 < n := by rw [← hNl]; simp
    rw [hN] at hNl hsrc h
    clear hN
    have hlen : (N.flatMap enc).length = n * k := by rw [← hNl]; exact flat_len enc k hk N
    have hne : N.flatMap enc ≠ [] := fun e0 => by
      rw [e0] at hlen
      have := Nat.mul_pos hpos h0
      simp at hlen
      omega
    obtain ⟨ad, rfl, hcells⟩ := hsrc hne
    refine wpList_append_lies _ hgd s x t ho B e i z k bytes ht hi hz hsize hby hzs h0 (.slice oo m oc) m (M.flatMap enc) hs hown ad n sc (N.flatMap enc) hx hlen hcells
      (fun u hu => by obtain ⟨x, hx1, hx2⟩ := List.mem_flatMap.1 hu; exact h1 x u hx2) hpos (by unfold maxLen; omega) ?_ hB w.heap.size rfl ?_
    · have : (m + n) * bytes ≤ 100000000 * 1000 := Nat.mul_le_mul (by omega) hb2
      omega
    · intro g cap w' hown' hgrow hgg _
      have hm : Mods (fun j => ∃ a, oo = some a ∧ j = a.block) w w' := (Mods.refl _ w).then (Mods.of_grown hgrow) (fun k _ hk => by
        cases oo with
        | none => cases hk
        | some a => exact ⟨a, rfl, (Option.some.inj hk).symm⟩)
      have hb : Below B w w' := hm.below (fun j ⟨a, e1, e2⟩ => by
        subst e1
        rw [e2]
        exact (hown.lt a.block rfl).1) hB
      exact h (some ⟨g, 0, none⟩) cap w' (by rw [List.flatMap_append]; exact hown') hm hb (fun a e => by
        cases e
        rcases hgg with h1 | h1
        · left
          cases oo with
          | none => cases h1
          | some a0 => exact ⟨a0, rfl, (Option.some.inj h1).symm⟩
        · right
          exact Nat.le_of_eq h1.symm)
end
/-- a kind of rows: the slice's type, the elements' type, how many cells an element has, its cells, its bytes -/
structure RowS (α : Type) where
  t : TypeId
  e : TypeId
  k : Nat
  enc : α → List Value
  bytes : Nat
structure RowS.Law {α : Type} (S : RowS α) : Prop where
  und : Tryz.prog.underlying S.t = some (.slice S.e)
  info : ∃ i z, Tryz.prog.info? S.e = some i ∧ i.zero = some z ∧ i.size = S.k ∧ i.bytes = S.bytes ∧ z.cells.size = S.k
  len : ∀ x, (S.enc x).length = S.k
  pos : 0 < S.k
  by_ : S.bytes ≤ 1000
  one : ∀ x, ∀ v ∈ S.enc x, v.oneCell' = true
theorem info_of {t : TypeId} {z : Value} {k b : Nat} (h : (Tryz.prog.info? t).map (fun i => (i.zero, i.size, i.bytes)) = some (some z, k, b)) (hz : z.cells.size = k) : ∃ i z, Tryz.prog.info? t = some i ∧ i.zero = some z ∧ i.size = k ∧ i.bytes = b ∧ z.cells.size = k := by
  obtain ⟨i, hi, e⟩ := Option.map_eq_some_iff.1 h
  simp only [Prod.mk.injEq] at e
  exact ⟨i, z, hi, e.1, e.2.1, e.2.2, hz⟩
section
variable {α : Type} {S : RowS α} {w w1 w2 : World} {B B2 oc : Nat} {oo : Option Addr} {X Y : List α}
/-- a row of one's own -/
def OwnG (S : RowS α) (w : World) (B : Nat) (oo : Option Addr) (oc : Nat) (X : List α) : Prop := w.ownsRow B S.e S.k (.slice oo X.length oc) X.length (X.flatMap S.enc)
/-- a row as it is read -/
structure RowV (S : RowS α) (w : World) (oo : Option Addr) (oc : Nat) (X : List α) : Prop where
  le : X.length ≤ oc ∧ oc ≤ maxLen
  row : ∀ i x, X[i]? = some x → ∃ b off, oo = some ⟨b, off, none⟩ ∧ b < w.heap.size ∧ ∀ j, j < S.k → w.cell? ⟨b, off + i * S.k + j, none⟩ = (S.enc x)[j]?
theorem OwnG.nil (S : RowS α) (w : World) (B : Nat) : OwnG S w B none 0 [] := World.ownsRow_nil _ _ _ _
theorem OwnG.keep {F : Nat → Prop} (h : OwnG S w B oo oc X) (hm : Mods F w w1) (hn : ∀ a, oo = some a → ¬ F a.block) : OwnG S w1 B oo oc X :=
  own_kept h hm fun k hk => by
    cases oo with
    | none => cases hk
    | some a =>
      obtain rfl : a.block = k := Option.some.inj hk
      exact hn a rfl
theorem OwnG.below (h : OwnG S w B oo oc X) (hb : Below w.heap.size w w1) : OwnG S w1 B oo oc X := h.keep (F := fun _ => False) (Mods.of_below hb) (fun _ _ h => h)
theorem OwnG.cells (h : OwnG S w B oo oc X) : ∀ a, oo = some a → ∃ cur, w.heap[a.block]? = some (.cells cur S.e (0, 0)) ∧ B ≤ a.block ∧ a.block < w.heap.size := by
  intro a e
  obtain ⟨ao', cap', e0, _, _, _, h4⟩ := own_view h
  cases e0
  obtain ⟨g, cur, rfl, hB, hg, _⟩ := h4 a e
  exact ⟨cur, hg, hB, M.heap_lt hg⟩
theorem OwnG.base (h : OwnG S w B oo oc X) (hb : B2 ≤ B) : OwnG S w B2 oo oc X := own_base h fun k hk => by
  cases oo with
  | none => cases hk
  | some a =>
    obtain rfl : a.block = k := Option.some.inj hk
    obtain ⟨_, _, h2, _⟩ := h.cells a rfl
    omega
theorem OwnG.len (h : OwnG S w B oo oc X) : X.length ≤ oc ∧ oc ≤ maxLen := by
  obtain ⟨ao', cap', e0, h1, h2, _⟩ := own_view h
  cases e0
  exact ⟨h1, h2⟩
/-- rows of two kinds lie apart -/
theorem OwnG.apart {β : Type} {S2 : RowS β} {oo2 : Option Addr} {oc2 : Nat} {Y : List β} (h : OwnG S w B oo oc X) (h2 : OwnG S2 w B2 oo2 oc2 Y) (he : S.e ≠ S2.e) : ∀ a, oo = some a → ∀ a2, oo2 = some a2 → a.block ≠ a2.block := by
  intro a e a2 e2 hb
  obtain ⟨c1, h1, _⟩ := h.cells a e
  obtain ⟨c2, h2, _⟩ := h2.cells a2 e2
  rw [hb, h2] at h1
  simp only [Option.some.injEq, Obj.cells.injEq] at h1
  exact he h1.2.1.symm
/-- one stays where one of another kind grows -/
theorem OwnG.beside {β : Type} {S2 : RowS β} {oo2 : Option Addr} {oc2 : Nat} {Y : List β} (h : OwnG S w B oo oc X) (h2 : OwnG S2 w B2 oo2 oc2 Y) (he : S.e ≠ S2.e) (hm : Mods (fun j => ∃ a, oo2 = some a ∧ j = a.block) w w1) : OwnG S w1 B oo oc X :=
  h.keep hm fun a e ⟨a2, e2, eb⟩ => h.apart h2 he a e a2 e2 eb
theorem OwnG.view (hS : S.Law) (h : OwnG S w B oo oc X) : RowV S w oo oc X := by
  obtain ⟨ao', cap', e0, h1, h2, h3, h4⟩ := own_view h
  cases e0
  refine ⟨⟨h1, h2⟩, fun i x hx => ?_⟩
  have hil := (List.getElem?_eq_some_iff.1 hx).1
  cases oo with
  | none =>
    have := (h3 rfl).1
    omega
  | some a =>
    obtain ⟨g, cur, rfl, hB, hg, hsz, htk⟩ := h4 a rfl
    refine ⟨g, 0, rfl, M.heap_lt hg, fun j hj => ?_⟩
    have hjl : i * S.k + j < X.length * S.k := by
      have : (i + 1) * S.k ≤ X.length * S.k := Nat.mul_le_mul_right _ hil
      rw [Nat.add_mul, Nat.one_mul] at this
      omega
    have ec := flat_get S.enc S.k hS.len X i x hx j hj
    rw [← ec, ← htk, List.getElem?_take_of_lt hjl, Array.getElem?_toList, Nat.zero_add]
    cases hv : cur[i * S.k + j]? with
    | none =>
      rw [World.cell?, hg]
      simp [hv]
    | some v =>
      rw [World.cell?, hg]
      simp [hv]
theorem RowV.keep {F : Nat → Prop} (h : RowV S w oo oc X) (hm : Mods F w w1) (hn : ∀ a, oo = some a → ¬ F a.block) : RowV S w1 oo oc X :=
  ⟨h.le, fun i x hx => by
    obtain ⟨b, off, e, hb, hc⟩ := h.row i x hx
    exact ⟨b, off, e, Nat.lt_of_lt_of_le hb hm.size, fun j hj => (hm.cell (p := ⟨b, off + i * S.k + j, none⟩) hb (hn ⟨b, off, none⟩ e)).trans (hc j hj)⟩⟩
theorem RowV.below (h : RowV S w oo oc X) (hb : Below w.heap.size w w1) : RowV S w1 oo oc X := h.keep (F := fun _ => False) (Mods.of_below hb) (fun _ _ h => h)
theorem RowV.nil (S : RowS α) (w : World) : RowV S w none 0 [] := ⟨⟨Nat.le_refl _, Nat.zero_le _⟩, fun i x h => by simp at h⟩
theorem RowV.src (hS : S.Law) (h : RowV S w oo oc X) : SrcAt w oo (X.flatMap S.enc) := by
  intro hne
  have hl : 0 < X.length := by
    cases X with
    | nil => exact absurd rfl hne
    | cons a t => simp
  obtain ⟨x0, hx0⟩ : ∃ x, X[0]? = some x := ⟨_, List.getElem?_eq_getElem hl⟩
  obtain ⟨b, off, e, _, _⟩ := h.row 0 x0 hx0
  refine ⟨_, e, fun j u hj => ?_⟩
  have hjl : j < X.length * S.k := by rw [← flat_len S.enc S.k hS.len]; exact (List.getElem?_eq_some_iff.1 hj).1
  have hk := hS.pos
  have hq : j / S.k < X.length := (Nat.div_lt_iff_lt_mul hk).2 hjl
  have hr : j % S.k < S.k := Nat.mod_lt _ hk
  obtain ⟨x, hx⟩ : ∃ x, X[j / S.k]? = some x := ⟨_, List.getElem?_eq_getElem hq⟩
  obtain ⟨b2, off2, e2, _, hc⟩ := h.row _ x hx
  rw [e] at e2
  cases e2
  have h1 := flat_get S.enc S.k hS.len X _ x hx _ hr
  have ej : j / S.k * S.k + j % S.k = j := Nat.div_add_mod' j S.k
  rw [ej, hj] at h1
  have h2 := hc _ hr
  rw [Nat.add_assoc, ej] at h2
  have ea : (⟨b, off, none⟩ : Addr).add j = ⟨b, off + j, none⟩ := by
    unfold Addr.add
    split
    · next e => rw [e]; rfl
    · rfl
  rw [ea, h2, ← h1]
/-- append, of a row that lies somewhere -/
theorem wpList_rowApps (hS : S.Law) {ops : Array Oper} {rest : List Oper} {o : Oper} {a : Act} {Q : Exit → Act → World → Prop} (hgd : o.guard = none) (s x : Operand)
    (ho : o.op = .call { callee := .builtin .append, args := #[s, x], argTypes := #[S.t, S.t] }) (B : Nat) (oo : Option Addr) (oc : Nat) (so : Option Addr) (sc : Nat) (X Y : List α) (hs : a.eval s = .slice oo X.length oc)
    (hown : OwnG S w B oo oc X) (hx : a.eval x = .slice so Y.length sc) (hsrc : SrcAt w so (Y.flatMap S.enc)) (hM : X.length + Y.length ≤ 100000000) (hB : B ≤ w.heap.size)
    (h : ∀ oo' oc' w', OwnG S w' B oo' oc' (X ++ Y) → Mods (fun j => ∃ a, oo = some a ∧ j = a.block) w w' → Below B w w' → (∀ a, oo' = some a → (∃ a0, oo = some a0 ∧ a.block = a0.block) ∨ w.heap.size ≤ a.block) → wpList Tryz.prog ops Q rest (a.put o.dst (.slice oo' (X.length + Y.length) oc')) w') :
    wpList Tryz.prog ops Q (o :: rest) a w := by
  obtain ⟨i, z, h1, h2, h3, h4, h5⟩ := hS.info
  refine wpList_apps2 S.enc S.k hS.len hS.pos hS.one hgd s x S.t ho B S.e i z S.bytes hS.und h1 h2 h3 h4 hS.by_ h5 oo oc X.length X rfl so sc Y.length Y rfl hs hown hx hsrc hM hB ?_
  intro oo' oc' w' k1 k2 k3 k4
  refine h oo' oc' w' ?_ k2 k3 k4
  unfold OwnG
  rw [List.length_append]
  exact k1
/-- append, of elements that lie in a block that was made for them -/
theorem wpList_rowApp (hS : S.Law) {ops : Array Oper} {rest : List Oper} {o : Oper} {a : Act} {Q : Exit → Act → World → Prop} (hgd : o.guard = none) (s x : Operand)
    (ho : o.op = .call { callee := .builtin .append, args := #[s, x], argTypes := #[S.t, S.t] }) (B : Nat) (oo : Option Addr) (oc n : Nat) (X Y : List α) (g : Nat) (cs : Array Value) (hg : w.heap[g]? = some (.cells cs S.e (0, 0))) (hcs : cs.toList = Y.flatMap S.enc) (hn : Y.length = n) (hs : a.eval s = .slice oo X.length oc)
    (hown : OwnG S w B oo oc X) (hx : a.eval x = .slice (some ⟨g, 0, none⟩) n n) (hM : X.length + Y.length ≤ 100000000) (hB : B ≤ w.heap.size)
    (h : ∀ oo' oc' w', OwnG S w' B oo' oc' (X ++ Y) → Mods (fun j => ∃ a, oo = some a ∧ j = a.block) w w' → Below B w w' → (∀ a, oo' = some a → (∃ a0, oo = some a0 ∧ a.block = a0.block) ∨ w.heap.size ≤ a.block) → wpList Tryz.prog ops Q rest (a.put o.dst (.slice oo' (X.length + Y.length) oc')) w') :
    wpList Tryz.prog ops Q (o :: rest) a w := by
  refine wpList_rowApps hS hgd s x ho B oo oc (some ⟨g, 0, none⟩) n X Y hs hown (by rw [hx, hn]) (fun _ => ⟨_, rfl, fun j u hj => ?_⟩) hM hB h
  have ea : (⟨g, 0, none⟩ : Addr).add j = ⟨g, 0 + j, none⟩ := by
    unfold Addr.add
    split
    · next e => rw [e]
    · rfl
  rw [ea, World.cell?, hg]
  rw [← hcs, Array.getElem?_toList] at hj
  simp [hj]
end
end Go.Proofs.YtkgjfagejnppbaaGreatDoor.Rw

/- check: its rows in memory. -/
namespace Go.Proofs.YtkgjfagejnppbaaGreatDoor.X
open Go.RowKit Go.Proofs.YtkgjfagejnppbaaGreatDoor.M Go.BigFrame Go.Proofs.YtkgjfagejnppbaaGreatDoor.O Go.Proofs.YtkgjfagejnppbaaGreatDoor.P Go.Proofs.YtkgjfagejnppbaaGreatDoor.Mp Go.Proofs.YtkgjfagejnppbaaGreatDoor.Rw
set_option linter.unusedVariables false
set_option linter.unusedSimpArgs false

def cmdC (c : Cmd) : List Value := [.int .i64 c.kind, .int .i64 c.client, .int .i64 c.seq, .string c.key, .string c.val, .int .i64 c.rev]
def repC (r : Rep) : List Value := [.int .i64 r.code, .string r.val, .int .i64 r.rev]
def evC (e : Ev) : List Value := [.int .i64 e.kind, .int .i64 e.at_, .int .i64 e.cmd.kind, .int .i64 e.cmd.client, .int .i64 e.cmd.seq, .string e.cmd.key, .string e.cmd.val, .int .i64 e.cmd.rev, .int .i64 e.client, .int .i64 e.seq, .int .i64 e.rep.code, .string e.rep.val, .int .i64 e.rep.rev]
abbrev evA (e : Ev) : Array Value := #[.int .i64 e.kind, .int .i64 e.at_, .int .i64 e.cmd.kind, .int .i64 e.cmd.client, .int .i64 e.cmd.seq, .string e.cmd.key, .string e.cmd.val, .int .i64 e.cmd.rev, .int .i64 e.client, .int .i64 e.seq, .int .i64 e.rep.code, .string e.rep.val, .int .i64 e.rep.rev]
abbrev evO (e : Ev) : Obj := .cells (evA e) 45 (0, 0)
def sRC : RowS Cmd := { t := 22, e := 30, k := 6, enc := cmdC, bytes := 64 }
def sRP : RowS Rep := { t := 61, e := 33, k := 3, enc := repC, bytes := 32 }
def sRE : RowS Ev := { t := 27, e := 45, k := 13, enc := evC, bytes := 128 }
def sRR : RowS Rv := { t := 26, e := 43, k := 16, enc := recC, bytes := 160 }
def sRI : RowS O.Id := { t := 28, e := 37, k := 2, enc := idC, bytes := 16 }
def sRN : RowS Int := { t := 87, e := 3, k := 1, enc := fun n => [.int .i64 n], bytes := 8 }
theorem one_all {l : List Value} (h : l.all (fun v => match v with | .int _ _ => true | .string _ => true | .slice _ _ _ => true | .bool _ => true | .map _ => true | .pointer _ => true | _ => false) = true) : ∀ v ∈ l, v.oneCell' = true := fun v hv => by
  have := List.all_eq_true.1 h v hv
  cases v <;> simp at this <;> rfl
set_option maxRecDepth 100000 in
theorem lRC : sRC.Law := ⟨Tryz.underlying22, info_of (z := .agg #[.int .i64 0, .int .i64 0, .int .i64 0, .string ⟨#[]⟩, .string ⟨#[]⟩, .int .i64 0]) (by kernel_rfl) rfl, fun _ => rfl, by decide, by decide, fun x => one_all rfl⟩
set_option maxRecDepth 100000 in
theorem lRP : sRP.Law := ⟨Tryz.underlying61, info_of (z := .agg #[.int .i64 0, .string ⟨#[]⟩, .int .i64 0]) (by kernel_rfl) rfl, fun _ => rfl, by decide, by decide, fun x => one_all rfl⟩
set_option maxRecDepth 100000 in
theorem lRE : sRE.Law := ⟨Tryz.underlying27, info_of (z := .agg #[.int .i64 0, .int .i64 0, .int .i64 0, .int .i64 0, .int .i64 0, .string ⟨#[]⟩, .string ⟨#[]⟩, .int .i64 0, .int .i64 0, .int .i64 0, .int .i64 0, .string ⟨#[]⟩, .int .i64 0]) (by kernel_rfl) rfl, fun _ => rfl, by decide, by decide, fun x => one_all rfl⟩
set_option maxRecDepth 100000 in
theorem lRR : sRR.Law := ⟨Tryz.underlying26, info_of (z := .agg #[.int .i64 0, .int .i64 0, .int .i64 0, .int .i64 0, .int .i64 0, .int .i64 0, .int .i64 0, .int .i64 0, .int .i64 0, .int .i64 0, .string ⟨#[]⟩, .string ⟨#[]⟩, .int .i64 0, .slice none 0 0, .int .i64 0, .int .i64 0]) (by kernel_rfl) rfl, fun _ => rfl, by decide, by decide, fun x => one_all rfl⟩
set_option maxRecDepth 100000 in
theorem lRI : sRI.Law := ⟨Tryz.underlying28, info_of (z := .agg #[.int .i64 0, .int .i64 0]) (by kernel_rfl) rfl, fun _ => rfl, by decide, by decide, fun x => one_all rfl⟩
set_option maxRecDepth 100000 in
theorem lRN : sRN.Law := ⟨Tryz.underlying87, info_of (z := .int .i64 0) (by kernel_rfl) rfl, fun _ => rfl, by decide, by decide, fun x => one_all rfl⟩
/-- one command of a row -/
theorem cmd_of {w : World} {ao : Option Addr} {cap i : Nat} {R : List Cmd} {c : Cmd} (h : RowV sRC w ao cap R) (hi : R[i]? = some c) : ∃ b off, ao = some ⟨b, off, none⟩ ∧ b < w.heap.size ∧ P.CmdAt w b (off + i * 6) c := by
  obtain ⟨b, off, e, hb, hc⟩ := h.row i c hi
  exact ⟨b, off, e, hb, hc 0 (by decide), hc 1 (by decide), hc 2 (by decide), hc 3 (by decide), hc 4 (by decide), hc 5 (by decide)⟩
/-- the cells of an event -/
structure EvAt (w : World) (b o : Nat) (e : Ev) : Prop where
  c0 : w.cell? ⟨b, o, none⟩ = some (.int .i64 e.kind)
  c1 : w.cell? ⟨b, o + 1, none⟩ = some (.int .i64 e.at_)
  c2 : w.cell? ⟨b, o + 2, none⟩ = some (.int .i64 e.cmd.kind)
  c3 : w.cell? ⟨b, o + 3, none⟩ = some (.int .i64 e.cmd.client)
  c4 : w.cell? ⟨b, o + 4, none⟩ = some (.int .i64 e.cmd.seq)
  c5 : w.cell? ⟨b, o + 5, none⟩ = some (.string e.cmd.key)
  c6 : w.cell? ⟨b, o + 6, none⟩ = some (.string e.cmd.val)
  c7 : w.cell? ⟨b, o + 7, none⟩ = some (.int .i64 e.cmd.rev)
  c8 : w.cell? ⟨b, o + 8, none⟩ = some (.int .i64 e.client)
  c9 : w.cell? ⟨b, o + 9, none⟩ = some (.int .i64 e.seq)
  c10 : w.cell? ⟨b, o + 10, none⟩ = some (.int .i64 e.rep.code)
  c11 : w.cell? ⟨b, o + 11, none⟩ = some (.string e.rep.val)
  c12 : w.cell? ⟨b, o + 12, none⟩ = some (.int .i64 e.rep.rev)
theorem ev_of {w : World} {ao : Option Addr} {cap i : Nat} {H : List Ev} {x : Ev} (h : RowV sRE w ao cap H) (hi : H[i]? = some x) : ∃ b off, ao = some ⟨b, off, none⟩ ∧ b < w.heap.size ∧ EvAt w b (off + i * 13) x := by
  obtain ⟨b, off, e, hb, hc⟩ := h.row i x hi
  exact ⟨b, off, e, hb, hc 0 (by decide), hc 1 (by decide), hc 2 (by decide), hc 3 (by decide), hc 4 (by decide), hc 5 (by decide), hc 6 (by decide), hc 7 (by decide), hc 8 (by decide), hc 9 (by decide), hc 10 (by decide), hc 11 (by decide), hc 12 (by decide)⟩
theorem box13 {w : World} {b : Nat} {e : Ev} (h : w.heap[b]? = some (evO e)) : EvAt w b 0 e := by
  have hc : ∀ j, w.cell? ⟨b, j, none⟩ = (evA e)[j]? := fun j => cell_of_row w b j _ _ _ h
  exact ⟨hc 0, hc 1, hc 2, hc 3, hc 4, hc 5, hc 6, hc 7, hc 8, hc 9, hc 10, hc 11, hc 12⟩
/-- records of one's own, as they are handed on -/
theorem recs_of {w : World} {B : Nat} {ao : Option Addr} {cap : Nat} {X : List Rv} (h : OwnG sRR w B ao cap X) (hok : ∀ x ∈ X, RvOk w x) : RecsV w ao cap X := by
  have hv := h.view lRR
  refine ⟨hv.le, fun e => ?_, fun i x hx => ?_, hok⟩
  · obtain ⟨ao', cap', e0, _, _, h3, _⟩ := own_view h
    cases e0
    exact (h3 e).2
  · obtain ⟨b, off, e, hb, hc⟩ := hv.row i x hx
    exact ⟨b, off, e, hb, .of fun j hj => hc j hj⟩
/-- ids of one's own -/
theorem ids_of {w : World} {B : Nat} {ao : Option Addr} {cap : Nat} {l : List O.Id} (h : OwnL w B ao cap l) : OwnG sRI w B ao cap l := h
theorem id_of {w : World} {ao : Option Addr} {cap i : Nat} {l : List O.Id} {x : O.Id} (h : RowV sRI w ao cap l) (hi : l[i]? = some x) : ∃ b off, ao = some ⟨b, off, none⟩ ∧ b < w.heap.size ∧ w.cell? ⟨b, off + i * 2, none⟩ = some (.int .i64 x.r) ∧ w.cell? ⟨b, off + i * 2 + 1, none⟩ = some (.int .i64 x.n) := by
  obtain ⟨b, off, e, hb, hc⟩ := h.row i x hi
  exact ⟨b, off, e, hb, hc 0 (by decide), hc 1 (by decide)⟩
end Go.Proofs.YtkgjfagejnppbaaGreatDoor.X

/- The reference's settings in memory: at, With, Without. -/
namespace Go.Proofs.YtkgjfagejnppbaaGreatDoor.P
open Go.RowKit Go.Proofs.YtkgjfagejnppbaaGreatDoor.R Go.Proofs.YtkgjfagejnppbaaGreatDoor.M Go.BigFrame
set_option linter.unusedVariables false
set_option linter.unusedSimpArgs false

def cellsE (A : List Ent) : List Value := A.flatMap fun e => [.string e.key, .string e.val, .int .i64 e.rev]
/-- a slice that holds settings -/
structure SetsV (w : World) (ao : Option Addr) (cap : Nat) (A : List Ent) : Prop where
  le : A.length ≤ cap ∧ cap ≤ maxLen
  row : ∀ i e, A[i]? = some e → ∃ b off, ao = some ⟨b, off, none⟩ ∧ b < w.heap.size ∧ w.cell? ⟨b, off + i * 3, none⟩ = some (.string e.key) ∧ w.cell? ⟨b, off + i * 3 + 1, none⟩ = some (.string e.val) ∧ w.cell? ⟨b, off + i * 3 + 2, none⟩ = some (.int .i64 e.rev)
theorem SetsV.below {w w1 : World} {ao : Option Addr} {cap : Nat} {A : List Ent} (h : SetsV w ao cap A) (hb : Below w.heap.size w w1) : SetsV w1 ao cap A :=
  ⟨h.le, fun i e hi => by
    obtain ⟨b, off, e1, hl, c0, c1, c2⟩ := h.row i e hi
    exact ⟨b, off, e1, Nat.lt_of_lt_of_le hl hb.size, (hb.cell (p := ⟨b, _, none⟩) hl).trans c0, (hb.cell (p := ⟨b, _, none⟩) hl).trans c1, (hb.cell (p := ⟨b, _, none⟩) hl).trans c2⟩⟩
theorem SetsV.nil (w : World) : SetsV w none 0 [] := ⟨⟨Nat.le_refl _, Nat.zero_le _⟩, fun i e h => by simp at h⟩
def atI (A : List Ent) (k : ByteArray) : Int := match A.findIdx? fun e => decide (e.key = k) with
  | none => -1
  | some i => (i : Int)
end Go.Proofs.YtkgjfagejnppbaaGreatDoor.P

/- The reference's With and Without. -/
namespace Go.Proofs.YtkgjfagejnppbaaGreatDoor.P
open Go.RowKit Go.Proofs.YtkgjfagejnppbaaGreatDoor.R Go.Proofs.YtkgjfagejnppbaaGreatDoor.M Go.BigFrame
set_option linter.unusedVariables false
set_option linter.unusedSimpArgs false

/-- With, behind the settings P: has it been laid, and what is out -/
def wDone (P : List Ent) (k : ByteArray) : Bool := P.any fun y => decide (¬ lt y.key k)
def wOut (P : List Ent) (e : Ent) : List Ent := if wDone P e.key then put P e else P
theorem own_heap {w : World} {B n cap size : Nat} {e : TypeId} {ao : Option Addr} {xs : List Value} (h : w.ownsRow B e size (.slice ao n cap) n xs) : ∀ a, ao = some a → ∃ cur, w.heap[a.block]? = some (.cells cur e (0, 0)) ∧ B ≤ a.block := by
  rintro a rfl
  obtain ⟨_, _, e0, _, _, _, h4⟩ := M.own_view h
  cases e0
  obtain ⟨g, cur, rfl, hB, hg, _⟩ := h4 a rfl
  exact ⟨cur, hg, hB⟩
end Go.Proofs.YtkgjfagejnppbaaGreatDoor.P

/- The reference's Without; a number's digits. -/
namespace Go.Proofs.YtkgjfagejnppbaaGreatDoor.P
open Go.RowKit Go.Proofs.YtkgjfagejnppbaaGreatDoor.R Go.Proofs.YtkgjfagejnppbaaGreatDoor.M Go.BigFrame
set_option linter.unusedVariables false
set_option linter.unusedSimpArgs false

/-- what a number's digits are, its lower ones out -/
def TextAt (N n : Nat) (l : List UInt8) : Prop := (n < 10 → Lib.decDigits N = l) ∧ (¬ n < 10 → Lib.decDigits N = Lib.decDigits (n / 10) ++ l)
theorem TextAt.start (N : Nat) : TextAt N N [UInt8.ofNat (48 + N % 10)] :=
  ⟨fun h => by rw [Lib.decDigits, dif_pos h, Nat.mod_eq_of_lt h], fun h => by rw [Lib.decDigits, dif_neg h]⟩
theorem TextAt.step {N n : Nat} {l : List UInt8} (h : TextAt N n l) (hn : ¬ n < 10) : TextAt N (n / 10) (UInt8.ofNat (48 + n / 10 % 10) :: l) := by
  have h2 := h.2 hn
  refine ⟨fun hl => ?_, fun hl => ?_⟩
  · rw [h2, Lib.decDigits, dif_pos hl, Nat.mod_eq_of_lt hl]; rfl
  · rw [h2, Lib.decDigits, dif_neg hl, List.append_assoc]; rfl
end Go.Proofs.YtkgjfagejnppbaaGreatDoor.P

/- Plain: settings' lines joined, their sizes. -/
namespace Go.Proofs.YtkgjfagejnppbaaGreatDoor.P
open Go.Proofs.YtkgjfagejnppbaaGreatDoor.R Go.PlainAid Go.Lib
set_option linter.unusedVariables false

theorem decN_width4 (n b0 b1 b2 b3 : Nat) : (decodeN n b0 b1 b2 b3).2 ≤ 4 := by
  unfold decodeN
  repeat' split
  all_goals (simp only []; omega)
theorem rfrom_size (s : ByteArray) : ∀ f k, s.size - k ≤ f → s.size - k ≤ 4 * (rfrom s f k).length
  | 0, k, h => by omega
  | f + 1, k, h => by
    simp only [rfrom]
    by_cases hk : k < s.size
    · rw [if_pos hk]
      have hd := dec_width s k hk
      have h4 : (Utf8.decode s k).2 ≤ 4 := by rw [decode_at]; exact decN_width4 _ _ _ _ _
      have := rfrom_size s f (k + (Utf8.decode s k).2) (by omega)
      simp only [List.length_cons]
      omega
    · omega
theorem begin_size {s : ByteArray} (h : beginV s = true) : s.size ≤ 128 := by
  unfold beginV at h
  rw [Bool.and_eq_true, decide_eq_true_eq] at h
  have := rfrom_size s s.size 0 (by omega)
  have e : rfrom s s.size 0 = rl s := rfl
  rw [e] at this
  omega
theorem key_size {s : ByteArray} (h : keyV s = true) : s.size ≤ 128 := by
  unfold keyV at h
  rw [Bool.and_eq_true] at h
  exact begin_size h.2
theorem mk_size (l : List UInt8) : (⟨l.toArray⟩ : ByteArray).size = l.length := by
  show l.toArray.size = _
  simp
theorem digs_size (n : Int) (h0 : 0 ≤ n) (h1 : n ≤ 1000000) : (digs n).size ≤ 21 := by
  unfold digs
  rw [mk_size]
  have := Lib.itoa_length_le n (by omega) (by omega)
  omega
def sp : ByteArray := ⟨#[32]⟩
theorem joinB_size (L : List ByteArray) (m : Nat) (h : ∀ x ∈ L, x.size ≤ m) : (joinB L).size ≤ L.length * (m + 1) := by
  induction L with
  | nil => exact Nat.zero_le _
  | cons a t ih =>
    have h1 := h a List.mem_cons_self
    cases t with
    | nil => show a.size ≤ _; simp; omega
    | cons b t =>
      have h2 := ih (fun x hx => h x (List.mem_cons_of_mem _ hx))
      show (a ++ ⟨#[32]⟩ ++ joinB (b :: t)).size ≤ _
      rw [ByteArray.size_append, ByteArray.size_append]
      have e : (⟨#[32]⟩ : ByteArray).size = 1 := rfl
      rw [e, List.length_cons (a := a), Nat.add_mul]
      omega
theorem quote_size {s : ByteArray} {m : Nat} (h : s.size ≤ m) : (⟨(quoteL s).toArray⟩ : ByteArray).size ≤ 11 * m + 2 := by
  rw [mk_size]
  exact quoteL_len2 s m h
theorem line_size {e : Ent} (hk : keyV e.key = true) (hv : e.val.size ≤ 1024) (h0 : 0 ≤ e.rev) (h1 : e.rev ≤ 1000000) : (lineB e).size ≤ 13000 := by
  unfold lineB
  simp only [ByteArray.size_append]
  have q1 := quote_size (key_size hk)
  have q2 := quote_size hv
  have q3 := digs_size e.rev h0 h1
  have e1 : (⟨#[61]⟩ : ByteArray).size = 1 := rfl
  have e2 : (⟨#[58]⟩ : ByteArray).size = 1 := rfl
  omega
/-- lines of the settings that begin so -/
def linesB (A : List Ent) (p : ByteArray) : List ByteArray := (hits A p).map lineB
theorem lines_snoc (A : List Ent) (e : Ent) (p : ByteArray) : linesB (A ++ [e]) p = if begs e.key p then linesB A p ++ [lineB e] else linesB A p := by
  unfold linesB hits
  rw [List.filter_append, List.map_append]
  cases h : begs e.key p <;> simp [h]
theorem lines_len (A : List Ent) (p : ByteArray) : (linesB A p).length ≤ A.length := by
  unfold linesB hits
  rw [List.length_map]
  exact List.length_filter_le _ _
theorem findR_lines (A : List Ent) (p : ByteArray) : findR A p = ⟨0, joinB (linesB A p), ((linesB A p).length : Nat)⟩ := by
  unfold findR linesB
  rw [List.length_map]
theorem lines_take {A : List Ent} {N i : Nat} (h : Good N A) (hN : N ≤ 100000) (p : ByteArray) : (joinB (linesB (A.take i) p)).size ≤ 2000000000 := by
  have h1 := joinB_size (linesB (A.take i) p) 13000 (fun x hx => by
    obtain ⟨e, he, rfl⟩ := List.mem_map.1 hx
    have := h.ent e (List.mem_of_mem_take (List.mem_filter.1 he).1)
    exact line_size this.2.2.1 this.2.2.2 (by omega) (by omega))
  have h2 := lines_len (A.take i) p
  have h3 := List.length_take_le i A
  have h4 : (A.take i).length ≤ A.length := by rw [List.length_take]; omega
  have h5 := h.len
  have h6 : (linesB (A.take i) p).length * (13000 + 1) ≤ 100000 * 13001 := Nat.mul_le_mul (by omega) (by omega)
  omega
end Go.Proofs.YtkgjfagejnppbaaGreatDoor.P

/- The reference's hex and Quote. -/
namespace Go.Proofs.YtkgjfagejnppbaaGreatDoor.R
open Go.RowKit Go.PlainAid Go.Lib

end Go.Proofs.YtkgjfagejnppbaaGreatDoor.R

/- The reference's Quote. -/
namespace Go.Proofs.YtkgjfagejnppbaaGreatDoor.R
open Go.RowKit Go.PlainAid Go.Lib

end Go.Proofs.YtkgjfagejnppbaaGreatDoor.R
