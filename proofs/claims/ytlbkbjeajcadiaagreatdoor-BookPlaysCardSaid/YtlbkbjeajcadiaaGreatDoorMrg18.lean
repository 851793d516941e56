/- Several texts in one. -/
import Derived.Test.YtlbkbjeajcadiaaGreatDoorMrg17
import Derived.Test.YtlbkbjeajcadiaaGreatDoorAppF
import Derived.Sort.Walk0
import Derived.Deep.AppendLies

/- book: its maps in memory; the index. -/
namespace Go.Proofs.YtlbkbjeajcadiaaGreatDoor.B
open Go.RowKit Go.Proofs.YtlbkbjeajcadiaaGreatDoor.M Go.BigFrame Go.Maps Go.Proofs.YtlbkbjeajcadiaaGreatDoor.O Go.Proofs.YtlbkbjeajcadiaaGreatDoor.P Go.Proofs.YtlbkbjeajcadiaaGreatDoor.Mp
set_option linter.unusedVariables false
set_option linter.unusedSimpArgs false

theorem idV_inj {a b : O.Id} (h : idV a = idV b) : a = b := by
  simp only [Value.agg.injEq, Array.mk.injEq, List.cons.injEq, Value.int.injEq, true_and, and_true] at h
  exact Id.eq_of h.1 h.2
/-- what an id has -/
def enV (e : En) : Value := .agg #[.int .i64 e.c.kind, .int .i64 e.c.client, .int .i64 e.c.seq, .string e.c.key, .string e.c.val, .int .i64 e.c.rev, .int .i64 e.seq]
def sAE : MapS O.Id En := { t := 80, e := 111, kt := 31, key := idV, lit := klI, ok := IdI, enc := enV, z := ⟨zc, 0⟩ }
set_option maxRecDepth 100000 in
theorem lAE : sAE.Law where
  keyed := id_keyed
  und := Tryz.underlying80
  zero := fun w => by kernel_rfl
  mkk := key_id
  isk := klI_key
  inj := fun a b h => idV_inj h
/-- a group -/
def sGB : MapS O.Id Bool := { t := 84, e := 4, kt := 31, key := idV, lit := klI, ok := IdI, enc := fun b => .bool b, z := false }
set_option maxRecDepth 100000 in
theorem lGB : sGB.Law where
  keyed := id_keyed
  und := Tryz.underlying84
  zero := fun w => by kernel_rfl
  mkk := key_id
  isk := klI_key
  inj := fun a b h => idV_inj h
/-- the records -/
def sIR : MapS O.Id Rv := { t := 61, e := 40, kt := 31, key := idV, lit := klI, ok := IdI, enc := recV, z := rv0 ⟨0, 0⟩ }
set_option maxRecDepth 100000 in
theorem lIR : sIR.Law where
  keyed := id_keyed
  und := Tryz.underlying61
  zero := fun w => by kernel_rfl
  mkk := key_id
  isk := klI_key
  inj := fun a b h => idV_inj h
/-- the clients' groups -/
def sCG : MapS Int (Option Nat) := { t := 82, e := 84, kt := 3, key := fun k => .int .i64 k, lit := fun k => .int .i64 k, ok := InI, enc := fun o => .map o, z := none }
set_option maxRecDepth 100000 in
theorem lCG : sCG.Law where
  keyed := Maps.int_keyed Tryz.underlying3
  und := Tryz.underlying82
  zero := fun w => by kernel_rfl
  mkk := fun k h => Maps.keyOf_int_mk Tryz.underlying3 (wf_of64 h)
  isk := fun k => trivial
  inj := fun a b h => by
    simp only [sCG, Value.int.injEq, true_and] at h
    exact h
/-- the keys' groups -/
def sKG : MapS ByteArray (Option Nat) := { t := 81, e := 84, kt := 9, key := fun k => .string k, lit := kl, ok := fun k => k.size ≤ maxLen, enc := fun o => .map o, z := none }
set_option maxRecDepth 100000 in
theorem lKG : sKG.Law where
  keyed := keyedS
  und := Tryz.underlying81
  zero := fun w => by kernel_rfl
  mkk := fun k h => key_kl h
  isk := fun k => trivial
  inj := fun a b h => by
    simp only [sKG, Value.string.injEq] at h
    exact h
/-! What reads as a key is one. -/
theorem inv_id : ∀ x kl, keyOf Tryz.prog 31 x = some kl → ∃ k : O.Id, x = idV k ∧ kl = klI k ∧ IdI k := fun x kl h => key_id_inv h
theorem iGB : sGB.Inv := inv_id
theorem iIR : sIR.Inv := inv_id
theorem iKG : sKG.Inv := fun x k h => by
  have h : keyOf Tryz.prog 9 x = some k := h
  obtain ⟨s, rfl⟩ : ∃ s, x = .string s := by
    cases x <;> simp [keyOf, Tryz.underlying9, mapKey] at h ⊢
  by_cases hs : s.size ≤ maxLen
  · refine ⟨s, rfl, ?_, hs⟩
    rw [key_kl hs] at h
    exact (Option.some.inj h).symm
  · simp [keyOf, Tryz.underlying9, mapKey, hs] at h
theorem IxP.congr {A : List (O.Id × En)} {KM : List (ByteArray × Nat)} {CM : List (Int × Nat)} {G G2 : Nat → List (O.Id × Bool)} {GW : List (O.Id × Bool)} (h : IxP A KM CM G GW) (hk : ∀ p ∈ KM, G2 p.2 = G p.2) (hc : ∀ p ∈ CM, G2 p.2 = G p.2) : IxP A KM CM G2 GW :=
  ⟨h.na, h.nk, h.nc, h.nb, fun i e m => by
    obtain ⟨b, h1, h2⟩ := h.key i e m
    exact ⟨b, h1, by rw [hk _ h1]; exact h2⟩, fun i e m => by
    obtain ⟨b, h1, h2⟩ := h.cli i e m
    exact ⟨b, h1, by rw [hc _ h1]; exact h2⟩, h.wid, fun k b i m hi => h.keyR k b i m (by rw [← hk _ m]; exact hi), fun k b i m hi => h.cliR k b i m (by rw [← hc _ m]; exact hi), h.widR⟩
/-- an index in memory: its box at x; n = how many entries each map has at most -/
structure IxM (w : World) (x n : Nat) (A : List (O.Id × En)) (KM : List (ByteArray × Nat)) (CM : List (Int × Nat)) (G : Nat → List (O.Id × Bool)) (GW : List (O.Id × Bool)) (ba bk bc bw : Nat) : Prop where
  box : w.heap[x]? = some (.cells #[.map (some ba), .map (some bk), .map (some bc), .map (some bw)] 86 (0, 0))
  all : MapL sAE w ba n A
  keys : MapL sKG w bk n (KM.map fun p => (p.1, some p.2))
  clients : MapL sCG w bc n (CM.map fun p => (p.1, some p.2))
  wide : MapL sGB w bw n GW
  gk : ∀ p ∈ KM, MapL sGB w p.2 n (G p.2)
  gc : ∀ p ∈ CM, MapL sGB w p.2 n (G p.2)
  nd : ([ba, bk, bc, bw] ++ (KM.map Prod.snd ++ CM.map Prod.snd)).Nodup
/-- the blocks that an index turns -/
def IxF (KM : List (ByteArray × Nat)) (CM : List (Int × Nat)) (ba bk bc bw : Nat) : Nat → Prop := fun j => j ∈ [ba, bk, bc, bw] ++ (KM.map Prod.snd ++ CM.map Prod.snd)
theorem IxF.ba {KM CM} {ba bk bc bw : Nat} : IxF KM CM ba bk bc bw ba := by simp [IxF]
theorem IxF.bk {KM CM} {ba bk bc bw : Nat} : IxF KM CM ba bk bc bw bk := by simp [IxF]
theorem IxF.bc {KM CM} {ba bk bc bw : Nat} : IxF KM CM ba bk bc bw bc := by simp [IxF]
theorem IxF.bw {KM CM} {ba bk bc bw : Nat} : IxF KM CM ba bk bc bw bw := by simp [IxF]
theorem IxF.gk {KM CM} {ba bk bc bw : Nat} {p : ByteArray × Nat} (hp : p ∈ KM) : IxF KM CM ba bk bc bw p.2 := List.mem_append_right _ (List.mem_append_left _ (List.mem_map.2 ⟨p, hp, rfl⟩))
theorem IxF.gc {KM CM} {ba bk bc bw : Nat} {p : Int × Nat} (hp : p ∈ CM) : IxF KM CM ba bk bc bw p.2 := List.mem_append_right _ (List.mem_append_right _ (List.mem_map.2 ⟨p, hp, rfl⟩))
section
variable {w w1 : World} {x n : Nat} {A A2 : List (O.Id × En)} {KM : List (ByteArray × Nat)} {CM : List (Int × Nat)} {G : Nat → List (O.Id × Bool)} {GW g2 : List (O.Id × Bool)} {ba bk bc bw : Nat}
theorem IxM.cells (h : IxM w x n A KM CM G GW ba bk bc bw) : w.cell? ⟨x, 0, none⟩ = some (.map (some ba)) ∧ w.cell? ⟨x, 1, none⟩ = some (.map (some bk)) ∧ w.cell? ⟨x, 2, none⟩ = some (.map (some bc)) ∧ w.cell? ⟨x, 3, none⟩ = some (.map (some bw)) := by
  have hc : ∀ j, w.cell? ⟨x, j, none⟩ = (#[.map (some ba), .map (some bk), .map (some bc), .map (some bw)] : Array Value)[j]? := fun j => cell_of_row w x j _ _ _ h.box
  exact ⟨hc 0, hc 1, hc 2, hc 3⟩
theorem IxM.xlt (h : IxM w x n A KM CM G GW ba bk bc bw) : x < w.heap.size := M.heap_lt h.box
theorem IxM.lts (h : IxM w x n A KM CM G GW ba bk bc bw) : ∀ j, IxF KM CM ba bk bc bw j → j < w.heap.size := by
  intro j hj
  unfold IxF at hj
  rcases List.mem_append.1 hj with hj | hj
  · simp only [List.mem_cons, List.mem_nil_iff, or_false] at hj
    rcases hj with rfl | rfl | rfl | rfl
    · exact h.all.lt
    · exact h.keys.lt
    · exact h.clients.lt
    · exact h.wide.lt
  · rcases List.mem_append.1 hj with hj | hj
    · obtain ⟨p, hp, rfl⟩ := List.mem_map.1 hj
      exact (h.gk p hp).lt
    · obtain ⟨p, hp, rfl⟩ := List.mem_map.1 hj
      exact (h.gc p hp).lt
theorem IxM.nx (h : IxM w x n A KM CM G GW ba bk bc bw) : ¬ IxF KM CM ba bk bc bw x := by
  intro hj
  unfold IxF at hj
  rcases List.mem_append.1 hj with hj | hj
  · simp only [List.mem_cons, List.mem_nil_iff, or_false] at hj
    rcases hj with rfl | rfl | rfl | rfl
    · exact h.all.nocells h.box
    · exact h.keys.nocells h.box
    · exact h.clients.nocells h.box
    · exact h.wide.nocells h.box
  · rcases List.mem_append.1 hj with hj | hj
    · obtain ⟨p, hp, e⟩ := List.mem_map.1 hj
      exact (h.gk p hp).nocells (e ▸ h.box)
    · obtain ⟨p, hp, e⟩ := List.mem_map.1 hj
      exact (h.gc p hp).nocells (e ▸ h.box)
theorem IxM.keep {F : Nat → Prop} (h : IxM w x n A KM CM G GW ba bk bc bw) (hm : Mods F w w1) (hx : ¬ F x) (hn : ∀ j, IxF KM CM ba bk bc bw j → ¬ F j) : IxM w1 x n A KM CM G GW ba bk bc bw :=
  ⟨hm.heap h.box hx, h.all.keep hm (hn _ .ba), h.keys.keep hm (hn _ .bk), h.clients.keep hm (hn _ .bc), h.wide.keep hm (hn _ .bw),
    fun p hp => (h.gk p hp).keep hm (hn _ (.gk hp)), fun p hp => (h.gc p hp).keep hm (hn _ (.gc hp)), h.nd⟩
theorem IxM.below (h : IxM w x n A KM CM G GW ba bk bc bw) (hb : Below w.heap.size w w1) : IxM w1 x n A KM CM G GW ba bk bc bw :=
  h.keep (F := fun _ => False) (Mods.of_below hb) (fun h => h) (fun _ _ h => h)
theorem IxM.mono (h : IxM w x n A KM CM G GW ba bk bc bw) {m : Nat} (hm : n ≤ m) : IxM w x m A KM CM G GW ba bk bc bw :=
  ⟨h.box, h.all.mono hm, h.keys.mono hm, h.clients.mono hm, h.wide.mono hm, fun p hp => (h.gk p hp).mono hm, fun p hp => (h.gc p hp).mono hm, h.nd⟩
theorem IxM.ne (h : IxM w x n A KM CM G GW ba bk bc bw) : ba ≠ bk ∧ ba ≠ bc ∧ ba ≠ bw ∧ bk ≠ bc ∧ bk ≠ bw ∧ bc ≠ bw := by
  have h1 := (List.nodup_append.1 h.nd).1
  simp at h1
  omega
theorem IxM.grp (h : IxM w x n A KM CM G GW ba bk bc bw) {b : Nat} (hb : b ∈ KM.map Prod.snd ++ CM.map Prod.snd) : b ≠ ba ∧ b ≠ bk ∧ b ≠ bc ∧ b ≠ bw := by
  have h3 := (List.nodup_append.1 h.nd).2.2
  exact ⟨fun e => h3 ba (by simp) b hb e.symm, fun e => h3 bk (by simp) b hb e.symm, fun e => h3 bc (by simp) b hb e.symm, fun e => h3 bw (by simp) b hb e.symm⟩
theorem IxM.gkne (h : IxM w x n A KM CM G GW ba bk bc bw) {p : ByteArray × Nat} (hp : p ∈ KM) : p.2 ≠ ba ∧ p.2 ≠ bk ∧ p.2 ≠ bc ∧ p.2 ≠ bw := h.grp (List.mem_append_left _ (List.mem_map.2 ⟨p, hp, rfl⟩))
theorem IxM.gcne (h : IxM w x n A KM CM G GW ba bk bc bw) {p : Int × Nat} (hp : p ∈ CM) : p.2 ≠ ba ∧ p.2 ≠ bk ∧ p.2 ≠ bc ∧ p.2 ≠ bw := h.grp (List.mem_append_right _ (List.mem_map.2 ⟨p, hp, rfl⟩))
theorem IxM.xne (h : IxM w x n A KM CM G GW ba bk bc bw) {j : Nat} (hj : IxF KM CM ba bk bc bw j) : x ≠ j := fun e => h.nx (e ▸ hj)
/-- one map turns -/
theorem IxM.set_all (h : IxM w x n A KM CM G GW ba bk bc bw) (hm : MapL sAE w1 ba n A2) (hM : Mods (fun j => j = ba) w w1) : IxM w1 x n A2 KM CM G GW ba bk bc bw := by
  obtain ⟨q1, q2, q3, q4, q5, q6⟩ := h.ne
  exact ⟨hM.heap h.box (h.xne .ba), hm, h.keys.keep hM q1.symm, h.clients.keep hM q2.symm, h.wide.keep hM q3.symm,
    fun p hp => (h.gk p hp).keep hM (h.gkne hp).1, fun p hp => (h.gc p hp).keep hM (h.gcne hp).1, h.nd⟩
theorem IxM.set_wide (h : IxM w x n A KM CM G GW ba bk bc bw) (hm : MapL sGB w1 bw n g2) (hM : Mods (fun j => j = bw) w w1) : IxM w1 x n A KM CM G g2 ba bk bc bw := by
  obtain ⟨q1, q2, q3, q4, q5, q6⟩ := h.ne
  exact ⟨hM.heap h.box (h.xne .bw), h.all.keep hM q3, h.keys.keep hM q5, h.clients.keep hM q6, hm,
    fun p hp => (h.gk p hp).keep hM (h.gkne hp).2.2.2, fun p hp => (h.gc p hp).keep hM (h.gcne hp).2.2.2, h.nd⟩
/-- a group turns -/
theorem IxM.set_grp (h : IxM w x n A KM CM G GW ba bk bc bw) {b : Nat} (hb : b ∈ KM.map Prod.snd ++ CM.map Prod.snd) (hm : MapL sGB w1 b n g2) (hM : Mods (fun j => j = b) w w1) : IxM w1 x n A KM CM (fun j => if j = b then g2 else G j) GW ba bk bc bw := by
  obtain ⟨q1, q2, q3, q4⟩ := h.grp hb
  refine ⟨hM.heap h.box (h.xne (List.mem_append_right _ hb)), h.all.keep hM q1.symm, h.keys.keep hM q2.symm, h.clients.keep hM q3.symm, h.wide.keep hM q4.symm, fun p hp => ?_, fun p hp => ?_, h.nd⟩
  · show MapL sGB w1 p.2 n (if p.2 = b then g2 else G p.2)
    split
    · rename_i e; rw [e]; exact hm
    · rename_i e; exact (h.gk p hp).keep hM e
  · show MapL sGB w1 p.2 n (if p.2 = b then g2 else G p.2)
    split
    · rename_i e; rw [e]; exact hm
    · rename_i e; exact (h.gc p hp).keep hM e
end
/-- an index: its memory, and what it knows -/
structure IxAt (w : World) (x n : Nat) (A : List (O.Id × En)) (KM : List (ByteArray × Nat)) (CM : List (Int × Nat)) (G : Nat → List (O.Id × Bool)) (GW : List (O.Id × Bool)) (ba bk bc bw : Nat) : Prop where
  m : IxM w x n A KM CM G GW ba bk bc bw
  pl : IxP A KM CM G GW
end Go.Proofs.YtlbkbjeajcadiaaGreatDoor.B

/- The reference's settings in memory: at, With, Without. -/
namespace Go.Proofs.YtlbkbjeajcadiaaGreatDoor.P
open Go.RowKit Go.Proofs.YtlbkbjeajcadiaaGreatDoor.R Go.Proofs.YtlbkbjeajcadiaaGreatDoor.M Go.BigFrame
set_option linter.unusedVariables false
set_option linter.unusedSimpArgs false

def cellsE (A : List Ent) : List Value := A.flatMap fun e => [.string e.key, .string e.val, .int .i64 e.rev]
theorem cellsE_len (A : List Ent) : (cellsE A).length = A.length * 3 := by
  induction A with
  | nil => rfl
  | cons a t ih => simp [cellsE] at ih ⊢; omega
theorem cellsE_app (A B : List Ent) : cellsE (A ++ B) = cellsE A ++ cellsE B := by simp [cellsE]
theorem cellsE_get (A : List Ent) (i : Nat) (e : Ent) (h : A[i]? = some e) : (cellsE A)[i * 3]? = some (.string e.key) ∧ (cellsE A)[i * 3 + 1]? = some (.string e.val) ∧ (cellsE A)[i * 3 + 2]? = some (.int .i64 e.rev) := by
  induction A generalizing i with
  | nil => simp at h
  | cons y l ih =>
    cases i with
    | zero => simp at h; subst h; exact ⟨rfl, rfl, rfl⟩
    | succ i =>
      have := ih i (by simpa using h)
      rw [show (i + 1) * 3 = i * 3 + 3 by omega]
      exact this
/-- a slice that holds settings -/
structure SetsV (w : World) (ao : Option Addr) (cap : Nat) (A : List Ent) : Prop where
  le : A.length ≤ cap ∧ cap ≤ maxLen
  row : ∀ i e, A[i]? = some e → ∃ b off, ao = some ⟨b, off, none⟩ ∧ b < w.heap.size ∧ w.cell? ⟨b, off + i * 3, none⟩ = some (.string e.key) ∧ w.cell? ⟨b, off + i * 3 + 1, none⟩ = some (.string e.val) ∧ w.cell? ⟨b, off + i * 3 + 2, none⟩ = some (.int .i64 e.rev)
theorem SetsV.below {w w1 : World} {ao : Option Addr} {cap : Nat} {A : List Ent} (h : SetsV w ao cap A) (hb : Below w.heap.size w w1) : SetsV w1 ao cap A :=
  ⟨h.le, fun i e hi => by
    obtain ⟨b, off, e1, hl, c0, c1, c2⟩ := h.row i e hi
    exact ⟨b, off, e1, Nat.lt_of_lt_of_le hl hb.size, (hb.cell (p := ⟨b, _, none⟩) hl).trans c0, (hb.cell (p := ⟨b, _, none⟩) hl).trans c1, (hb.cell (p := ⟨b, _, none⟩) hl).trans c2⟩⟩
theorem SetsV.nil (w : World) : SetsV w none 0 [] := ⟨⟨Nat.le_refl _, Nat.zero_le _⟩, fun i e h => by simp at h⟩
def atI (A : List Ent) (k : ByteArray) : Int := match A.findIdx? fun e => decide (e.key = k) with
  | none => -1
  | some i => (i : Int)
theorem atI_no {A : List Ent} {k : ByteArray} (h : ∀ e ∈ A, e.key ≠ k) : atI A k = -1 := by
  unfold atI
  have : A.findIdx? (fun e => decide (e.key = k)) = none := by
    rw [List.findIdx?_eq_none_iff]
    intro e he
    exact decide_eq_false (h e he)
  rw [this]
theorem atI_yes {A : List Ent} {k : ByteArray} {i : Nat} {e : Ent} (h : A[i]? = some e) (he : e.key = k) (hn : ∀ j x, j < i → A[j]? = some x → x.key ≠ k) : atI A k = i := by
  unfold atI
  have : A.findIdx? (fun e => decide (e.key = k)) = some i := by
    rw [List.findIdx?_eq_some_iff_getElem]
    obtain ⟨h1, h2⟩ := List.getElem?_eq_some_iff.1 h
    refine ⟨h1, by rw [h2]; exact decide_eq_true he, fun j hj => ?_⟩
    have := hn j (A[j]'(by omega)) hj (List.getElem?_eq_getElem (by omega))
    simpa using this
  rw [this]
end Go.Proofs.YtlbkbjeajcadiaaGreatDoor.P

/- The reference's With and Without. -/
namespace Go.Proofs.YtlbkbjeajcadiaaGreatDoor.P
open Go.RowKit Go.Proofs.YtlbkbjeajcadiaaGreatDoor.R Go.Proofs.YtlbkbjeajcadiaaGreatDoor.M Go.BigFrame
set_option linter.unusedVariables false
set_option linter.unusedSimpArgs false

theorem less_lt (a b : ByteArray) : Op.bytesLess a.toList b.toList = decide (lt a b) := by
  rw [bytesLess_eq, ByteArray.toList_eq, ByteArray.toList_eq]
  rfl
theorem put_end {P : List Ent} {e : Ent} (h : ∀ y ∈ P, lt y.key e.key) : put P e = P ++ [e] := by
  induction P with
  | nil => rfl
  | cons a t ih =>
    unfold put
    rw [if_pos (h a List.mem_cons_self), ih (fun y hy => h y (List.mem_cons_of_mem _ hy))]
    rfl
theorem put_snoc_same {P : List Ent} {e x : Ent} (h : ∀ y ∈ P, lt y.key e.key) (hx : x.key = e.key) : put (P ++ [x]) e = P ++ [e] := by
  induction P with
  | nil =>
    show put [x] e = [e]
    unfold put
    rw [if_neg (show ¬ lt x.key e.key by rw [hx]; exact lt_irrefl _), if_pos hx]
  | cons a t ih =>
    show put (a :: (t ++ [x])) e = _
    unfold put
    rw [if_pos (h a List.mem_cons_self), ih (fun y hy => h y (List.mem_cons_of_mem _ hy))]
    rfl
theorem put_snoc_more {P : List Ent} {e x : Ent} (h : ∀ y ∈ P, lt y.key e.key) (hx : lt e.key x.key) : put (P ++ [x]) e = P ++ [e] ++ [x] := by
  induction P with
  | nil =>
    show put [x] e = [e, x]
    unfold put
    rw [if_neg (lt_asymm hx), if_neg (fun e2 => lt_ne hx e2.symm)]
  | cons a t ih =>
    show put (a :: (t ++ [x])) e = _
    unfold put
    rw [if_pos (h a List.mem_cons_self), ih (fun y hy => h y (List.mem_cons_of_mem _ hy))]
    rfl
theorem put_snoc_done {P : List Ent} {e x : Ent} (h : ∃ y ∈ P, ¬ lt y.key e.key) : put (P ++ [x]) e = put P e ++ [x] := by
  induction P with
  | nil => obtain ⟨y, hy, _⟩ := h; cases hy
  | cons a t ih =>
    show put (a :: (t ++ [x])) e = _
    unfold put
    by_cases h1 : lt a.key e.key
    · rw [if_pos h1, if_pos h1]
      obtain ⟨y, hy, hn⟩ := h
      rcases List.mem_cons.1 hy with rfl | hy
      · exact absurd h1 hn
      · rw [ih ⟨y, hy, hn⟩]; rfl
    · rw [if_neg h1, if_neg h1]
      by_cases h2 : a.key = e.key
      · rw [if_pos h2, if_pos h2]; rfl
      · rw [if_neg h2, if_neg h2]; rfl
/-- With, behind the settings P: has it been laid, and what is out -/
def wDone (P : List Ent) (k : ByteArray) : Bool := P.any fun y => decide (¬ lt y.key k)
def wOut (P : List Ent) (e : Ent) : List Ent := if wDone P e.key then put P e else P
theorem wDone_no {P : List Ent} {k : ByteArray} (h : wDone P k = false) : ∀ y ∈ P, lt y.key k := by
  unfold wDone at h
  rw [List.any_eq_false] at h
  intro y hy
  have := h y hy
  simpa using this
theorem wDone_yes {P : List Ent} {k : ByteArray} (h : wDone P k = true) : ∃ y ∈ P, ¬ lt y.key k := by
  unfold wDone at h
  rw [List.any_eq_true] at h
  obtain ⟨y, hy, h2⟩ := h
  exact ⟨y, hy, by simpa using h2⟩
theorem wDone_snoc (P : List Ent) (x : Ent) (k : ByteArray) : wDone (P ++ [x]) k = (wDone P k || decide (¬ lt x.key k)) := by
  unfold wDone; rw [List.any_append]; simp
theorem wOut_len (P : List Ent) (e : Ent) : (wOut P e).length ≤ P.length + 1 := by
  unfold wOut
  split
  · exact put_len
  · omega
/-- one setting more: nothing laid yet, and it is lower -/
theorem w_low {P : List Ent} {e x : Ent} (hd : wDone P e.key = false) (hx : lt x.key e.key) : wDone (P ++ [x]) e.key = false ∧ wOut P e = P ∧ wOut (P ++ [x]) e = P ++ [x] := by
  have h1 : wDone (P ++ [x]) e.key = false := by rw [wDone_snoc, hd]; simp [hx]
  refine ⟨h1, ?_, ?_⟩
  · unfold wOut; rw [hd]; rfl
  · unfold wOut; rw [h1]; rfl
theorem w_same {P : List Ent} {e x : Ent} (hd : wDone P e.key = false) (hx : x.key = e.key) : wDone (P ++ [x]) e.key = true ∧ wOut P e = P ∧ wOut (P ++ [x]) e = P ++ [e] := by
  have h1 : wDone (P ++ [x]) e.key = true := by rw [wDone_snoc, hd, hx]; simp [lt_irrefl]
  refine ⟨h1, ?_, ?_⟩
  · unfold wOut; rw [hd]; rfl
  · unfold wOut; rw [h1]; exact put_snoc_same (wDone_no hd) hx
theorem w_more {P : List Ent} {e x : Ent} (hd : wDone P e.key = false) (hx : lt e.key x.key) : wDone (P ++ [x]) e.key = true ∧ wOut P e = P ∧ wOut (P ++ [x]) e = P ++ [e] ++ [x] := by
  have h1 : wDone (P ++ [x]) e.key = true := by rw [wDone_snoc, hd]; simp [lt_asymm hx]
  refine ⟨h1, ?_, ?_⟩
  · unfold wOut; rw [hd]; rfl
  · unfold wOut; rw [h1]; exact put_snoc_more (wDone_no hd) hx
theorem w_done {P : List Ent} {e x : Ent} (hd : wDone P e.key = true) (hs : Srt (P ++ [x])) : wDone (P ++ [x]) e.key = true ∧ x.key ≠ e.key ∧ wOut (P ++ [x]) e = wOut P e ++ [x] := by
  have h1 : wDone (P ++ [x]) e.key = true := by rw [wDone_snoc, hd]; rfl
  obtain ⟨y, hy, hn⟩ := wDone_yes hd
  have hlt : lt y.key x.key := (List.pairwise_append.1 hs).2.2 y hy x (List.mem_singleton.2 rfl)
  refine ⟨h1, fun e2 => hn (by rw [← e2]; exact hlt), ?_⟩
  unfold wOut
  rw [h1, hd]
  exact put_snoc_done ⟨y, hy, hn⟩
theorem w_end (A : List Ent) (e : Ent) : (wDone A e.key = true → wOut A e = put A e) ∧ (wDone A e.key = false → wOut A e = A ∧ put A e = A ++ [e]) := by
  refine ⟨fun h => by unfold wOut; rw [h]; rfl, fun h => ⟨by unfold wOut; rw [h]; rfl, put_end (wDone_no h)⟩⟩
theorem own_heap {w : World} {B n cap size : Nat} {e : TypeId} {ao : Option Addr} {xs : List Value} (h : w.ownsRow B e size (.slice ao n cap) n xs) : ∀ a, ao = some a → ∃ cur, w.heap[a.block]? = some (.cells cur e (0, 0)) ∧ B ≤ a.block := by
  rintro a rfl
  obtain ⟨_, _, e0, _, _, _, h4⟩ := M.own_view h
  cases e0
  obtain ⟨g, cur, rfl, hB, hg, _⟩ := h4 a rfl
  exact ⟨cur, hg, hB⟩
end Go.Proofs.YtlbkbjeajcadiaaGreatDoor.P
