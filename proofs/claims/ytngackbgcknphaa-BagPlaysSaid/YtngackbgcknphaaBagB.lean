/- Contracts: New, Len, the reference's Same; what a bag is in memory. -/
import Derived.Test.YtngackbgcknphaaBagA
import Derived.Deep.AppendLies
import Derived.Carry
import Derived.Deep.RegionLaw
import Derived.Deep.RegionHeld3
namespace Go.Proofs.Ytngackbgcknphaa.B
open Go.RowKit M
set_option linter.unusedVariables false

/-- an envelope in memory, and its bytes -/
structure E where
  f : Int
  t : Int
  ao : Option Addr
  cap : Nat
  l : List UInt8
def E.v (x : E) : Value := .slice x.ao x.l.length x.cap
def E.agg (x : E) : Value := .agg #[.int .i64 x.f, .int .i64 x.t, x.v]
def E.cells (x : E) : List Value := [.int .i64 x.f, .int .i64 x.t, .slice x.ao x.l.length x.cap]
def cellsE (L : List E) : List Value := L.flatMap E.cells
theorem cellsE_length (L : List E) : (cellsE L).length = L.length * 3 := by
  induction L with
  | nil => rfl
  | cons x L ih => simp [cellsE, E.cells] at ih ⊢; omega
theorem cellsE_append (L M : List E) : cellsE (L ++ M) = cellsE L ++ cellsE M := by simp [cellsE]
theorem cellsE_get (L : List E) (i : Nat) (x : E) (h : L[i]? = some x) : (cellsE L)[i * 3]? = some (.int .i64 x.f) ∧ (cellsE L)[i * 3 + 1]? = some (.int .i64 x.t) ∧ (cellsE L)[i * 3 + 2]? = some (.slice x.ao x.l.length x.cap) := by
  induction L generalizing i with
  | nil => simp at h
  | cons y L ih =>
    cases i with
    | zero => simp at h; subst h; exact ⟨rfl, rfl, rfl⟩
    | succ i =>
      have := ih i (by simpa using h)
      rw [show (i + 1) * 3 = i * 3 + 3 by omega]
      exact this
/-- what it says, wherever it lies -/
def E.key (x : E) : Int × Int × List UInt8 := (x.f, x.t, x.l)
/-- its bytes lie outside of F -/
def E.ok (F : Nat → Prop) (w : World) (x : E) : Prop := BytesV w x.v x.l ∧ BytesAway F x.v x.l ∧ x.l.length ≤ 100

/-- the memory of a bag: its struct, and its row -/
def Foot (b : Nat) (ao : Option Addr) (k : Nat) : Prop := k = b ∨ ∃ a, ao = some a ∧ k = a.block
structure BagAt (B : Nat) (w : World) (b : Nat) (room : Int) (L : List E) (ao : Option Addr) (cap : Nat) : Prop where
  blk : w.heap[b]? = some (.cells #[.slice ao L.length cap, .int .i64 room] 46 (0, 0))
  own : w.ownsRow B 24 3 (.slice ao L.length cap) L.length (cellsE L)
  ne : ∀ a, ao = some a → a.block ≠ b
  lo : B ≤ b
  ok : ∀ x ∈ L, x.ok (Foot b ao) w
  le : L.length ≤ 4096
theorem BagAt.lt {B : Nat} {w : World} {b : Nat} {room : Int} {L : List E} {ao : Option Addr} {cap : Nat} (h : BagAt B w b room L ao cap) : ∀ k, Foot b ao k → B ≤ k ∧ k < w.heap.size := by
  rintro k (rfl | ⟨a, rfl, rfl⟩)
  · exact ⟨h.lo, (Array.getElem?_eq_some_iff.1 h.blk).1⟩
  · exact h.own.lt a.block rfl
theorem BagAt.keep {B : Nat} {w w1 : World} {b : Nat} {room : Int} {L : List E} {ao : Option Addr} {cap : Nat} {S : Nat → Prop} (h : BagAt B w b room L ao cap) (hm : Mods S w w1) (hs : ∀ k, S k → ¬ Foot b ao k)
    (hl : ∀ x ∈ L, BytesAway S x.v x.l) : BagAt B w1 b room L ao cap :=
  ⟨hm.heap h.blk (fun hS => hs b hS (.inl rfl)), own_kept h.own hm (fun k hk hS => by
      cases ao with
      | none => cases hk
      | some a => exact hs k hS (.inr ⟨a, rfl, (Option.some.inj hk).symm⟩)), h.ne, h.lo, fun x hx => ⟨(h.ok x hx).1.keep hm (hl x hx), (h.ok x hx).2⟩, h.le⟩
theorem BagAt.below {B : Nat} {w w1 : World} {b : Nat} {room : Int} {L : List E} {ao : Option Addr} {cap : Nat} (h : BagAt B w b room L ao cap) (hb : Below w.heap.size w w1) : BagAt B w1 b room L ao cap :=
  h.keep (Mods.of_below (S := fun _ => False) hb) (fun _ h => h.elim) (fun _ _ _ _ _ h => h)

set_option maxRecDepth 100000 in
set_option maxHeartbeats 400000 in
theorem new_any (room : Int) (w : World) (h1 : -9223372036854775808 ≤ room) (h2 : room ≤ 9223372036854775807) :
    Calls Try.prog 7 #[.int .i64 room] w fun e w' => e = .returned (.pointer (some ⟨w.heap.size, 0, none⟩)) ∧ (BagAt w.heap.size w' w.heap.size (min (max room 0) 4096) [] none 0 ∧ Below w.heap.size w w') := by
  go_enter Try.func7, Try.ntmps7
  go_wp2_with fail
  · have e : min (max room 0) 4096 = 0 := by omega
    rw [e]
    go_ret
    exact ⟨rfl, ⟨heap_alloc_new w _, World.ownsRow_nil _ _ _ _, (fun a h => by cases h), Nat.le_refl _, (fun x hx => by cases hx), Nat.zero_le _⟩, (Below.refl _ w).alloc (Nat.le_refl _) _⟩
  · have e : min (max room 0) 4096 = 4096 := by omega
    rw [e]
    go_ret
    exact ⟨rfl, ⟨heap_alloc_new w _, World.ownsRow_nil _ _ _ _, (fun a h => by cases h), Nat.le_refl _, (fun x hx => by cases hx), Nat.zero_le _⟩, (Below.refl _ w).alloc (Nat.le_refl _) _⟩
  · have e : min (max room 0) 4096 = room := by omega
    rw [e]
    go_ret
    exact ⟨rfl, ⟨heap_alloc_new w _, World.ownsRow_nil _ _ _ _, (fun a h => by cases h), Nat.le_refl _, (fun x hx => by cases hx), Nat.zero_le _⟩, (Below.refl _ w).alloc (Nat.le_refl _) _⟩

set_option maxHeartbeats 400000 in
theorem len_any (B : Nat) (w : World) (b : Nat) (room : Int) (L : List E) (ao : Option Addr) (cap : Nat) (h : BagAt B w b room L ao cap) :
    Calls Try.prog 13 #[.pointer (some ⟨b, 0, none⟩)] w fun e w' => e = .returned (.int .i64 L.length) ∧ w = w' := by
  obtain ⟨⟨c0, c1⟩, _, _⟩ := box2 h.blk
  clear h
  go_enter Try.func13, Try.ntmps13
  go_wp2_with fail
  go_ret
  exact ⟨rfl, rfl⟩

set_option maxRecDepth 100000 in
set_option maxHeartbeats 400000 in
theorem same01_any (a b : Option Addr) (c d : Nat) (l m : List UInt8) (w : World) (hl : l.length ≤ 1000000) (hm : m.length ≤ 1000000) (h1 : BytesV w (.slice a l.length c) l) (h2 : BytesV w (.slice b m.length d) m) :
    Calls Try.prog 20 #[.slice a l.length c, .slice b m.length d] w fun e w' => e = .returned (.bool (decide (l = m))) ∧ ∃ n, w' = w.drewN n := by
  by_cases hn : l.length = m.length
  · have HV := Lib.hid (show ∀ k, k ≤ l.length → (∀ j, j < k → l.getD j 0 = m.getD j 0) → (∀ j, k ≤ j → j < l.length → l.getD j 0 = m.getD j 0) → decide (l = m) = true from fun k hk ha hb => decide_eq_true (by
      refine List.ext_getElem hn (fun j h1 h2 => ?_)
      have h := if hj : j < k then ha j hj else hb j (by omega) h1
      simpa [List.getD, List.getElem?_eq_getElem h1, List.getElem?_eq_getElem h2] using h))
    have HD := Lib.hid (show ∀ k, k < l.length → l.getD k 0 ≠ m.getD k 0 → decide (l = m) = false from fun k hk h => decide_eq_false (fun e => h (by rw [e])))
    have e1 : ((l.length : Int) != (m.length : Int)) = false := by rw [bne_eq_false_iff_eq]; omega
    have H1 := Lib.hid h1
    have H2 := Lib.hid h2
    have HN := Lib.hid hn
    have hln : l.length ≤ m.length := by omega
    clear h1 h2 hn
    go_enter Try.func20, Try.ntmps20
    go_wp2_with fail
    go_loopw [5] (fun i wr => ∃ (k n : Nat), i = .int .i64 k ∧ k ≤ l.length ∧ wr = w.drewN n ∧ ∀ j, j < k → l.getD j 0 = m.getD j 0) (fun i _ => l.length - (intOf i).toNat)
    case atStart => exact ⟨0, 0, rfl, Nat.zero_le _, rfl, fun j h => absurd h (by omega)⟩
    case round =>
      obtain ⟨k, n, rfl, hk, rfl, heq⟩ := hrel
      have HE := Lib.hid heq
      clear heq
      by_cases hlt : k < l.length
      · obtain ⟨_, _, e0, hc1, hc2, _, hcell⟩ := H1.out
        obtain ⟨_, _, e0', hd1, hd2, _, hcell'⟩ := H2.out
        cases e0
        cases e0'
        obtain ⟨p, po, rfl, x1⟩ := hcell k hlt
        obtain ⟨q, qo, rfl, x2⟩ := hcell' k (by omega)
        have hkm : (k : Int) < (m.length : Int) := by omega
        have hkl : (k : Int) < (l.length : Int) := by omega
        obtain ⟨u, hu⟩ : ∃ u, (l.getD k 0).toNat = u := ⟨_, rfl⟩
        obtain ⟨v, hv⟩ : ∃ v, (m.getD k 0).toNat = v := ⟨_, rfl⟩
        rw [hu] at x1
        rw [hv] at x2
        clear hcell hcell'
        by_cases huv : u = v
        · have e2 : ((u : Int) != (v : Int)) = false := by rw [bne_eq_false_iff_eq]; omega
          have HNE := Lib.hid (show ∀ j, j < k + 1 → l.getD j 0 = m.getD j 0 from fun j hj => by
            by_cases h : j < k
            · exact HE.out j h
            · obtain rfl : j = k := by omega
              exact UInt8.toNat_inj.1 (by omega))
          clear hu hv huv
          go_wp2_with fail
          go_quiet (fail)
          go_wp2_with fail
          go_roundw
          case rel => exact ⟨k + 1, n + nq, by go_num, by omega, (by first | rfl | exact drewN_add _ _ _), HNE.out⟩
          case measure => simp [intOf]; omega
        · have e2 : ((u : Int) != (v : Int)) = true := by rw [bne_iff_ne]; omega
          have HNE := Lib.hid (show decide (l = m) = false from HD.out k hlt (fun e => huv (by rw [← hu, ← hv, e])))
          clear hu hv huv
          go_wp2_with fail
          go_quiet (fail)
          go_wp2_with fail
          go_ret
          exact ⟨by rw [HNE.out]; rfl, n + nq, (by first | rfl | exact drewN_add _ _ _)⟩
      · have hkl : ¬ (k : Int) < (l.length : Int) := by omega
        have HNE := Lib.hid (HV.out k hk HE.out (fun j h1 h2 => absurd h2 (by omega)))
        go_wp2_with fail
        go_ret
        exact ⟨by rw [HNE.out]; rfl, n, rfl⟩
  · have e1 : ((l.length : Int) != (m.length : Int)) = true := by rw [bne_iff_ne]; omega
    have HV := Lib.hid (show decide (l = m) = false from decide_eq_false (fun e => hn (by rw [e])))
    clear hn h1 h2
    go_enter Try.func20, Try.ntmps20
    go_wp2_with fail
    go_ret
    exact ⟨by rw [HV.out]; rfl, 0, rfl⟩

theorem key_iff (x y : E) : decide (x.key = y.key) = (decide (x.f = y.f) && (decide (x.t = y.t) && decide (x.l = y.l))) := by
  unfold E.key
  rw [Bool.eq_iff_iff]
  simp
set_option maxRecDepth 100000 in
set_option maxHeartbeats 400000 in
theorem same_any (x y : E) (w : World) (F G : Nat → Prop) (hx : x.ok F w) (hy : y.ok G w) (r : Bool) (hr : decide (x.key = y.key) = r) :
    Calls Try.prog 12 #[.agg #[.int .i64 x.f, .int .i64 x.t, .slice x.ao x.l.length x.cap], .agg #[.int .i64 y.f, .int .i64 y.t, .slice y.ao y.l.length y.cap]] w fun e w' => e = .returned (.bool r) ∧ Below w.heap.size w w' := by
  obtain ⟨f, t, ao, cap, l⟩ := x
  obtain ⟨f', t', ao', cap', l'⟩ := y
  rw [key_iff] at hr
  simp only at hr ⊢
  have HS := Lib.hid (fun W (h1 : BytesV W (.slice ao l.length cap) l) (h2 : BytesV W (.slice ao' l'.length cap') l') => same01_any ao ao' cap cap' l l' W (by have := hx.2.2; simp only at this; omega) (by have := hy.2.2; simp only at this; omega) h1 h2)
  have H1 := Lib.hid hx.1
  have H2 := Lib.hid hy.1
  clear hx hy
  by_cases hf : f = f'
  · have e1 : ((f : Int) == f') = true := by simp [hf]
    by_cases ht : t = t'
    · have e2 : ((t : Int) == t') = true := by simp [ht]
      have HR := Lib.hid (show decide (l = l') = r by rw [← hr, decide_eq_true hf, decide_eq_true ht]; rfl)
      clear hr hf ht
      go_enter Try.func12, Try.ntmps12
      go_wp2_with fail
      refine Calls.mono (HS.out _ ?_ ?_) ?_
      · exact H1.out.keep (((Mods.refl (fun _ => False) w).alloc _).alloc _) (fun _ _ _ h => h)
      · exact H2.out.keep (((Mods.refl (fun _ => False) w).alloc _).alloc _) (fun _ _ _ h => h)
      rintro e w1 ⟨rfl, n, rfl⟩
      go_wp2_with fail
      go_ret
      exact ⟨by rw [← HR.out]; rfl, Go.below_drewN (((Below.refl _ w).alloc (Nat.le_refl _) _).alloc (by simp) _) n⟩
    · have e2 : ((t : Int) == t') = false := by simp [ht]
      have HR := Lib.hid (show false = r by rw [← hr, decide_eq_false ht]; simp)
      clear hr hf ht
      go_enter Try.func12, Try.ntmps12
      go_wp2_with fail
      go_ret
      exact ⟨by rw [← HR.out]; rfl, ((Below.refl _ w).alloc (Nat.le_refl _) _).alloc (by simp) _⟩
  · have e1 : ((f : Int) == f') = false := by simp [hf]
    have HR := Lib.hid (show false = r by rw [← hr, decide_eq_false hf]; rfl)
    clear hr hf
    go_enter Try.func12, Try.ntmps12
    go_wp2_with fail
    go_ret
    exact ⟨by rw [← HR.out]; rfl, ((Below.refl _ w).alloc (Nat.le_refl _) _).alloc (by simp) _⟩
end Go.Proofs.Ytngackbgcknphaa.B
