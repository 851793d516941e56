/- Several texts in one. -/
import Derived.Test.YtlbkbjeajcadiaaGreatDoorOrdG
import Derived.Deep.AppendLies
import Derived.Test.YtlbkbjeajcadiaaGreatDoorAppC

/- ids.Set, and the document's Set. -/
namespace Go.Proofs.YtlbkbjeajcadiaaGreatDoor.O
open Go.RowKit Go.Proofs.YtlbkbjeajcadiaaGreatDoor.M Go.BigFrame
set_option linter.unusedVariables false
set_option linter.unusedSimpArgs false

section
variable {P : Program} {w : World} {α : Type}
end
abbrev OwnL (w : World) (B : Nat) (oo : Option Addr) (oc : Nat) (M : List Id) : Prop := w.ownsRow B 31 2 (.slice oo M.length oc) M.length (M.flatMap idC)
/-- the document's add: where it stands -/
def AddSt (o : List Id) (x : Id) (k : Nat) (done : Bool) (M : List Id) : Prop :=
  (done = false ∧ M = o.take k ∧ ∀ j y, j < k → o[j]? = some y → ilt x y = false) ∨ (done = true ∧ insE ilt x o = M ++ o.drop k)
theorem insE_front {o : List Id} {x : Id} : ∀ k, (∀ j y, j < k → o[j]? = some y → ilt x y = false) → insE ilt x o = o.take k ++ insE ilt x (o.drop k) := by
  induction o with
  | nil => intro k _; simp
  | cons a o ih =>
    intro k h
    cases k with
    | zero => simp
    | succ k =>
      have h0 := h 0 a (by omega) rfl
      show (if ilt x a then x :: a :: o else a :: insE ilt x o) = _
      rw [h0, if_neg (by simp), ih k (fun j y hj hy => h (j + 1) y (by omega) (by simpa using hy))]
      simp
theorem AddSt.start (o : List Id) (x : Id) : AddSt o x 0 false [] := .inl ⟨rfl, by simp, fun j y hj => absurd hj (by omega)⟩
theorem drop_at {o : List Id} {k : Nat} {y : Id} (hy : o[k]? = some y) : o.drop k = y :: o.drop (k + 1) := by
  have hk := (List.getElem?_eq_some_iff.1 hy).1
  rw [← List.getElem_cons_drop hk, (List.getElem?_eq_some_iff.1 hy).2]
theorem AddSt.put {o : List Id} {x y : Id} {k : Nat} {M : List Id} (h : AddSt o x k false M) (hy : o[k]? = some y) (hlt : ilt x y = true) : AddSt o x (k + 1) true (M ++ [x] ++ [y]) := by
  rcases h with ⟨_, rfl, hno⟩ | ⟨h, _⟩
  · refine .inr ⟨rfl, ?_⟩
    rw [insE_front k hno, drop_at hy]
    show o.take k ++ (if ilt x y then x :: y :: o.drop (k + 1) else y :: insE ilt x (o.drop (k + 1))) = _
    rw [hlt, if_pos rfl]
    simp
  · cases h
theorem AddSt.go {o : List Id} {x y : Id} {k : Nat} {M : List Id} (h : AddSt o x k false M) (hy : o[k]? = some y) (hlt : ilt x y = false) : AddSt o x (k + 1) false (M ++ [y]) := by
  rcases h with ⟨_, rfl, hno⟩ | ⟨h, _⟩
  · refine .inl ⟨rfl, by rw [List.take_add_one, hy]; rfl, fun j z hj hz => ?_⟩
    by_cases e : j = k
    · subst e; rw [hy] at hz; cases hz; exact hlt
    · exact hno j z (by omega) hz
  · cases h
theorem AddSt.more {o : List Id} {x y : Id} {k : Nat} {M : List Id} (h : AddSt o x k true M) (hy : o[k]? = some y) : AddSt o x (k + 1) true (M ++ [y]) := by
  rcases h with ⟨h, _⟩ | ⟨_, h⟩
  · cases h
  · refine .inr ⟨rfl, ?_⟩
    rw [h, drop_at hy]
    simp
theorem AddSt.len {o : List Id} {x : Id} {k : Nat} {b : Bool} {M : List Id} (h : AddSt o x k b M) (hk : k ≤ o.length) : M.length ≤ o.length + 1 := by
  rcases h with ⟨_, rfl, _⟩ | ⟨_, h⟩
  · rw [List.length_take]; omega
  · have := (insE_perm (lt := ilt) x o).length_eq
    rw [h, List.length_append, List.length_cons] at this
    omega
end Go.Proofs.YtlbkbjeajcadiaaGreatDoor.O

/- ids.Set and the document's Set: the contracts. -/
namespace Go.Proofs.YtlbkbjeajcadiaaGreatDoor.O
open Go.RowKit Go.Proofs.YtlbkbjeajcadiaaGreatDoor.M Go.BigFrame
set_option linter.unusedVariables false
set_option linter.unusedSimpArgs false

set_option maxRecDepth 100000 in
set_option maxHeartbeats 4000000 in
theorem compact_nil (w : World) :
    Calls Tryz.prog 74 #[.slice none 0 0] w fun e w' => e = .returned (.slice none 0 0) ∧ w = w' := by
  go_enter Tryz.func74, Tryz.ntmps74
  go_wp2_with fail
  go_ret
  exact ⟨rfl, rfl⟩
set_option maxRecDepth 100000 in
set_option maxHeartbeats 4000000 in
theorem set_any (l : List Id) (ao : Option Addr) (cap : Nat) (w : World) (h : IdsV w ao cap l) (hl : l.length ≤ 1000000) :
    Calls Tryz.prog 39 #[.slice ao l.length cap] w fun e w' => ∃ oo oc, e = .returned (.slice oo (setI l).length oc) ∧ (OwnL w' w.heap.size oo oc (setI l) ∧ Below w.heap.size w w') := by
  have HC := Lib.hid (cloneI_any l ao cap w h hl)
  clear h
  go_enter Tryz.func39, Tryz.ntmps39
  go_wp2_with fail
  refine HC.out.mono ?_
  rintro e w1 ⟨a1, c1, rfl, ho1, hb1⟩
  have HO1 := Lib.hid ho1
  have HB1 := Lib.hid hb1
  have hs1 := hb1.size
  have hc1 : a1 = none → c1 = 0 := fun e => by
    obtain ⟨ao', cap', e0, _, _, h3, _⟩ := own_view ho1
    cases e0
    exact (h3 e).2
  clear ho1 hb1 HC
  go_wp2_with fail
  refine (sortI_any w.heap.size w1 a1 c1 l HO1.out hl).mono ?_
  rintro e w2 ⟨rfl, m, hp, hs, hml, ho2, hm2⟩
  have HE := Lib.hid (keepN_set hp hs)
  have HB2 := Lib.hid (HB1.out.trans (hm2.below (B := w.heap.size) (fun j ⟨a, e1, e2⟩ => by subst e1; rw [e2]; exact (HO1.out.lt a.block rfl).1) hs1))
  have HO2 := Lib.hid ho2
  clear hp hs ho2 hm2
  cases a1 with
  | none =>
    obtain rfl := hc1 rfl
    have hl0 : l.length = 0 := by
      obtain ⟨ao', cap', e0, _, _, h3, _⟩ := own_view HO1.out
      cases e0
      exact (h3 rfl).1
    have hm0 : m = [] := List.length_eq_zero_iff.1 (by omega)
    have HE2 := Lib.hid (show setI l = [] by rw [← HE.out, hm0]; rfl)
    rw [hl0]
    clear hm0
    go_wp2_with fail
    refine (compact_nil w2).mono ?_
    rintro e w3 ⟨rfl, rfl⟩
    go_wp2_with fail
    go_ret
    refine ⟨none, 0, ret_val (by rw [HE2.out]; rfl), ?_⟩
    rw [HE2.out]
    exact ⟨World.ownsRow_nil _ _ _ _, HB2.out⟩
  | some a =>
    obtain ⟨g, rfl⟩ : ∃ g, a = ⟨g, 0, none⟩ := by
      obtain ⟨ao', cap', e0, _, _, _, h4⟩ := own_view HO1.out
      cases e0
      obtain ⟨g, cur, e1, _⟩ := h4 a rfl
      exact ⟨g, e1⟩
    have hgB := (HO1.out.lt g rfl).1
    have HO3 := Lib.hid (show OwnI w2 w.heap.size g m.length c1 m by have := HO2.out; rw [← hml] at this; exact this)
    have hmm : m.length ≤ 1000000 := by omega
    rw [← hml]
    clear HO2 HO1 hml
    go_wp2_with fail
    refine (compactI_any w.heap.size w2 g c1 m HO3.out hmm).mono ?_
    rintro e w3 ⟨m3, rfl, hm3, ho3, hmod⟩
    have HE3 := Lib.hid (hm3.trans HE.out)
    have HFIN := Lib.hid (show OwnL w3 w.heap.size (some ⟨g, 0, none⟩) c1 m3 ∧ Below w.heap.size w w3 from ⟨ho3, HB2.out.trans (hmod.below (B := w.heap.size) (fun j e => by rw [e]; exact hgB) HB2.out.size)⟩)
    clear hm3 ho3 hmod
    go_wp2_with fail
    go_ret
    refine ⟨some ⟨g, 0, none⟩, c1, ret_val (by rw [← HE3.out]; rfl), ?_⟩
    rw [← HE3.out]
    exact HFIN.out
end Go.Proofs.YtlbkbjeajcadiaaGreatDoor.O

/- The contract of cmd.Check. -/
namespace Go.Proofs.YtlbkbjeajcadiaaGreatDoor.P
open Go.RowKit Go.Proofs.YtlbkbjeajcadiaaGreatDoor.R Go.Proofs.YtlbkbjeajcadiaaGreatDoor.M Go.BigFrame
set_option linter.unusedVariables false
set_option linter.unusedSimpArgs false

def cmdEq (c d : Cmd) : Bool := (c.kind == d.kind) && ((c.client == d.client) && ((c.seq == d.seq) && ((c.key.toList == d.key.toList) && ((c.val.toList == d.val.toList) && (c.rev == d.rev)))))
set_option maxHeartbeats 2000000 in
theorem run_cmd_neq (c d : Cmd) (w : World) : (binOp .neq 24 (cmdV c) (cmdV d)).run Tryz.prog w = .ok (.bool (!cmdEq c d)) w := by
  have h1 : Tryz.prog.underlying 24 = some (.struct (Tryz.prog.fieldsOf 24)) := by kernel_rfl
  have h2 : Tryz.prog.stoodInHeld 24 = false := by kernel_rfl
  unfold cmdEq
  rw [run_neq_struct, show (10000 : Nat) = 9999 + 1 from rfl, run_equalIn_struct _ _ _ _ _ h1 h2]
  cases e1 : (c.kind == d.kind)
  · simp [go_sem, e1, Result.andThen]
  cases e2 : (c.client == d.client)
  · simp [go_sem, e1, e2, Result.andThen]
  cases e3 : (c.seq == d.seq)
  · simp [go_sem, e1, e2, e3, Result.andThen]
  cases e4 : (c.key.toList == d.key.toList)
  · simp [go_sem, e1, e2, e3, e4, Result.andThen]
  cases e5 : (c.val.toList == d.val.toList)
  · simp [go_sem, e1, e2, e3, e4, e5, Result.andThen]
  cases e6 : (c.rev == d.rev)
  · simp [go_sem, e1, e2, e3, e4, e5, e6, Result.andThen]
  simp [go_sem, e1, e2, e3, e4, e5, e6, Result.andThen]
theorem ba_eq (a b : ByteArray) : (a.toList == b.toList) = decide (a = b) := by
  rw [Bool.eq_iff_iff, beq_iff_eq, decide_eq_true_eq]
  constructor
  · intro h
    apply ba_ext
    rw [ByteArray.toList_eq, ByteArray.toList_eq] at h
    exact h
  · intro h; rw [h]
theorem cmdEq_iff (c d : Cmd) : cmdEq c d = true ↔ c = d := by
  unfold cmdEq
  rw [ba_eq, ba_eq]
  simp only [Bool.and_eq_true, beq_iff_eq, decide_eq_true_eq]
  constructor
  · rintro ⟨h1, h2, h3, h4, h5, h6⟩
    cases c; cases d
    simp only at *
    subst h1 h2 h3 h4 h5 h6
    rfl
  · intro h; subst h; exact ⟨rfl, rfl, rfl, rfl, rfl, rfl⟩
/-- what is wrong in form, as the program asks -/
theorem formBad_eq (c : Cmd) (hk : out c.kind 6 = false) : formBad c = (!cmdEq c (namedC c) || (!bare c && (decide (c.client = 0) || decide (c.seq = 0)))) := by
  have hk2 : 0 ≤ c.kind ∧ c.kind ≤ 6 := by
    unfold out at hk
    simp only [Bool.or_eq_false_iff, decide_eq_false_iff_not] at hk
    omega
  have he : ((!cmdEq c (namedC c)) = true) ↔ ¬ c = namedC c := by
    rw [Bool.not_eq_true', ← Bool.not_eq_true, cmdEq_iff]
  rw [Bool.eq_iff_iff, Bool.or_eq_true, he]
  obtain ⟨kind, client, seq, key, val, rev⟩ := c
  simp only at hk2
  have hkk : kind = 0 ∨ kind = 1 ∨ kind = 2 ∨ kind = 3 ∨ kind = 4 ∨ kind = 5 ∨ kind = 6 := by omega
  unfold formBad bare namedC
  clear he hk hk2
  rcases hkk with rfl | rfl | rfl | rfl | rfl | rfl | rfl <;> by_cases a : client = 0 <;> by_cases b : seq = 0 <;> by_cases d : key = nul <;> by_cases e : val = nul <;> by_cases f : rev = 0 <;> simp [a, b, d, e, f]
end Go.Proofs.YtlbkbjeajcadiaaGreatDoor.P
