/- Several texts in one. -/
import Derived.Test.YtndfhejfhfhbdaaGreatDoorMrg1
import Derived.Test.YtndfhejfhfhbdaaGreatDoorRows
import Derived.WalkKit
import Derived.WalkSpells
import Derived.WalkLawsBesides
import Derived.BigQuiet
import Derived.Deep.QuietTactic
import Derived.Lib.Hide
import Derived.LoopTactic
import Derived.Handy
import Derived.PlainAid

/- Plain law of ids: sets; what is left where neighbours are the same; what is found by halves. -/
namespace Go.Proofs.YtndfhejfhfhbdaaGreatDoor.O
set_option linter.unusedVariables false

/-- the set of a list: the document's way -/
def setI (l : List Id) : List Id := l.foldl (fun o x => if x ∈ o then o else insE ilt x o) []
theorem ilt_tot (l : List Id) : Tot ilt l := ⟨ilt_irr, fun a b c => ilt_trans, fun a _ b _ h => ilt_tri h⟩
theorem setI_gen : ∀ (l o : List Id), o.Pairwise (fun a b => ilt a b = true) → (l.foldl (fun o x => if x ∈ o then o else insE ilt x o) o).Pairwise (fun a b => ilt a b = true) ∧ ∀ x, x ∈ l.foldl (fun o x => if x ∈ o then o else insE ilt x o) o ↔ x ∈ o ∨ x ∈ l
  | [], o, h => ⟨h, fun x => by simp⟩
  | a :: l, o, h => by
    rw [List.foldl_cons]
    by_cases e : a ∈ o
    · rw [if_pos e]
      obtain ⟨h1, h2⟩ := setI_gen l o h
      refine ⟨h1, fun x => (h2 x).trans ?_⟩
      rw [List.mem_cons]
      refine ⟨fun h => h.elim .inl fun h => .inr (.inr h), fun h => ?_⟩
      rcases h with h | rfl | h
      · exact .inl h
      · exact .inl e
      · exact .inr h
    · rw [if_neg e]
      obtain ⟨h1, h2⟩ := setI_gen l (insE ilt a o) (insE_sorted a (ilt_tot _) e h)
      refine ⟨h1, fun x => (h2 x).trans ?_⟩
      rw [(insE_perm a o).mem_iff, List.mem_cons, List.mem_cons]
      refine ⟨fun h => ?_, fun h => ?_⟩
      · rcases h with (h | h) | h
        · exact .inr (.inl h)
        · exact .inl h
        · exact .inr (.inr h)
      · rcases h with h | h | h
        · exact .inl (.inr h)
        · exact .inl (.inl h)
        · exact .inr h
theorem setI_sorted (l : List Id) : (setI l).Pairwise (fun a b => ilt a b = true) := (setI_gen l [] .nil).1
theorem setI_mem (l : List Id) (x : Id) : x ∈ setI l ↔ x ∈ l := by
  have := (setI_gen l [] .nil).2 x
  unfold setI
  simpa using this
/-- whatever is sorted, and has the same, is the set -/
theorem setI_one {l m : List Id} (hs : m.Pairwise (fun a b => ilt a b = true)) (hm : ∀ x, x ∈ m ↔ x ∈ l) : m = setI l :=
  sorted_one ilt_irr (fun a b c => ilt_trans) hs (setI_sorted l) fun x => (hm x).trans (setI_mem l x).symm
theorem setI_same {l m : List Id} (hm : ∀ x, x ∈ m ↔ x ∈ l) : setI m = setI l := setI_one (setI_sorted m) fun x => (setI_mem m x).trans (hm x)
theorem setI_own {l : List Id} (hs : l.Pairwise (fun a b => ilt a b = true)) : setI l = l := (setI_one hs fun x => Iff.rfl).symm
theorem setI_len (l : List Id) : (setI l).length ≤ l.length := by
  have key : ∀ (l o : List Id), (l.foldl (fun o x => if x ∈ o then o else insE ilt x o) o).length ≤ o.length + l.length := by
    intro l
    induction l with
    | nil => intro o; simp
    | cons a l ih =>
      intro o
      rw [List.foldl_cons]
      refine Nat.le_trans (ih _) ?_
      by_cases e : a ∈ o
      · rw [if_pos e]; simp
      · rw [if_neg e, (insE_perm a o).length_eq]; simp; omega
  have := key l []
  simpa [setI] using this
/-- not behind: what is sorted, but may be the same -/
def ile (a b : Id) : Prop := ilt b a = false
theorem ile_trans {a b c : Id} (h1 : ile a b) (h2 : ile b c) : ile a c := by
  unfold ile at *
  rw [ilt_no] at *
  omega
theorem ile_lt {a b : Id} (h : ile a b) (hne : a ≠ b) : ilt a b = true := by
  rcases ilt_tri hne with h1 | h1
  · exact h1
  · unfold ile at h; rw [h] at h1; cases h1
/-- what is left of neighbours that are the same: what has been kept (its last one known), and the next one -/
def keepN (o : List Id) (x : Id) : List Id := if o.getLast? = some x then o else o ++ [x]
theorem keepN_gen : ∀ (l o : List Id), o.Pairwise (fun a b => ilt a b = true) → l.Pairwise ile → (∀ a ∈ o, ∀ x ∈ l, ile a x) → (l.foldl keepN o).Pairwise (fun a b => ilt a b = true) ∧ ∀ x, x ∈ l.foldl keepN o ↔ x ∈ o ∨ x ∈ l
  | [], o, h, _, _ => ⟨h, fun x => by simp⟩
  | a :: l, o, h, hl, hol => by
    rw [List.foldl_cons]
    have p := List.pairwise_cons.1 hl
    by_cases e : o.getLast? = some a
    · have hk : keepN o a = o := by unfold keepN; rw [if_pos e]
      rw [hk]
      obtain ⟨h1, h2⟩ := keepN_gen l o h p.2 (fun b hb x hx => hol b hb x (List.mem_cons_of_mem _ hx))
      refine ⟨h1, fun x => (h2 x).trans ?_⟩
      rw [List.mem_cons]
      refine ⟨fun h => h.elim .inl fun h => .inr (.inr h), fun h => ?_⟩
      rcases h with h | rfl | h
      · exact .inl h
      · exact .inl (List.mem_of_getLast? e)
      · exact .inr h
    · have hk : keepN o a = o ++ [a] := by unfold keepN; rw [if_neg e]
      rw [hk]
      have hoa : ∀ b ∈ o, ilt b a = true := fun b hb => by
        refine ile_lt (hol b hb a List.mem_cons_self) fun e2 => ?_
        subst e2
        -- b is in o, and isn't its last one: the last one would be behind b
        cases hg : o.getLast? with
        | none => rw [List.getLast?_eq_none_iff] at hg; rw [hg] at hb; cases hb
        | some z =>
          have hz : z ∈ o := List.mem_of_getLast? hg
          have hne : b ≠ z := fun e3 => e (by rw [hg, e3])
          obtain ⟨i, hi, hbi⟩ := List.mem_iff_getElem.1 hb
          have hlast : o[o.length - 1]'(by omega) = z := by
            rw [List.getLast?_eq_getElem?, List.getElem?_eq_getElem (by omega)] at hg
            exact Option.some.inj hg
          have hil : i < o.length - 1 := by
            rcases Nat.lt_or_ge i (o.length - 1) with h3 | h3
            · exact h3
            · have : i = o.length - 1 := by omega
              subst this
              exact absurd (hbi.symm.trans hlast) hne
          have := List.pairwise_iff_getElem.1 h i (o.length - 1) hi (by omega) hil
          rw [hbi, hlast] at this
          have h5 := hol z hz b List.mem_cons_self
          unfold ile at h5
          rw [h5] at this; cases this
      obtain ⟨h1, h2⟩ := keepN_gen l (o ++ [a]) (List.pairwise_append.2 ⟨h, by simp, fun b hb x hx => by rw [List.mem_singleton.1 hx]; exact hoa b hb⟩) p.2 (fun b hb x hx => by
        rcases List.mem_append.1 hb with hb | hb
        · exact hol b hb x (List.mem_cons_of_mem _ hx)
        · rw [List.mem_singleton.1 hb]; exact p.1 x hx)
      refine ⟨h1, fun x => (h2 x).trans ?_⟩
      rw [List.mem_append, List.mem_singleton, List.mem_cons]
      refine ⟨fun h => ?_, fun h => ?_⟩
      · rcases h with (h | h) | h
        · exact .inl h
        · exact .inr (.inl h)
        · exact .inr (.inr h)
      · rcases h with h | h | h
        · exact .inl (.inl h)
        · exact .inl (.inr h)
        · exact .inr h
/-- sorted, and then without neighbours that are the same: the set -/
theorem keepN_set {l m : List Id} (hp : m.Perm l) (hs : m.Pairwise ile) : m.foldl keepN [] = setI l := by
  obtain ⟨h1, h2⟩ := keepN_gen m [] .nil hs (fun a h => by cases h)
  exact setI_one h1 fun x => by rw [h2 x, hp.mem_iff]; simp
end Go.Proofs.YtndfhejfhfhbdaaGreatDoor.O

/- The reference's decoding of a text: contracts of stonecropref04's tail and At at every text and place. Written by gen.py. -/
namespace Go.Proofs.YtndfhejfhfhbdaaGreatDoor.R
open Go.RowKit Go.PlainAid

theorem bne_true {a b : Int} (h : a ≠ b) : (a != b) = true := by rw [bne_iff_ne]; exact h
theorem beq_true' {a b : Int} (h : a = b) : (a == b) = true := by rw [beq_iff_eq]; exact h
theorem beq_false' {a b : Int} (h : a ≠ b) : (a == b) = false := by rw [beq_eq_false_iff_ne]; exact h
theorem ret_int {k : IntKind} {a b : Int} (h : a = b) : Ending.returned (.int k a) = .returned (.int k b) := by rw [h]
theorem ret_bool {a b : Bool} (h : a = b) : Ending.returned (.bool a) = .returned (.bool b) := by rw [h]

/-- the number that a byte behind the first tells; -1: none -/
def tl (s : ByteArray) (k : Nat) : Int := if k < s.size ∧ 128 ≤ bt s k ∧ bt s k ≤ 191 then bt s k - 128 else -1
theorem tl_in {s : ByteArray} {k : Nat} (h : k < s.size) (h1 : 128 ≤ bt s k) (h2 : bt s k ≤ 191) : tl s k = bt s k - 128 := by unfold tl; rw [if_pos ⟨h, h1, h2⟩]
theorem tl_out {s : ByteArray} {k : Nat} (h : ¬ (k < s.size ∧ 128 ≤ bt s k ∧ bt s k ≤ 191)) : tl s k = -1 := by unfold tl; rw [if_neg h]
theorem tl_le (s : ByteArray) (k : Nat) : -1 ≤ tl s k ∧ tl s k ≤ 63 := by unfold tl; split <;> omega

set_option maxHeartbeats 400000 in
theorem tail_any (s : ByteArray) (k : Nat) (w : World) (_hs : s.size ≤ 140737488355328) :
    Calls Tryz.prog 189 #[.string s, .int .i64 k] w fun e w' => e = .returned (.int .i64 (tl s k)) ∧ w = w' := by
  have hb := get_bt s
  by_cases h : k < s.size
  · have h0 := bt_nonneg s k
    have h9 := bt_le s k
    by_cases h1 : 128 ≤ bt s k
    · by_cases h2 : bt s k ≤ 191
      · have HV := Lib.hid (tl_in h h1 h2)
        go_enter Tryz.func189, Tryz.ntmps189
        go_wp2
        go_ret
        exact ⟨ret_int HV.out.symm, rfl⟩
      · have HV := Lib.hid (tl_out (s := s) (k := k) (by omega))
        go_enter Tryz.func189, Tryz.ntmps189
        go_wp2
        go_ret
        exact ⟨ret_int HV.out.symm, rfl⟩
    · have HV := Lib.hid (tl_out (s := s) (k := k) (by omega))
      go_enter Tryz.func189, Tryz.ntmps189
      go_wp2
      go_ret
      exact ⟨ret_int HV.out.symm, rfl⟩
  · have HV := Lib.hid (tl_out (s := s) (k := k) (by omega))
    go_enter Tryz.func189, Tryz.ntmps189
    go_wp2
    go_ret
    exact ⟨ret_int HV.out.symm, rfl⟩

def refV (b t1 t2 t3 : Int) : Int × Int :=
  if b < 128 then (b, 1)
  else if 194 ≤ b ∧ b ≤ 223 then (if t1 < 0 then (-1, 1) else (64 * (b - 192) + t1, 2))
  else if 224 ≤ b ∧ b ≤ 239 then
    (if t1 < 0 then (-1, 1) else if t2 < 0 then (-1, 1) else if 64 * (64 * (b - 224) + t1) + t2 < 2048 ∨ (55296 ≤ 64 * (64 * (b - 224) + t1) + t2 ∧ 64 * (64 * (b - 224) + t1) + t2 ≤ 57343) then (-1, 1) else (64 * (64 * (b - 224) + t1) + t2, 3))
  else if 240 ≤ b ∧ b ≤ 244 then
    (if t1 < 0 then (-1, 1) else if t2 < 0 then (-1, 1) else if t3 < 0 then (-1, 1) else if 64 * (64 * (64 * (b - 240) + t1) + t2) + t3 < 65536 ∨ 1114111 < 64 * (64 * (64 * (b - 240) + t1) + t2) + t3 then (-1, 1) else (64 * (64 * (64 * (b - 240) + t1) + t2) + t3, 4))
  else (-1, 1)
def refAt (s : ByteArray) (k : Nat) : Int × Int := refV (bt s k) (tl s (k + 1)) (tl s (k + 2)) (tl s (k + 3))

set_option maxHeartbeats 1000000 in
theorem at_a (s : ByteArray) (k : Nat) (w : World) (_hs : s.size ≤ 140737488355328) (hk : k < s.size) (h1 : bt s k < 128) :
    Calls Tryz.prog 177 #[.string s, .int .i64 k] w fun e w' => e = .returned (.agg #[.int .i64 (bt s k), .int .i64 1]) ∧ Below w.heap.size w w' := by
  have hb := get_bt s
  have h0 := bt_nonneg s k
  have h9 := bt_le s k
  go_enter Tryz.func177, Tryz.ntmps177
  go_wp2_with fail
  go_returns
  exact ⟨rfl, (Below.refl _ _).alloc (Nat.le_refl _) _⟩

set_option maxHeartbeats 1000000 in
theorem at_b1 (s : ByteArray) (k : Nat) (w : World) (_hs : s.size ≤ 140737488355328) (hk : k < s.size) (h1 : 128 ≤ bt s k) (h2 : bt s k < 194) :
    Calls Tryz.prog 177 #[.string s, .int .i64 k] w fun e w' => e = .returned (.agg #[.int .i64 (-1), .int .i64 1]) ∧ Below w.heap.size w w' := by
  have hb := get_bt s
  have h0 := bt_nonneg s k
  have h9 := bt_le s k
  go_enter Tryz.func177, Tryz.ntmps177
  go_wp2_with fail
  go_returns
  exact ⟨rfl, (Below.refl _ _).alloc (Nat.le_refl _) _⟩

set_option maxHeartbeats 1000000 in
theorem at_b2 (s : ByteArray) (k : Nat) (w : World) (_hs : s.size ≤ 140737488355328) (hk : k < s.size) (h1 : 244 < bt s k) :
    Calls Tryz.prog 177 #[.string s, .int .i64 k] w fun e w' => e = .returned (.agg #[.int .i64 (-1), .int .i64 1]) ∧ Below w.heap.size w w' := by
  have hb := get_bt s
  have h0 := bt_nonneg s k
  have h9 := bt_le s k
  go_enter Tryz.func177, Tryz.ntmps177
  go_wp2_with fail
  go_returns
  exact ⟨rfl, (Below.refl _ _).alloc (Nat.le_refl _) _⟩

set_option maxHeartbeats 1000000 in
theorem at_c10 (s : ByteArray) (k : Nat) (w : World) (_hs : s.size ≤ 140737488355328) (hk : k < s.size) (h1 : 194 ≤ bt s k) (h2 : bt s k ≤ 223) (t1 : tl s (k + 1) < 0) :
    Calls Tryz.prog 177 #[.string s, .int .i64 k] w fun e w' => e = .returned (.agg #[.int .i64 (-1), .int .i64 1]) ∧ Below w.heap.size w w' := by
  have hb := get_bt s
  have h0 := bt_nonneg s k
  have h9 := bt_le s k
  have l1 := tl_le s (k + 1)
  go_enter Tryz.func177, Tryz.ntmps177
  go_wp2_with fail
  refine wp_loop_rounds 2 ?_
  rw [rounds_succ]
  go_wp2_with fail
  rw [show ((k : Int) + 1) = ((k + 1 : Nat) : Int) from by omega]
  refine (tail_any s (k + 1) _ _hs).mono ?_
  rintro e w1 ⟨rfl, rfl⟩
  go_wp2_with fail
  go_returns
  exact ⟨rfl, (Below.refl _ _).alloc (Nat.le_refl _) _⟩

set_option maxHeartbeats 1000000 in
theorem at_c1k (s : ByteArray) (k : Nat) (w : World) (_hs : s.size ≤ 140737488355328) (hk : k < s.size) (h1 : 194 ≤ bt s k) (h2 : bt s k ≤ 223) (t1 : 0 ≤ tl s (k + 1)) :
    Calls Tryz.prog 177 #[.string s, .int .i64 k] w fun e w' => e = .returned (.agg #[.int .i64 ((64 * (bt s k - 192) + tl s (k + 1))), .int .i64 2]) ∧ Below w.heap.size w w' := by
  have hb := get_bt s
  have h0 := bt_nonneg s k
  have h9 := bt_le s k
  have l1 := tl_le s (k + 1)
  go_enter Tryz.func177, Tryz.ntmps177
  go_wp2_with fail
  refine wp_loop_rounds 2 ?_
  rw [rounds_succ]
  go_wp2_with fail
  rw [show ((k : Int) + 1) = ((k + 1 : Nat) : Int) from by omega]
  refine (tail_any s (k + 1) _ _hs).mono ?_
  rintro e w1 ⟨rfl, rfl⟩
  go_wp2_with fail
  rw [rounds_succ]
  go_wp2_with fail
  go_returns
  exact ⟨rfl, (Below.refl _ _).alloc (Nat.le_refl _) _⟩

end Go.Proofs.YtndfhejfhfhbdaaGreatDoor.R

/- Leaves of the reference's decoding. Written by gen.py. -/
namespace Go.Proofs.YtndfhejfhfhbdaaGreatDoor.R
open Go.RowKit Go.PlainAid
set_option maxHeartbeats 1000000 in
theorem at_c20 (s : ByteArray) (k : Nat) (w : World) (_hs : s.size ≤ 140737488355328) (hk : k < s.size) (h1 : 224 ≤ bt s k) (h2 : bt s k ≤ 239) (t1 : tl s (k + 1) < 0) :
    Calls Tryz.prog 177 #[.string s, .int .i64 k] w fun e w' => e = .returned (.agg #[.int .i64 (-1), .int .i64 1]) ∧ Below w.heap.size w w' := by
  have hb := get_bt s
  have h0 := bt_nonneg s k
  have h9 := bt_le s k
  have l1 := tl_le s (k + 1)
  go_enter Tryz.func177, Tryz.ntmps177
  go_wp2_with fail
  refine wp_loop_rounds 2 ?_
  rw [rounds_succ]
  go_wp2_with fail
  rw [show ((k : Int) + 1) = ((k + 1 : Nat) : Int) from by omega]
  refine (tail_any s (k + 1) _ _hs).mono ?_
  rintro e w1 ⟨rfl, rfl⟩
  go_wp2_with fail
  go_returns
  exact ⟨rfl, (Below.refl _ _).alloc (Nat.le_refl _) _⟩

set_option maxHeartbeats 1000000 in
theorem at_c21 (s : ByteArray) (k : Nat) (w : World) (_hs : s.size ≤ 140737488355328) (hk : k < s.size) (h1 : 224 ≤ bt s k) (h2 : bt s k ≤ 239) (t1 : 0 ≤ tl s (k + 1)) (t2 : tl s (k + 2) < 0) :
    Calls Tryz.prog 177 #[.string s, .int .i64 k] w fun e w' => e = .returned (.agg #[.int .i64 (-1), .int .i64 1]) ∧ Below w.heap.size w w' := by
  have hb := get_bt s
  have h0 := bt_nonneg s k
  have h9 := bt_le s k
  have l1 := tl_le s (k + 1)
  have l2 := tl_le s (k + 2)
  go_enter Tryz.func177, Tryz.ntmps177
  go_wp2_with fail
  refine wp_loop_rounds 3 ?_
  rw [rounds_succ]
  go_wp2_with fail
  rw [show ((k : Int) + 1) = ((k + 1 : Nat) : Int) from by omega]
  refine (tail_any s (k + 1) _ _hs).mono ?_
  rintro e w1 ⟨rfl, rfl⟩
  go_wp2_with fail
  rw [rounds_succ]
  go_wp2_with fail
  rw [show ((k : Int) + 2) = ((k + 2 : Nat) : Int) from by omega]
  refine (tail_any s (k + 2) _ _hs).mono ?_
  rintro e w2 ⟨rfl, rfl⟩
  go_wp2_with fail
  go_returns
  exact ⟨rfl, (Below.refl _ _).alloc (Nat.le_refl _) _⟩

set_option maxHeartbeats 1000000 in
theorem at_c2x (s : ByteArray) (k : Nat) (w : World) (_hs : s.size ≤ 140737488355328) (hk : k < s.size) (h1 : 224 ≤ bt s k) (h2 : bt s k ≤ 239) (h3 : (64 * (64 * (bt s k - 224) + tl s (k + 1)) + tl s (k + 2)) < 2048) (t1 : 0 ≤ tl s (k + 1)) (t2 : 0 ≤ tl s (k + 2)) :
    Calls Tryz.prog 177 #[.string s, .int .i64 k] w fun e w' => e = .returned (.agg #[.int .i64 (-1), .int .i64 1]) ∧ Below w.heap.size w w' := by
  have hb := get_bt s
  have h0 := bt_nonneg s k
  have h9 := bt_le s k
  have l1 := tl_le s (k + 1)
  have l2 := tl_le s (k + 2)
  go_enter Tryz.func177, Tryz.ntmps177
  go_wp2_with fail
  refine wp_loop_rounds 3 ?_
  rw [rounds_succ]
  go_wp2_with fail
  rw [show ((k : Int) + 1) = ((k + 1 : Nat) : Int) from by omega]
  refine (tail_any s (k + 1) _ _hs).mono ?_
  rintro e w1 ⟨rfl, rfl⟩
  go_wp2_with fail
  rw [rounds_succ]
  go_wp2_with fail
  rw [show ((k : Int) + 2) = ((k + 2 : Nat) : Int) from by omega]
  refine (tail_any s (k + 2) _ _hs).mono ?_
  rintro e w2 ⟨rfl, rfl⟩
  go_wp2_with fail
  rw [rounds_succ]
  go_wp2_with fail
  go_returns
  exact ⟨rfl, (Below.refl _ _).alloc (Nat.le_refl _) _⟩

set_option maxHeartbeats 1000000 in
theorem at_c2y (s : ByteArray) (k : Nat) (w : World) (_hs : s.size ≤ 140737488355328) (hk : k < s.size) (h1 : 224 ≤ bt s k) (h2 : bt s k ≤ 239) (h3 : 55296 ≤ (64 * (64 * (bt s k - 224) + tl s (k + 1)) + tl s (k + 2))) (h4 : (64 * (64 * (bt s k - 224) + tl s (k + 1)) + tl s (k + 2)) ≤ 57343) (t1 : 0 ≤ tl s (k + 1)) (t2 : 0 ≤ tl s (k + 2)) :
    Calls Tryz.prog 177 #[.string s, .int .i64 k] w fun e w' => e = .returned (.agg #[.int .i64 (-1), .int .i64 1]) ∧ Below w.heap.size w w' := by
  have hb := get_bt s
  have h0 := bt_nonneg s k
  have h9 := bt_le s k
  have l1 := tl_le s (k + 1)
  have l2 := tl_le s (k + 2)
  go_enter Tryz.func177, Tryz.ntmps177
  go_wp2_with fail
  refine wp_loop_rounds 3 ?_
  rw [rounds_succ]
  go_wp2_with fail
  rw [show ((k : Int) + 1) = ((k + 1 : Nat) : Int) from by omega]
  refine (tail_any s (k + 1) _ _hs).mono ?_
  rintro e w1 ⟨rfl, rfl⟩
  go_wp2_with fail
  rw [rounds_succ]
  go_wp2_with fail
  rw [show ((k : Int) + 2) = ((k + 2 : Nat) : Int) from by omega]
  refine (tail_any s (k + 2) _ _hs).mono ?_
  rintro e w2 ⟨rfl, rfl⟩
  go_wp2_with fail
  rw [rounds_succ]
  go_wp2_with fail
  go_returns
  exact ⟨rfl, (Below.refl _ _).alloc (Nat.le_refl _) _⟩

set_option maxHeartbeats 1000000 in
theorem at_c2k (s : ByteArray) (k : Nat) (w : World) (_hs : s.size ≤ 140737488355328) (hk : k < s.size) (h1 : 224 ≤ bt s k) (h2 : bt s k ≤ 239) (h3 : 2048 ≤ (64 * (64 * (bt s k - 224) + tl s (k + 1)) + tl s (k + 2))) (h4 : (64 * (64 * (bt s k - 224) + tl s (k + 1)) + tl s (k + 2)) < 55296) (t1 : 0 ≤ tl s (k + 1)) (t2 : 0 ≤ tl s (k + 2)) :
    Calls Tryz.prog 177 #[.string s, .int .i64 k] w fun e w' => e = .returned (.agg #[.int .i64 ((64 * (64 * (bt s k - 224) + tl s (k + 1)) + tl s (k + 2))), .int .i64 3]) ∧ Below w.heap.size w w' := by
  have hb := get_bt s
  have h0 := bt_nonneg s k
  have h9 := bt_le s k
  have l1 := tl_le s (k + 1)
  have l2 := tl_le s (k + 2)
  go_enter Tryz.func177, Tryz.ntmps177
  go_wp2_with fail
  refine wp_loop_rounds 3 ?_
  rw [rounds_succ]
  go_wp2_with fail
  rw [show ((k : Int) + 1) = ((k + 1 : Nat) : Int) from by omega]
  refine (tail_any s (k + 1) _ _hs).mono ?_
  rintro e w1 ⟨rfl, rfl⟩
  go_wp2_with fail
  rw [rounds_succ]
  go_wp2_with fail
  rw [show ((k : Int) + 2) = ((k + 2 : Nat) : Int) from by omega]
  refine (tail_any s (k + 2) _ _hs).mono ?_
  rintro e w2 ⟨rfl, rfl⟩
  go_wp2_with fail
  rw [rounds_succ]
  go_wp2_with fail
  go_returns
  exact ⟨rfl, (Below.refl _ _).alloc (Nat.le_refl _) _⟩

set_option maxHeartbeats 1000000 in
theorem at_c2l (s : ByteArray) (k : Nat) (w : World) (_hs : s.size ≤ 140737488355328) (hk : k < s.size) (h1 : 224 ≤ bt s k) (h2 : bt s k ≤ 239) (h3 : 57343 < (64 * (64 * (bt s k - 224) + tl s (k + 1)) + tl s (k + 2))) (t1 : 0 ≤ tl s (k + 1)) (t2 : 0 ≤ tl s (k + 2)) :
    Calls Tryz.prog 177 #[.string s, .int .i64 k] w fun e w' => e = .returned (.agg #[.int .i64 ((64 * (64 * (bt s k - 224) + tl s (k + 1)) + tl s (k + 2))), .int .i64 3]) ∧ Below w.heap.size w w' := by
  have hb := get_bt s
  have h0 := bt_nonneg s k
  have h9 := bt_le s k
  have l1 := tl_le s (k + 1)
  have l2 := tl_le s (k + 2)
  go_enter Tryz.func177, Tryz.ntmps177
  go_wp2_with fail
  refine wp_loop_rounds 3 ?_
  rw [rounds_succ]
  go_wp2_with fail
  rw [show ((k : Int) + 1) = ((k + 1 : Nat) : Int) from by omega]
  refine (tail_any s (k + 1) _ _hs).mono ?_
  rintro e w1 ⟨rfl, rfl⟩
  go_wp2_with fail
  rw [rounds_succ]
  go_wp2_with fail
  rw [show ((k : Int) + 2) = ((k + 2 : Nat) : Int) from by omega]
  refine (tail_any s (k + 2) _ _hs).mono ?_
  rintro e w2 ⟨rfl, rfl⟩
  go_wp2_with fail
  rw [rounds_succ]
  go_wp2_with fail
  go_returns
  exact ⟨rfl, (Below.refl _ _).alloc (Nat.le_refl _) _⟩

end Go.Proofs.YtndfhejfhfhbdaaGreatDoor.R

/- Leaves of the reference's decoding. Written by gen.py. -/
namespace Go.Proofs.YtndfhejfhfhbdaaGreatDoor.R
open Go.RowKit Go.PlainAid
set_option maxHeartbeats 1000000 in
theorem at_c30 (s : ByteArray) (k : Nat) (w : World) (_hs : s.size ≤ 140737488355328) (hk : k < s.size) (h1 : 240 ≤ bt s k) (h2 : bt s k ≤ 244) (t1 : tl s (k + 1) < 0) :
    Calls Tryz.prog 177 #[.string s, .int .i64 k] w fun e w' => e = .returned (.agg #[.int .i64 (-1), .int .i64 1]) ∧ Below w.heap.size w w' := by
  have hb := get_bt s
  have h0 := bt_nonneg s k
  have h9 := bt_le s k
  have l1 := tl_le s (k + 1)
  go_enter Tryz.func177, Tryz.ntmps177
  go_wp2_with fail
  refine wp_loop_rounds 2 ?_
  rw [rounds_succ]
  go_wp2_with fail
  rw [show ((k : Int) + 1) = ((k + 1 : Nat) : Int) from by omega]
  refine (tail_any s (k + 1) _ _hs).mono ?_
  rintro e w1 ⟨rfl, rfl⟩
  go_wp2_with fail
  go_returns
  exact ⟨rfl, (Below.refl _ _).alloc (Nat.le_refl _) _⟩

set_option maxHeartbeats 1000000 in
theorem at_c31 (s : ByteArray) (k : Nat) (w : World) (_hs : s.size ≤ 140737488355328) (hk : k < s.size) (h1 : 240 ≤ bt s k) (h2 : bt s k ≤ 244) (t1 : 0 ≤ tl s (k + 1)) (t2 : tl s (k + 2) < 0) :
    Calls Tryz.prog 177 #[.string s, .int .i64 k] w fun e w' => e = .returned (.agg #[.int .i64 (-1), .int .i64 1]) ∧ Below w.heap.size w w' := by
  have hb := get_bt s
  have h0 := bt_nonneg s k
  have h9 := bt_le s k
  have l1 := tl_le s (k + 1)
  have l2 := tl_le s (k + 2)
  go_enter Tryz.func177, Tryz.ntmps177
  go_wp2_with fail
  refine wp_loop_rounds 3 ?_
  rw [rounds_succ]
  go_wp2_with fail
  rw [show ((k : Int) + 1) = ((k + 1 : Nat) : Int) from by omega]
  refine (tail_any s (k + 1) _ _hs).mono ?_
  rintro e w1 ⟨rfl, rfl⟩
  go_wp2_with fail
  rw [rounds_succ]
  go_wp2_with fail
  rw [show ((k : Int) + 2) = ((k + 2 : Nat) : Int) from by omega]
  refine (tail_any s (k + 2) _ _hs).mono ?_
  rintro e w2 ⟨rfl, rfl⟩
  go_wp2_with fail
  go_returns
  exact ⟨rfl, (Below.refl _ _).alloc (Nat.le_refl _) _⟩

set_option maxHeartbeats 1000000 in
theorem at_c32 (s : ByteArray) (k : Nat) (w : World) (_hs : s.size ≤ 140737488355328) (hk : k < s.size) (h1 : 240 ≤ bt s k) (h2 : bt s k ≤ 244) (t1 : 0 ≤ tl s (k + 1)) (t2 : 0 ≤ tl s (k + 2)) (t3 : tl s (k + 3) < 0) :
    Calls Tryz.prog 177 #[.string s, .int .i64 k] w fun e w' => e = .returned (.agg #[.int .i64 (-1), .int .i64 1]) ∧ Below w.heap.size w w' := by
  have hb := get_bt s
  have h0 := bt_nonneg s k
  have h9 := bt_le s k
  have l1 := tl_le s (k + 1)
  have l2 := tl_le s (k + 2)
  have l3 := tl_le s (k + 3)
  go_enter Tryz.func177, Tryz.ntmps177
  go_wp2_with fail
  refine wp_loop_rounds 4 ?_
  rw [rounds_succ]
  go_wp2_with fail
  rw [show ((k : Int) + 1) = ((k + 1 : Nat) : Int) from by omega]
  refine (tail_any s (k + 1) _ _hs).mono ?_
  rintro e w1 ⟨rfl, rfl⟩
  go_wp2_with fail
  rw [rounds_succ]
  go_wp2_with fail
  rw [show ((k : Int) + 2) = ((k + 2 : Nat) : Int) from by omega]
  refine (tail_any s (k + 2) _ _hs).mono ?_
  rintro e w2 ⟨rfl, rfl⟩
  go_wp2_with fail
  rw [rounds_succ]
  go_wp2_with fail
  rw [show ((k : Int) + 3) = ((k + 3 : Nat) : Int) from by omega]
  refine (tail_any s (k + 3) _ _hs).mono ?_
  rintro e w3 ⟨rfl, rfl⟩
  go_wp2_with fail
  go_returns
  exact ⟨rfl, (Below.refl _ _).alloc (Nat.le_refl _) _⟩

set_option maxHeartbeats 1000000 in
theorem at_c3x (s : ByteArray) (k : Nat) (w : World) (_hs : s.size ≤ 140737488355328) (hk : k < s.size) (h1 : 240 ≤ bt s k) (h2 : bt s k ≤ 244) (h3 : (64 * (64 * (64 * (bt s k - 240) + tl s (k + 1)) + tl s (k + 2)) + tl s (k + 3)) < 65536) (t1 : 0 ≤ tl s (k + 1)) (t2 : 0 ≤ tl s (k + 2)) (t3 : 0 ≤ tl s (k + 3)) :
    Calls Tryz.prog 177 #[.string s, .int .i64 k] w fun e w' => e = .returned (.agg #[.int .i64 (-1), .int .i64 1]) ∧ Below w.heap.size w w' := by
  have hb := get_bt s
  have h0 := bt_nonneg s k
  have h9 := bt_le s k
  have l1 := tl_le s (k + 1)
  have l2 := tl_le s (k + 2)
  have l3 := tl_le s (k + 3)
  go_enter Tryz.func177, Tryz.ntmps177
  go_wp2_with fail
  refine wp_loop_rounds 4 ?_
  rw [rounds_succ]
  go_wp2_with fail
  rw [show ((k : Int) + 1) = ((k + 1 : Nat) : Int) from by omega]
  refine (tail_any s (k + 1) _ _hs).mono ?_
  rintro e w1 ⟨rfl, rfl⟩
  go_wp2_with fail
  rw [rounds_succ]
  go_wp2_with fail
  rw [show ((k : Int) + 2) = ((k + 2 : Nat) : Int) from by omega]
  refine (tail_any s (k + 2) _ _hs).mono ?_
  rintro e w2 ⟨rfl, rfl⟩
  go_wp2_with fail
  rw [rounds_succ]
  go_wp2_with fail
  rw [show ((k : Int) + 3) = ((k + 3 : Nat) : Int) from by omega]
  refine (tail_any s (k + 3) _ _hs).mono ?_
  rintro e w3 ⟨rfl, rfl⟩
  go_wp2_with fail
  rw [rounds_succ]
  go_wp2_with fail
  go_returns
  exact ⟨rfl, (Below.refl _ _).alloc (Nat.le_refl _) _⟩

set_option maxHeartbeats 1000000 in
theorem at_c3y (s : ByteArray) (k : Nat) (w : World) (_hs : s.size ≤ 140737488355328) (hk : k < s.size) (h1 : 240 ≤ bt s k) (h2 : bt s k ≤ 244) (h3 : 1114111 < (64 * (64 * (64 * (bt s k - 240) + tl s (k + 1)) + tl s (k + 2)) + tl s (k + 3))) (t1 : 0 ≤ tl s (k + 1)) (t2 : 0 ≤ tl s (k + 2)) (t3 : 0 ≤ tl s (k + 3)) :
    Calls Tryz.prog 177 #[.string s, .int .i64 k] w fun e w' => e = .returned (.agg #[.int .i64 (-1), .int .i64 1]) ∧ Below w.heap.size w w' := by
  have hb := get_bt s
  have h0 := bt_nonneg s k
  have h9 := bt_le s k
  have l1 := tl_le s (k + 1)
  have l2 := tl_le s (k + 2)
  have l3 := tl_le s (k + 3)
  go_enter Tryz.func177, Tryz.ntmps177
  go_wp2_with fail
  refine wp_loop_rounds 4 ?_
  rw [rounds_succ]
  go_wp2_with fail
  rw [show ((k : Int) + 1) = ((k + 1 : Nat) : Int) from by omega]
  refine (tail_any s (k + 1) _ _hs).mono ?_
  rintro e w1 ⟨rfl, rfl⟩
  go_wp2_with fail
  rw [rounds_succ]
  go_wp2_with fail
  rw [show ((k : Int) + 2) = ((k + 2 : Nat) : Int) from by omega]
  refine (tail_any s (k + 2) _ _hs).mono ?_
  rintro e w2 ⟨rfl, rfl⟩
  go_wp2_with fail
  rw [rounds_succ]
  go_wp2_with fail
  rw [show ((k : Int) + 3) = ((k + 3 : Nat) : Int) from by omega]
  refine (tail_any s (k + 3) _ _hs).mono ?_
  rintro e w3 ⟨rfl, rfl⟩
  go_wp2_with fail
  rw [rounds_succ]
  go_wp2_with fail
  go_returns
  exact ⟨rfl, (Below.refl _ _).alloc (Nat.le_refl _) _⟩

set_option maxHeartbeats 1000000 in
theorem at_c3k (s : ByteArray) (k : Nat) (w : World) (_hs : s.size ≤ 140737488355328) (hk : k < s.size) (h1 : 240 ≤ bt s k) (h2 : bt s k ≤ 244) (h3 : 65536 ≤ (64 * (64 * (64 * (bt s k - 240) + tl s (k + 1)) + tl s (k + 2)) + tl s (k + 3))) (h4 : (64 * (64 * (64 * (bt s k - 240) + tl s (k + 1)) + tl s (k + 2)) + tl s (k + 3)) ≤ 1114111) (t1 : 0 ≤ tl s (k + 1)) (t2 : 0 ≤ tl s (k + 2)) (t3 : 0 ≤ tl s (k + 3)) :
    Calls Tryz.prog 177 #[.string s, .int .i64 k] w fun e w' => e = .returned (.agg #[.int .i64 ((64 * (64 * (64 * (bt s k - 240) + tl s (k + 1)) + tl s (k + 2)) + tl s (k + 3))), .int .i64 4]) ∧ Below w.heap.size w w' := by
  have hb := get_bt s
  have h0 := bt_nonneg s k
  have h9 := bt_le s k
  have l1 := tl_le s (k + 1)
  have l2 := tl_le s (k + 2)
  have l3 := tl_le s (k + 3)
  go_enter Tryz.func177, Tryz.ntmps177
  go_wp2_with fail
  refine wp_loop_rounds 4 ?_
  rw [rounds_succ]
  go_wp2_with fail
  rw [show ((k : Int) + 1) = ((k + 1 : Nat) : Int) from by omega]
  refine (tail_any s (k + 1) _ _hs).mono ?_
  rintro e w1 ⟨rfl, rfl⟩
  go_wp2_with fail
  rw [rounds_succ]
  go_wp2_with fail
  rw [show ((k : Int) + 2) = ((k + 2 : Nat) : Int) from by omega]
  refine (tail_any s (k + 2) _ _hs).mono ?_
  rintro e w2 ⟨rfl, rfl⟩
  go_wp2_with fail
  rw [rounds_succ]
  go_wp2_with fail
  rw [show ((k : Int) + 3) = ((k + 3 : Nat) : Int) from by omega]
  refine (tail_any s (k + 3) _ _hs).mono ?_
  rintro e w3 ⟨rfl, rfl⟩
  go_wp2_with fail
  rw [rounds_succ]
  go_wp2_with fail
  go_returns
  exact ⟨rfl, (Below.refl _ _).alloc (Nat.le_refl _) _⟩

end Go.Proofs.YtndfhejfhfhbdaaGreatDoor.R
