/- Several texts in one. -/
import Derived.Test.YtlbkbjeajcadiaaGreatDoorTar
import Derived.Test.YtlbkbjeajcadiaaGreatDoorRows
import Derived.WalkKit
import Derived.WalkSpells
import Derived.WalkLawsBesides
import Derived.BigQuiet
import Derived.Deep.QuietTactic
import Derived.Lib.Hide
import Derived.LoopTactic
import Derived.Handy
import Derived.PlainAid

/- Plain law of the order (no program in sight): ids and their order, sorting by a total order, places in a sorted order of components. -/
namespace Go.Proofs.YtlbkbjeajcadiaaGreatDoor.O
open T
set_option linter.unusedVariables false

structure Id where
  r : Int
  n : Int
theorem Id.eq_of {a b : Id} (h1 : a.r = b.r) (h2 : a.n = b.n) : a = b := by cases a; cases b; cases h1; cases h2; rfl
instance : DecidableEq Id := fun a b => if h : a.r = b.r ∧ a.n = b.n then isTrue (Id.eq_of h.1 h.2) else isFalse (fun e => h (by rw [e]; exact ⟨rfl, rfl⟩))
instance : Inhabited Id := ⟨⟨0, 0⟩⟩
/-- is an id ahead of another one? -/
def ilt (a b : Id) : Bool := decide (a.n < b.n) || (decide (a.n = b.n) && decide (a.r < b.r))
theorem ilt_iff {a b : Id} : ilt a b = true ↔ a.n < b.n ∨ (a.n = b.n ∧ a.r < b.r) := by
  unfold ilt
  simp only [Bool.or_eq_true, Bool.and_eq_true, decide_eq_true_eq]
theorem ilt_no {a b : Id} : ilt a b = false ↔ ¬ (a.n < b.n ∨ (a.n = b.n ∧ a.r < b.r)) := by
  rw [← ilt_iff, Bool.not_eq_true]
theorem ilt_irr (a : Id) : ilt a a = false := by rw [ilt_no]; omega
theorem ilt_trans {a b c : Id} (h : ilt a b = true) (h2 : ilt b c = true) : ilt a c = true := by
  rw [ilt_iff] at *; omega
theorem ilt_tri {a b : Id} (h : a ≠ b) : ilt a b = true ∨ ilt b a = true := by
  rw [ilt_iff, ilt_iff]
  by_cases h1 : a.n = b.n
  · by_cases h2 : a.r = b.r
    · exact absurd (Id.eq_of h2 h1) h
    · omega
  · omega
theorem ilt_asymm {a b : Id} (h : ilt a b = true) : ilt b a = false := by
  rw [ilt_iff] at h; rw [ilt_no]; omega
/-- what the program's comparing says -/
def ico (a b : Id) : Int := if a = b then 0 else if ilt a b then -1 else 1
theorem ico_neg {a b : Id} : ico a b < 0 ↔ ilt a b = true := by
  unfold ico
  by_cases h : a = b
  · rw [if_pos h, h, ilt_irr]; simp
  · rw [if_neg h]
    cases ilt a b <;> simp
theorem ico_zero {a b : Id} : ico a b = 0 ↔ a = b := by
  unfold ico
  by_cases h : a = b
  · rw [if_pos h]; simp [h]
  · rw [if_neg h]
    cases ilt a b <;> simp [h]

/-! A strict total order on what differs. -/
structure Tot {α : Type} (lt : α → α → Bool) (l : List α) : Prop where
  irr : ∀ a, lt a a = false
  tr : ∀ a b c, lt a b = true → lt b c = true → lt a c = true
  tri : ∀ a ∈ l, ∀ b ∈ l, a ≠ b → lt a b = true ∨ lt b a = true
section
variable {α : Type} {lt : α → α → Bool}
theorem Tot.perm {l m : List α} (h : Tot lt l) (hp : m.Perm l) : Tot lt m :=
  ⟨h.irr, h.tr, fun a ha b hb => h.tri a (hp.mem_iff.1 ha) b (hp.mem_iff.1 hb)⟩
theorem Tot.sub {l m : List α} (h : Tot lt l) (hs : ∀ x ∈ m, x ∈ l) : Tot lt m :=
  ⟨h.irr, h.tr, fun a ha b hb => h.tri a (hs a ha) b (hs b hb)⟩
/-- a list is sorted in one way alone -/
theorem sorted_one : ∀ {l m : List α}, (∀ a, lt a a = false) → (∀ a b c, lt a b = true → lt b c = true → lt a c = true) → l.Pairwise (fun a b => lt a b = true) → m.Pairwise (fun a b => lt a b = true) → (∀ x, x ∈ l ↔ x ∈ m) → l = m
  | [], [], _, _, _, _, _ => rfl
  | [], b :: m, _, _, _, _, h => by have := (h b).2 List.mem_cons_self; cases this
  | a :: l, [], _, _, _, _, h => by have := (h a).1 List.mem_cons_self; cases this
  | a :: l, b :: m, irr, tr, h1, h2, h => by
    have p1 := List.pairwise_cons.1 h1
    have p2 := List.pairwise_cons.1 h2
    have hab : a = b := by
      rcases List.mem_cons.1 ((h a).1 List.mem_cons_self) with e | e
      · exact e
      · rcases List.mem_cons.1 ((h b).2 List.mem_cons_self) with e2 | e2
        · exact e2.symm
        · have := tr _ _ _ (p1.1 b e2) (p2.1 a e)
          rw [irr] at this; cases this
    subst hab
    congr 1
    refine sorted_one irr tr p1.2 p2.2 fun x => ⟨fun hx => ?_, fun hx => ?_⟩
    · rcases List.mem_cons.1 ((h x).1 (List.mem_cons_of_mem _ hx)) with e | e
      · subst e
        have := p1.1 _ hx
        rw [irr] at this; cases this
      · exact e
    · rcases List.mem_cons.1 ((h x).2 (List.mem_cons_of_mem _ hx)) with e | e
      · subst e
        have := p2.1 _ hx
        rw [irr] at this; cases this
      · exact e
theorem pw_nodup {l : List α} (irr : ∀ a, lt a a = false) (h : l.Pairwise (fun a b => lt a b = true)) : l.Nodup :=
  h.imp fun {a b} hab e => by subst e; rw [irr] at hab; cases hab
/-- one more, behind all that it isn't ahead of -/
def insE (lt : α → α → Bool) (x : α) : List α → List α
  | [] => [x]
  | a :: l => if lt x a then x :: a :: l else a :: insE lt x l
theorem insE_perm (x : α) : ∀ l : List α, (insE lt x l).Perm (x :: l)
  | [] => .refl _
  | a :: l => by
    unfold insE
    cases lt x a with
    | true => exact .refl _
    | false => exact ((insE_perm x l).cons a).trans (.swap x a l)
theorem insE_sorted (x : α) : ∀ {l : List α}, Tot lt (x :: l) → x ∉ l → l.Pairwise (fun a b => lt a b = true) → (insE lt x l).Pairwise (fun a b => lt a b = true)
  | [], _, _, _ => by simp [insE]
  | a :: l, hT, hx, h => by
    have p := List.pairwise_cons.1 h
    unfold insE
    cases e : lt x a with
    | true =>
      rw [if_pos rfl]
      refine List.pairwise_cons.2 ⟨fun y hy => ?_, h⟩
      rcases List.mem_cons.1 hy with e2 | e2
      · rw [e2]; exact e
      · exact hT.tr _ _ _ e (p.1 y e2)
    | false =>
      rw [if_neg (by simp)]
      have hxa : x ≠ a := fun e => hx (by rw [e]; exact List.mem_cons_self)
      have hax : lt a x = true := by
        rcases hT.tri x List.mem_cons_self a (List.mem_cons_of_mem _ List.mem_cons_self) hxa with h1 | h1
        · rw [e] at h1; cases h1
        · exact h1
      refine List.pairwise_cons.2 ⟨fun y hy => ?_, insE_sorted x (hT.sub fun y hy => ?_) (fun hm => hx (List.mem_cons_of_mem _ hm)) p.2⟩
      · rcases List.mem_cons.1 ((insE_perm x l).mem_iff.1 hy) with e2 | e2
        · rw [e2]; exact hax
        · exact p.1 y e2
      · rcases List.mem_cons.1 hy with e2 | e2
        · rw [e2]; exact List.mem_cons_self
        · exact List.mem_cons_of_mem _ (List.mem_cons_of_mem _ e2)
def srt (lt : α → α → Bool) (l : List α) : List α := l.foldl (fun o x => insE lt x o) []
theorem srt_perm_gen : ∀ (l o : List α), (l.foldl (fun o x => insE lt x o) o).Perm (o ++ l)
  | [], o => by simp
  | a :: l, o => by
    rw [List.foldl_cons]
    refine (srt_perm_gen l _).trans ?_
    refine (((insE_perm a o).append_right l)).trans ?_
    exact List.perm_middle.symm
theorem srt_perm (l : List α) : (srt lt l).Perm l := by have := srt_perm_gen (lt := lt) l []; rwa [List.nil_append] at this
theorem srt_sorted_gen : ∀ (l o : List α), Tot lt (o ++ l) → (o ++ l).Nodup → o.Pairwise (fun a b => lt a b = true) → (l.foldl (fun o x => insE lt x o) o).Pairwise (fun a b => lt a b = true)
  | [], o, _, _, h => h
  | a :: l, o, hT, hn, h => by
    rw [List.foldl_cons]
    have hp : (insE lt a o ++ l).Perm (o ++ a :: l) := ((insE_perm a o).append_right l).trans List.perm_middle.symm
    refine srt_sorted_gen l _ (hT.perm hp) (hp.nodup_iff.2 hn) (insE_sorted a (hT.sub fun y hy => ?_) (fun hm => ?_) h)
    · rcases List.mem_cons.1 hy with e | e
      · rw [e]; exact List.mem_append_right _ List.mem_cons_self
      · exact List.mem_append_left _ e
    · exact (List.nodup_append.1 hn).2.2 a hm a List.mem_cons_self rfl
theorem srt_sorted {l : List α} (hT : Tot lt l) (hn : l.Nodup) : (srt lt l).Pairwise (fun a b => lt a b = true) :=
  srt_sorted_gen l [] hT hn .nil
/-- whatever is sorted of the same is this -/
theorem srt_one {l m : List α} (hT : Tot lt l) (hn : l.Nodup) (hp : m.Perm l) (hs : m.Pairwise (fun a b => lt a b = true)) : m = srt lt l :=
  sorted_one hT.irr hT.tr hs (srt_sorted hT hn) fun x => hp.mem_iff.trans (srt_perm l).mem_iff.symm
theorem srt_same {l m : List α} (hT : Tot lt l) (hn : l.Nodup) (hp : m.Perm l) : srt lt m = srt lt l :=
  srt_one hT hn ((srt_perm m).trans hp) (srt_sorted (hT.perm hp) (hp.nodup_iff.2 hn))
end
end Go.Proofs.YtlbkbjeajcadiaaGreatDoor.O

/- Plain law of ids: sets; what is left where neighbours are the same; what is found by halves. -/
namespace Go.Proofs.YtlbkbjeajcadiaaGreatDoor.O
set_option linter.unusedVariables false

/-- the set of a list: the document's way -/
def setI (l : List Id) : List Id := l.foldl (fun o x => if x ∈ o then o else insE ilt x o) []
theorem ilt_tot (l : List Id) : Tot ilt l := ⟨ilt_irr, fun a b c => ilt_trans, fun a _ b _ h => ilt_tri h⟩
theorem setI_gen : ∀ (l o : List Id), o.Pairwise (fun a b => ilt a b = true) → (l.foldl (fun o x => if x ∈ o then o else insE ilt x o) o).Pairwise (fun a b => ilt a b = true) ∧ ∀ x, x ∈ l.foldl (fun o x => if x ∈ o then o else insE ilt x o) o ↔ x ∈ o ∨ x ∈ l
  | [], o, h => ⟨h, fun x => by simp⟩
  | a :: l, o, h => by
    rw [List.foldl_cons]
    by_cases e : a ∈ o
    · rw [if_pos e]
      obtain ⟨h1, h2⟩ := setI_gen l o h
      refine ⟨h1, fun x => (h2 x).trans ?_⟩
      rw [List.mem_cons]
      refine ⟨fun h => h.elim .inl fun h => .inr (.inr h), fun h => ?_⟩
      rcases h with h | rfl | h
      · exact .inl h
      · exact .inl e
      · exact .inr h
    · rw [if_neg e]
      obtain ⟨h1, h2⟩ := setI_gen l (insE ilt a o) (insE_sorted a (ilt_tot _) e h)
      refine ⟨h1, fun x => (h2 x).trans ?_⟩
      rw [(insE_perm a o).mem_iff, List.mem_cons, List.mem_cons]
      refine ⟨fun h => ?_, fun h => ?_⟩
      · rcases h with (h | h) | h
        · exact .inr (.inl h)
        · exact .inl h
        · exact .inr (.inr h)
      · rcases h with h | h | h
        · exact .inl (.inr h)
        · exact .inl (.inl h)
        · exact .inr h
theorem setI_sorted (l : List Id) : (setI l).Pairwise (fun a b => ilt a b = true) := (setI_gen l [] .nil).1
theorem setI_mem (l : List Id) (x : Id) : x ∈ setI l ↔ x ∈ l := by
  have := (setI_gen l [] .nil).2 x
  unfold setI
  simpa using this
/-- whatever is sorted, and has the same, is the set -/
theorem setI_one {l m : List Id} (hs : m.Pairwise (fun a b => ilt a b = true)) (hm : ∀ x, x ∈ m ↔ x ∈ l) : m = setI l :=
  sorted_one ilt_irr (fun a b c => ilt_trans) hs (setI_sorted l) fun x => (hm x).trans (setI_mem l x).symm
theorem setI_same {l m : List Id} (hm : ∀ x, x ∈ m ↔ x ∈ l) : setI m = setI l := setI_one (setI_sorted m) fun x => (setI_mem m x).trans (hm x)
theorem setI_own {l : List Id} (hs : l.Pairwise (fun a b => ilt a b = true)) : setI l = l := (setI_one hs fun x => Iff.rfl).symm
theorem setI_len (l : List Id) : (setI l).length ≤ l.length := by
  have key : ∀ (l o : List Id), (l.foldl (fun o x => if x ∈ o then o else insE ilt x o) o).length ≤ o.length + l.length := by
    intro l
    induction l with
    | nil => intro o; simp
    | cons a l ih =>
      intro o
      rw [List.foldl_cons]
      refine Nat.le_trans (ih _) ?_
      by_cases e : a ∈ o
      · rw [if_pos e]; simp
      · rw [if_neg e, (insE_perm a o).length_eq]; simp; omega
  have := key l []
  simpa [setI] using this
/-- not behind: what is sorted, but may be the same -/
def ile (a b : Id) : Prop := ilt b a = false
theorem ile_trans {a b c : Id} (h1 : ile a b) (h2 : ile b c) : ile a c := by
  unfold ile at *
  rw [ilt_no] at *
  omega
theorem ile_lt {a b : Id} (h : ile a b) (hne : a ≠ b) : ilt a b = true := by
  rcases ilt_tri hne with h1 | h1
  · exact h1
  · unfold ile at h; rw [h] at h1; cases h1
/-- what is left of neighbours that are the same: what has been kept (its last one known), and the next one -/
def keepN (o : List Id) (x : Id) : List Id := if o.getLast? = some x then o else o ++ [x]
theorem keepN_gen : ∀ (l o : List Id), o.Pairwise (fun a b => ilt a b = true) → l.Pairwise ile → (∀ a ∈ o, ∀ x ∈ l, ile a x) → (l.foldl keepN o).Pairwise (fun a b => ilt a b = true) ∧ ∀ x, x ∈ l.foldl keepN o ↔ x ∈ o ∨ x ∈ l
  | [], o, h, _, _ => ⟨h, fun x => by simp⟩
  | a :: l, o, h, hl, hol => by
    rw [List.foldl_cons]
    have p := List.pairwise_cons.1 hl
    by_cases e : o.getLast? = some a
    · have hk : keepN o a = o := by unfold keepN; rw [if_pos e]
      rw [hk]
      obtain ⟨h1, h2⟩ := keepN_gen l o h p.2 (fun b hb x hx => hol b hb x (List.mem_cons_of_mem _ hx))
      refine ⟨h1, fun x => (h2 x).trans ?_⟩
      rw [List.mem_cons]
      refine ⟨fun h => h.elim .inl fun h => .inr (.inr h), fun h => ?_⟩
      rcases h with h | rfl | h
      · exact .inl h
      · exact .inl (List.mem_of_getLast? e)
      · exact .inr h
    · have hk : keepN o a = o ++ [a] := by unfold keepN; rw [if_neg e]
      rw [hk]
      have hoa : ∀ b ∈ o, ilt b a = true := fun b hb => by
        refine ile_lt (hol b hb a List.mem_cons_self) fun e2 => ?_
        subst e2
        -- b is in o, and isn't its last one: the last one would be behind b
        cases hg : o.getLast? with
        | none => rw [List.getLast?_eq_none_iff] at hg; rw [hg] at hb; cases hb
        | some z =>
          have hz : z ∈ o := List.mem_of_getLast? hg
          have hne : b ≠ z := fun e3 => e (by rw [hg, e3])
          obtain ⟨i, hi, hbi⟩ := List.mem_iff_getElem.1 hb
          have hlast : o[o.length - 1]'(by omega) = z := by
            rw [List.getLast?_eq_getElem?, List.getElem?_eq_getElem (by omega)] at hg
            exact Option.some.inj hg
          have hil : i < o.length - 1 := by
            rcases Nat.lt_or_ge i (o.length - 1) with h3 | h3
            · exact h3
            · have : i = o.length - 1 := by omega
              subst this
              exact absurd (hbi.symm.trans hlast) hne
          have := List.pairwise_iff_getElem.1 h i (o.length - 1) hi (by omega) hil
          rw [hbi, hlast] at this
          have h5 := hol z hz b List.mem_cons_self
          unfold ile at h5
          rw [h5] at this; cases this
      obtain ⟨h1, h2⟩ := keepN_gen l (o ++ [a]) (List.pairwise_append.2 ⟨h, by simp, fun b hb x hx => by rw [List.mem_singleton.1 hx]; exact hoa b hb⟩) p.2 (fun b hb x hx => by
        rcases List.mem_append.1 hb with hb | hb
        · exact hol b hb x (List.mem_cons_of_mem _ hx)
        · rw [List.mem_singleton.1 hb]; exact p.1 x hx)
      refine ⟨h1, fun x => (h2 x).trans ?_⟩
      rw [List.mem_append, List.mem_singleton, List.mem_cons]
      refine ⟨fun h => ?_, fun h => ?_⟩
      · rcases h with (h | h) | h
        · exact .inl h
        · exact .inr (.inl h)
        · exact .inr (.inr h)
      · rcases h with h | h | h
        · exact .inl (.inl h)
        · exact .inl (.inr h)
        · exact .inr h
/-- sorted, and then without neighbours that are the same: the set -/
theorem keepN_set {l m : List Id} (hp : m.Perm l) (hs : m.Pairwise ile) : m.foldl keepN [] = setI l := by
  obtain ⟨h1, h2⟩ := keepN_gen m [] .nil hs (fun a h => by cases h)
  exact setI_one h1 fun x => by rw [h2 x, hp.mem_iff]; simp
end Go.Proofs.YtlbkbjeajcadiaaGreatDoor.O

/- The reference's decoding of a text: contracts of stonecropref04's tail and At at every text and place. Written by gen.py. -/
namespace Go.Proofs.YtlbkbjeajcadiaaGreatDoor.R
open Go.RowKit Go.PlainAid

theorem bne_true {a b : Int} (h : a ≠ b) : (a != b) = true := by rw [bne_iff_ne]; exact h
theorem beq_true' {a b : Int} (h : a = b) : (a == b) = true := by rw [beq_iff_eq]; exact h
theorem beq_false' {a b : Int} (h : a ≠ b) : (a == b) = false := by rw [beq_eq_false_iff_ne]; exact h
theorem ret_int {k : IntKind} {a b : Int} (h : a = b) : Ending.returned (.int k a) = .returned (.int k b) := by rw [h]
theorem ret_bool {a b : Bool} (h : a = b) : Ending.returned (.bool a) = .returned (.bool b) := by rw [h]

/-- the number that a byte behind the first tells; -1: none -/
def tl (s : ByteArray) (k : Nat) : Int := if k < s.size ∧ 128 ≤ bt s k ∧ bt s k ≤ 191 then bt s k - 128 else -1
theorem tl_in {s : ByteArray} {k : Nat} (h : k < s.size) (h1 : 128 ≤ bt s k) (h2 : bt s k ≤ 191) : tl s k = bt s k - 128 := by unfold tl; rw [if_pos ⟨h, h1, h2⟩]
theorem tl_out {s : ByteArray} {k : Nat} (h : ¬ (k < s.size ∧ 128 ≤ bt s k ∧ bt s k ≤ 191)) : tl s k = -1 := by unfold tl; rw [if_neg h]
theorem tl_le (s : ByteArray) (k : Nat) : -1 ≤ tl s k ∧ tl s k ≤ 63 := by unfold tl; split <;> omega

set_option maxHeartbeats 400000 in
theorem tail_any (s : ByteArray) (k : Nat) (w : World) (_hs : s.size ≤ 140737488355328) :
    Calls Tryz.prog 182 #[.string s, .int .i64 k] w fun e w' => e = .returned (.int .i64 (tl s k)) ∧ w = w' := by
  have hb := get_bt s
  by_cases h : k < s.size
  · have h0 := bt_nonneg s k
    have h9 := bt_le s k
    by_cases h1 : 128 ≤ bt s k
    · by_cases h2 : bt s k ≤ 191
      · have HV := Lib.hid (tl_in h h1 h2)
        go_enter Tryz.func182, Tryz.ntmps182
        go_wp2
        go_ret
        exact ⟨ret_int HV.out.symm, rfl⟩
      · have HV := Lib.hid (tl_out (s := s) (k := k) (by omega))
        go_enter Tryz.func182, Tryz.ntmps182
        go_wp2
        go_ret
        exact ⟨ret_int HV.out.symm, rfl⟩
    · have HV := Lib.hid (tl_out (s := s) (k := k) (by omega))
      go_enter Tryz.func182, Tryz.ntmps182
      go_wp2
      go_ret
      exact ⟨ret_int HV.out.symm, rfl⟩
  · have HV := Lib.hid (tl_out (s := s) (k := k) (by omega))
    go_enter Tryz.func182, Tryz.ntmps182
    go_wp2
    go_ret
    exact ⟨ret_int HV.out.symm, rfl⟩

def refV (b t1 t2 t3 : Int) : Int × Int :=
  if b < 128 then (b, 1)
  else if 194 ≤ b ∧ b ≤ 223 then (if t1 < 0 then (-1, 1) else (64 * (b - 192) + t1, 2))
  else if 224 ≤ b ∧ b ≤ 239 then
    (if t1 < 0 then (-1, 1) else if t2 < 0 then (-1, 1) else if 64 * (64 * (b - 224) + t1) + t2 < 2048 ∨ (55296 ≤ 64 * (64 * (b - 224) + t1) + t2 ∧ 64 * (64 * (b - 224) + t1) + t2 ≤ 57343) then (-1, 1) else (64 * (64 * (b - 224) + t1) + t2, 3))
  else if 240 ≤ b ∧ b ≤ 244 then
    (if t1 < 0 then (-1, 1) else if t2 < 0 then (-1, 1) else if t3 < 0 then (-1, 1) else if 64 * (64 * (64 * (b - 240) + t1) + t2) + t3 < 65536 ∨ 1114111 < 64 * (64 * (64 * (b - 240) + t1) + t2) + t3 then (-1, 1) else (64 * (64 * (64 * (b - 240) + t1) + t2) + t3, 4))
  else (-1, 1)
def refAt (s : ByteArray) (k : Nat) : Int × Int := refV (bt s k) (tl s (k + 1)) (tl s (k + 2)) (tl s (k + 3))

set_option maxHeartbeats 1000000 in
theorem at_a (s : ByteArray) (k : Nat) (w : World) (_hs : s.size ≤ 140737488355328) (hk : k < s.size) (h1 : bt s k < 128) :
    Calls Tryz.prog 165 #[.string s, .int .i64 k] w fun e w' => e = .returned (.agg #[.int .i64 (bt s k), .int .i64 1]) ∧ Below w.heap.size w w' := by
  have hb := get_bt s
  have h0 := bt_nonneg s k
  have h9 := bt_le s k
  go_enter Tryz.func165, Tryz.ntmps165
  go_wp2_with fail
  go_returns
  exact ⟨rfl, (Below.refl _ _).alloc (Nat.le_refl _) _⟩

set_option maxHeartbeats 1000000 in
theorem at_b1 (s : ByteArray) (k : Nat) (w : World) (_hs : s.size ≤ 140737488355328) (hk : k < s.size) (h1 : 128 ≤ bt s k) (h2 : bt s k < 194) :
    Calls Tryz.prog 165 #[.string s, .int .i64 k] w fun e w' => e = .returned (.agg #[.int .i64 (-1), .int .i64 1]) ∧ Below w.heap.size w w' := by
  have hb := get_bt s
  have h0 := bt_nonneg s k
  have h9 := bt_le s k
  go_enter Tryz.func165, Tryz.ntmps165
  go_wp2_with fail
  go_returns
  exact ⟨rfl, (Below.refl _ _).alloc (Nat.le_refl _) _⟩

set_option maxHeartbeats 1000000 in
theorem at_b2 (s : ByteArray) (k : Nat) (w : World) (_hs : s.size ≤ 140737488355328) (hk : k < s.size) (h1 : 244 < bt s k) :
    Calls Tryz.prog 165 #[.string s, .int .i64 k] w fun e w' => e = .returned (.agg #[.int .i64 (-1), .int .i64 1]) ∧ Below w.heap.size w w' := by
  have hb := get_bt s
  have h0 := bt_nonneg s k
  have h9 := bt_le s k
  go_enter Tryz.func165, Tryz.ntmps165
  go_wp2_with fail
  go_returns
  exact ⟨rfl, (Below.refl _ _).alloc (Nat.le_refl _) _⟩

set_option maxHeartbeats 1000000 in
theorem at_c10 (s : ByteArray) (k : Nat) (w : World) (_hs : s.size ≤ 140737488355328) (hk : k < s.size) (h1 : 194 ≤ bt s k) (h2 : bt s k ≤ 223) (t1 : tl s (k + 1) < 0) :
    Calls Tryz.prog 165 #[.string s, .int .i64 k] w fun e w' => e = .returned (.agg #[.int .i64 (-1), .int .i64 1]) ∧ Below w.heap.size w w' := by
  have hb := get_bt s
  have h0 := bt_nonneg s k
  have h9 := bt_le s k
  have l1 := tl_le s (k + 1)
  go_enter Tryz.func165, Tryz.ntmps165
  go_wp2_with fail
  refine wp_loop_rounds 2 ?_
  rw [rounds_succ]
  go_wp2_with fail
  rw [show ((k : Int) + 1) = ((k + 1 : Nat) : Int) from by omega]
  refine (tail_any s (k + 1) _ _hs).mono ?_
  rintro e w1 ⟨rfl, rfl⟩
  go_wp2_with fail
  go_returns
  exact ⟨rfl, (Below.refl _ _).alloc (Nat.le_refl _) _⟩

set_option maxHeartbeats 1000000 in
theorem at_c1k (s : ByteArray) (k : Nat) (w : World) (_hs : s.size ≤ 140737488355328) (hk : k < s.size) (h1 : 194 ≤ bt s k) (h2 : bt s k ≤ 223) (t1 : 0 ≤ tl s (k + 1)) :
    Calls Tryz.prog 165 #[.string s, .int .i64 k] w fun e w' => e = .returned (.agg #[.int .i64 ((64 * (bt s k - 192) + tl s (k + 1))), .int .i64 2]) ∧ Below w.heap.size w w' := by
  have hb := get_bt s
  have h0 := bt_nonneg s k
  have h9 := bt_le s k
  have l1 := tl_le s (k + 1)
  go_enter Tryz.func165, Tryz.ntmps165
  go_wp2_with fail
  refine wp_loop_rounds 2 ?_
  rw [rounds_succ]
  go_wp2_with fail
  rw [show ((k : Int) + 1) = ((k + 1 : Nat) : Int) from by omega]
  refine (tail_any s (k + 1) _ _hs).mono ?_
  rintro e w1 ⟨rfl, rfl⟩
  go_wp2_with fail
  rw [rounds_succ]
  go_wp2_with fail
  go_returns
  exact ⟨rfl, (Below.refl _ _).alloc (Nat.le_refl _) _⟩

end Go.Proofs.YtlbkbjeajcadiaaGreatDoor.R
