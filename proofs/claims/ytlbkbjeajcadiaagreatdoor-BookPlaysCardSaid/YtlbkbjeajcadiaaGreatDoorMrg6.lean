/- Several texts in one. -/
import Derived.Test.YtlbkbjeajcadiaaGreatDoorMrg5
import Derived.Lib.ItoaMem

/- Plain law of the settings (no program in sight): commands, replies, sorted settings. -/
namespace Go.Proofs.YtlbkbjeajcadiaaGreatDoor.P
open Go.Proofs.YtlbkbjeajcadiaaGreatDoor.R
set_option linter.unusedVariables false

structure Cmd where
  kind : Int
  client : Int
  seq : Int
  key : ByteArray
  val : ByteArray
  rev : Int
structure Rep where
  code : Int
  val : ByteArray
  rev : Int
structure Ent where
  key : ByteArray
  val : ByteArray
  rev : Int
def nul : ByteArray := ⟨#[]⟩
def Rep.zero : Rep := ⟨0, nul, 0⟩
def bare (c : Cmd) : Bool := decide (c.kind = 0) || decide (c.kind = 6)
def writes (c : Cmd) : Bool := decide (c.kind = 2) || decide (c.kind = 3) || decide (c.kind = 4)
/-- what a kind doesn't name is not said -/
def formBad (c : Cmd) : Bool :=
  (decide (c.kind < 0) || decide (6 < c.kind)) || ((bare c && (decide (c.client ≠ 0) || decide (c.seq ≠ 0) || decide (c.key ≠ nul))) || (!bare c && (decide (c.client = 0) || decide (c.seq = 0)))) ||
    ((decide (c.kind ≠ 2) && decide (c.kind ≠ 4) && decide (c.val ≠ nul)) || (decide (c.kind ≠ 4) && decide (c.rev ≠ 0)))
def out (n most : Int) : Bool := decide (n < 0) || decide (most < n)
def rangeBad (c : Cmd) : Bool := out c.client 1048576 || out c.seq 1099511627776 || out c.rev 1099511627776
def chk (c : Cmd) : Int :=
  if formBad c then 4 else if rangeBad c then 6 else if 1024 < c.val.size then 12 else if bare c then 0 else if c.kind = 5 then errV (beginV c.key) else errV (keyV c.key)
theorem chk_good {c : Cmd} (h : chk c = 0) : formBad c = false ∧ rangeBad c = false ∧ c.val.size ≤ 1024 := by
  unfold chk at h
  cases h1 : formBad c with
  | true => rw [h1] at h; simp at h
  | false =>
    cases h2 : rangeBad c with
    | true => rw [h1, h2] at h; simp at h
    | false =>
      refine ⟨rfl, rfl, ?_⟩
      rw [h1, h2] at h
      simp only [Bool.false_eq_true, if_false] at h
      by_cases h3 : 1024 < c.val.size
      · rw [if_pos h3] at h; cases h
      · omega
theorem formBad_kind {c : Cmd} (h : formBad c = false) : 0 ≤ c.kind ∧ c.kind ≤ 6 := by
  unfold formBad at h
  simp only [Bool.or_eq_false_iff, decide_eq_false_iff_not] at h
  omega
def lt (a b : ByteArray) : Prop := a.data.toList < b.data.toList
theorem lt_irrefl (a : ByteArray) : ¬ lt a a := List.lt_irrefl _
theorem lt_trans {a b c : ByteArray} (h : lt a b) (h2 : lt b c) : lt a c := List.lt_trans h h2
theorem ba_ext {a b : ByteArray} (h : a.data.toList = b.data.toList) : a = b := by
  cases a; cases b
  congr 1
  exact Array.toList_inj.1 h
theorem lt_tri (a b : ByteArray) : lt a b ∨ a = b ∨ lt b a := by
  rcases Decidable.em (a.data.toList < b.data.toList) with h | h
  · exact .inl h
  · rcases Decidable.em (b.data.toList < a.data.toList) with h2 | h2
    · exact .inr (.inr h2)
    · exact .inr (.inl (ba_ext (List.le_antisymm h2 h)))
theorem lt_asymm {a b : ByteArray} (h : lt a b) : ¬ lt b a := fun h2 => lt_irrefl a (lt_trans h h2)
theorem lt_ne {a b : ByteArray} (h : lt a b) : a ≠ b := fun e => lt_irrefl a (by rw [← e] at h; exact h)
instance (a b : ByteArray) : Decidable (lt a b) := inferInstanceAs (Decidable (a.data.toList < b.data.toList))

/-- settings by rising keys -/
def Srt (A : List Ent) : Prop := A.Pairwise fun a b => lt a.key b.key
def look (A : List Ent) (k : ByteArray) : Option Ent := A.find? fun e => decide (e.key = k)
def put : List Ent → Ent → List Ent
  | [], e => [e]
  | a :: t, e => if lt a.key e.key then a :: put t e else if a.key = e.key then e :: t else e :: a :: t
def del (A : List Ent) (k : ByteArray) : List Ent := A.filter fun e => decide (e.key ≠ k)
def revO : Option Ent → Int
  | none => 0
  | some e => e.rev
def revOf (A : List Ent) (k : ByteArray) : Int := revO (look A k)
theorem look_key {A : List Ent} {k : ByteArray} {e : Ent} (h : look A k = some e) : e.key = k ∧ e ∈ A := by
  unfold look at h
  exact ⟨by simpa using List.find?_some h, List.mem_of_find?_eq_some h⟩
theorem look_none {A : List Ent} {k : ByteArray} (h : look A k = none) : ∀ e ∈ A, e.key ≠ k := by
  unfold look at h
  rw [List.find?_eq_none] at h
  intro e he
  simpa using h e he
theorem look_of {A : List Ent} (hs : Srt A) {e : Ent} (h : e ∈ A) : look A e.key = some e := by
  induction A with
  | nil => cases h
  | cons a t ih =>
    have hp := List.pairwise_cons.1 hs
    unfold look
    rw [List.find?_cons]
    rcases List.mem_cons.1 h with rfl | h2
    · simp
    · have hne : a.key ≠ e.key := lt_ne (hp.1 e h2)
      rw [decide_eq_false hne]
      exact ih hp.2 h2
theorem mem_put {A : List Ent} {e x : Ent} (hs : Srt A) : x ∈ put A e ↔ x = e ∨ (x ∈ A ∧ x.key ≠ e.key) := by
  induction A with
  | nil => simp [put]
  | cons a t ih =>
    have hp := List.pairwise_cons.1 hs
    unfold put
    by_cases h1 : lt a.key e.key
    · rw [if_pos h1, List.mem_cons, ih hp.2, List.mem_cons]
      constructor
      · rintro (rfl | rfl | h)
        · exact .inr ⟨.inl rfl, lt_ne h1⟩
        · exact .inl rfl
        · exact .inr ⟨.inr h.1, h.2⟩
      · rintro (h | ⟨h | h, hne⟩)
        · exact .inr (.inl h)
        · exact .inl h
        · exact .inr (.inr ⟨h, hne⟩)
    · rw [if_neg h1]
      by_cases h2 : a.key = e.key
      · rw [if_pos h2, List.mem_cons, List.mem_cons]
        constructor
        · rintro (h | h)
          · exact .inl h
          · exact .inr ⟨.inr h, fun e2 => lt_ne (hp.1 x h) (by rw [h2, e2])⟩
        · rintro (h | ⟨h | h, hne⟩)
          · exact .inl h
          · subst h; exact absurd h2 hne
          · exact .inr h
      · rw [if_neg h2, List.mem_cons, List.mem_cons]
        have h3 : lt e.key a.key := by
          rcases lt_tri a.key e.key with h | h | h
          · exact absurd h h1
          · exact absurd h h2
          · exact h
        constructor
        · rintro (h | h | h)
          · exact .inl h
          · subst h; exact .inr ⟨.inl rfl, fun e2 => h2 e2⟩
          · exact .inr ⟨.inr h, fun e2 => lt_ne (lt_trans h3 (hp.1 x h)) e2.symm⟩
        · rintro (h | ⟨h | h, hne⟩)
          · exact .inl h
          · exact .inr (.inl h)
          · exact .inr (.inr h)
theorem put_srt {A : List Ent} {e : Ent} (hs : Srt A) : Srt (put A e) := by
  induction A with
  | nil => exact List.pairwise_cons.2 ⟨by simp, List.Pairwise.nil⟩
  | cons a t ih =>
    have hp := List.pairwise_cons.1 hs
    unfold put
    by_cases h1 : lt a.key e.key
    · rw [if_pos h1]
      refine List.pairwise_cons.2 ⟨fun x hx => ?_, ih hp.2⟩
      rcases (mem_put hp.2).1 hx with rfl | h
      · exact h1
      · exact hp.1 x h.1
    · rw [if_neg h1]
      by_cases h2 : a.key = e.key
      · rw [if_pos h2]
        exact List.pairwise_cons.2 ⟨fun x hx => by rw [← h2]; exact hp.1 x hx, hp.2⟩
      · rw [if_neg h2]
        have h3 : lt e.key a.key := by
          rcases lt_tri a.key e.key with h | h | h
          · exact absurd h h1
          · exact absurd h h2
          · exact h
        refine List.pairwise_cons.2 ⟨fun x hx => ?_, hs⟩
        rcases List.mem_cons.1 hx with rfl | h
        · exact h3
        · exact lt_trans h3 (hp.1 x h)
theorem del_srt {A : List Ent} {k : ByteArray} (hs : Srt A) : Srt (del A k) := List.Pairwise.filter _ hs
theorem mem_del {A : List Ent} {k : ByteArray} {x : Ent} : x ∈ del A k ↔ x ∈ A ∧ x.key ≠ k := by
  unfold del
  rw [List.mem_filter, decide_eq_true_eq]
theorem put_len {A : List Ent} {e : Ent} : (put A e).length ≤ A.length + 1 := by
  induction A with
  | nil => simp [put]
  | cons a t ih =>
    unfold put
    split
    · simp; exact ih
    · split
      · simp
      · simp
theorem del_len {A : List Ent} {k : ByteArray} : (del A k).length ≤ A.length := List.length_filter_le _ _
/-- sorted settings are what they have -/
theorem srt_ext : ∀ {A B : List Ent}, Srt A → Srt B → (∀ e, e ∈ A ↔ e ∈ B) → A = B
  | [], [], _, _, _ => rfl
  | [], b :: B, _, _, h => by have := (h b).2 List.mem_cons_self; cases this
  | a :: A, [], _, _, h => by have := (h a).1 List.mem_cons_self; cases this
  | a :: A, b :: B, h1, h2, h => by
    have p1 := List.pairwise_cons.1 h1
    have p2 := List.pairwise_cons.1 h2
    have hab : a = b := by
      rcases List.mem_cons.1 ((h a).1 List.mem_cons_self) with e | e
      · exact e
      · rcases List.mem_cons.1 ((h b).2 List.mem_cons_self) with e2 | e2
        · exact e2.symm
        · exact absurd (p1.1 b e2) (lt_asymm (p2.1 a e))
    subst hab
    refine congrArg (a :: ·) (srt_ext p1.2 p2.2 fun x => ⟨fun hx => ?_, fun hx => ?_⟩)
    · rcases List.mem_cons.1 ((h x).1 (List.mem_cons_of_mem _ hx)) with e | e
      · subst e; exact absurd (p1.1 x hx) (lt_irrefl _)
      · exact e
    · rcases List.mem_cons.1 ((h x).2 (List.mem_cons_of_mem _ hx)) with e | e
      · subst e; exact absurd (p2.1 x hx) (lt_irrefl _)
      · exact e
theorem look_put {A : List Ent} {e : Ent} {k : ByteArray} (hs : Srt A) : look (put A e) k = if e.key = k then some e else look A k := by
  have hs2 := put_srt (e := e) hs
  by_cases h : e.key = k
  · rw [if_pos h, ← h]
    exact look_of hs2 ((mem_put hs).2 (.inl rfl))
  · rw [if_neg h]
    cases h1 : look A k with
    | none =>
      cases h2 : look (put A e) k with
      | none => rfl
      | some x =>
        obtain ⟨h3, h4⟩ := look_key h2
        rcases (mem_put hs).1 h4 with e2 | e2
        · rw [e2] at h3; exact absurd h3 h
        · exact absurd h3 (look_none h1 x e2.1)
    | some x =>
      obtain ⟨h3, h4⟩ := look_key h1
      have := look_of hs2 ((mem_put hs).2 (.inr ⟨h4, by rw [h3]; exact fun e2 => h e2.symm⟩))
      rwa [h3] at this
theorem look_del {A : List Ent} {j k : ByteArray} (hs : Srt A) : look (del A j) k = if j = k then none else look A k := by
  by_cases h : j = k
  · rw [if_pos h]
    cases h2 : look (del A j) k with
    | none => rfl
    | some x =>
      obtain ⟨h3, h4⟩ := look_key h2
      exact absurd (h3.trans h.symm) (mem_del.1 h4).2
  · rw [if_neg h]
    cases h1 : look A k with
    | none =>
      cases h2 : look (del A j) k with
      | none => rfl
      | some x =>
        obtain ⟨h3, h4⟩ := look_key h2
        exact absurd h3 (look_none h1 x (mem_del.1 h4).1)
    | some x =>
      obtain ⟨h3, h4⟩ := look_key h1
      have := look_of (del_srt hs) (mem_del.2 ⟨h4, by rw [h3]; exact fun e2 => h e2.symm⟩)
      rwa [h3] at this

/-- a setting's line -/
def digs (n : Int) : ByteArray := ⟨(Lib.itoa n).toArray⟩
def lineB (e : Ent) : ByteArray := ⟨(quoteL e.key).toArray⟩ ++ ⟨#[61]⟩ ++ digs e.rev ++ ⟨#[58]⟩ ++ ⟨(quoteL e.val).toArray⟩
def joinB : List ByteArray → ByteArray
  | [] => nul
  | [a] => a
  | a :: b :: t => a ++ ⟨#[32]⟩ ++ joinB (b :: t)
def begs (k p : ByteArray) : Bool := Lib.hasPrefix k.data.toList p.data.toList
def hits (A : List Ent) (p : ByteArray) : List Ent := A.filter fun e => begs e.key p
def findR (A : List Ent) (p : ByteArray) : Rep := ⟨0, joinB ((hits A p).map lineB), ((hits A p).length : Nat)⟩
/-- a command that is right, done -/
def act (A : List Ent) (c : Cmd) : List Ent × Rep :=
  if c.kind = 1 then (A, match look A c.key with
    | none => ⟨8, nul, 0⟩
    | some e => ⟨0, e.val, e.rev⟩)
  else if c.kind = 3 then (match look A c.key with
    | none => (A, ⟨8, nul, 0⟩)
    | some e => (del A c.key, ⟨0, nul, e.rev⟩))
  else if c.kind = 2 then (put A ⟨c.key, c.val, revOf A c.key + 1⟩, ⟨0, nul, revOf A c.key + 1⟩)
  else if c.kind = 4 then (if revOf A c.key = c.rev then (put A ⟨c.key, c.val, revOf A c.key + 1⟩, ⟨0, nul, revOf A c.key + 1⟩) else (A, ⟨10, nul, revOf A c.key⟩))
  else if c.kind = 5 then (A, findR A c.key)
  else (A, Rep.zero)
def appDo (A : List Ent) (c : Cmd) : List Ent × Rep := if chk c = 0 then act A c else (A, ⟨chk c, nul, 0⟩)
/-- what holds of settings behind N commands -/
structure Good (N : Nat) (A : List Ent) : Prop where
  srt : Srt A
  len : A.length ≤ N
  ent : ∀ e ∈ A, 1 ≤ e.rev ∧ e.rev ≤ N ∧ keyV e.key = true ∧ e.val.size ≤ 1024
theorem Good.nil : Good 0 [] := ⟨List.Pairwise.nil, Nat.le_refl _, fun e h => by cases h⟩
theorem Good.mono {N M : Nat} {A : List Ent} (h : Good N A) (hm : N ≤ M) : Good M A := ⟨h.srt, Nat.le_trans h.len hm, fun e he => by have := h.ent e he; exact ⟨this.1, by omega, this.2.2⟩⟩
theorem Good.rev {N : Nat} {A : List Ent} (h : Good N A) (k : ByteArray) : 0 ≤ revOf A k ∧ revOf A k ≤ N := by
  unfold revOf
  cases h1 : look A k with
  | none => simp [revO]
  | some e => have := h.ent e (look_key h1).2; simp only [revO]; omega
theorem chk_key {c : Cmd} (h : chk c = 0) (hk : c.kind ≠ 5) (hb : bare c = false) : keyV c.key = true := by
  obtain ⟨h1, h2, h3⟩ := chk_good h
  unfold chk at h
  rw [h1, h2, hb] at h
  simp only [Bool.false_eq_true, if_false] at h
  rw [if_neg (by omega), if_neg hk] at h
  cases h4 : keyV c.key with
  | true => rfl
  | false => rw [h4] at h; cases h
theorem Good.put {N : Nat} {A : List Ent} (h : Good N A) {c : Cmd} (hc : chk c = 0) (hk : c.kind = 2 ∨ c.kind = 4) : Good (N + 1) (put A ⟨c.key, c.val, revOf A c.key + 1⟩) := by
  have hr := h.rev c.key
  refine ⟨put_srt h.srt, by have := @put_len A ⟨c.key, c.val, revOf A c.key + 1⟩; have := h.len; omega, fun e he => ?_⟩
  rcases (mem_put h.srt).1 he with rfl | h2
  · refine ⟨by simp only; omega, by simp only; omega, chk_key hc (by rcases hk with h | h <;> omega) ?_, (chk_good hc).2.2⟩
    unfold bare
    rcases hk with h | h <;> simp [h]
  · have := h.ent e h2.1
    exact ⟨this.1, by omega, this.2.2⟩
theorem Good.act {N : Nat} {A : List Ent} (h : Good N A) {c : Cmd} (hc : chk c = 0) : Good (N + 1) (act A c).1 := by
  have h0 := h.mono (Nat.le_succ N)
  unfold P.act
  split
  · exact h0
  · split
    · split
      · exact h0
      · exact ⟨del_srt h0.srt, Nat.le_trans del_len h0.len, fun e he => h0.ent e (mem_del.1 he).1⟩
    · split
      · exact h.put hc (.inl ‹_›)
      · split
        · split
          · exact h.put hc (.inr ‹_›)
          · exact h0
        · split
          · exact h0
          · exact h0
theorem Good.step {N : Nat} {A : List Ent} (h : Good N A) (c : Cmd) : Good (N + 1) (appDo A c).1 := by
  unfold appDo
  split
  · exact h.act ‹_›
  · exact h.mono (Nat.le_succ N)
def run (A : List Ent) : List Cmd → List Ent
  | [] => A
  | c :: t => run (appDo A c).1 t
theorem run_snoc (A : List Ent) (l : List Cmd) (c : Cmd) : run A (l ++ [c]) = (appDo (run A l) c).1 := by
  induction l generalizing A with
  | nil => rfl
  | cons a t ih => exact ih _
theorem Good.run {N : Nat} {A : List Ent} (h : Good N A) (l : List Cmd) : Good (N + l.length) (run A l) := by
  induction l generalizing A N with
  | nil => exact h
  | cons a t ih =>
    have := ih (h.step a)
    rw [List.length_cons]
    have e : N + 1 + t.length = N + (t.length + 1) := by omega
    rw [e] at this
    exact this
end Go.Proofs.YtlbkbjeajcadiaaGreatDoor.P

/- Plain law of the settings: what the five statements ask. -/
namespace Go.Proofs.YtlbkbjeajcadiaaGreatDoor.P
open Go.Proofs.YtlbkbjeajcadiaaGreatDoor.R
set_option linter.unusedVariables false

theorem put_mem_self {A : List Ent} {e : Ent} (hs : Srt A) : e ∈ put A e := (mem_put hs).2 (.inl rfl)
theorem ext_look {A B : List Ent} (ha : Srt A) (hb : Srt B) (h : ∀ k, look A k = look B k) : A = B := by
  refine srt_ext ha hb fun e => ⟨fun he => ?_, fun he => ?_⟩
  · have := look_of ha he
    rw [h] at this
    exact (look_key this).2
  · have := look_of hb he
    rw [← h] at this
    exact (look_key this).2
theorem act_still {A : List Ent} {c : Cmd} (h : writes c = false) : (act A c).1 = A := by
  unfold writes at h
  simp only [Bool.or_eq_false_iff, decide_eq_false_iff_not] at h
  unfold act
  split
  · rfl
  · rw [if_neg h.1.2, if_neg h.1.1, if_neg h.2]
    split <;> rfl
theorem do_still {A : List Ent} {c : Cmd} (h : writes c = false ∨ chk c ≠ 0) : (appDo A c).1 = A := by
  unfold appDo
  split
  · rcases h with h | h
    · exact act_still h
    · exact absurd ‹_› h
  · rfl
theorem do_srt {A : List Ent} (hs : Srt A) (c : Cmd) : Srt (appDo A c).1 := by
  unfold appDo
  split
  · unfold act
    split
    · exact hs
    · split
      · split
        · exact hs
        · exact del_srt hs
      · split
        · exact put_srt hs
        · split
          · split
            · exact put_srt hs
            · exact hs
          · split <;> exact hs
  · exact hs
/-- what becomes of the setting at the command's own key -/
def nw (c : Cmd) (o : Option Ent) : Option Ent :=
  if chk c = 0 then
    if c.kind = 3 then none
    else if c.kind = 2 then some ⟨c.key, c.val, revO o + 1⟩
    else if c.kind = 4 then (if revO o = c.rev then some ⟨c.key, c.val, revO o + 1⟩ else o)
    else o
  else o
theorem look_do {A : List Ent} (hs : Srt A) (c : Cmd) (k : ByteArray) : look (appDo A c).1 k = if c.key = k then nw c (look A c.key) else look A k := by
  have hput : ∀ e : Ent, e.key = c.key → look (put A e) k = if c.key = k then some e else look A k := fun e he => by rw [look_put hs, he]
  have hself : (if c.key = k then look A c.key else look A k) = look A k := by
    by_cases h : c.key = k
    · rw [if_pos h, h]
    · rw [if_neg h]
  unfold appDo nw
  by_cases h0 : chk c = 0
  · rw [if_pos h0]
    simp only [if_pos h0]
    unfold act
    by_cases h1 : c.kind = 1
    · rw [if_pos h1, if_neg (show ¬ c.kind = 3 by omega), if_neg (show ¬ c.kind = 2 by omega), if_neg (show ¬ c.kind = 4 by omega)]
      exact hself.symm
    · rw [if_neg h1]
      by_cases h3 : c.kind = 3
      · rw [if_pos h3, if_pos h3]
        cases h : look A c.key with
        | none =>
          simp only
          by_cases e : c.key = k
          · rw [if_pos e, ← e, h]
          · rw [if_neg e]
        | some x =>
          simp only
          rw [look_del hs]
      · rw [if_neg h3, if_neg h3]
        by_cases h2 : c.kind = 2
        · rw [if_pos h2, if_pos h2]
          exact hput _ rfl
        · rw [if_neg h2, if_neg h2]
          by_cases h4 : c.kind = 4
          · rw [if_pos h4, if_pos h4]
            by_cases h5 : revOf A c.key = c.rev
            · rw [if_pos h5]
              unfold revOf at h5
              rw [if_pos h5]
              exact hput _ rfl
            · rw [if_neg h5]
              unfold revOf at h5
              rw [if_neg h5]
              exact hself.symm
          · rw [if_neg h4, if_neg h4]
            split <;> exact hself.symm
  · rw [if_neg h0]
    simp only [if_neg h0]
    exact hself.symm

/-- a reply hangs on the setting at the key, and on what a find finds -/
theorem reply_of {A B : List Ent} {c : Cmd} (h : look A c.key = look B c.key) (h5 : c.kind = 5 → hits A c.key = hits B c.key) : (appDo A c).2 = (appDo B c).2 := by
  have hr : revOf A c.key = revOf B c.key := by unfold revOf; rw [h]
  unfold appDo
  split
  · unfold act
    by_cases h1 : c.kind = 1
    · rw [if_pos h1, if_pos h1, h]
    · rw [if_neg h1, if_neg h1]
      by_cases h3 : c.kind = 3
      · rw [if_pos h3, if_pos h3, h]
        split <;> rfl
      · rw [if_neg h3, if_neg h3]
        by_cases h2 : c.kind = 2
        · rw [if_pos h2, if_pos h2, hr]
        · rw [if_neg h2, if_neg h2]
          by_cases h4 : c.kind = 4
          · rw [if_pos h4, if_pos h4, hr]
            split <;> rfl
          · rw [if_neg h4, if_neg h4]
            by_cases h6 : c.kind = 5
            · rw [if_pos h6, if_pos h6]
              unfold findR
              rw [h5 h6]
            · rw [if_neg h6, if_neg h6]
  · rfl
theorem hits_put {A : List Ent} {e : Ent} {p : ByteArray} (hs : Srt A) (hn : begs e.key p = false) : hits (put A e) p = hits A p := by
  refine srt_ext (List.Pairwise.filter _ (put_srt hs)) (List.Pairwise.filter _ hs) fun x => ?_
  unfold hits
  rw [List.mem_filter, List.mem_filter, mem_put hs]
  constructor
  · rintro ⟨rfl | h, hb⟩
    · rw [hn] at hb; cases hb
    · exact ⟨h.1, hb⟩
  · rintro ⟨h, hb⟩
    exact ⟨.inr ⟨h, fun e2 => by rw [e2, hn] at hb; cases hb⟩, hb⟩
theorem hits_del {A : List Ent} {k p : ByteArray} (hn : begs k p = false) : hits (del A k) p = hits A p := by
  unfold hits del
  rw [List.filter_filter]
  refine List.filter_congr fun x _ => ?_
  by_cases e : x.key = k
  · rw [e, hn]; rfl
  · simp [e]
theorem hits_do {A : List Ent} {c : Cmd} {p : ByteArray} (hs : Srt A) (hn : begs c.key p = false) : hits (appDo A c).1 p = hits A p := by
  unfold appDo
  split
  · unfold act
    split
    · rfl
    · split
      · split
        · rfl
        · exact hits_del hn
      · split
        · exact hits_put hs hn
        · split
          · split
            · exact hits_put hs hn
            · rfl
          · split <;> rfl
  · rfl
def keysMeet (a b : Cmd) : Bool := decide (a.key = b.key) || (decide (a.kind = 5) && begs b.key a.key) || (decide (b.kind = 5) && begs a.key b.key)
def meet (a b : Cmd) : Bool :=
  if decide (a.kind = 0) || decide (b.kind = 0) then false
  else if decide (a.kind = 6) || decide (b.kind = 6) || decide (a.client = b.client) then true
  else (writes a || writes b) && keysMeet a b
theorem reply_noop {A B : List Ent} {c : Cmd} (h : c.kind = 0) : (appDo A c).2 = (appDo B c).2 := by
  unfold appDo
  split
  · unfold act
    rw [if_neg (by omega), if_neg (by omega), if_neg (by omega), if_neg (by omega), if_neg (by omega), if_neg (by omega), if_neg (by omega), if_neg (by omega), if_neg (by omega), if_neg (by omega)]
  · rfl
/-- of two that don't meet the one's reply is the same behind the other -/
theorem reply_behind {A : List Ent} {c d : Cmd} (hs : Srt A) (h : meet c d = false) : (appDo (appDo A d).1 c).2 = (appDo A c).2 := by
  unfold meet at h
  by_cases hc0 : c.kind = 0
  · exact reply_noop hc0
  by_cases hd0 : d.kind = 0
  · rw [do_still (.inl (by unfold writes; simp [hd0]))]
  rw [if_neg (by simp [hc0, hd0])] at h
  split at h
  · cases h
  · by_cases hw : writes d = true
    · rw [hw, Bool.or_true, Bool.true_and] at h
      unfold keysMeet at h
      simp only [Bool.or_eq_false_iff, decide_eq_false_iff_not] at h
      refine reply_of ?_ fun h5 => ?_
      · rw [look_do hs, if_neg (fun e => h.1.1 e.symm)]
      · have h6 := h.1.2
        rw [decide_eq_true h5, Bool.true_and] at h6
        exact hits_do hs h6
    · rw [do_still (.inl (by simpa using hw))]
theorem meet_comm {a b : Cmd} : meet a b = meet b a := by
  have hk : keysMeet a b = keysMeet b a := by
    unfold keysMeet
    rw [Bool.eq_iff_iff]
    simp only [Bool.or_eq_true, Bool.and_eq_true, decide_eq_true_eq]
    constructor
    · rintro ((h | h) | h)
      · exact .inl (.inl h.symm)
      · exact .inr h
      · exact .inl (.inr h)
    · rintro ((h | h) | h)
      · exact .inl (.inl h.symm)
      · exact .inr h
      · exact .inl (.inr h)
  unfold meet
  rw [hk, Bool.or_comm (decide (a.kind = 0)), Bool.or_comm (decide (a.kind = 6)), Bool.or_comm (writes a)]
  have e : decide (a.client = b.client) = decide (b.client = a.client) := by
    rw [Bool.eq_iff_iff, decide_eq_true_eq, decide_eq_true_eq]; exact ⟨Eq.symm, Eq.symm⟩
  rw [e]
/-- two that don't meet, in either order -/
theorem swap_state {A : List Ent} {c d : Cmd} (hs : Srt A) (h : meet c d = false) : (appDo (appDo A c).1 d).1 = (appDo (appDo A d).1 c).1 := by
  by_cases hc : writes c = true
  · by_cases hd : writes d = true
    · have hne : c.key ≠ d.key := by
        unfold meet at h
        have hc0 : c.kind ≠ 0 := by unfold writes at hc; simp at hc; omega
        have hd0 : d.kind ≠ 0 := by unfold writes at hd; simp at hd; omega
        rw [if_neg (by simp [hc0, hd0])] at h
        split at h
        · cases h
        · rw [hc, Bool.true_or, Bool.true_and] at h
          unfold keysMeet at h
          simp only [Bool.or_eq_false_iff, decide_eq_false_iff_not] at h
          exact h.1.1
      refine ext_look (do_srt (do_srt hs c) d) (do_srt (do_srt hs d) c) fun k => ?_
      rw [look_do (do_srt hs c), look_do (do_srt hs d), look_do hs, look_do hs, look_do hs, look_do hs]
      by_cases h1 : d.key = k
      · have h2 : c.key ≠ k := fun e => hne (e.trans h1.symm)
        rw [if_pos h1, if_neg h2, if_neg hne, if_pos h1]
      · rw [if_neg h1]
        by_cases h2 : c.key = k
        · rw [if_pos h2, if_pos h2, if_neg (fun e => hne e.symm)]
        · rw [if_neg h2, if_neg h2, if_neg h1]
    · have hd : writes d = false := by simpa using hd
      rw [do_still (.inl hd), do_still (A := A) (.inl hd)]
  · have hc : writes c = false := by simpa using hc
    rw [do_still (A := A) (.inl hc), do_still (.inl hc)]
theorem begs_nul (k : ByteArray) : begs k nul = true := by unfold begs nul; simp [Lib.hasPrefix]
theorem hits_nul (A : List Ent) : hits A nul = A := by
  unfold hits
  rw [List.filter_eq_self]
  intro e _
  exact begs_nul _
theorem beginV_nul : beginV nul = true := by decide +kernel
/-- all settings are asked for -/
def allC : Cmd := ⟨5, 1, 1, nul, nul, 0⟩
theorem chk_all : chk allC = 0 := by
  unfold chk
  have h1 : formBad allC = false := by decide
  have h2 : rangeBad allC = false := by decide
  have h3 : bare allC = false := by decide
  rw [h1, h2, h3]
  simp only [Bool.false_eq_true, if_false]
  rw [if_neg (show ¬ 1024 < allC.val.size by decide), if_pos (show allC.kind = 5 from rfl), show allC.key = nul from rfl, beginV_nul]
  rfl
theorem do_all (A : List Ent) : appDo A allC = (A, findR A nul) := by
  unfold appDo
  rw [if_pos chk_all]
  rfl
/-- AppReads, of a command that writes and was taken -/
theorem reads_del {A : List Ent} {c : Cmd} (hs : Srt A) (h0 : chk c = 0) (h3 : c.kind = 3) (hr : (appDo A c).2.code = 0) : look (appDo A c).1 c.key = none ∧ ((appDo A c).1.length : Int) = (A.length : Int) - 1 := by
  refine ⟨by rw [look_do hs, if_pos rfl]; unfold nw; rw [if_pos h0, if_pos h3], ?_⟩
  unfold appDo at hr ⊢
  rw [if_pos h0] at hr ⊢
  unfold act at hr ⊢
  rw [if_neg (by omega), if_pos h3] at hr ⊢
  cases h : look A c.key with
  | none => rw [h] at hr; simp at hr
  | some e =>
    simp only
    have hk := look_key h
    have key : ∀ (B : List Ent), Srt B → e ∈ B → ((del B c.key).length : Int) = (B.length : Int) - 1 := by
      intro B
      induction B with
      | nil => intro _ h; cases h
      | cons a t ih =>
        intro hsB hm
        have hp := List.pairwise_cons.1 hsB
        unfold del
        rw [List.filter_cons]
        by_cases ha : a.key = c.key
        · rw [decide_eq_false (fun h => h ha)]
          have : t.filter (fun e => decide (e.key ≠ c.key)) = t := by
            rw [List.filter_eq_self]
            intro x hx
            rw [decide_eq_true_eq, ← ha]
            exact fun e2 => lt_ne (hp.1 x hx) e2.symm
          simp only [Bool.false_eq_true, if_false]
          rw [this, List.length_cons]
          omega
        · rw [decide_eq_true ha, if_pos rfl, List.length_cons, List.length_cons]
          have hmt : e ∈ t := by
            rcases List.mem_cons.1 hm with e2 | e2
            · rw [← e2, hk.1] at ha; exact absurd rfl ha
            · exact e2
          have := ih hp.2 hmt
          unfold del at this
          omega
    exact key A hs hk.2
theorem reads_put {A : List Ent} {c : Cmd} (hs : Srt A) {N : Nat} (hg : Good N A) (h0 : chk c = 0) (hk : c.kind = 2 ∨ c.kind = 4) (hr : (appDo A c).2.code = 0) : look (appDo A c).1 c.key = some ⟨c.key, c.val, (appDo A c).2.rev⟩ ∧ 0 < (appDo A c).2.rev := by
  have hrv := hg.rev c.key
  unfold appDo at hr ⊢
  rw [if_pos h0] at hr ⊢
  unfold act at hr ⊢
  rw [if_neg (by omega), if_neg (by omega)] at hr ⊢
  rcases hk with h2 | h4
  · rw [if_pos h2]
    exact ⟨by rw [look_put hs, if_pos rfl], by simp only; omega⟩
  · rw [if_neg (by omega), if_pos h4] at hr ⊢
    by_cases h5 : revOf A c.key = c.rev
    · rw [if_pos h5]
      exact ⟨by rw [look_put hs, if_pos rfl], by simp only; omega⟩
    · rw [if_neg h5] at hr; simp at hr
theorem do_code {A : List Ent} {c : Cmd} (h : (appDo A c).2.code ≠ 0) : (appDo A c).1 = A := by
  unfold appDo at h ⊢
  split
  · rw [if_pos ‹_›] at h
    unfold act at h ⊢
    split
    · rfl
    · rw [if_neg ‹_›] at h
      split
      · rw [if_pos ‹_›] at h
        cases h2 : look A c.key with
        | none => rfl
        | some e => rw [h2] at h; simp at h
      · rw [if_neg ‹_›] at h
        split
        · rw [if_pos ‹_›] at h; simp at h
        · rw [if_neg ‹_›] at h
          split
          · rw [if_pos ‹_›] at h
            split
            · rw [if_pos ‹_›] at h; simp at h
            · rfl
          · split <;> rfl
  · rfl
/-- AppRevs: one command more -/
theorem revs_step {A : List Ent} {N : Nat} (hg : Good N A) (c : Cmd) (key : ByteArray) :
    ((c.key ≠ key ∨ (appDo A c).2.code ≠ 0) → revOf (appDo A c).1 key = revOf A key) ∧
    (c.key = key → (appDo A c).2.code = 0 →
      ((c.kind = 2 ∨ c.kind = 4) → (appDo A c).2.rev = revOf A key + 1 ∧ revOf (appDo A c).1 key = revOf A key + 1) ∧
      (c.kind = 3 → (appDo A c).2.rev = revOf A key ∧ revOf (appDo A c).1 key = 0) ∧
      (c.kind = 1 → (appDo A c).2.rev = revOf A key ∧ revOf A key ≠ 0 ∧ revOf (appDo A c).1 key = revOf A key) ∧
      (c.kind ≠ 1 → c.kind ≠ 2 → c.kind ≠ 3 → c.kind ≠ 4 → revOf (appDo A c).1 key = revOf A key)) := by
  have hlook := look_do hg.srt c key
  refine ⟨fun h => ?_, fun hk hr => ?_⟩
  · rcases h with h | h
    · unfold revOf; rw [hlook, if_neg h]
    · rw [do_code h]
  · subst hk
    have h0 : chk c = 0 := by
      unfold appDo at hr
      by_cases h : chk c = 0
      · exact h
      · rw [if_neg h] at hr; exact absurd hr h
    refine ⟨fun hk => ?_, fun h3 => ?_, fun h1 => ?_, fun h1 h2 h3 h4 => ?_⟩
    · have h5 := reads_put hg.srt hg h0 hk hr
      have h6 : revOf (appDo A c).1 c.key = (appDo A c).2.rev := by unfold revOf; rw [h5.1]; rfl
      have h7 : (appDo A c).2.rev = revOf A c.key + 1 := by
        unfold appDo at hr ⊢
        rw [if_pos h0] at hr ⊢
        unfold act at hr ⊢
        rw [if_neg (by omega), if_neg (by omega)] at hr ⊢
        rcases hk with h2 | h4
        · rw [if_pos h2]
        · rw [if_neg (by omega), if_pos h4] at hr ⊢
          by_cases h8 : revOf A c.key = c.rev
          · rw [if_pos h8]
          · rw [if_neg h8] at hr; simp at hr
      exact ⟨h7, h6.trans h7⟩
    · have h5 := reads_del hg.srt h0 h3 hr
      refine ⟨?_, by unfold revOf; rw [h5.1]; rfl⟩
      unfold appDo at hr ⊢
      rw [if_pos h0] at hr ⊢
      unfold act at hr ⊢
      rw [if_neg (by omega), if_pos h3] at hr ⊢
      unfold revOf
      cases h : look A c.key with
      | none => rw [h] at hr; simp at hr
      | some e => rfl
    · have hst : (appDo A c).1 = A := do_still (.inl (by unfold writes; simp [h1]))
      rw [hst]
      unfold appDo at hr ⊢
      rw [if_pos h0] at hr ⊢
      unfold act at hr ⊢
      rw [if_pos h1] at hr ⊢
      unfold revOf
      cases h : look A c.key with
      | none => rw [h] at hr; simp at hr
      | some e =>
        have := (hg.ent e (look_key h).2).1
        refine ⟨rfl, ?_, rfl⟩
        show e.rev ≠ 0
        omega
    · rw [do_still (.inl (by unfold writes; simp [h2, h3, h4]))]
/-- AppFinds: a longer beginning finds no more -/
theorem finds_mono {A : List Ent} {p q : ByteArray} (h : ∀ k, begs k p = true → begs k q = true) : (hits A p).length ≤ (hits A q).length := by
  unfold hits
  rw [← List.countP_eq_length_filter, ← List.countP_eq_length_filter]
  exact List.countP_mono_left fun e _ => h e.key
end Go.Proofs.YtlbkbjeajcadiaaGreatDoor.P
