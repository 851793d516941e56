/- Plain law of the settings (no program in sight): commands, replies, sorted settings. -/
import Derived.Test.YtlbkbjeajcadiaaGreatDoorMrg2
import Derived.Lib.ItoaMem
namespace Go.Proofs.YtlbkbjeajcadiaaGreatDoor.P
open Go.Proofs.YtlbkbjeajcadiaaGreatDoor.R
set_option linter.unusedVariables false

structure Cmd where
  kind : Int
  client : Int
  seq : Int
  key : ByteArray
  val : ByteArray
  rev : Int
structure Rep where
  code : Int
  val : ByteArray
  rev : Int
structure Ent where
  key : ByteArray
  val : ByteArray
  rev : Int
def nul : ByteArray := ⟨#[]⟩
def Rep.zero : Rep := ⟨0, nul, 0⟩
def bare (c : Cmd) : Bool := decide (c.kind = 0) || decide (c.kind = 6)
def writes (c : Cmd) : Bool := decide (c.kind = 2) || decide (c.kind = 3) || decide (c.kind = 4)
/-- what a kind doesn't name is not said -/
def formBad (c : Cmd) : Bool :=
  (decide (c.kind < 0) || decide (6 < c.kind)) || ((bare c && (decide (c.client ≠ 0) || decide (c.seq ≠ 0) || decide (c.key ≠ nul))) || (!bare c && (decide (c.client = 0) || decide (c.seq = 0)))) ||
    ((decide (c.kind ≠ 2) && decide (c.kind ≠ 4) && decide (c.val ≠ nul)) || (decide (c.kind ≠ 4) && decide (c.rev ≠ 0)))
def out (n most : Int) : Bool := decide (n < 0) || decide (most < n)
def rangeBad (c : Cmd) : Bool := out c.client 1048576 || out c.seq 1099511627776 || out c.rev 1099511627776
def chk (c : Cmd) : Int :=
  if formBad c then 4 else if rangeBad c then 6 else if 1024 < c.val.size then 12 else if bare c then 0 else if c.kind = 5 then errV (beginV c.key) else errV (keyV c.key)
theorem chk_good {c : Cmd} (h : chk c = 0) : formBad c = false ∧ rangeBad c = false ∧ c.val.size ≤ 1024 := by
  unfold chk at h
  cases h1 : formBad c with
  | true => rw [h1] at h; simp at h
  | false =>
    cases h2 : rangeBad c with
    | true => rw [h1, h2] at h; simp at h
    | false =>
      refine ⟨rfl, rfl, ?_⟩
      rw [h1, h2] at h
      simp only [Bool.false_eq_true, if_false] at h
      by_cases h3 : 1024 < c.val.size
      · rw [if_pos h3] at h; cases h
      · omega
def lt (a b : ByteArray) : Prop := a.data.toList < b.data.toList
theorem lt_irrefl (a : ByteArray) : ¬ lt a a := List.lt_irrefl _
theorem lt_trans {a b c : ByteArray} (h : lt a b) (h2 : lt b c) : lt a c := List.lt_trans h h2
theorem ba_ext {a b : ByteArray} (h : a.data.toList = b.data.toList) : a = b := by
  cases a; cases b
  congr 1
  exact Array.toList_inj.1 h
theorem lt_tri (a b : ByteArray) : lt a b ∨ a = b ∨ lt b a := by
  rcases Decidable.em (a.data.toList < b.data.toList) with h | h
  · exact .inl h
  · rcases Decidable.em (b.data.toList < a.data.toList) with h2 | h2
    · exact .inr (.inr h2)
    · exact .inr (.inl (ba_ext (List.le_antisymm h2 h)))
theorem lt_ne {a b : ByteArray} (h : lt a b) : a ≠ b := fun e => lt_irrefl a (by rw [← e] at h; exact h)
instance (a b : ByteArray) : Decidable (lt a b) := inferInstanceAs (Decidable (a.data.toList < b.data.toList))

/-- settings by rising keys -/
def Srt (A : List Ent) : Prop := A.Pairwise fun a b => lt a.key b.key
def look (A : List Ent) (k : ByteArray) : Option Ent := A.find? fun e => decide (e.key = k)
def put : List Ent → Ent → List Ent
  | [], e => [e]
  | a :: t, e => if lt a.key e.key then a :: put t e else if a.key = e.key then e :: t else e :: a :: t
def del (A : List Ent) (k : ByteArray) : List Ent := A.filter fun e => decide (e.key ≠ k)
def revO : Option Ent → Int
  | none => 0
  | some e => e.rev
def revOf (A : List Ent) (k : ByteArray) : Int := revO (look A k)
theorem look_key {A : List Ent} {k : ByteArray} {e : Ent} (h : look A k = some e) : e.key = k ∧ e ∈ A := by
  unfold look at h
  exact ⟨by simpa using List.find?_some h, List.mem_of_find?_eq_some h⟩
theorem look_none {A : List Ent} {k : ByteArray} (h : look A k = none) : ∀ e ∈ A, e.key ≠ k := by
  unfold look at h
  rw [List.find?_eq_none] at h
  intro e he
  simpa using h e he
theorem look_of {A : List Ent} (hs : Srt A) {e : Ent} (h : e ∈ A) : look A e.key = some e := by
  induction A with
  | nil => cases h
  | cons a t ih =>
    have hp := List.pairwise_cons.1 hs
    unfold look
    rw [List.find?_cons]
    rcases List.mem_cons.1 h with rfl | h2
    · simp
    · have hne : a.key ≠ e.key := lt_ne (hp.1 e h2)
      rw [decide_eq_false hne]
      exact ih hp.2 h2
theorem mem_put {A : List Ent} {e x : Ent} (hs : Srt A) : x ∈ put A e ↔ x = e ∨ (x ∈ A ∧ x.key ≠ e.key) := by
  induction A with
  | nil => simp [put]
  | cons a t ih =>
    have hp := List.pairwise_cons.1 hs
    unfold put
    by_cases h1 : lt a.key e.key
    · rw [if_pos h1, List.mem_cons, ih hp.2, List.mem_cons]
      constructor
      · rintro (rfl | rfl | h)
        · exact .inr ⟨.inl rfl, lt_ne h1⟩
        · exact .inl rfl
        · exact .inr ⟨.inr h.1, h.2⟩
      · rintro (h | ⟨h | h, hne⟩)
        · exact .inr (.inl h)
        · exact .inl h
        · exact .inr (.inr ⟨h, hne⟩)
    · rw [if_neg h1]
      by_cases h2 : a.key = e.key
      · rw [if_pos h2, List.mem_cons, List.mem_cons]
        constructor
        · rintro (h | h)
          · exact .inl h
          · exact .inr ⟨.inr h, fun e2 => lt_ne (hp.1 x h) (by rw [h2, e2])⟩
        · rintro (h | ⟨h | h, hne⟩)
          · exact .inl h
          · subst h; exact absurd h2 hne
          · exact .inr h
      · rw [if_neg h2, List.mem_cons, List.mem_cons]
        have h3 : lt e.key a.key := by
          rcases lt_tri a.key e.key with h | h | h
          · exact absurd h h1
          · exact absurd h h2
          · exact h
        constructor
        · rintro (h | h | h)
          · exact .inl h
          · subst h; exact .inr ⟨.inl rfl, fun e2 => h2 e2⟩
          · exact .inr ⟨.inr h, fun e2 => lt_ne (lt_trans h3 (hp.1 x h)) e2.symm⟩
        · rintro (h | ⟨h | h, hne⟩)
          · exact .inl h
          · exact .inr (.inl h)
          · exact .inr (.inr h)
theorem put_srt {A : List Ent} {e : Ent} (hs : Srt A) : Srt (put A e) := by
  induction A with
  | nil => exact List.pairwise_cons.2 ⟨by simp, List.Pairwise.nil⟩
  | cons a t ih =>
    have hp := List.pairwise_cons.1 hs
    unfold put
    by_cases h1 : lt a.key e.key
    · rw [if_pos h1]
      refine List.pairwise_cons.2 ⟨fun x hx => ?_, ih hp.2⟩
      rcases (mem_put hp.2).1 hx with rfl | h
      · exact h1
      · exact hp.1 x h.1
    · rw [if_neg h1]
      by_cases h2 : a.key = e.key
      · rw [if_pos h2]
        exact List.pairwise_cons.2 ⟨fun x hx => by rw [← h2]; exact hp.1 x hx, hp.2⟩
      · rw [if_neg h2]
        have h3 : lt e.key a.key := by
          rcases lt_tri a.key e.key with h | h | h
          · exact absurd h h1
          · exact absurd h h2
          · exact h
        refine List.pairwise_cons.2 ⟨fun x hx => ?_, hs⟩
        rcases List.mem_cons.1 hx with rfl | h
        · exact h3
        · exact lt_trans h3 (hp.1 x h)
theorem del_srt {A : List Ent} {k : ByteArray} (hs : Srt A) : Srt (del A k) := List.Pairwise.filter _ hs
theorem mem_del {A : List Ent} {k : ByteArray} {x : Ent} : x ∈ del A k ↔ x ∈ A ∧ x.key ≠ k := by
  unfold del
  rw [List.mem_filter, decide_eq_true_eq]
theorem put_len {A : List Ent} {e : Ent} : (put A e).length ≤ A.length + 1 := by
  induction A with
  | nil => simp [put]
  | cons a t ih =>
    unfold put
    split
    · simp; exact ih
    · split
      · simp
      · simp
theorem del_len {A : List Ent} {k : ByteArray} : (del A k).length ≤ A.length := List.length_filter_le _ _
theorem look_put {A : List Ent} {e : Ent} {k : ByteArray} (hs : Srt A) : look (put A e) k = if e.key = k then some e else look A k := by
  have hs2 := put_srt (e := e) hs
  by_cases h : e.key = k
  · rw [if_pos h, ← h]
    exact look_of hs2 ((mem_put hs).2 (.inl rfl))
  · rw [if_neg h]
    cases h1 : look A k with
    | none =>
      cases h2 : look (put A e) k with
      | none => rfl
      | some x =>
        obtain ⟨h3, h4⟩ := look_key h2
        rcases (mem_put hs).1 h4 with e2 | e2
        · rw [e2] at h3; exact absurd h3 h
        · exact absurd h3 (look_none h1 x e2.1)
    | some x =>
      obtain ⟨h3, h4⟩ := look_key h1
      have := look_of hs2 ((mem_put hs).2 (.inr ⟨h4, by rw [h3]; exact fun e2 => h e2.symm⟩))
      rwa [h3] at this
theorem look_del {A : List Ent} {j k : ByteArray} (hs : Srt A) : look (del A j) k = if j = k then none else look A k := by
  by_cases h : j = k
  · rw [if_pos h]
    cases h2 : look (del A j) k with
    | none => rfl
    | some x =>
      obtain ⟨h3, h4⟩ := look_key h2
      exact absurd (h3.trans h.symm) (mem_del.1 h4).2
  · rw [if_neg h]
    cases h1 : look A k with
    | none =>
      cases h2 : look (del A j) k with
      | none => rfl
      | some x =>
        obtain ⟨h3, h4⟩ := look_key h2
        exact absurd h3 (look_none h1 x (mem_del.1 h4).1)
    | some x =>
      obtain ⟨h3, h4⟩ := look_key h1
      have := look_of (del_srt hs) (mem_del.2 ⟨h4, by rw [h3]; exact fun e2 => h e2.symm⟩)
      rwa [h3] at this

/-- a setting's line -/
def digs (n : Int) : ByteArray := ⟨(Lib.itoa n).toArray⟩
def lineB (e : Ent) : ByteArray := ⟨(quoteL e.key).toArray⟩ ++ ⟨#[61]⟩ ++ digs e.rev ++ ⟨#[58]⟩ ++ ⟨(quoteL e.val).toArray⟩
def joinB : List ByteArray → ByteArray
  | [] => nul
  | [a] => a
  | a :: b :: t => a ++ ⟨#[32]⟩ ++ joinB (b :: t)
def begs (k p : ByteArray) : Bool := Lib.hasPrefix k.data.toList p.data.toList
def hits (A : List Ent) (p : ByteArray) : List Ent := A.filter fun e => begs e.key p
def findR (A : List Ent) (p : ByteArray) : Rep := ⟨0, joinB ((hits A p).map lineB), ((hits A p).length : Nat)⟩
/-- a command that is right, done -/
def act (A : List Ent) (c : Cmd) : List Ent × Rep :=
  if c.kind = 1 then (A, match look A c.key with
    | none => ⟨8, nul, 0⟩
    | some e => ⟨0, e.val, e.rev⟩)
  else if c.kind = 3 then (match look A c.key with
    | none => (A, ⟨8, nul, 0⟩)
    | some e => (del A c.key, ⟨0, nul, e.rev⟩))
  else if c.kind = 2 then (put A ⟨c.key, c.val, revOf A c.key + 1⟩, ⟨0, nul, revOf A c.key + 1⟩)
  else if c.kind = 4 then (if revOf A c.key = c.rev then (put A ⟨c.key, c.val, revOf A c.key + 1⟩, ⟨0, nul, revOf A c.key + 1⟩) else (A, ⟨10, nul, revOf A c.key⟩))
  else if c.kind = 5 then (A, findR A c.key)
  else (A, Rep.zero)
def appDo (A : List Ent) (c : Cmd) : List Ent × Rep := if chk c = 0 then act A c else (A, ⟨chk c, nul, 0⟩)
/-- what holds of settings behind N commands -/
structure Good (N : Nat) (A : List Ent) : Prop where
  srt : Srt A
  len : A.length ≤ N
  ent : ∀ e ∈ A, 1 ≤ e.rev ∧ e.rev ≤ N ∧ keyV e.key = true ∧ e.val.size ≤ 1024
theorem Good.nil : Good 0 [] := ⟨List.Pairwise.nil, Nat.le_refl _, fun e h => by cases h⟩
theorem Good.mono {N M : Nat} {A : List Ent} (h : Good N A) (hm : N ≤ M) : Good M A := ⟨h.srt, Nat.le_trans h.len hm, fun e he => by have := h.ent e he; exact ⟨this.1, by omega, this.2.2⟩⟩
theorem Good.rev {N : Nat} {A : List Ent} (h : Good N A) (k : ByteArray) : 0 ≤ revOf A k ∧ revOf A k ≤ N := by
  unfold revOf
  cases h1 : look A k with
  | none => simp [revO]
  | some e => have := h.ent e (look_key h1).2; simp only [revO]; omega
theorem chk_key {c : Cmd} (h : chk c = 0) (hk : c.kind ≠ 5) (hb : bare c = false) : keyV c.key = true := by
  obtain ⟨h1, h2, h3⟩ := chk_good h
  unfold chk at h
  rw [h1, h2, hb] at h
  simp only [Bool.false_eq_true, if_false] at h
  rw [if_neg (by omega), if_neg hk] at h
  cases h4 : keyV c.key with
  | true => rfl
  | false => rw [h4] at h; cases h
theorem Good.put {N : Nat} {A : List Ent} (h : Good N A) {c : Cmd} (hc : chk c = 0) (hk : c.kind = 2 ∨ c.kind = 4) : Good (N + 1) (put A ⟨c.key, c.val, revOf A c.key + 1⟩) := by
  have hr := h.rev c.key
  refine ⟨put_srt h.srt, by have := @put_len A ⟨c.key, c.val, revOf A c.key + 1⟩; have := h.len; omega, fun e he => ?_⟩
  rcases (mem_put h.srt).1 he with rfl | h2
  · refine ⟨by simp only; omega, by simp only; omega, chk_key hc (by rcases hk with h | h <;> omega) ?_, (chk_good hc).2.2⟩
    unfold bare
    rcases hk with h | h <;> simp [h]
  · have := h.ent e h2.1
    exact ⟨this.1, by omega, this.2.2⟩
theorem Good.act {N : Nat} {A : List Ent} (h : Good N A) {c : Cmd} (hc : chk c = 0) : Good (N + 1) (act A c).1 := by
  have h0 := h.mono (Nat.le_succ N)
  unfold P.act
  split
  · exact h0
  · split
    · split
      · exact h0
      · exact ⟨del_srt h0.srt, Nat.le_trans del_len h0.len, fun e he => h0.ent e (mem_del.1 he).1⟩
    · split
      · exact h.put hc (.inl ‹_›)
      · split
        · split
          · exact h.put hc (.inr ‹_›)
          · exact h0
        · split
          · exact h0
          · exact h0
theorem Good.step {N : Nat} {A : List Ent} (h : Good N A) (c : Cmd) : Good (N + 1) (appDo A c).1 := by
  unfold appDo
  split
  · exact h.act ‹_›
  · exact h.mono (Nat.le_succ N)
def run (A : List Ent) : List Cmd → List Ent
  | [] => A
  | c :: t => run (appDo A c).1 t
theorem Good.run {N : Nat} {A : List Ent} (h : Good N A) (l : List Cmd) : Good (N + l.length) (run A l) := by
  induction l generalizing A N with
  | nil => exact h
  | cons a t ih =>
    have := ih (h.step a)
    rw [List.length_cons]
    have e : N + 1 + t.length = N + (t.length + 1) := by omega
    rw [e] at this
    exact this
end Go.Proofs.YtlbkbjeajcadiaaGreatDoor.P
