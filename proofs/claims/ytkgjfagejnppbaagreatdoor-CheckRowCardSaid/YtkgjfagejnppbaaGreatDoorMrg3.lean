/- Several texts in one. -/
import Derived.Test.YtkgjfagejnppbaaGreatDoorMrg2
import Derived.Test.YtkgjfagejnppbaaGreatDoorRunesH
import Derived.Lib.ItoaMem
import Derived.Laws.StructEq
import Derived.WalkSmall
import Derived.Test.YtkgjfagejnppbaaGreatDoorRows
import Derived.Below
import Derived.OneCell
import Derived.Tactics
import Derived.Deep.RegionLaw
import Derived.Laws.Append
import Derived.Deep.Quiet
import Derived.Lib.Hide
import Derived.Deep.QuietTactic
import Derived.BigQuiet

/- Plain law: what stands in quotes for two clean texts, one behind the other. -/
namespace Go.Proofs.YtkgjfagejnppbaaGreatDoor.R
open Go.RowKit Go.PlainAid Go.Lib

theorem qFrom_fuel (s : ByteArray) : ∀ f g k, s.size ≤ k + f → s.size ≤ k + g → qFrom s f k = qFrom s g k
  | 0, g, k, hf, _ => by rw [qFrom_end s g k (by omega)]; rfl
  | f + 1, 0, k, _, hg => by rw [qFrom_end s (f + 1) k (by omega)]; rfl
  | f + 1, g + 1, k, hf, hg => by
    by_cases h : k < s.size
    · have hd := dec_width s k h
      rw [qFrom_step s h, qFrom_step s h, qFrom_fuel s f g _ (by omega) (by omega)]
    · rw [qFrom_end _ _ _ h, qFrom_end _ _ _ h]
def qf (s : ByteArray) (k : Nat) : List UInt8 := qFrom s s.size k
theorem quoteL_qf (s : ByteArray) : quoteL s = [34] ++ qf s 0 ++ [34] := rfl
theorem qf_end (s : ByteArray) (k : Nat) (h : ¬ k < s.size) : qf s k = [] := qFrom_end _ _ _ h
theorem qf_step (s : ByteArray) (k : Nat) (h : k < s.size) : qf s k = qPiece s k ++ qf s (k + (Utf8.decode s k).2) := by
  unfold qf
  obtain ⟨f, hf⟩ : ∃ f, s.size = f + 1 := ⟨s.size - 1, by omega⟩
  have hd := dec_width s k h
  rw [qFrom_fuel s s.size (f + 1) k (by omega) (by omega), qFrom_step s h, qFrom_fuel s f s.size _ (by omega) (by omega)]
theorem qf_len (s : ByteArray) : ∀ n k, s.size - k ≤ n → (qf s k).length ≤ 11 * (s.size - k) := by
  intro n
  induction n with
  | zero => intro k h; rw [qf_end s k (by omega)]; simp
  | succ n ih =>
    intro k h
    by_cases hlt : k < s.size
    · have hd := dec_width s k hlt
      have hp := qPiece_len s k
      have := ih (k + (Utf8.decode s k).2) (by omega)
      rw [qf_step s k hlt, List.length_append]
      omega
    · rw [qf_end s k hlt]; simp
theorem quoteL_len (s : ByteArray) : (quoteL s).length = (qf s 0).length + 2 := by rw [quoteL_qf]; simp
theorem quoteL_len2 (s : ByteArray) (m : Nat) (h : s.size ≤ m) : (quoteL s).length ≤ 11 * m + 2 := by
  rw [quoteL_len]; have := qf_len s _ 0 (Nat.le_refl _); omega
end Go.Proofs.YtkgjfagejnppbaaGreatDoor.R

/- Plain law of the settings (no program in sight): commands, replies, sorted settings. -/
namespace Go.Proofs.YtkgjfagejnppbaaGreatDoor.P
open Go.Proofs.YtkgjfagejnppbaaGreatDoor.R
set_option linter.unusedVariables false

structure Cmd where
  kind : Int
  client : Int
  seq : Int
  key : ByteArray
  val : ByteArray
  rev : Int
structure Rep where
  code : Int
  val : ByteArray
  rev : Int
structure Ent where
  key : ByteArray
  val : ByteArray
  rev : Int
def nul : ByteArray := ⟨#[]⟩
def Rep.zero : Rep := ⟨0, nul, 0⟩
def bare (c : Cmd) : Bool := decide (c.kind = 0) || decide (c.kind = 6)
def writes (c : Cmd) : Bool := decide (c.kind = 2) || decide (c.kind = 3) || decide (c.kind = 4)
/-- what a kind doesn't name is not said -/
def formBad (c : Cmd) : Bool :=
  (decide (c.kind < 0) || decide (6 < c.kind)) || ((bare c && (decide (c.client ≠ 0) || decide (c.seq ≠ 0) || decide (c.key ≠ nul))) || (!bare c && (decide (c.client = 0) || decide (c.seq = 0)))) ||
    ((decide (c.kind ≠ 2) && decide (c.kind ≠ 4) && decide (c.val ≠ nul)) || (decide (c.kind ≠ 4) && decide (c.rev ≠ 0)))
def out (n most : Int) : Bool := decide (n < 0) || decide (most < n)
def rangeBad (c : Cmd) : Bool := out c.client 1048576 || out c.seq 1099511627776 || out c.rev 1099511627776
def chk (c : Cmd) : Int :=
  if formBad c then 4 else if rangeBad c then 6 else if 1024 < c.val.size then 12 else if bare c then 0 else if c.kind = 5 then errV (beginV c.key) else errV (keyV c.key)
theorem chk_good {c : Cmd} (h : chk c = 0) : formBad c = false ∧ rangeBad c = false ∧ c.val.size ≤ 1024 := by
  unfold chk at h
  cases h1 : formBad c with
  | true => rw [h1] at h; simp at h
  | false =>
    cases h2 : rangeBad c with
    | true => rw [h1, h2] at h; simp at h
    | false =>
      refine ⟨rfl, rfl, ?_⟩
      rw [h1, h2] at h
      simp only [Bool.false_eq_true, if_false] at h
      by_cases h3 : 1024 < c.val.size
      · rw [if_pos h3] at h; cases h
      · omega
theorem formBad_kind {c : Cmd} (h : formBad c = false) : 0 ≤ c.kind ∧ c.kind ≤ 6 := by
  unfold formBad at h
  simp only [Bool.or_eq_false_iff, decide_eq_false_iff_not] at h
  omega
def lt (a b : ByteArray) : Prop := a.data.toList < b.data.toList
theorem lt_irrefl (a : ByteArray) : ¬ lt a a := List.lt_irrefl _
theorem lt_trans {a b c : ByteArray} (h : lt a b) (h2 : lt b c) : lt a c := List.lt_trans h h2
theorem ba_ext {a b : ByteArray} (h : a.data.toList = b.data.toList) : a = b := by
  cases a; cases b
  congr 1
  exact Array.toList_inj.1 h
theorem lt_tri (a b : ByteArray) : lt a b ∨ a = b ∨ lt b a := by
  rcases Decidable.em (a.data.toList < b.data.toList) with h | h
  · exact .inl h
  · rcases Decidable.em (b.data.toList < a.data.toList) with h2 | h2
    · exact .inr (.inr h2)
    · exact .inr (.inl (ba_ext (List.le_antisymm h2 h)))
theorem lt_ne {a b : ByteArray} (h : lt a b) : a ≠ b := fun e => lt_irrefl a (by rw [← e] at h; exact h)
instance (a b : ByteArray) : Decidable (lt a b) := inferInstanceAs (Decidable (a.data.toList < b.data.toList))

/-- settings by rising keys -/
def Srt (A : List Ent) : Prop := A.Pairwise fun a b => lt a.key b.key
def look (A : List Ent) (k : ByteArray) : Option Ent := A.find? fun e => decide (e.key = k)
def put : List Ent → Ent → List Ent
  | [], e => [e]
  | a :: t, e => if lt a.key e.key then a :: put t e else if a.key = e.key then e :: t else e :: a :: t
def del (A : List Ent) (k : ByteArray) : List Ent := A.filter fun e => decide (e.key ≠ k)
def revO : Option Ent → Int
  | none => 0
  | some e => e.rev
def revOf (A : List Ent) (k : ByteArray) : Int := revO (look A k)
theorem look_key {A : List Ent} {k : ByteArray} {e : Ent} (h : look A k = some e) : e.key = k ∧ e ∈ A := by
  unfold look at h
  exact ⟨by simpa using List.find?_some h, List.mem_of_find?_eq_some h⟩
theorem look_none {A : List Ent} {k : ByteArray} (h : look A k = none) : ∀ e ∈ A, e.key ≠ k := by
  unfold look at h
  rw [List.find?_eq_none] at h
  intro e he
  simpa using h e he
theorem look_of {A : List Ent} (hs : Srt A) {e : Ent} (h : e ∈ A) : look A e.key = some e := by
  induction A with
  | nil => cases h
  | cons a t ih =>
    have hp := List.pairwise_cons.1 hs
    unfold look
    rw [List.find?_cons]
    rcases List.mem_cons.1 h with rfl | h2
    · simp
    · have hne : a.key ≠ e.key := lt_ne (hp.1 e h2)
      rw [decide_eq_false hne]
      exact ih hp.2 h2
theorem mem_put {A : List Ent} {e x : Ent} (hs : Srt A) : x ∈ put A e ↔ x = e ∨ (x ∈ A ∧ x.key ≠ e.key) := by
  induction A with
  | nil => simp [put]
  | cons a t ih =>
    have hp := List.pairwise_cons.1 hs
    unfold put
    by_cases h1 : lt a.key e.key
    · rw [if_pos h1, List.mem_cons, ih hp.2, List.mem_cons]
      constructor
      · rintro (rfl | rfl | h)
        · exact .inr ⟨.inl rfl, lt_ne h1⟩
        · exact .inl rfl
        · exact .inr ⟨.inr h.1, h.2⟩
      · rintro (h | ⟨h | h, hne⟩)
        · exact .inr (.inl h)
        · exact .inl h
        · exact .inr (.inr ⟨h, hne⟩)
    · rw [if_neg h1]
      by_cases h2 : a.key = e.key
      · rw [if_pos h2, List.mem_cons, List.mem_cons]
        constructor
        · rintro (h | h)
          · exact .inl h
          · exact .inr ⟨.inr h, fun e2 => lt_ne (hp.1 x h) (by rw [h2, e2])⟩
        · rintro (h | ⟨h | h, hne⟩)
          · exact .inl h
          · subst h; exact absurd h2 hne
          · exact .inr h
      · rw [if_neg h2, List.mem_cons, List.mem_cons]
        have h3 : lt e.key a.key := by
          rcases lt_tri a.key e.key with h | h | h
          · exact absurd h h1
          · exact absurd h h2
          · exact h
        constructor
        · rintro (h | h | h)
          · exact .inl h
          · subst h; exact .inr ⟨.inl rfl, fun e2 => h2 e2⟩
          · exact .inr ⟨.inr h, fun e2 => lt_ne (lt_trans h3 (hp.1 x h)) e2.symm⟩
        · rintro (h | ⟨h | h, hne⟩)
          · exact .inl h
          · exact .inr (.inl h)
          · exact .inr (.inr h)
theorem put_srt {A : List Ent} {e : Ent} (hs : Srt A) : Srt (put A e) := by
  induction A with
  | nil => exact List.pairwise_cons.2 ⟨by simp, List.Pairwise.nil⟩
  | cons a t ih =>
    have hp := List.pairwise_cons.1 hs
    unfold put
    by_cases h1 : lt a.key e.key
    · rw [if_pos h1]
      refine List.pairwise_cons.2 ⟨fun x hx => ?_, ih hp.2⟩
      rcases (mem_put hp.2).1 hx with rfl | h
      · exact h1
      · exact hp.1 x h.1
    · rw [if_neg h1]
      by_cases h2 : a.key = e.key
      · rw [if_pos h2]
        exact List.pairwise_cons.2 ⟨fun x hx => by rw [← h2]; exact hp.1 x hx, hp.2⟩
      · rw [if_neg h2]
        have h3 : lt e.key a.key := by
          rcases lt_tri a.key e.key with h | h | h
          · exact absurd h h1
          · exact absurd h h2
          · exact h
        refine List.pairwise_cons.2 ⟨fun x hx => ?_, hs⟩
        rcases List.mem_cons.1 hx with rfl | h
        · exact h3
        · exact lt_trans h3 (hp.1 x h)
theorem del_srt {A : List Ent} {k : ByteArray} (hs : Srt A) : Srt (del A k) := List.Pairwise.filter _ hs
theorem mem_del {A : List Ent} {k : ByteArray} {x : Ent} : x ∈ del A k ↔ x ∈ A ∧ x.key ≠ k := by
  unfold del
  rw [List.mem_filter, decide_eq_true_eq]
theorem put_len {A : List Ent} {e : Ent} : (put A e).length ≤ A.length + 1 := by
  induction A with
  | nil => simp [put]
  | cons a t ih =>
    unfold put
    split
    · simp; exact ih
    · split
      · simp
      · simp
theorem del_len {A : List Ent} {k : ByteArray} : (del A k).length ≤ A.length := List.length_filter_le _ _
theorem look_put {A : List Ent} {e : Ent} {k : ByteArray} (hs : Srt A) : look (put A e) k = if e.key = k then some e else look A k := by
  have hs2 := put_srt (e := e) hs
  by_cases h : e.key = k
  · rw [if_pos h, ← h]
    exact look_of hs2 ((mem_put hs).2 (.inl rfl))
  · rw [if_neg h]
    cases h1 : look A k with
    | none =>
      cases h2 : look (put A e) k with
      | none => rfl
      | some x =>
        obtain ⟨h3, h4⟩ := look_key h2
        rcases (mem_put hs).1 h4 with e2 | e2
        · rw [e2] at h3; exact absurd h3 h
        · exact absurd h3 (look_none h1 x e2.1)
    | some x =>
      obtain ⟨h3, h4⟩ := look_key h1
      have := look_of hs2 ((mem_put hs).2 (.inr ⟨h4, by rw [h3]; exact fun e2 => h e2.symm⟩))
      rwa [h3] at this
theorem look_del {A : List Ent} {j k : ByteArray} (hs : Srt A) : look (del A j) k = if j = k then none else look A k := by
  by_cases h : j = k
  · rw [if_pos h]
    cases h2 : look (del A j) k with
    | none => rfl
    | some x =>
      obtain ⟨h3, h4⟩ := look_key h2
      exact absurd (h3.trans h.symm) (mem_del.1 h4).2
  · rw [if_neg h]
    cases h1 : look A k with
    | none =>
      cases h2 : look (del A j) k with
      | none => rfl
      | some x =>
        obtain ⟨h3, h4⟩ := look_key h2
        exact absurd h3 (look_none h1 x (mem_del.1 h4).1)
    | some x =>
      obtain ⟨h3, h4⟩ := look_key h1
      have := look_of (del_srt hs) (mem_del.2 ⟨h4, by rw [h3]; exact fun e2 => h e2.symm⟩)
      rwa [h3] at this

/-- a setting's line -/
def digs (n : Int) : ByteArray := ⟨(Lib.itoa n).toArray⟩
def lineB (e : Ent) : ByteArray := ⟨(quoteL e.key).toArray⟩ ++ ⟨#[61]⟩ ++ digs e.rev ++ ⟨#[58]⟩ ++ ⟨(quoteL e.val).toArray⟩
def joinB : List ByteArray → ByteArray
  | [] => nul
  | [a] => a
  | a :: b :: t => a ++ ⟨#[32]⟩ ++ joinB (b :: t)
def begs (k p : ByteArray) : Bool := Lib.hasPrefix k.data.toList p.data.toList
def hits (A : List Ent) (p : ByteArray) : List Ent := A.filter fun e => begs e.key p
def findR (A : List Ent) (p : ByteArray) : Rep := ⟨0, joinB ((hits A p).map lineB), ((hits A p).length : Nat)⟩
/-- a command that is right, done -/
def act (A : List Ent) (c : Cmd) : List Ent × Rep :=
  if c.kind = 1 then (A, match look A c.key with
    | none => ⟨8, nul, 0⟩
    | some e => ⟨0, e.val, e.rev⟩)
  else if c.kind = 3 then (match look A c.key with
    | none => (A, ⟨8, nul, 0⟩)
    | some e => (del A c.key, ⟨0, nul, e.rev⟩))
  else if c.kind = 2 then (put A ⟨c.key, c.val, revOf A c.key + 1⟩, ⟨0, nul, revOf A c.key + 1⟩)
  else if c.kind = 4 then (if revOf A c.key = c.rev then (put A ⟨c.key, c.val, revOf A c.key + 1⟩, ⟨0, nul, revOf A c.key + 1⟩) else (A, ⟨10, nul, revOf A c.key⟩))
  else if c.kind = 5 then (A, findR A c.key)
  else (A, Rep.zero)
def appDo (A : List Ent) (c : Cmd) : List Ent × Rep := if chk c = 0 then act A c else (A, ⟨chk c, nul, 0⟩)
/-- what holds of settings behind N commands -/
structure Good (N : Nat) (A : List Ent) : Prop where
  srt : Srt A
  len : A.length ≤ N
  ent : ∀ e ∈ A, 1 ≤ e.rev ∧ e.rev ≤ N ∧ keyV e.key = true ∧ e.val.size ≤ 1024
theorem Good.nil : Good 0 [] := ⟨List.Pairwise.nil, Nat.le_refl _, fun e h => by cases h⟩
theorem Good.mono {N M : Nat} {A : List Ent} (h : Good N A) (hm : N ≤ M) : Good M A := ⟨h.srt, Nat.le_trans h.len hm, fun e he => by have := h.ent e he; exact ⟨this.1, by omega, this.2.2⟩⟩
theorem Good.rev {N : Nat} {A : List Ent} (h : Good N A) (k : ByteArray) : 0 ≤ revOf A k ∧ revOf A k ≤ N := by
  unfold revOf
  cases h1 : look A k with
  | none => simp [revO]
  | some e => have := h.ent e (look_key h1).2; simp only [revO]; omega
theorem chk_key {c : Cmd} (h : chk c = 0) (hk : c.kind ≠ 5) (hb : bare c = false) : keyV c.key = true := by
  obtain ⟨h1, h2, h3⟩ := chk_good h
  unfold chk at h
  rw [h1, h2, hb] at h
  simp only [Bool.false_eq_true, if_false] at h
  rw [if_neg (by omega), if_neg hk] at h
  cases h4 : keyV c.key with
  | true => rfl
  | false => rw [h4] at h; cases h
theorem Good.put {N : Nat} {A : List Ent} (h : Good N A) {c : Cmd} (hc : chk c = 0) (hk : c.kind = 2 ∨ c.kind = 4) : Good (N + 1) (put A ⟨c.key, c.val, revOf A c.key + 1⟩) := by
  have hr := h.rev c.key
  refine ⟨put_srt h.srt, by have := @put_len A ⟨c.key, c.val, revOf A c.key + 1⟩; have := h.len; omega, fun e he => ?_⟩
  rcases (mem_put h.srt).1 he with rfl | h2
  · refine ⟨by simp only; omega, by simp only; omega, chk_key hc (by rcases hk with h | h <;> omega) ?_, (chk_good hc).2.2⟩
    unfold bare
    rcases hk with h | h <;> simp [h]
  · have := h.ent e h2.1
    exact ⟨this.1, by omega, this.2.2⟩
theorem Good.act {N : Nat} {A : List Ent} (h : Good N A) {c : Cmd} (hc : chk c = 0) : Good (N + 1) (act A c).1 := by
  have h0 := h.mono (Nat.le_succ N)
  unfold P.act
  split
  · exact h0
  · split
    · split
      · exact h0
      · exact ⟨del_srt h0.srt, Nat.le_trans del_len h0.len, fun e he => h0.ent e (mem_del.1 he).1⟩
    · split
      · exact h.put hc (.inl ‹_›)
      · split
        · split
          · exact h.put hc (.inr ‹_›)
          · exact h0
        · split
          · exact h0
          · exact h0
theorem Good.step {N : Nat} {A : List Ent} (h : Good N A) (c : Cmd) : Good (N + 1) (appDo A c).1 := by
  unfold appDo
  split
  · exact h.act ‹_›
  · exact h.mono (Nat.le_succ N)
def run (A : List Ent) : List Cmd → List Ent
  | [] => A
  | c :: t => run (appDo A c).1 t
theorem Good.run {N : Nat} {A : List Ent} (h : Good N A) (l : List Cmd) : Good (N + l.length) (run A l) := by
  induction l generalizing A N with
  | nil => exact h
  | cons a t ih =>
    have := ih (h.step a)
    rw [List.length_cons]
    have e : N + 1 + t.length = N + (t.length + 1) := by omega
    rw [e] at this
    exact this
end Go.Proofs.YtkgjfagejnppbaaGreatDoor.P

/- The runes' contracts with the library's tables in one word (out of RunesI, RunesJ, RunesM). -/
namespace Go.Proofs.YtkgjfagejnppbaaGreatDoor.R
open Go.RowKit Go.PlainAid Go.Lib

/-- what every walk of this layer takes of the library's tables -/
structure Tabs (w : World) : Prop where
  u : Lib.Utf8Tabs 0 1 w
  d : w.cell? ⟨5, 15, none⟩ = some (.int .u8 4)
  l3 : 0 < w.heap.size
  l4 : 1 < w.heap.size
  l7 : 5 < w.heap.size
theorem Tabs.below {w w' : World} {B : Nat} (h : Tabs w) (hb : Below B w w') (h3 : 0 < B) (h4 : 1 < B) (h7 : 5 < B) : Tabs w' :=
  ⟨tabs_of_below h.u hb h3 h4, (hb.cell (p := ⟨5, 15, none⟩) h7).trans h.d, Nat.lt_of_lt_of_le h.l3 hb.size, Nat.lt_of_lt_of_le h.l4 hb.size, Nat.lt_of_lt_of_le h.l7 hb.size⟩
theorem Tabs.next {w w' : World} (h : Tabs w) (hb : Below w.heap.size w w') : Tabs w' := h.below hb h.l3 h.l4 h.l7

theorem quote_t (s : ByteArray) (w : World) (hs : s.size ≤ 1000000) (h : Tabs w) (q : List UInt8) (hq : quoteL s = q) :
    Calls Tryz.prog 41 #[.string s] w fun e w' => e = .returned (.string ⟨q.toArray⟩) ∧ Below w.heap.size w w' ∧ Tabs w' := by
  subst hq
  exact (quote_any s w hs h.u h.l3 h.l4 h.d h.l7).mono fun e w' hh => ⟨hh.1, hh.2, h.next hh.2⟩
theorem key_t (s : ByteArray) (w : World) (hs : s.size ≤ 1000000) (h : Tabs w) (v : Int) (hv : errV (keyV s) = v) :
    Calls Tryz.prog 23 #[.string s] w fun e w' => e = .returned (.int .i64 v) ∧ Below w.heap.size w w' ∧ Tabs w' := by
  subst hv
  exact (key_any s w (by omega) h.u h.l3 h.l4).mono fun e w' hh => ⟨hh.1, hh.2, h.next hh.2⟩
theorem begin_t (s : ByteArray) (w : World) (hs : s.size ≤ 1000000) (h : Tabs w) (v : Int) (hv : errV (beginV s) = v) :
    Calls Tryz.prog 22 #[.string s] w fun e w' => e = .returned (.int .i64 v) ∧ Below w.heap.size w w' ∧ Tabs w' := by
  subst hv
  exact (beginning_any s w (by omega) h.u h.l3 h.l4).mono fun e w' hh => ⟨hh.1, hh.2, h.next hh.2⟩
theorem begins_t (s t : ByteArray) (w : World) (v : Bool) (hv : Lib.hasPrefix s.data.toList t.data.toList = v) :
    Calls Tryz.prog 40 #[.string s, .string t] w fun e w' => e = .returned (.bool v) ∧ w = w' := by subst hv; exact begins_any s t w
end Go.Proofs.YtkgjfagejnppbaaGreatDoor.R

/- Memory words that every seat's proofs share: what a call may have turned; bytes that a slice holds. -/
namespace Go.Proofs.YtkgjfagejnppbaaGreatDoor.M
open Go.RowKit

/-- of the blocks that there were, none but those of S has turned -/
structure Mods (S : Nat → Prop) (w w' : World) : Prop where
  os : w'.os = w.os
  tape : w'.tape = w.tape
  output : w'.output = w.output
  size : w.heap.size ≤ w'.heap.size
  block : ∀ k, k < w.heap.size → ¬ S k → w'.heap[k]? = w.heap[k]?

section
variable {S T : Nat → Prop} {w w1 w2 : World}
theorem Mods.refl (S : Nat → Prop) (w : World) : Mods S w w := ⟨rfl, rfl, rfl, Nat.le_refl _, fun _ _ _ => rfl⟩
theorem Mods.mono (h : Mods S w w1) (hs : ∀ k, k < w.heap.size → S k → T k) : Mods T w w1 := ⟨h.os, h.tape, h.output, h.size, fun k hk hn => h.block k hk (fun hS => hn (hs k hk hS))⟩
/-- one behind the other: the second may turn new blocks too -/
theorem Mods.then (h : Mods S w w1) (h' : Mods T w1 w2) (hs : ∀ k, k < w.heap.size → T k → S k) : Mods S w w2 :=
  ⟨h'.os.trans h.os, h'.tape.trans h.tape, h'.output.trans h.output, Nat.le_trans h.size h'.size,
    fun k hk hn => (h'.block k (Nat.lt_of_lt_of_le hk h.size) (fun hT => hn (hs k hk hT))).trans (h.block k hk hn)⟩
theorem Mods.trans (h : Mods S w w1) (h' : Mods S w1 w2) : Mods S w w2 := h.then h' fun _ _ h => h
theorem Mods.drew (h : Mods S w w1) : Mods S w w1.drew := ⟨h.os, h.tape, h.output, h.size, h.block⟩
theorem Mods.drewN (h : Mods S w w1) (n : Nat) : Mods S w (w1.drewN n) := ⟨h.os, h.tape, h.output, h.size, h.block⟩
theorem Mods.alloc (h : Mods S w w1) (o : Obj) : Mods S w (w1.alloc o) :=
  h.trans ⟨rfl, rfl, rfl, by simp, fun k hk _ => Below.heap_alloc _ _ _ hk⟩
theorem Mods.setCell (h : Mods S w w1) {p : Addr} (hp : p.block < w.heap.size → S p.block) (u : Value) : Mods S w (w1.setCell p u) :=
  ⟨h.os, h.tape, h.output, by simpa [World.setCell] using h.size, fun k hk hn => (Below.heap_setCell _ _ _ _ (fun e => by subst e; exact hn (hp hk))).trans (h.block k hk hn)⟩
theorem Mods.grown (h : Mods S w w1) {row : Option Nat} (hg : w1.grownBy w2 row) (hr : ∀ k, row = some k → k < w.heap.size → S k) : Mods S w w2 :=
  ⟨hg.os.trans h.os, hg.tape.trans h.tape, hg.output.trans h.output, Nat.le_trans h.size hg.size,
    fun k hk hn => (hg.block k (Nat.lt_of_lt_of_le hk h.size) (fun e => hn (hr k e.symm hk))).trans (h.block k hk hn)⟩
theorem Mods.of_grown {row : Option Nat} (hg : w.grownBy w1 row) : Mods (fun k => row = some k) w w1 :=
  ⟨hg.os, hg.tape, hg.output, hg.size, fun k hk hn => hg.block k hk (fun e => hn e.symm)⟩
theorem Mods.of_below (h : Below w.heap.size w w1) : Mods S w w1 := ⟨h.os, h.tape, h.output, h.size, fun k hk _ => h.block k hk⟩
theorem Mods.below {B : Nat} (h : Mods S w w1) (hs : ∀ k, S k → B ≤ k) (hB : B ≤ w.heap.size) : Below B w w1 :=
  ⟨h.os, h.tape, h.output, h.size, fun k hk => h.block k (Nat.lt_of_lt_of_le hk hB) (fun hS => by have := hs k hS; omega)⟩
theorem Mods.cell (h : Mods S w w1) {p : Addr} (hp : p.block < w.heap.size) (hn : ¬ S p.block) : w1.cell? p = w.cell? p := World.cell?_of_block (w := w) (h.block p.block hp hn)
theorem Mods.frozen (h : Mods S w w1) {p : Addr} (hp : p.block < w.heap.size) (hn : ¬ S p.block) : w1.frozen? p = w.frozen? p := World.frozen?_of_block (w := w) (h.block p.block hp hn)
theorem Mods.heap (h : Mods S w w1) {k : Nat} {o : Obj} (hk : w.heap[k]? = some o) (hn : ¬ S k) : w1.heap[k]? = some o := (h.block k (Array.getElem?_eq_some_iff.1 hk).1 hn).trans hk
theorem heap_lt {k : Nat} {o : Obj} (h : w.heap[k]? = some o) : k < w.heap.size := (Array.getElem?_eq_some_iff.1 h).1
/-- a row of one's own, kept -/
theorem own_kept {base : Nat} {e : TypeId} {size : Nat} {v : Value} {n : Nat} {xs : List Value} (h : w.ownsRow base e size v n xs) (hm : Mods S w w1) (hn : ∀ k, v.ownBlock = some k → ¬ S k) : w1.ownsRow base e size v n xs := by
  refine ⟨h.1, ?_⟩
  rcases h.2 with h2 | ⟨g, cap, cur, rfl, hb, hg, r⟩
  · exact .inl h2
  · exact .inr ⟨g, cap, cur, rfl, hb, hm.heap hg (hn g rfl), r⟩
theorem own_base {base base' : Nat} {e : TypeId} {size : Nat} {v : Value} {n : Nat} {xs : List Value} (h : w.ownsRow base e size v n xs) (hb : ∀ k, v.ownBlock = some k → base' ≤ k) : w.ownsRow base' e size v n xs := by
  refine ⟨h.1, ?_⟩
  rcases h.2 with h2 | ⟨g, cap, cur, rfl, _, r⟩
  · exact .inl h2
  · exact .inr ⟨g, cap, cur, rfl, hb g rfl, r⟩
theorem own_view {base : Nat} {e : TypeId} {size : Nat} {v : Value} {n : Nat} {xs : List Value} (h : w.ownsRow base e size v n xs) :
    ∃ ao cap, v = .slice ao n cap ∧ n ≤ cap ∧ cap ≤ maxLen ∧ (ao = none → n = 0 ∧ cap = 0) ∧ ∀ a, ao = some a → ∃ g cur, a = ⟨g, 0, none⟩ ∧ base ≤ g ∧ w.heap[g]? = some (.cells cur e (0, 0)) ∧ cur.size = cap * size ∧ cur.toList.take (n * size) = xs := by
  rcases h.2 with ⟨rfl, rfl⟩ | ⟨g, cap, cur, rfl, hb, hg, hn, hm, hs, ht⟩
  · exact ⟨none, 0, rfl, Nat.le_refl _, Nat.zero_le _, fun _ => ⟨rfl, rfl⟩, fun a h => by cases h⟩
  · exact ⟨_, cap, rfl, hn, hm, fun h => (by cases h), fun a ha => ⟨g, cur, (Option.some.inj ha).symm, hb, hg, hs, ht⟩⟩
end

theorem bcell {W w1 : World} (hb : Below W.heap.size W w1) : (∀ b o, b < W.heap.size → w1.cell? ⟨b, o, none⟩ = W.cell? ⟨b, o, none⟩) ∧ (∀ b o, b < W.heap.size → w1.frozen? ⟨b, o, none⟩ = W.frozen? ⟨b, o, none⟩) :=
  ⟨fun b o h => hb.cell (p := ⟨b, o, none⟩) h, fun b o h => hb.frozen (p := ⟨b, o, none⟩) h⟩
theorem heap_al (w : World) (o : Obj) (k : Nat) : (w.alloc o).heap[k]? = if k = w.heap.size then some o else w.heap[k]? := by
  show (w.heap.push o)[k]? = _
  rw [Array.getElem?_push]
/-- a store into a block of cells, block by block -/
theorem heap_set (w : World) (b o : Nat) (v : Value) (k : Nat) (cs : Array Value) (T : TypeId) (fr : Nat × Nat) (h : w.heap[b]? = some (.cells cs T fr)) :
    (w.setCell ⟨b, o, none⟩ v).heap[k]? = if k = b then some (.cells (cs.setIfInBounds o v) T fr) else w.heap[k]? := by
  by_cases hk : k = b
  · subst hk
    rw [if_pos rfl]
    have hlt := (Array.getElem?_eq_some_iff.1 h).1
    simp only [World.setCell, Array.getElem?_modify, if_true, h]
    simp
  · rw [if_neg hk]; exact Below.heap_setCell _ _ _ _ hk
theorem ret_box {P : Program} {f : Func} {Q : Ending → World → Prop} {a : Act} {W : World} (b : Nat) (cs : Array Value) (T : TypeId) (v : Value) (hW : W.heap[b]? = some (.cells cs T (0, 0)))
    (hres : ∀ W' : World, W'.heap[b]? = some (.cells cs T (0, 0)) → (results f a.tmps).run P W' = .ok v W') (hd : a.defers = []) (hQ : Q (.returned v) W) : bodyPost P f Q .ret a W :=
  bodyPost_ret (hres W hW) hd hQ
/-- a struct of three cells: its cells, and a store into one -/
theorem box3 {w : World} {b : Nat} {x y z : Value} {T : TypeId} (h : w.heap[b]? = some (.cells #[x, y, z] T (0, 0))) :
    (w.cell? ⟨b, 0, none⟩ = some x ∧ w.cell? ⟨b, 1, none⟩ = some y ∧ w.cell? ⟨b, 2, none⟩ = some z) ∧ (∀ o, w.frozen? ⟨b, o, none⟩ = false) ∧
      (∀ o, o < 3 → ∀ v, (w.setCell ⟨b, o, none⟩ v).cell? ⟨b, o, none⟩ = some v) := by
  have hc : ∀ j, w.cell? ⟨b, j, none⟩ = #[x, y, z][j]? := fun j => cell_of_row w b j _ T (0, 0) h
  refine ⟨⟨hc 0, hc 1, hc 2⟩, fun o => by simp [World.frozen?, h], fun o ho v => ?_⟩
  rcases (by omega : o = 0 ∨ o = 1 ∨ o = 2) with rfl | rfl | rfl
  · exact World.cell?_setCell_same _ _ _ (hc 0)
  · exact World.cell?_setCell_same _ _ _ (hc 1)
  · exact World.cell?_setCell_same _ _ _ (hc 2)
theorem box2 {w : World} {b : Nat} {x y : Value} {T : TypeId} (h : w.heap[b]? = some (.cells #[x, y] T (0, 0))) :
    (w.cell? ⟨b, 0, none⟩ = some x ∧ w.cell? ⟨b, 1, none⟩ = some y) ∧ (∀ o, w.frozen? ⟨b, o, none⟩ = false) ∧
      (∀ o, o < 2 → ∀ v, (w.setCell ⟨b, o, none⟩ v).cell? ⟨b, o, none⟩ = some v) := by
  have hc : ∀ j, w.cell? ⟨b, j, none⟩ = #[x, y][j]? := fun j => cell_of_row w b j _ T (0, 0) h
  refine ⟨⟨hc 0, hc 1⟩, fun o => by simp [World.frozen?, h], fun o ho v => ?_⟩
  rcases (by omega : o = 0 ∨ o = 1) with rfl | rfl
  · exact World.cell?_setCell_same _ _ _ (hc 0)
  · exact World.cell?_setCell_same _ _ _ (hc 1)
/-- clear, of a row's elements -/
theorem run_clear_row {P : Program} (w : World) (t e ty : TypeId) (z : Value) (ht : P.underlying t = some (.slice e)) (hv : ∀ w, (zeroValue e).run P w = .ok z w) (g off n c : Nat) (cur : Array Value)
    (hg : w.heap[g]? = some (.cells cur e (0, 0))) (zs : List Value) (hz : (Builtin.zeroCells z.cells n).toList = zs) (hfit : off + zs.length ≤ cur.size) (h1 : ∀ u ∈ zs, u.oneCell' = true) (hn : 0 < n) :
    (Builtin.clear_ #[t] ty #[.slice (some ⟨g, off, none⟩) n c]).run P w = .ok (.tuple #[]) (w.setRow g (cur.toList.take off ++ zs ++ cur.toList.drop (off + zs.length)).toArray) := by
  have hst := run_storeCells_at P g off e zs 0 cur w hg (by simpa using hfit) h1
  simp only [Nat.add_zero] at hst
  cases n with
  | zero => omega
  | succ n => simp [Builtin.clear_, run_underlying ht, hv, hz, hst]
theorem Mods.setRow {S : Nat → Prop} {w w1 : World} (h : Mods S w w1) {g : Nat} (hg : g < w.heap.size → S g) (cs : Array Value) : Mods S w (w1.setRow g cs) :=
  ⟨h.os, h.tape, h.output, by simpa [World.setRow] using h.size, fun k hk hn => (setRow_other _ _ _ _ (fun e => by subst e; exact hn (hg hk))).trans (h.block k hk hn)⟩
/-- it may be written -/
def Thaw (w : World) (ao : Option Addr) : Prop := ∀ a, ao = some a → a.block < w.heap.size ∧ ∀ o, w.frozen? ⟨a.block, o, none⟩ = false
theorem Thaw.keep {S : Nat → Prop} {w w1 : World} {ao : Option Addr} (h : Thaw w ao) (hm : Mods S w w1) (hs : ∀ a, ao = some a → ¬ S a.block) : Thaw w1 ao := fun a ha =>
  ⟨Nat.lt_of_lt_of_le (h a ha).1 hm.size, fun o => (hm.frozen (p := ⟨a.block, o, none⟩) (h a ha).1 (hs a ha)).trans ((h a ha).2 o)⟩
theorem Thaw.of_own {w : World} {base : Nat} {e : TypeId} {size n cap : Nat} {ao : Option Addr} {xs : List Value} (h : w.ownsRow base e size (.slice ao n cap) n xs) : Thaw w ao := by
  rintro a rfl
  rcases h.2 with ⟨h2, _⟩ | ⟨g, c, cur, e0, _, hg, _⟩
  · cases h2
  · cases e0
    exact ⟨(Array.getElem?_eq_some_iff.1 hg).1, fun o => by simp [World.frozen?, hg]⟩
/-- a slice that holds these bytes -/
def BytesV (w : World) (v : Value) (l : List UInt8) : Prop :=
  ∃ ao cap, v = .slice ao l.length cap ∧ l.length ≤ cap ∧ cap ≤ maxLen ∧ (ao = none → cap = 0) ∧
    ∀ j, j < l.length → ∃ b off, ao = some ⟨b, off, none⟩ ∧ w.cell? ⟨b, off + j, none⟩ = some (.int .u8 ((l.getD j 0).toNat : Int))
/-- where they lie -/
def BytesAway (S : Nat → Prop) (v : Value) (l : List UInt8) : Prop := ∀ k, v.ownBlock = some k → l ≠ [] → ¬ S k
section
variable {S : Nat → Prop} {w w1 : World} {v : Value} {l : List UInt8}
theorem BytesV.lt (h : BytesV w v l) : ∀ k, v.ownBlock = some k → l ≠ [] → k < w.heap.size := by
  obtain ⟨ao, cap, rfl, _, _, _, hc⟩ := h
  intro k hk hl
  obtain ⟨b, off, rfl, h0⟩ := hc 0 (List.length_pos_iff.2 hl)
  simp only [Value.ownBlock, Option.some.injEq] at hk
  subst hk
  exact World.block_lt_of_cell? w _ h0
theorem BytesV.keep (h : BytesV w v l) (hm : Mods S w w1) (ha : BytesAway S v l) : BytesV w1 v l := by
  have hlt := h.lt
  obtain ⟨ao, cap, rfl, h1, h2, h3, hc⟩ := h
  refine ⟨ao, cap, rfl, h1, h2, h3, fun j hj => ?_⟩
  obtain ⟨b, off, rfl, h0⟩ := hc j hj
  have hl : l ≠ [] := by intro e; rw [e] at hj; simp at hj
  exact ⟨b, off, rfl, (hm.cell (p := ⟨b, off + j, none⟩) (hlt b rfl hl) (ha b rfl hl)).trans h0⟩
theorem BytesV.nil (w : World) : BytesV w (.slice none 0 0) [] := ⟨none, 0, rfl, Nat.le_refl _, Nat.zero_le _, fun _ => rfl, fun j hj => by simp at hj⟩
/-- the bytes' cells -/
def byteVals (l : List UInt8) : List Value := l.map fun b => .int .u8 (b.toNat : Int)
theorem byteVals_get (l : List UInt8) (j : Nat) (h : j < l.length) : (byteVals l)[j]? = some (.int .u8 ((l.getD j 0).toNat : Int)) := by
  simp [byteVals, List.getElem?_map, List.getElem?_eq_getElem h, List.getD]
theorem BytesV.of_own {base : Nat} {e : TypeId} (h : w.ownsRow base e 1 v l.length (byteVals l)) : BytesV w v l := by
  obtain ⟨ao, cap, rfl, h1, h2, h3, h4⟩ := own_view h
  refine ⟨ao, cap, rfl, h1, h2, fun e => (h3 e).2, fun j hj => ?_⟩
  cases ao with
  | none => have := (h3 rfl).1; omega
  | some a =>
    obtain ⟨g, cur, rfl, _, hg, hs, ht⟩ := h4 a rfl
    refine ⟨g, 0, rfl, ?_⟩
    have := byteVals_get l j hj
    rw [← ht, List.getElem?_take, if_pos (by omega)] at this
    rw [Nat.zero_add, cell_of_row w g j cur e (0, 0) hg, ← Array.getElem?_toList]
    exact this
end
end Go.Proofs.YtkgjfagejnppbaaGreatDoor.M

/- Regions that draw their order, whose operations read and whose calls make memory: one walk of the text's order, over every world that keeps the old memory. -/
namespace Go.Proofs.YtkgjfagejnppbaaGreatDoor.M
open Go.RowKit
set_option linter.unusedVariables false
/-- a world that keeps what W had -/
structure Kin (W : World) where
  w : World
  h : Below W.heap.size W w
instance (W : World) : Nonempty (Kin W) := ⟨⟨W, Below.refl _ _⟩⟩
instance (W : World) : Inhabited (Kin W) := ⟨⟨W, Below.refl _ _⟩⟩
theorem below_drawn (w : World) : Below w.heap.size w { w with drawn := w.drawn + 1 } := ⟨rfl, rfl, rfl, Nat.le_refl _, fun _ _ => rfl⟩
theorem wp_region_kin {P : Program} {id : Nat} {Q : Exit → Act → World → Prop} {a : Act} {w : World} {l : List Oper} (hm : P.follows .mixedOrders = true) (hB : Region.lexB .any l.toArray = true)
    (h : wpQuiet P l.toArray (fun w' => ∃ x : Kin w, w' = x.w) (fun a' => ∀ w', (∃ x : Kin w, w' = x.w) → Q .normal a' w') l a) : (Code.region id l.toArray true).wp P Q a w :=
  wp_region_quiet (C := fun w' => ∃ x : Kin w, w' = x.w) hm hB ⟨⟨_, below_drawn w⟩, rfl⟩ (by simpa using h)
theorem Kin.cell {W : World} {p : Addr} {v : Value} (hc : W.cell? p = some v) : ∀ x : Kin W, x.w.cell? p = some v := fun x => (x.h.cell (World.block_lt_of_cell? W _ hc)).trans hc
theorem Kin.call {P : Program} {f : FuncId} {args : Array Value} {W : World} {v : Value} (x : Kin W) (h : Calls P f args x.w fun e w' => e = .returned v ∧ Below x.w.heap.size x.w w') : Calls P f args x.w fun e w'' => e = .returned v ∧ ∃ y : Kin W, w'' = y.w :=
  h.mono fun e w' ⟨he, hb⟩ => ⟨he, ⟨w', x.h.trans (hb.mono x.h.size)⟩, rfl⟩
theorem Kin.same {P : Program} {f : FuncId} {args : Array Value} {W : World} {v : Value} (x : Kin W) (h : Calls P f args x.w fun e w' => e = .returned v ∧ x.w = w') : Calls P f args x.w fun e w'' => e = .returned v ∧ ∃ y : Kin W, w'' = y.w :=
  h.mono fun e w' ⟨he, hb⟩ => ⟨he, x, hb.symm⟩
end Go.Proofs.YtkgjfagejnppbaaGreatDoor.M
