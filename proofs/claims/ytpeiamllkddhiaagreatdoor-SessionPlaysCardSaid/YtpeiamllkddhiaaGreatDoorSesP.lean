/- Plain law of the sessions (no program in sight). -/
import Derived.Test.YtpeiamllkddhiaaGreatDoorAppQ
namespace Go.Proofs.YtpeiamllkddhiaaGreatDoor.P
open Go.Proofs.YtpeiamllkddhiaaGreatDoor.R
set_option linter.unusedVariables false

/-- a client's greatest number, and what that answered -/
structure Lst where
  client : Int
  seq : Int
  rep : Rep
structure Ses where
  A : List Ent
  C : List Lst
def lookC (C : List Lst) (k : Int) : Option Lst := C.find? fun e => decide (e.client = k)
def dropC (C : List Lst) (k : Int) : List Lst := C.filter fun e => decide (e.client ≠ k)
def seqL : Option Lst → Int
  | none => 0
  | some l => l.seq
def repL : Option Lst → Rep
  | none => Rep.zero
  | some l => l.rep
def sesNew (s : Ses) (c : Cmd) : Ses := ⟨(appDo s.A c).1, dropC s.C c.client ++ [⟨c.client, c.seq, (appDo s.A c).2⟩]⟩
def sesDo (s : Ses) (c : Cmd) : Ses × Rep × Bool :=
  if chk c ≠ 0 then (s, ⟨chk c, nul, 0⟩, false)
  else if c.client = 0 then (s, Rep.zero, false)
  else if c.seq = seqL (lookC s.C c.client) then (s, repL (lookC s.C c.client), false)
  else if c.seq < seqL (lookC s.C c.client) then (s, ⟨14, nul, 0⟩, false)
  else (sesNew s c, (appDo s.A c).2, true)
def sesRun (s : Ses) : List Cmd → Ses
  | [] => s
  | c :: t => sesRun (sesDo s c).1 t
theorem sesRun_snoc (s : Ses) (l : List Cmd) (c : Cmd) : sesRun s (l ++ [c]) = (sesDo (sesRun s l) c).1 := by
  induction l generalizing s with
  | nil => rfl
  | cons a t ih => exact ih _
theorem sesRun_take (s : Ses) (l : List Cmd) (i : Nat) (c : Cmd) (h : l[i]? = some c) : sesRun s (l.take (i + 1)) = (sesDo (sesRun s (l.take i)) c).1 := by
  rw [List.take_add_one, h, Option.toList_some, sesRun_snoc]
theorem lookC_key {C : List Lst} {k : Int} {e : Lst} (h : lookC C k = some e) : e.client = k ∧ e ∈ C := by
  unfold lookC at h
  exact ⟨by simpa using List.find?_some h, List.mem_of_find?_eq_some h⟩
theorem lookC_none {C : List Lst} {k : Int} (h : lookC C k = none) : ∀ e ∈ C, e.client ≠ k := by
  unfold lookC at h
  rw [List.find?_eq_none] at h
  intro e he
  simpa using h e he
theorem lookC_drop (C : List Lst) (j k : Int) : lookC (dropC C j) k = if j = k then none else lookC C k := by
  unfold lookC dropC
  rw [List.find?_filter]
  by_cases h : j = k
  · rw [if_pos h, List.find?_eq_none]
    intro e _
    simp
    intro h1 h2
    exact h1 (h2.trans h.symm)
  · rw [if_neg h]
    congr 1
    funext e
    by_cases h2 : e.client = k
    · have h3 : ¬ k = j := fun e2 => h e2.symm
      simp [h2, h3]
    · simp [h2]
theorem lookC_app (C D : List Lst) (k : Int) : lookC (C ++ D) k = (lookC C k).or (lookC D k) := by unfold lookC; rw [List.find?_append]
theorem lookC_new (s : Ses) (c : Cmd) (k : Int) : lookC (sesNew s c).C k = if c.client = k then some ⟨c.client, c.seq, (appDo s.A c).2⟩ else lookC s.C k := by
  show lookC (dropC s.C c.client ++ [_]) k = _
  rw [lookC_app, lookC_drop]
  by_cases h : c.client = k
  · rw [if_pos h, if_pos h]
    unfold lookC
    rw [List.find?_cons, decide_eq_true (show (⟨c.client, c.seq, (appDo s.A c).2⟩ : Lst).client = k from h)]
    rfl
  · rw [if_neg h, if_neg h]
    have : lookC [⟨c.client, c.seq, (appDo s.A c).2⟩] k = none := by
      unfold lookC
      rw [List.find?_cons, decide_eq_false (show ¬ (⟨c.client, c.seq, (appDo s.A c).2⟩ : Lst).client = k from h)]
      rfl
    rw [this, Option.or_none]
/-- what a right command's form tells of its client and its number -/
theorem chk_client {c : Cmd} (h : chk c = 0) : (c.client = 0 ↔ bare c = true) ∧ (c.client ≠ 0 → 0 < c.seq) := by
  obtain ⟨h1, h2, _⟩ := chk_good h
  unfold formBad at h1
  unfold rangeBad out at h2
  simp only [Bool.or_eq_false_iff, Bool.and_eq_false_iff, decide_eq_false_iff_not, Bool.not_eq_false', Decidable.not_not] at h1 h2
  cases hb : bare c with
  | true =>
    rw [hb] at h1
    simp at h1
    refine ⟨⟨fun _ => rfl, fun _ => h1.1.2.1.1⟩, fun hc => absurd h1.1.2.1.1 hc⟩
  | false =>
    rw [hb] at h1
    simp at h1
    refine ⟨⟨fun hc => absurd hc h1.1.2.1, fun h => by cases h⟩, fun _ => ?_⟩
    have := h1.1.2.2
    omega
structure SGood (N : Nat) (s : Ses) : Prop where
  app : Good N s.A
  nd : (s.C.map Lst.client).Nodup
  len : s.C.length ≤ N
theorem SGood.nil : SGood 0 ⟨[], []⟩ := ⟨Good.nil, List.nodup_nil, Nat.le_refl _⟩
theorem SGood.mono {N M : Nat} {s : Ses} (h : SGood N s) (hm : N ≤ M) : SGood M s := ⟨h.app.mono hm, h.nd, Nat.le_trans h.len hm⟩
theorem dropC_len (C : List Lst) (k : Int) : (dropC C k).length ≤ C.length := List.length_filter_le _ _
theorem SGood.new {N : Nat} {s : Ses} (h : SGood N s) (c : Cmd) : SGood (N + 1) (sesNew s c) := by
  refine ⟨h.app.step c, ?_, ?_⟩
  · show ((dropC s.C c.client ++ [(⟨c.client, c.seq, (appDo s.A c).2⟩ : Lst)]).map Lst.client).Nodup
    rw [List.map_append, List.nodup_append]
    refine ⟨List.Nodup.sublist (List.Sublist.map _ (List.filter_sublist)) h.nd, by simp, ?_⟩
    intro a ha b hb
    obtain ⟨e, he, rfl⟩ := List.mem_map.1 ha
    obtain rfl : b = c.client := by simpa using hb
    unfold dropC at he
    rw [List.mem_filter, decide_eq_true_eq] at he
    exact he.2
  · show (dropC s.C c.client ++ [(⟨c.client, c.seq, (appDo s.A c).2⟩ : Lst)]).length ≤ _
    have := dropC_len s.C c.client
    have := h.len
    rw [List.length_append, List.length_singleton]
    omega
theorem SGood.step {N : Nat} {s : Ses} (h : SGood N s) (c : Cmd) : SGood (N + 1) (sesDo s c).1 := by
  unfold sesDo
  split
  · exact h.mono (Nat.le_succ N)
  · split
    · exact h.mono (Nat.le_succ N)
    · split
      · exact h.mono (Nat.le_succ N)
      · split
        · exact h.mono (Nat.le_succ N)
        · exact h.new c
theorem SGood.run {N : Nat} {s : Ses} (h : SGood N s) (l : List Cmd) : SGood (N + l.length) (sesRun s l) := by
  induction l generalizing s N with
  | nil => exact h
  | cons a t ih =>
    have := ih (h.step a)
    rw [List.length_cons]
    exact this.mono (by omega)
/-- the four ways of a command -/
theorem ses_still {s : Ses} {c : Cmd} (h : (sesDo s c).2.2 = false) : (sesDo s c).1 = s := by
  unfold sesDo at h ⊢
  split
  · rfl
  · rw [if_neg ‹_›] at h
    split
    · rfl
    · rw [if_neg ‹_›] at h
      split
      · rfl
      · rw [if_neg ‹_›] at h
        split
        · rfl
        · rw [if_neg ‹_›] at h; cases h
theorem ses_fresh {s : Ses} {c : Cmd} (h : (sesDo s c).2.2 = true) : sesDo s c = (sesNew s c, (appDo s.A c).2, true) ∧ chk c = 0 ∧ c.client ≠ 0 ∧ seqL (lookC s.C c.client) < c.seq := by
  unfold sesDo at h ⊢
  split
  · rw [if_pos ‹_›] at h; cases h
  · rw [if_neg ‹_›] at h
    split
    · rw [if_pos ‹_›] at h; cases h
    · rw [if_neg ‹_›] at h
      split
      · rw [if_pos ‹_›] at h; cases h
      · rw [if_neg ‹_›] at h
        split
        · rw [if_pos ‹_›] at h; cases h
        · rename_i h1 h2 h3 h4
          exact ⟨rfl, by simpa using h1, h2, by omega⟩
/-- what a client's last is behind a command -/
theorem lookC_do (s : Ses) (c : Cmd) (k : Int) : lookC (sesDo s c).1.C k = if (sesDo s c).2.2 = true ∧ c.client = k then some ⟨c.client, c.seq, (sesDo s c).2.1⟩ else lookC s.C k := by
  cases h : (sesDo s c).2.2 with
  | false => rw [ses_still h, if_neg (by simp)]
  | true =>
    obtain ⟨e, _⟩ := ses_fresh h
    rw [e, lookC_new]
    by_cases hk : c.client = k
    · rw [if_pos hk, if_pos ⟨rfl, hk⟩]
    · rw [if_neg hk, if_neg (fun h => hk h.2)]
theorem lookC_apart {s : Ses} {c : Cmd} {k : Int} (h : c.client ≠ k) : lookC (sesDo s c).1.C k = lookC s.C k := by
  rw [lookC_do, if_neg (fun e => h e.2)]
/-- SessionApart: one command more -/
theorem apart_own {s : Ses} {c : Cmd} {k : Int} : ((lookC s.C k).isSome = true → seqL (lookC s.C k) ≤ seqL (lookC (sesDo s c).1.C k)) ∧
    ((sesDo s c).2.2 = true → c.client = k → seqL (lookC (sesDo s c).1.C k) = c.seq) := by
  constructor
  · intro _
    rw [lookC_do]
    split
    · rename_i h
      obtain ⟨_, _, _, h4⟩ := ses_fresh h.1
      rw [h.2] at h4
      show _ ≤ c.seq
      omega
    · exact Int.le_refl _
  · intro h hk
    rw [lookC_do, if_pos ⟨h, hk⟩]
    rfl
/-- what a command that comes again is told -/
theorem once_again {s t : Ses} {c : Cmd} (h0 : chk c = 0) (hc : c.client ≠ 0) (ht : lookC t.C c.client = lookC (sesDo s c).1.C c.client) : sesDo t c = (t, (sesDo s c).2.1, false) := by
  have hpos := (chk_client h0).2 hc
  rw [lookC_do] at ht
  have hD : sesDo s c = (if c.seq = seqL (lookC s.C c.client) then (s, repL (lookC s.C c.client), false)
      else if c.seq < seqL (lookC s.C c.client) then (s, ⟨14, nul, 0⟩, false) else (sesNew s c, (appDo s.A c).2, true)) := by
    unfold sesDo
    rw [if_neg (by simpa using h0), if_neg hc]
  have hT : sesDo t c = (if c.seq = seqL (lookC t.C c.client) then (t, repL (lookC t.C c.client), false)
      else if c.seq < seqL (lookC t.C c.client) then (t, ⟨14, nul, 0⟩, false) else (sesNew t c, (appDo t.A c).2, true)) := by
    unfold sesDo
    rw [if_neg (by simpa using h0), if_neg hc]
  rw [hD] at ht
  rw [hD, hT]
  by_cases h1 : c.seq = seqL (lookC s.C c.client)
  · rw [if_pos h1] at ht ⊢
    simp only [Bool.false_eq_true, false_and, if_false] at ht
    rw [ht, if_pos h1]
  · rw [if_neg h1] at ht ⊢
    by_cases h2 : c.seq < seqL (lookC s.C c.client)
    · rw [if_pos h2] at ht ⊢
      simp only [Bool.false_eq_true, false_and, if_false] at ht
      rw [ht, if_neg h1, if_pos h2]
    · rw [if_neg h2] at ht ⊢
      simp only [true_and, if_true] at ht
      rw [ht, if_pos (show c.seq = seqL (some (⟨c.client, c.seq, (appDo s.A c).2⟩ : Lst)) from rfl)]
      rfl
/-- SessionRow: one command more, of a client whose numbers rise -/
theorem row_right {s : Ses} {c : Cmd} (hc : c.client ≠ 0) (hs : seqL (lookC s.C c.client) < c.seq) : (sesDo s c).2.2 = decide (chk c = 0) ∧ (sesDo s c).2.1 = (appDo s.A c).2 ∧ (sesDo s c).1.A = (appDo s.A c).1 ∧
    seqL (lookC (sesDo s c).1.C c.client) ≤ c.seq := by
  unfold sesDo
  by_cases h0 : chk c = 0
  · rw [if_neg (by simpa using h0), if_neg hc, if_neg (by omega), if_neg (by omega)]
    refine ⟨(decide_eq_true h0).symm, rfl, rfl, ?_⟩
    rw [lookC_new, if_pos rfl]
    exact Int.le_refl _
  · rw [if_pos h0]
    have e : appDo s.A c = (s.A, ⟨chk c, nul, 0⟩) := by unfold appDo; rw [if_neg h0]
    rw [e]
    exact ⟨(decide_eq_false h0).symm, rfl, rfl, Int.le_of_lt hs⟩
/-- as the document says it: where there is one, and what becomes of the clients -/
def atC (C : List Lst) (k : Int) : Int := match C.findIdx? fun e => decide (e.client = k) with
  | none => -1
  | some i => (i : Int)
theorem atC_no {C : List Lst} {k : Int} (h : ∀ e ∈ C, e.client ≠ k) : atC C k = -1 := by
  unfold atC
  have : C.findIdx? (fun e => decide (e.client = k)) = none := by
    rw [List.findIdx?_eq_none_iff]
    intro e he
    exact decide_eq_false (h e he)
  rw [this]
theorem atC_yes {C : List Lst} {k : Int} {i : Nat} {e : Lst} (h : C[i]? = some e) (he : e.client = k) (hn : ∀ j x, j < i → C[j]? = some x → x.client ≠ k) : atC C k = i := by
  unfold atC
  have : C.findIdx? (fun e => decide (e.client = k)) = some i := by
    rw [List.findIdx?_eq_some_iff_getElem]
    obtain ⟨h1, h2⟩ := List.getElem?_eq_some_iff.1 h
    refine ⟨h1, by rw [h2]; exact decide_eq_true he, fun j hj => ?_⟩
    have := hn j (C[j]'(by omega)) hj (List.getElem?_eq_getElem (by omega))
    simpa using this
  rw [this]
theorem look_atC {C : List Lst} {k : Int} : (lookC C k = none → atC C k = -1) ∧ ∀ e, lookC C k = some e → ∃ i : Nat, atC C k = i ∧ C[i]? = some e := by
  refine ⟨fun h => atC_no (lookC_none h), fun e h => ?_⟩
  unfold lookC at h
  rw [List.find?_eq_some_iff_getElem] at h
  obtain ⟨hk, i, hi, he, hn⟩ := h
  refine ⟨i, atC_yes (List.getElem?_eq_some_iff.2 ⟨hi, he⟩) (by simpa using hk) (fun j x hj hx => ?_), List.getElem?_eq_some_iff.2 ⟨hi, he⟩⟩
  have h1 := List.getElem?_eq_some_iff.1 hx
  have := hn j hj
  rw [h1.2] at this
  simpa using this
/-- all but those at place i, of the first n -/
theorem dropC_take {C : List Lst} {k : Int} (hnd : (C.map Lst.client).Nodup) {n : Nat} {x : Lst} (hx : C[n]? = some x) :
    ((n : Int) ≠ atC C k → dropC (C.take (n + 1)) k = dropC (C.take n) k ++ [x]) ∧ ((n : Int) = atC C k → dropC (C.take (n + 1)) k = dropC (C.take n) k) := by
  have htk : C.take (n + 1) = C.take n ++ [x] := by rw [List.take_add_one, hx]; rfl
  have happ : dropC (C.take n ++ [x]) k = dropC (C.take n) k ++ dropC [x] k := by unfold dropC; rw [List.filter_append]
  have hxk : x.client = k ↔ (n : Int) = atC C k := by
    constructor
    · intro e
      obtain ⟨y, hy⟩ : ∃ y, lookC C k = some y := by
        cases h : lookC C k with
        | none => exact absurd e (lookC_none h x (List.mem_of_getElem? hx))
        | some y => exact ⟨y, rfl⟩
      obtain ⟨i, hi, hyi⟩ := look_atC.2 y hy
      rw [hi]
      have hk := (lookC_key hy).1
      have hin : i = n := by
        obtain ⟨l1, e1⟩ := List.getElem?_eq_some_iff.1 hyi
        obtain ⟨l2, e2⟩ := List.getElem?_eq_some_iff.1 hx
        have hp := List.pairwise_iff_getElem.1 hnd
        have a1 : i < (C.map Lst.client).length := by rw [List.length_map]; exact l1
        have a2 : n < (C.map Lst.client).length := by rw [List.length_map]; exact l2
        rcases Nat.lt_trichotomy i n with h3 | h3 | h3
        · refine absurd ?_ (hp i n a1 a2 h3)
          rw [List.getElem_map, List.getElem_map, e1, e2, hk, e]
        · exact h3
        · refine absurd ?_ (hp n i a2 a1 h3)
          rw [List.getElem_map, List.getElem_map, e1, e2, hk, e]
      rw [hin]
    · intro e
      cases h : lookC C k with
      | none => rw [look_atC.1 h] at e; omega
      | some y =>
        obtain ⟨i, hi, hyi⟩ := look_atC.2 y h
        have : i = n := by omega
        subst this
        rw [hx] at hyi
        cases hyi
        exact (lookC_key h).1
  rw [htk, happ]
  constructor
  · intro h
    have : ¬ x.client = k := fun e => h (hxk.1 e)
    unfold dropC
    simp [this]
  · intro h
    have := hxk.2 h
    unfold dropC
    simp [this]
theorem dropC_all (C : List Lst) (k : Int) : dropC (C.take C.length) k = dropC C k := by rw [List.take_of_length_le (Nat.le_refl _)]
end Go.Proofs.YtpeiamllkddhiaaGreatDoor.P
