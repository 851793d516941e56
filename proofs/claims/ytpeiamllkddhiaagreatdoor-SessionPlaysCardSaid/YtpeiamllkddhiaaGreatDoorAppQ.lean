/- Plain law of the settings: what the five statements ask. -/
import Derived.Test.YtpeiamllkddhiaaGreatDoorAppP
namespace Go.Proofs.YtpeiamllkddhiaaGreatDoor.P
open Go.Proofs.YtpeiamllkddhiaaGreatDoor.R
set_option linter.unusedVariables false

theorem put_mem_self {A : List Ent} {e : Ent} (hs : Srt A) : e ∈ put A e := (mem_put hs).2 (.inl rfl)
theorem ext_look {A B : List Ent} (ha : Srt A) (hb : Srt B) (h : ∀ k, look A k = look B k) : A = B := by
  refine srt_ext ha hb fun e => ⟨fun he => ?_, fun he => ?_⟩
  · have := look_of ha he
    rw [h] at this
    exact (look_key this).2
  · have := look_of hb he
    rw [← h] at this
    exact (look_key this).2
theorem act_still {A : List Ent} {c : Cmd} (h : writes c = false) : (act A c).1 = A := by
  unfold writes at h
  simp only [Bool.or_eq_false_iff, decide_eq_false_iff_not] at h
  unfold act
  split
  · rfl
  · rw [if_neg h.1.2, if_neg h.1.1, if_neg h.2]
    split <;> rfl
theorem do_still {A : List Ent} {c : Cmd} (h : writes c = false ∨ chk c ≠ 0) : (appDo A c).1 = A := by
  unfold appDo
  split
  · rcases h with h | h
    · exact act_still h
    · exact absurd ‹_› h
  · rfl
theorem do_srt {A : List Ent} (hs : Srt A) (c : Cmd) : Srt (appDo A c).1 := by
  unfold appDo
  split
  · unfold act
    split
    · exact hs
    · split
      · split
        · exact hs
        · exact del_srt hs
      · split
        · exact put_srt hs
        · split
          · split
            · exact put_srt hs
            · exact hs
          · split <;> exact hs
  · exact hs
/-- what becomes of the setting at the command's own key -/
def nw (c : Cmd) (o : Option Ent) : Option Ent :=
  if chk c = 0 then
    if c.kind = 3 then none
    else if c.kind = 2 then some ⟨c.key, c.val, revO o + 1⟩
    else if c.kind = 4 then (if revO o = c.rev then some ⟨c.key, c.val, revO o + 1⟩ else o)
    else o
  else o
theorem look_do {A : List Ent} (hs : Srt A) (c : Cmd) (k : ByteArray) : look (appDo A c).1 k = if c.key = k then nw c (look A c.key) else look A k := by
  have hput : ∀ e : Ent, e.key = c.key → look (put A e) k = if c.key = k then some e else look A k := fun e he => by rw [look_put hs, he]
  have hself : (if c.key = k then look A c.key else look A k) = look A k := by
    by_cases h : c.key = k
    · rw [if_pos h, h]
    · rw [if_neg h]
  unfold appDo nw
  by_cases h0 : chk c = 0
  · rw [if_pos h0]
    simp only [if_pos h0]
    unfold act
    by_cases h1 : c.kind = 1
    · rw [if_pos h1, if_neg (show ¬ c.kind = 3 by omega), if_neg (show ¬ c.kind = 2 by omega), if_neg (show ¬ c.kind = 4 by omega)]
      exact hself.symm
    · rw [if_neg h1]
      by_cases h3 : c.kind = 3
      · rw [if_pos h3, if_pos h3]
        cases h : look A c.key with
        | none =>
          simp only
          by_cases e : c.key = k
          · rw [if_pos e, ← e, h]
          · rw [if_neg e]
        | some x =>
          simp only
          rw [look_del hs]
      · rw [if_neg h3, if_neg h3]
        by_cases h2 : c.kind = 2
        · rw [if_pos h2, if_pos h2]
          exact hput _ rfl
        · rw [if_neg h2, if_neg h2]
          by_cases h4 : c.kind = 4
          · rw [if_pos h4, if_pos h4]
            by_cases h5 : revOf A c.key = c.rev
            · rw [if_pos h5]
              unfold revOf at h5
              rw [if_pos h5]
              exact hput _ rfl
            · rw [if_neg h5]
              unfold revOf at h5
              rw [if_neg h5]
              exact hself.symm
          · rw [if_neg h4, if_neg h4]
            split <;> exact hself.symm
  · rw [if_neg h0]
    simp only [if_neg h0]
    exact hself.symm

/-- a reply hangs on the setting at the key, and on what a find finds -/
theorem reply_of {A B : List Ent} {c : Cmd} (h : look A c.key = look B c.key) (h5 : c.kind = 5 → hits A c.key = hits B c.key) : (appDo A c).2 = (appDo B c).2 := by
  have hr : revOf A c.key = revOf B c.key := by unfold revOf; rw [h]
  unfold appDo
  split
  · unfold act
    by_cases h1 : c.kind = 1
    · rw [if_pos h1, if_pos h1, h]
    · rw [if_neg h1, if_neg h1]
      by_cases h3 : c.kind = 3
      · rw [if_pos h3, if_pos h3, h]
        split <;> rfl
      · rw [if_neg h3, if_neg h3]
        by_cases h2 : c.kind = 2
        · rw [if_pos h2, if_pos h2, hr]
        · rw [if_neg h2, if_neg h2]
          by_cases h4 : c.kind = 4
          · rw [if_pos h4, if_pos h4, hr]
            split <;> rfl
          · rw [if_neg h4, if_neg h4]
            by_cases h6 : c.kind = 5
            · rw [if_pos h6, if_pos h6]
              unfold findR
              rw [h5 h6]
            · rw [if_neg h6, if_neg h6]
  · rfl
theorem hits_put {A : List Ent} {e : Ent} {p : ByteArray} (hs : Srt A) (hn : begs e.key p = false) : hits (put A e) p = hits A p := by
  refine srt_ext (List.Pairwise.filter _ (put_srt hs)) (List.Pairwise.filter _ hs) fun x => ?_
  unfold hits
  rw [List.mem_filter, List.mem_filter, mem_put hs]
  constructor
  · rintro ⟨rfl | h, hb⟩
    · rw [hn] at hb; cases hb
    · exact ⟨h.1, hb⟩
  · rintro ⟨h, hb⟩
    exact ⟨.inr ⟨h, fun e2 => by rw [e2, hn] at hb; cases hb⟩, hb⟩
theorem hits_del {A : List Ent} {k p : ByteArray} (hn : begs k p = false) : hits (del A k) p = hits A p := by
  unfold hits del
  rw [List.filter_filter]
  refine List.filter_congr fun x _ => ?_
  by_cases e : x.key = k
  · rw [e, hn]; rfl
  · simp [e]
theorem hits_do {A : List Ent} {c : Cmd} {p : ByteArray} (hs : Srt A) (hn : begs c.key p = false) : hits (appDo A c).1 p = hits A p := by
  unfold appDo
  split
  · unfold act
    split
    · rfl
    · split
      · split
        · rfl
        · exact hits_del hn
      · split
        · exact hits_put hs hn
        · split
          · split
            · exact hits_put hs hn
            · rfl
          · split <;> rfl
  · rfl
def keysMeet (a b : Cmd) : Bool := decide (a.key = b.key) || (decide (a.kind = 5) && begs b.key a.key) || (decide (b.kind = 5) && begs a.key b.key)
def meet (a b : Cmd) : Bool :=
  if decide (a.kind = 0) || decide (b.kind = 0) then false
  else if decide (a.kind = 6) || decide (b.kind = 6) || decide (a.client = b.client) then true
  else (writes a || writes b) && keysMeet a b
theorem reply_noop {A B : List Ent} {c : Cmd} (h : c.kind = 0) : (appDo A c).2 = (appDo B c).2 := by
  unfold appDo
  split
  · unfold act
    rw [if_neg (by omega), if_neg (by omega), if_neg (by omega), if_neg (by omega), if_neg (by omega), if_neg (by omega), if_neg (by omega), if_neg (by omega), if_neg (by omega), if_neg (by omega)]
  · rfl
/-- of two that don't meet the one's reply is the same behind the other -/
theorem reply_behind {A : List Ent} {c d : Cmd} (hs : Srt A) (h : meet c d = false) : (appDo (appDo A d).1 c).2 = (appDo A c).2 := by
  unfold meet at h
  by_cases hc0 : c.kind = 0
  · exact reply_noop hc0
  by_cases hd0 : d.kind = 0
  · rw [do_still (.inl (by unfold writes; simp [hd0]))]
  rw [if_neg (by simp [hc0, hd0])] at h
  split at h
  · cases h
  · by_cases hw : writes d = true
    · rw [hw, Bool.or_true, Bool.true_and] at h
      unfold keysMeet at h
      simp only [Bool.or_eq_false_iff, decide_eq_false_iff_not] at h
      refine reply_of ?_ fun h5 => ?_
      · rw [look_do hs, if_neg (fun e => h.1.1 e.symm)]
      · have h6 := h.1.2
        rw [decide_eq_true h5, Bool.true_and] at h6
        exact hits_do hs h6
    · rw [do_still (.inl (by simpa using hw))]
theorem meet_comm {a b : Cmd} : meet a b = meet b a := by
  have hk : keysMeet a b = keysMeet b a := by
    unfold keysMeet
    rw [Bool.eq_iff_iff]
    simp only [Bool.or_eq_true, Bool.and_eq_true, decide_eq_true_eq]
    constructor
    · rintro ((h | h) | h)
      · exact .inl (.inl h.symm)
      · exact .inr h
      · exact .inl (.inr h)
    · rintro ((h | h) | h)
      · exact .inl (.inl h.symm)
      · exact .inr h
      · exact .inl (.inr h)
  unfold meet
  rw [hk, Bool.or_comm (decide (a.kind = 0)), Bool.or_comm (decide (a.kind = 6)), Bool.or_comm (writes a)]
  have e : decide (a.client = b.client) = decide (b.client = a.client) := by
    rw [Bool.eq_iff_iff, decide_eq_true_eq, decide_eq_true_eq]; exact ⟨Eq.symm, Eq.symm⟩
  rw [e]
/-- two that don't meet, in either order -/
theorem swap_state {A : List Ent} {c d : Cmd} (hs : Srt A) (h : meet c d = false) : (appDo (appDo A c).1 d).1 = (appDo (appDo A d).1 c).1 := by
  by_cases hc : writes c = true
  · by_cases hd : writes d = true
    · have hne : c.key ≠ d.key := by
        unfold meet at h
        have hc0 : c.kind ≠ 0 := by unfold writes at hc; simp at hc; omega
        have hd0 : d.kind ≠ 0 := by unfold writes at hd; simp at hd; omega
        rw [if_neg (by simp [hc0, hd0])] at h
        split at h
        · cases h
        · rw [hc, Bool.true_or, Bool.true_and] at h
          unfold keysMeet at h
          simp only [Bool.or_eq_false_iff, decide_eq_false_iff_not] at h
          exact h.1.1
      refine ext_look (do_srt (do_srt hs c) d) (do_srt (do_srt hs d) c) fun k => ?_
      rw [look_do (do_srt hs c), look_do (do_srt hs d), look_do hs, look_do hs, look_do hs, look_do hs]
      by_cases h1 : d.key = k
      · have h2 : c.key ≠ k := fun e => hne (e.trans h1.symm)
        rw [if_pos h1, if_neg h2, if_neg hne, if_pos h1]
      · rw [if_neg h1]
        by_cases h2 : c.key = k
        · rw [if_pos h2, if_pos h2, if_neg (fun e => hne e.symm)]
        · rw [if_neg h2, if_neg h2, if_neg h1]
    · have hd : writes d = false := by simpa using hd
      rw [do_still (.inl hd), do_still (A := A) (.inl hd)]
  · have hc : writes c = false := by simpa using hc
    rw [do_still (A := A) (.inl hc), do_still (.inl hc)]
theorem begs_nul (k : ByteArray) : begs k nul = true := by unfold begs nul; simp [Lib.hasPrefix]
theorem hits_nul (A : List Ent) : hits A nul = A := by
  unfold hits
  rw [List.filter_eq_self]
  intro e _
  exact begs_nul _
theorem beginV_nul : beginV nul = true := by decide +kernel
/-- all settings are asked for -/
def allC : Cmd := ⟨5, 1, 1, nul, nul, 0⟩
theorem chk_all : chk allC = 0 := by
  unfold chk
  have h1 : formBad allC = false := by decide
  have h2 : rangeBad allC = false := by decide
  have h3 : bare allC = false := by decide
  rw [h1, h2, h3]
  simp only [Bool.false_eq_true, if_false]
  rw [if_neg (show ¬ 1024 < allC.val.size by decide), if_pos (show allC.kind = 5 from rfl), show allC.key = nul from rfl, beginV_nul]
  rfl
theorem do_all (A : List Ent) : appDo A allC = (A, findR A nul) := by
  unfold appDo
  rw [if_pos chk_all]
  rfl
/-- AppReads, of a command that writes and was taken -/
theorem reads_del {A : List Ent} {c : Cmd} (hs : Srt A) (h0 : chk c = 0) (h3 : c.kind = 3) (hr : (appDo A c).2.code = 0) : look (appDo A c).1 c.key = none ∧ ((appDo A c).1.length : Int) = (A.length : Int) - 1 := by
  refine ⟨by rw [look_do hs, if_pos rfl]; unfold nw; rw [if_pos h0, if_pos h3], ?_⟩
  unfold appDo at hr ⊢
  rw [if_pos h0] at hr ⊢
  unfold act at hr ⊢
  rw [if_neg (by omega), if_pos h3] at hr ⊢
  cases h : look A c.key with
  | none => rw [h] at hr; simp at hr
  | some e =>
    simp only
    have hk := look_key h
    have key : ∀ (B : List Ent), Srt B → e ∈ B → ((del B c.key).length : Int) = (B.length : Int) - 1 := by
      intro B
      induction B with
      | nil => intro _ h; cases h
      | cons a t ih =>
        intro hsB hm
        have hp := List.pairwise_cons.1 hsB
        unfold del
        rw [List.filter_cons]
        by_cases ha : a.key = c.key
        · rw [decide_eq_false (fun h => h ha)]
          have : t.filter (fun e => decide (e.key ≠ c.key)) = t := by
            rw [List.filter_eq_self]
            intro x hx
            rw [decide_eq_true_eq, ← ha]
            exact fun e2 => lt_ne (hp.1 x hx) e2.symm
          simp only [Bool.false_eq_true, if_false]
          rw [this, List.length_cons]
          omega
        · rw [decide_eq_true ha, if_pos rfl, List.length_cons, List.length_cons]
          have hmt : e ∈ t := by
            rcases List.mem_cons.1 hm with e2 | e2
            · rw [← e2, hk.1] at ha; exact absurd rfl ha
            · exact e2
          have := ih hp.2 hmt
          unfold del at this
          omega
    exact key A hs hk.2
theorem reads_put {A : List Ent} {c : Cmd} (hs : Srt A) {N : Nat} (hg : Good N A) (h0 : chk c = 0) (hk : c.kind = 2 ∨ c.kind = 4) (hr : (appDo A c).2.code = 0) : look (appDo A c).1 c.key = some ⟨c.key, c.val, (appDo A c).2.rev⟩ ∧ 0 < (appDo A c).2.rev := by
  have hrv := hg.rev c.key
  unfold appDo at hr ⊢
  rw [if_pos h0] at hr ⊢
  unfold act at hr ⊢
  rw [if_neg (by omega), if_neg (by omega)] at hr ⊢
  rcases hk with h2 | h4
  · rw [if_pos h2]
    exact ⟨by rw [look_put hs, if_pos rfl], by simp only; omega⟩
  · rw [if_neg (by omega), if_pos h4] at hr ⊢
    by_cases h5 : revOf A c.key = c.rev
    · rw [if_pos h5]
      exact ⟨by rw [look_put hs, if_pos rfl], by simp only; omega⟩
    · rw [if_neg h5] at hr; simp at hr
theorem do_code {A : List Ent} {c : Cmd} (h : (appDo A c).2.code ≠ 0) : (appDo A c).1 = A := by
  unfold appDo at h ⊢
  split
  · rw [if_pos ‹_›] at h
    unfold act at h ⊢
    split
    · rfl
    · rw [if_neg ‹_›] at h
      split
      · rw [if_pos ‹_›] at h
        cases h2 : look A c.key with
        | none => rfl
        | some e => rw [h2] at h; simp at h
      · rw [if_neg ‹_›] at h
        split
        · rw [if_pos ‹_›] at h; simp at h
        · rw [if_neg ‹_›] at h
          split
          · rw [if_pos ‹_›] at h
            split
            · rw [if_pos ‹_›] at h; simp at h
            · rfl
          · split <;> rfl
  · rfl
/-- AppRevs: one command more -/
theorem revs_step {A : List Ent} {N : Nat} (hg : Good N A) (c : Cmd) (key : ByteArray) :
    ((c.key ≠ key ∨ (appDo A c).2.code ≠ 0) → revOf (appDo A c).1 key = revOf A key) ∧
    (c.key = key → (appDo A c).2.code = 0 →
      ((c.kind = 2 ∨ c.kind = 4) → (appDo A c).2.rev = revOf A key + 1 ∧ revOf (appDo A c).1 key = revOf A key + 1) ∧
      (c.kind = 3 → (appDo A c).2.rev = revOf A key ∧ revOf (appDo A c).1 key = 0) ∧
      (c.kind = 1 → (appDo A c).2.rev = revOf A key ∧ revOf A key ≠ 0 ∧ revOf (appDo A c).1 key = revOf A key) ∧
      (c.kind ≠ 1 → c.kind ≠ 2 → c.kind ≠ 3 → c.kind ≠ 4 → revOf (appDo A c).1 key = revOf A key)) := by
  have hlook := look_do hg.srt c key
  refine ⟨fun h => ?_, fun hk hr => ?_⟩
  · rcases h with h | h
    · unfold revOf; rw [hlook, if_neg h]
    · rw [do_code h]
  · subst hk
    have h0 : chk c = 0 := by
      unfold appDo at hr
      by_cases h : chk c = 0
      · exact h
      · rw [if_neg h] at hr; exact absurd hr h
    refine ⟨fun hk => ?_, fun h3 => ?_, fun h1 => ?_, fun h1 h2 h3 h4 => ?_⟩
    · have h5 := reads_put hg.srt hg h0 hk hr
      have h6 : revOf (appDo A c).1 c.key = (appDo A c).2.rev := by unfold revOf; rw [h5.1]; rfl
      have h7 : (appDo A c).2.rev = revOf A c.key + 1 := by
        unfold appDo at hr ⊢
        rw [if_pos h0] at hr ⊢
        unfold act at hr ⊢
        rw [if_neg (by omega), if_neg (by omega)] at hr ⊢
        rcases hk with h2 | h4
        · rw [if_pos h2]
        · rw [if_neg (by omega), if_pos h4] at hr ⊢
          by_cases h8 : revOf A c.key = c.rev
          · rw [if_pos h8]
          · rw [if_neg h8] at hr; simp at hr
      exact ⟨h7, h6.trans h7⟩
    · have h5 := reads_del hg.srt h0 h3 hr
      refine ⟨?_, by unfold revOf; rw [h5.1]; rfl⟩
      unfold appDo at hr ⊢
      rw [if_pos h0] at hr ⊢
      unfold act at hr ⊢
      rw [if_neg (by omega), if_pos h3] at hr ⊢
      unfold revOf
      cases h : look A c.key with
      | none => rw [h] at hr; simp at hr
      | some e => rfl
    · have hst : (appDo A c).1 = A := do_still (.inl (by unfold writes; simp [h1]))
      rw [hst]
      unfold appDo at hr ⊢
      rw [if_pos h0] at hr ⊢
      unfold act at hr ⊢
      rw [if_pos h1] at hr ⊢
      unfold revOf
      cases h : look A c.key with
      | none => rw [h] at hr; simp at hr
      | some e =>
        have := (hg.ent e (look_key h).2).1
        refine ⟨rfl, ?_, rfl⟩
        show e.rev ≠ 0
        omega
    · rw [do_still (.inl (by unfold writes; simp [h2, h3, h4]))]
/-- AppFinds: a longer beginning finds no more -/
theorem finds_mono {A : List Ent} {p q : ByteArray} (h : ∀ k, begs k p = true → begs k q = true) : (hits A p).length ≤ (hits A q).length := by
  unfold hits
  rw [← List.countP_eq_length_filter, ← List.countP_eq_length_filter]
  exact List.countP_mono_left fun e _ => h e.key
end Go.Proofs.YtpeiamllkddhiaaGreatDoor.P
