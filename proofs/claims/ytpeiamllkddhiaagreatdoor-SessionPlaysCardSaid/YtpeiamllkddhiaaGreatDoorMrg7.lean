/- Several texts in one. -/
import Derived.Test.YtpeiamllkddhiaaGreatDoorMrg4
import Derived.Test.YtpeiamllkddhiaaGreatDoorAppQ
import Derived.Test.YtpeiamllkddhiaaGreatDoorAppJ

/- What the laws ask beside: replies' equality, cmd.Writes, cmd.Meet, the reference's Great. -/
namespace Go.Proofs.YtpeiamllkddhiaaGreatDoor.P
open Go.RowKit Go.Proofs.YtpeiamllkddhiaaGreatDoor.R Go.Proofs.YtpeiamllkddhiaaGreatDoor.M Go.BigFrame
set_option linter.unusedVariables false
set_option linter.unusedSimpArgs false

def repEq (r s : Rep) : Bool := (r.code == s.code) && ((r.val.toList == s.val.toList) && (r.rev == s.rev))
theorem repEq_iff (r s : Rep) : repEq r s = true ↔ r = s := by
  unfold repEq
  rw [ba_eq]
  simp only [Bool.and_eq_true, beq_iff_eq, decide_eq_true_eq]
  constructor
  · rintro ⟨h1, h2, h3⟩
    cases r; cases s
    simp only at *
    subst h1 h2 h3
    rfl
  · intro h; subst h; exact ⟨rfl, rfl, rfl⟩
theorem repEq_same (r : Rep) : repEq r r = true := (repEq_iff r r).2 rfl
set_option maxHeartbeats 2000000 in
theorem run_rep_eql (r s : Rep) (w : World) : (binOp .eql 33 (repV r) (repV s)).run Tryz.prog w = .ok (.bool (repEq r s)) w := by
  have h1 : Tryz.prog.underlying 33 = some (.struct (Tryz.prog.fieldsOf 33)) := by kernel_rfl
  have h2 : Tryz.prog.stoodInHeld 33 = false := by kernel_rfl
  unfold repEq
  rw [run_eql_struct, show (10000 : Nat) = 9999 + 1 from rfl, run_equalIn_struct _ _ _ _ _ h1 h2]
  cases e1 : (r.code == s.code)
  · simp [go_sem, e1, Result.andThen]
  cases e2 : (r.val.toList == s.val.toList)
  · simp [go_sem, e1, e2, Result.andThen]
  cases e3 : (r.rev == s.rev)
  · simp [go_sem, e1, e2, e3, Result.andThen]
  simp [go_sem, e1, e2, e3, Result.andThen]
set_option maxHeartbeats 2000000 in
theorem run_rep_neq (r s : Rep) (w : World) : (binOp .neq 33 (repV r) (repV s)).run Tryz.prog w = .ok (.bool (!repEq r s)) w := by
  have h1 : Tryz.prog.underlying 33 = some (.struct (Tryz.prog.fieldsOf 33)) := by kernel_rfl
  have h2 : Tryz.prog.stoodInHeld 33 = false := by kernel_rfl
  unfold repEq
  rw [run_neq_struct, show (10000 : Nat) = 9999 + 1 from rfl, run_equalIn_struct _ _ _ _ _ h1 h2]
  cases e1 : (r.code == s.code)
  · simp [go_sem, e1, Result.andThen]
  cases e2 : (r.val.toList == s.val.toList)
  · simp [go_sem, e1, e2, Result.andThen]
  cases e3 : (r.rev == s.rev)
  · simp [go_sem, e1, e2, e3, Result.andThen]
  simp [go_sem, e1, e2, e3, Result.andThen]
/-- is a command greater than is looked at -/
def big (c : Cmd) : Bool := decide (100 < c.key.size) || decide (1100 < c.val.size)
def greatB (L : List Cmd) (m : Nat) : Bool := (L.take m).any big || decide (m < L.length)
theorem great_no {L : List Cmd} {m : Nat} (h : greatB L m = false) : L.length ≤ m ∧ ∀ c ∈ L, c.key.size ≤ 100 ∧ c.val.size ≤ 1100 := by
  unfold greatB at h
  rw [Bool.or_eq_false_iff, decide_eq_false_iff_not] at h
  have hl : L.length ≤ m := by omega
  refine ⟨hl, fun c hc => ?_⟩
  rw [List.take_of_length_le hl, List.any_eq_false] at h
  have := h.1 c hc
  unfold big at this
  simp only [Bool.or_eq_true, decide_eq_true_eq, not_or] at this
  omega
theorem great_yes {L : List Cmd} {m i : Nat} {c : Cmd} (hi : i < m) (h : L[i]? = some c) (hb : big c = true) : greatB L m = true := by
  unfold greatB
  rw [Bool.or_eq_true]
  refine .inl (List.any_eq_true.2 ⟨c, ?_, hb⟩)
  refine List.mem_of_getElem? (i := i) ?_
  rw [List.getElem?_take_of_lt hi]
  exact h
theorem great_end {L : List Cmd} {m i : Nat} (hi : i = L.length ∨ i = m) (hn : ∀ j x, j < i → L[j]? = some x → big x = false) : greatB L m = decide (m < L.length) := by
  unfold greatB
  have : (L.take m).any big = false := by
    rw [List.any_eq_false]
    intro x hx
    obtain ⟨j, hj⟩ := List.mem_iff_getElem?.1 hx
    have hj2 := (List.getElem?_eq_some_iff.1 hj).1
    rw [List.length_take] at hj2
    rw [List.getElem?_take_of_lt (by omega)] at hj
    have := hn j x (by omega) hj
    simp [this]
  rw [this, Bool.false_or]
end Go.Proofs.YtpeiamllkddhiaaGreatDoor.P

/- Plain: the document's example of the settings; what the App laws ask at their ends. -/
namespace Go.Proofs.YtpeiamllkddhiaaGreatDoor.P
open Go.Proofs.YtpeiamllkddhiaaGreatDoor.R
set_option linter.unusedVariables false

def ka : ByteArray := ⟨#[97]⟩
def vv : ByteArray := ⟨#[118]⟩
def vw : ByteArray := ⟨#[119]⟩
def ex1 : Cmd := ⟨2, 1, 1, ka, vv, 0⟩
def ex2 : Cmd := ⟨4, 1, 2, ka, vw, 1⟩
theorem chk_ex1 : chk ex1 = 0 := by decide +kernel
theorem chk_ex2 : chk ex2 = 0 := by decide +kernel
theorem ex_one : appDo [] ex1 = ([⟨ka, vv, 1⟩], ⟨0, nul, 1⟩) := by
  unfold appDo
  rw [if_pos chk_ex1]
  rfl
theorem ex_two : appDo [⟨ka, vv, 1⟩] ex2 = ([⟨ka, vw, 2⟩], ⟨0, nul, 2⟩) := by
  unfold appDo
  rw [if_pos chk_ex2]
  unfold act
  rw [if_neg (by decide), if_neg (by decide), if_neg (by decide), if_pos (by decide)]
  have hr : revOf [⟨ka, vv, 1⟩] ex2.key = 1 := by decide +kernel
  rw [hr, if_pos (by decide)]
  have hp : ¬ lt ka ka := lt_irrefl _
  unfold put
  rw [if_neg (show ¬ lt ka ex2.key from hp), if_pos (show ka = ex2.key from rfl)]
  rfl
theorem ex_three : appDo [⟨ka, vw, 2⟩] ex2 = ([⟨ka, vw, 2⟩], ⟨10, nul, 2⟩) := by
  unfold appDo
  rw [if_pos chk_ex2]
  unfold act
  rw [if_neg (by decide), if_neg (by decide), if_neg (by decide), if_pos (by decide)]
  have hr : revOf [⟨ka, vw, 2⟩] ex2.key = 2 := by decide +kernel
  rw [hr, if_neg (by decide)]
/-- behind n of some commands -/
theorem good_take (L : List Cmd) (i : Nat) : Good i (run [] (L.take i)) :=
  ((Good.nil).run (L.take i)).mono (by rw [List.length_take]; omega)
/-- a command that gets -/
def getC (k : ByteArray) : Cmd := ⟨1, 1, 1, k, nul, 0⟩
theorem chk_get {k : ByteArray} (h : keyV k = true) : chk (getC k) = 0 := by
  unfold chk
  have h1 : formBad (getC k) = false := by unfold formBad getC bare; simp
  have h2 : rangeBad (getC k) = false := by unfold rangeBad out getC; simp
  have h3 : bare (getC k) = false := by unfold bare getC; simp
  rw [h1, h2, h3]
  simp only [Bool.false_eq_true, if_false]
  rw [if_neg (show ¬ 1024 < (getC k).val.size by show ¬ 1024 < nul.size; decide), if_neg (show ¬ (getC k).kind = 5 by show ¬ (1 : Int) = 5; decide), show (getC k).key = k from rfl, h]
  rfl
theorem do_get {A : List Ent} {k : ByteArray} (h : keyV k = true) : appDo A (getC k) = (A, match look A k with
    | none => ⟨8, nul, 0⟩
    | some e => ⟨0, e.val, e.rev⟩) := by
  unfold appDo
  rw [if_pos (chk_get h)]
  rfl
/-- AppReads' end: nothing turned -/
theorem reads_same {A : List Ent} {c : Cmd} (h : writes c = false ∨ chk c ≠ 0 ∨ (appDo A c).2.code ≠ 0) : (appDo A c).1 = A := by
  rcases h with h | h | h
  · exact do_still (.inl h)
  · exact do_still (.inr h)
  · exact do_code h
theorem writes_kind {c : Cmd} (h : writes c = true) : c.kind = 2 ∨ c.kind = 3 ∨ c.kind = 4 := by
  unfold writes at h
  simp only [Bool.or_eq_true, decide_eq_true_eq] at h
  omega
theorem writes_key {c : Cmd} (h : writes c = true) (h0 : chk c = 0) : keyV c.key = true := by
  have hk := writes_kind h
  refine chk_key h0 (by omega) ?_
  unfold bare
  rcases hk with e | e | e <;> simp [e]
theorem reads_got_del {A : List Ent} {c : Cmd} (hs : Srt A) (hw : writes c = true) (h0 : chk c = 0) (hr : (appDo A c).2.code = 0) (hk : c.kind = 3) :
    appDo (appDo A c).1 (getC c.key) = ((appDo A c).1, ⟨8, nul, 0⟩) ∧ (findR (appDo A c).1 nul).rev = (findR A nul).rev - 1 := by
  have h1 := reads_del hs h0 hk hr
  refine ⟨by rw [do_get (writes_key hw h0), h1.1], ?_⟩
  unfold findR
  rw [hits_nul, hits_nul]
  exact h1.2
theorem reads_got_put {A : List Ent} {N : Nat} {c : Cmd} (hg : Good N A) (hw : writes c = true) (h0 : chk c = 0) (hr : (appDo A c).2.code = 0) (hk : c.kind ≠ 3) :
    appDo (appDo A c).1 (getC c.key) = ((appDo A c).1, ⟨0, c.val, (appDo A c).2.rev⟩) ∧ 0 < (appDo A c).2.rev := by
  have hk2 := writes_kind hw
  have h1 := reads_put hg.srt hg h0 (by omega) hr
  exact ⟨by rw [do_get (writes_key hw h0), h1.1], h1.2⟩
/-- AppFinds -/
def findC (k : ByteArray) : Cmd := ⟨5, 1, 1, k, nul, 0⟩
theorem do_find {A : List Ent} {k : ByteArray} (h : (appDo A (findC k)).2.code = 0) : (appDo A (findC k)).2 = findR A k := by
  unfold appDo at h ⊢
  by_cases h0 : chk (findC k) = 0
  · rw [if_pos h0]
    rfl
  · rw [if_neg h0] at h
    exact absurd h h0
theorem find_state (A : List Ent) (k : ByteArray) : (appDo A (findC k)).1 = A := do_still (.inl rfl)
theorem pre_iff {s p : List UInt8} : Lib.hasPrefix s p = true ↔ p <+: s := by
  unfold Lib.hasPrefix
  simp
theorem begs_cut {k key : ByteArray} {n : Nat} (h : begs k key = true) : begs k (key.extract 0 n) = true := by
  unfold begs at h ⊢
  rw [pre_iff] at h ⊢
  refine List.IsPrefix.trans ?_ h
  rw [ByteArray.data_extract, Array.toList_extract]
  simp only [List.extract_eq_take_drop, List.drop_zero]
  exact List.take_prefix _ _
theorem finds_end {A : List Ent} {key : ByteArray} {n : Nat} (h1 : (appDo A (findC key)).2.code = 0) (h2 : (appDo A (findC (key.extract 0 n))).2.code = 0) :
    (appDo A (findC key)).2.rev ≤ (appDo A (findC (key.extract 0 n))).2.rev ∧ (appDo A (findC (key.extract 0 n))).2.rev ≤ (findR A nul).rev := by
  rw [do_find h1, do_find h2]
  unfold findR
  have a1 := finds_mono (A := A) (p := key) (q := key.extract 0 n) fun k hk => begs_cut hk
  have a2 := finds_mono (A := A) (p := key.extract 0 n) (q := nul) fun k _ => begs_nul k
  exact ⟨by simp only; omega, by simp only; omega⟩
theorem finds_all (A : List Ent) : (findR A nul).rev = (A.length : Int) := by
  unfold findR
  rw [hits_nul]
end Go.Proofs.YtpeiamllkddhiaaGreatDoor.P
