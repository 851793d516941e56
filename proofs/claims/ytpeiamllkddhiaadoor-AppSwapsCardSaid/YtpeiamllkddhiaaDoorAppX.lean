/- Plain: the document's example of the settings; what the App laws ask at their ends. -/
import Derived.Test.YtpeiamllkddhiaaDoorAppU
namespace Go.Proofs.YtpeiamllkddhiaaDoor.P
open Go.Proofs.YtpeiamllkddhiaaDoor.R
set_option linter.unusedVariables false

def ka : ByteArray := ⟨#[97]⟩
def vv : ByteArray := ⟨#[118]⟩
def vw : ByteArray := ⟨#[119]⟩
def ex1 : Cmd := ⟨2, 1, 1, ka, vv, 0⟩
def ex2 : Cmd := ⟨4, 1, 2, ka, vw, 1⟩
theorem chk_ex1 : chk ex1 = 0 := by decide +kernel
theorem chk_ex2 : chk ex2 = 0 := by decide +kernel
theorem ex_one : appDo [] ex1 = ([⟨ka, vv, 1⟩], ⟨0, nul, 1⟩) := by
  unfold appDo
  rw [if_pos chk_ex1]
  rfl
theorem ex_two : appDo [⟨ka, vv, 1⟩] ex2 = ([⟨ka, vw, 2⟩], ⟨0, nul, 2⟩) := by
  unfold appDo
  rw [if_pos chk_ex2]
  unfold act
  rw [if_neg (by decide), if_neg (by decide), if_neg (by decide), if_pos (by decide)]
  have hr : revOf [⟨ka, vv, 1⟩] ex2.key = 1 := by decide +kernel
  rw [hr, if_pos (by decide)]
  have hp : ¬ lt ka ka := lt_irrefl _
  unfold put
  rw [if_neg (show ¬ lt ka ex2.key from hp), if_pos (show ka = ex2.key from rfl)]
  rfl
theorem ex_three : appDo [⟨ka, vw, 2⟩] ex2 = ([⟨ka, vw, 2⟩], ⟨10, nul, 2⟩) := by
  unfold appDo
  rw [if_pos chk_ex2]
  unfold act
  rw [if_neg (by decide), if_neg (by decide), if_neg (by decide), if_pos (by decide)]
  have hr : revOf [⟨ka, vw, 2⟩] ex2.key = 2 := by decide +kernel
  rw [hr, if_neg (by decide)]
/-- behind n of some commands -/
theorem good_take (L : List Cmd) (i : Nat) : Good i (run [] (L.take i)) :=
  ((Good.nil).run (L.take i)).mono (by rw [List.length_take]; omega)
/-- a command that gets -/
def getC (k : ByteArray) : Cmd := ⟨1, 1, 1, k, nul, 0⟩
theorem chk_get {k : ByteArray} (h : keyV k = true) : chk (getC k) = 0 := by
  unfold chk
  have h1 : formBad (getC k) = false := by unfold formBad getC bare; simp
  have h2 : rangeBad (getC k) = false := by unfold rangeBad out getC; simp
  have h3 : bare (getC k) = false := by unfold bare getC; simp
  rw [h1, h2, h3]
  simp only [Bool.false_eq_true, if_false]
  rw [if_neg (show ¬ 1024 < (getC k).val.size by show ¬ 1024 < nul.size; decide), if_neg (show ¬ (getC k).kind = 5 by show ¬ (1 : Int) = 5; decide), show (getC k).key = k from rfl, h]
  rfl
theorem do_get {A : List Ent} {k : ByteArray} (h : keyV k = true) : appDo A (getC k) = (A, match look A k with
    | none => ⟨8, nul, 0⟩
    | some e => ⟨0, e.val, e.rev⟩) := by
  unfold appDo
  rw [if_pos (chk_get h)]
  rfl
/-- AppReads' end: nothing turned -/
theorem reads_same {A : List Ent} {c : Cmd} (h : writes c = false ∨ chk c ≠ 0 ∨ (appDo A c).2.code ≠ 0) : (appDo A c).1 = A := by
  rcases h with h | h | h
  · exact do_still (.inl h)
  · exact do_still (.inr h)
  · exact do_code h
theorem writes_kind {c : Cmd} (h : writes c = true) : c.kind = 2 ∨ c.kind = 3 ∨ c.kind = 4 := by
  unfold writes at h
  simp only [Bool.or_eq_true, decide_eq_true_eq] at h
  omega
theorem writes_key {c : Cmd} (h : writes c = true) (h0 : chk c = 0) : keyV c.key = true := by
  have hk := writes_kind h
  refine chk_key h0 (by omega) ?_
  unfold bare
  rcases hk with e | e | e <;> simp [e]
theorem reads_got_del {A : List Ent} {c : Cmd} (hs : Srt A) (hw : writes c = true) (h0 : chk c = 0) (hr : (appDo A c).2.code = 0) (hk : c.kind = 3) :
    appDo (appDo A c).1 (getC c.key) = ((appDo A c).1, ⟨8, nul, 0⟩) ∧ (findR (appDo A c).1 nul).rev = (findR A nul).rev - 1 := by
  have h1 := reads_del hs h0 hk hr
  refine ⟨by rw [do_get (writes_key hw h0), h1.1], ?_⟩
  unfold findR
  rw [hits_nul, hits_nul]
  exact h1.2
theorem reads_got_put {A : List Ent} {N : Nat} {c : Cmd} (hg : Good N A) (hw : writes c = true) (h0 : chk c = 0) (hr : (appDo A c).2.code = 0) (hk : c.kind ≠ 3) :
    appDo (appDo A c).1 (getC c.key) = ((appDo A c).1, ⟨0, c.val, (appDo A c).2.rev⟩) ∧ 0 < (appDo A c).2.rev := by
  have hk2 := writes_kind hw
  have h1 := reads_put hg.srt hg h0 (by omega) hr
  exact ⟨by rw [do_get (writes_key hw h0), h1.1], h1.2⟩
/-- AppFinds -/
def findC (k : ByteArray) : Cmd := ⟨5, 1, 1, k, nul, 0⟩
theorem do_find {A : List Ent} {k : ByteArray} (h : (appDo A (findC k)).2.code = 0) : (appDo A (findC k)).2 = findR A k := by
  unfold appDo at h ⊢
  by_cases h0 : chk (findC k) = 0
  · rw [if_pos h0]
    rfl
  · rw [if_neg h0] at h
    exact absurd h h0
theorem find_state (A : List Ent) (k : ByteArray) : (appDo A (findC k)).1 = A := do_still (.inl rfl)
theorem pre_iff {s p : List UInt8} : Lib.hasPrefix s p = true ↔ p <+: s := by
  unfold Lib.hasPrefix
  simp
theorem begs_cut {k key : ByteArray} {n : Nat} (h : begs k key = true) : begs k (key.extract 0 n) = true := by
  unfold begs at h ⊢
  rw [pre_iff] at h ⊢
  refine List.IsPrefix.trans ?_ h
  rw [ByteArray.data_extract, Array.toList_extract]
  simp only [List.extract_eq_take_drop, List.drop_zero]
  exact List.take_prefix _ _
theorem finds_end {A : List Ent} {key : ByteArray} {n : Nat} (h1 : (appDo A (findC key)).2.code = 0) (h2 : (appDo A (findC (key.extract 0 n))).2.code = 0) :
    (appDo A (findC key)).2.rev ≤ (appDo A (findC (key.extract 0 n))).2.rev ∧ (appDo A (findC (key.extract 0 n))).2.rev ≤ (findR A nul).rev := by
  rw [do_find h1, do_find h2]
  unfold findR
  have a1 := finds_mono (A := A) (p := key) (q := key.extract 0 n) fun k hk => begs_cut hk
  have a2 := finds_mono (A := A) (p := key.extract 0 n) (q := nul) fun k _ => begs_nul k
  exact ⟨by simp only; omega, by simp only; omega⟩
theorem finds_all (A : List Ent) : (findR A nul).rev = (A.length : Int) := by
  unfold findR
  rw [hits_nul]
end Go.Proofs.YtpeiamllkddhiaaDoor.P
