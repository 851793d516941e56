/- What the laws ask beside: replies' equality, cmd.Writes, cmd.Meet, the reference's Great. -/
import Derived.Test.YtpeiamllkddhiaaDoorAppS
import Derived.Test.YtpeiamllkddhiaaDoorAppQ
import Derived.Test.YtpeiamllkddhiaaDoorAppJ
namespace Go.Proofs.YtpeiamllkddhiaaDoor.P
open Go.RowKit Go.Proofs.YtpeiamllkddhiaaDoor.R Go.Proofs.YtpeiamllkddhiaaDoor.M Go.BigFrame
set_option linter.unusedVariables false
set_option linter.unusedSimpArgs false

def repEq (r s : Rep) : Bool := (r.code == s.code) && ((r.val.toList == s.val.toList) && (r.rev == s.rev))
theorem repEq_iff (r s : Rep) : repEq r s = true ↔ r = s := by
  unfold repEq
  rw [ba_eq]
  simp only [Bool.and_eq_true, beq_iff_eq, decide_eq_true_eq]
  constructor
  · rintro ⟨h1, h2, h3⟩
    cases r; cases s
    simp only at *
    subst h1 h2 h3
    rfl
  · intro h; subst h; exact ⟨rfl, rfl, rfl⟩
theorem repEq_same (r : Rep) : repEq r r = true := (repEq_iff r r).2 rfl
set_option maxHeartbeats 2000000 in
theorem run_rep_eql (r s : Rep) (w : World) : (binOp .eql 29 (repV r) (repV s)).run Tryd.prog w = .ok (.bool (repEq r s)) w := by
  have h1 : Tryd.prog.underlying 29 = some (.struct (Tryd.prog.fieldsOf 29)) := by kernel_rfl
  have h2 : Tryd.prog.stoodInHeld 29 = false := by kernel_rfl
  unfold repEq
  rw [run_eql_struct, show (10000 : Nat) = 9999 + 1 from rfl, run_equalIn_struct _ _ _ _ _ h1 h2]
  cases e1 : (r.code == s.code)
  · simp [go_sem, e1, Result.andThen]
  cases e2 : (r.val.toList == s.val.toList)
  · simp [go_sem, e1, e2, Result.andThen]
  cases e3 : (r.rev == s.rev)
  · simp [go_sem, e1, e2, e3, Result.andThen]
  simp [go_sem, e1, e2, e3, Result.andThen]
set_option maxHeartbeats 2000000 in
theorem run_rep_neq (r s : Rep) (w : World) : (binOp .neq 29 (repV r) (repV s)).run Tryd.prog w = .ok (.bool (!repEq r s)) w := by
  have h1 : Tryd.prog.underlying 29 = some (.struct (Tryd.prog.fieldsOf 29)) := by kernel_rfl
  have h2 : Tryd.prog.stoodInHeld 29 = false := by kernel_rfl
  unfold repEq
  rw [run_neq_struct, show (10000 : Nat) = 9999 + 1 from rfl, run_equalIn_struct _ _ _ _ _ h1 h2]
  cases e1 : (r.code == s.code)
  · simp [go_sem, e1, Result.andThen]
  cases e2 : (r.val.toList == s.val.toList)
  · simp [go_sem, e1, e2, Result.andThen]
  cases e3 : (r.rev == s.rev)
  · simp [go_sem, e1, e2, e3, Result.andThen]
  simp [go_sem, e1, e2, e3, Result.andThen]
/-- is a command greater than is looked at -/
def big (c : Cmd) : Bool := decide (100 < c.key.size) || decide (1100 < c.val.size)
def greatB (L : List Cmd) (m : Nat) : Bool := (L.take m).any big || decide (m < L.length)
theorem great_no {L : List Cmd} {m : Nat} (h : greatB L m = false) : L.length ≤ m ∧ ∀ c ∈ L, c.key.size ≤ 100 ∧ c.val.size ≤ 1100 := by
  unfold greatB at h
  rw [Bool.or_eq_false_iff, decide_eq_false_iff_not] at h
  have hl : L.length ≤ m := by omega
  refine ⟨hl, fun c hc => ?_⟩
  rw [List.take_of_length_le hl, List.any_eq_false] at h
  have := h.1 c hc
  unfold big at this
  simp only [Bool.or_eq_true, decide_eq_true_eq, not_or] at this
  omega
theorem great_yes {L : List Cmd} {m i : Nat} {c : Cmd} (hi : i < m) (h : L[i]? = some c) (hb : big c = true) : greatB L m = true := by
  unfold greatB
  rw [Bool.or_eq_true]
  refine .inl (List.any_eq_true.2 ⟨c, ?_, hb⟩)
  refine List.mem_of_getElem? (i := i) ?_
  rw [List.getElem?_take_of_lt hi]
  exact h
theorem great_end {L : List Cmd} {m i : Nat} (hi : i = L.length ∨ i = m) (hn : ∀ j x, j < i → L[j]? = some x → big x = false) : greatB L m = decide (m < L.length) := by
  unfold greatB
  have : (L.take m).any big = false := by
    rw [List.any_eq_false]
    intro x hx
    obtain ⟨j, hj⟩ := List.mem_iff_getElem?.1 hx
    have hj2 := (List.getElem?_eq_some_iff.1 hj).1
    rw [List.length_take] at hj2
    rw [List.getElem?_take_of_lt (by omega)] at hj
    have := hn j x (by omega) hj
    simp [this]
  rw [this, Bool.false_or]
end Go.Proofs.YtpeiamllkddhiaaDoor.P
