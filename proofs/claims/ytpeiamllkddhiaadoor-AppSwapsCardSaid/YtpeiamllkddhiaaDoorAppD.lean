/- The contract of cmd.Check. -/
import Derived.Test.YtpeiamllkddhiaaDoorAppC
namespace Go.Proofs.YtpeiamllkddhiaaDoor.P
open Go.RowKit Go.Proofs.YtpeiamllkddhiaaDoor.R Go.Proofs.YtpeiamllkddhiaaDoor.M Go.BigFrame
set_option linter.unusedVariables false
set_option linter.unusedSimpArgs false

def cmdEq (c d : Cmd) : Bool := (c.kind == d.kind) && ((c.client == d.client) && ((c.seq == d.seq) && ((c.key.toList == d.key.toList) && ((c.val.toList == d.val.toList) && (c.rev == d.rev)))))
set_option maxHeartbeats 2000000 in
theorem run_cmd_neq (c d : Cmd) (w : World) : (binOp .neq 32 (cmdV c) (cmdV d)).run Tryd.prog w = .ok (.bool (!cmdEq c d)) w := by
  have h1 : Tryd.prog.underlying 32 = some (.struct (Tryd.prog.fieldsOf 32)) := by kernel_rfl
  have h2 : Tryd.prog.stoodInHeld 32 = false := by kernel_rfl
  unfold cmdEq
  rw [run_neq_struct, show (10000 : Nat) = 9999 + 1 from rfl, run_equalIn_struct _ _ _ _ _ h1 h2]
  cases e1 : (c.kind == d.kind)
  · simp [go_sem, e1, Result.andThen]
  cases e2 : (c.client == d.client)
  · simp [go_sem, e1, e2, Result.andThen]
  cases e3 : (c.seq == d.seq)
  · simp [go_sem, e1, e2, e3, Result.andThen]
  cases e4 : (c.key.toList == d.key.toList)
  · simp [go_sem, e1, e2, e3, e4, Result.andThen]
  cases e5 : (c.val.toList == d.val.toList)
  · simp [go_sem, e1, e2, e3, e4, e5, Result.andThen]
  cases e6 : (c.rev == d.rev)
  · simp [go_sem, e1, e2, e3, e4, e5, e6, Result.andThen]
  simp [go_sem, e1, e2, e3, e4, e5, e6, Result.andThen]
theorem ba_eq (a b : ByteArray) : (a.toList == b.toList) = decide (a = b) := by
  rw [Bool.eq_iff_iff, beq_iff_eq, decide_eq_true_eq]
  constructor
  · intro h
    apply ba_ext
    rw [ByteArray.toList_eq, ByteArray.toList_eq] at h
    exact h
  · intro h; rw [h]
theorem cmdEq_iff (c d : Cmd) : cmdEq c d = true ↔ c = d := by
  unfold cmdEq
  rw [ba_eq, ba_eq]
  simp only [Bool.and_eq_true, beq_iff_eq, decide_eq_true_eq]
  constructor
  · rintro ⟨h1, h2, h3, h4, h5, h6⟩
    cases c; cases d
    simp only at *
    subst h1 h2 h3 h4 h5 h6
    rfl
  · intro h; subst h; exact ⟨rfl, rfl, rfl, rfl, rfl, rfl⟩
/-- what is wrong in form, as the program asks -/
theorem formBad_eq (c : Cmd) (hk : out c.kind 6 = false) : formBad c = (!cmdEq c (namedC c) || (!bare c && (decide (c.client = 0) || decide (c.seq = 0)))) := by
  have hk2 : 0 ≤ c.kind ∧ c.kind ≤ 6 := by
    unfold out at hk
    simp only [Bool.or_eq_false_iff, decide_eq_false_iff_not] at hk
    omega
  have he : ((!cmdEq c (namedC c)) = true) ↔ ¬ c = namedC c := by
    rw [Bool.not_eq_true', ← Bool.not_eq_true, cmdEq_iff]
  rw [Bool.eq_iff_iff, Bool.or_eq_true, he]
  obtain ⟨kind, client, seq, key, val, rev⟩ := c
  simp only at hk2
  have hkk : kind = 0 ∨ kind = 1 ∨ kind = 2 ∨ kind = 3 ∨ kind = 4 ∨ kind = 5 ∨ kind = 6 := by omega
  unfold formBad bare namedC
  clear he hk hk2
  rcases hkk with rfl | rfl | rfl | rfl | rfl | rfl | rfl <;> by_cases a : client = 0 <;> by_cases b : seq = 0 <;> by_cases d : key = nul <;> by_cases e : val = nul <;> by_cases f : rev = 0 <;> simp [a, b, d, e, f]
end Go.Proofs.YtpeiamllkddhiaaDoor.P
