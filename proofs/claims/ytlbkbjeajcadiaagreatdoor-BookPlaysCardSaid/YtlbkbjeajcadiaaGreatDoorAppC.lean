/- The contracts of a command's check, the program's and the document's. -/
import Derived.Test.YtlbkbjeajcadiaaGreatDoorMrg6
import Derived.Test.YtlbkbjeajcadiaaGreatDoorMrg8
import Derived.WalkLawsBesides
import Derived.Deep.DeepCutAuto
import Derived.BigQuiet
import Derived.Deep.QuietTactic
import Derived.Laws.StructEq
namespace Go.Proofs.YtlbkbjeajcadiaaGreatDoor.P
open Go.RowKit Go.Proofs.YtlbkbjeajcadiaaGreatDoor.R Go.Proofs.YtlbkbjeajcadiaaGreatDoor.M
set_option linter.unusedVariables false
set_option linter.unusedSimpArgs false

abbrev cmdV (c : Cmd) : Value := .agg #[.int .i64 c.kind, .int .i64 c.client, .int .i64 c.seq, .string c.key, .string c.val, .int .i64 c.rev]
theorem bare_any (c : Cmd) (w : World) : Calls Tryz.prog 80 #[cmdV c] w fun e w' => e = .returned (.bool (bare c)) ∧ Below w.heap.size w w' := by
  have hb : Below w.heap.size w (w.alloc (.cells #[.int .i64 c.kind, .int .i64 c.client, .int .i64 c.seq, .string c.key, .string c.val, .int .i64 c.rev] 24)) := (Below.refl _ _).alloc (Nat.le_refl _) _
  have HB := Lib.hid hb
  clear hb
  by_cases h0 : c.kind = 0
  · have HV := Lib.hid (show bare c = true by unfold bare; simp [h0])
    have e1 : (c.kind == 0) = true := by rw [beq_iff_eq]; exact h0
    clear h0
    go_enter Tryz.func80, Tryz.ntmps80
    go_wp2_with fail
    go_ret
    exact ⟨by rw [HV.out]; rfl, HB.out⟩
  · have e1 : (c.kind == 0) = false := by rw [beq_eq_false_iff_ne]; exact h0
    obtain ⟨b, hb⟩ : ∃ b, b = (c.kind == 6) := ⟨_, rfl⟩
    have HV := Lib.hid (show bare c = b by unfold bare; rw [hb]; rw [decide_eq_false h0, Bool.false_or]; rw [Bool.eq_iff_iff]; simp)
    have e2 := hb.symm
    clear h0 hb
    go_enter Tryz.func80, Tryz.ntmps80
    go_wp2_with fail
    go_ret
    exact ⟨by rw [HV.out]; rfl, HB.out⟩
theorem within_any (n m : Int) (hm : 0 ≤ m) (w : World) : Calls Tryz.prog 78 #[.int .i64 n, .int .i64 m] w fun e w' => e = .returned (.bool (!out n m)) ∧ w = w' := by
  by_cases h0 : n < 0
  · have HV := Lib.hid (show (!out n m) = false by unfold out; simp [h0])
    have h1 : ¬ 0 ≤ n := by omega
    go_enter Tryz.func78, Tryz.ntmps78
    go_wp2_with fail
    go_ret
    exact ⟨by rw [HV.out]; rfl, rfl⟩
  · have h1 : 0 ≤ n := by omega
    by_cases h2 : m < n
    · have HV := Lib.hid (show (!out n m) = false by unfold out; simp [h2])
      have h3 : ¬ n ≤ m := by omega
      go_enter Tryz.func78, Tryz.ntmps78
      go_wp2_with fail
      go_ret
      exact ⟨by rw [HV.out]; rfl, rfl⟩
    · have HV := Lib.hid (show (!out n m) = true by unfold out; simp [h2]; omega)
      have h3 : n ≤ m := by omega
      go_enter Tryz.func78, Tryz.ntmps78
      go_wp2_with fail
      go_ret
      exact ⟨by rw [HV.out]; rfl, rfl⟩
/-- what a kind names alone -/
def namedC (c : Cmd) : Cmd :=
  if c.kind = 4 then c else if c.kind = 2 then { c with rev := 0 } else if c.kind = 1 ∨ c.kind = 3 ∨ c.kind = 5 then { c with val := nul, rev := 0 } else ⟨c.kind, 0, 0, nul, nul, 0⟩
theorem box6 {w : World} {b : Nat} {u0 u1 u2 u3 u4 u5 : Value} {T : TypeId} (h : w.heap[b]? = some (.cells #[u0, u1, u2, u3, u4, u5] T (0, 0))) :
    (w.cell? ⟨b, 0, none⟩ = some u0 ∧ w.cell? ⟨b, 1, none⟩ = some u1 ∧ w.cell? ⟨b, 2, none⟩ = some u2 ∧ w.cell? ⟨b, 3, none⟩ = some u3 ∧ w.cell? ⟨b, 4, none⟩ = some u4 ∧ w.cell? ⟨b, 5, none⟩ = some u5) ∧ ∀ o, w.frozen? ⟨b, o, none⟩ = false := by
  have hc : ∀ j, w.cell? ⟨b, j, none⟩ = #[u0, u1, u2, u3, u4, u5][j]? := fun j => cell_of_row w b j _ T (0, 0) h
  exact ⟨⟨hc 0, hc 1, hc 2, hc 3, hc 4, hc 5⟩, fun o => by simp [World.frozen?, h]⟩
theorem set6 {w : World} {b : Nat} {v0 v1 v2 v3 v4 v5 u0 u1 u2 u3 u4 u5 : Value} {T : TypeId} (h : w.heap[b]? = some (.cells #[v0, v1, v2, v3, v4, v5] T (0, 0))) :
    ((((((w.setCell ⟨b, 0, none⟩ u0).setCell ⟨b, 1, none⟩ u1).setCell ⟨b, 2, none⟩ u2).setCell ⟨b, 3, none⟩ u3).setCell ⟨b, 4, none⟩ u4).setCell ⟨b, 5, none⟩ u5).heap[b]? = some (.cells #[u0, u1, u2, u3, u4, u5] T (0, 0)) := by
  have s0 := heap_set w b 0 u0 b _ _ _ h
  rw [if_pos rfl] at s0
  have s1 := heap_set _ b 1 u1 b _ _ _ s0
  rw [if_pos rfl] at s1
  have s2 := heap_set _ b 2 u2 b _ _ _ s1
  rw [if_pos rfl] at s2
  have s3 := heap_set _ b 3 u3 b _ _ _ s2
  rw [if_pos rfl] at s3
  have s4 := heap_set _ b 4 u4 b _ _ _ s3
  rw [if_pos rfl] at s4
  have s5 := heap_set _ b 5 u5 b _ _ _ s4
  rw [if_pos rfl] at s5
  exact s5
theorem set6_below {w0 w : World} {B b : Nat} {u0 u1 u2 u3 u4 u5 : Value} (hb : B ≤ b) (h : Below B w0 w) : Below B w0 ((((((w.setCell ⟨b, 0, none⟩ u0).setCell ⟨b, 1, none⟩ u1).setCell ⟨b, 2, none⟩ u2).setCell ⟨b, 3, none⟩ u3).setCell ⟨b, 4, none⟩ u4).setCell ⟨b, 5, none⟩ u5) :=
  (((((h.setCell (p := ⟨b, 0, none⟩) hb _).setCell (p := ⟨b, 1, none⟩) hb _).setCell (p := ⟨b, 2, none⟩) hb _).setCell (p := ⟨b, 3, none⟩) hb _).setCell (p := ⟨b, 4, none⟩) hb _).setCell (p := ⟨b, 5, none⟩) hb _
structure NamedAt (w wx : World) (f : Array Value) : Prop where
  n2 : wx.heap[w.heap.size + 1 + 1]? = some (.cells f 24 (0, 0))
  n1 : wx.heap[w.heap.size + 1]? = some (.cells #[.int .i64 0, .int .i64 0, .int .i64 0, .string ⟨#[]⟩, .string ⟨#[]⟩, .int .i64 0] 24 (0, 0))
  nb : Below w.heap.size w wx
set_option maxRecDepth 100000 in
set_option maxHeartbeats 2000000 in
theorem named_any (c : Cmd) (w : World) : Calls Tryz.prog 79 #[cmdV c] w fun e w' => e = .returned (cmdV (namedC c)) ∧ Below w.heap.size w w' := by
  have key : c.kind = 4 ∨ (c.kind ≠ 4 ∧ c.kind = 2) ∨ (c.kind ≠ 4 ∧ c.kind ≠ 2 ∧ c.kind = 1) ∨ (c.kind ≠ 4 ∧ c.kind ≠ 2 ∧ c.kind ≠ 1 ∧ c.kind = 3) ∨ (c.kind ≠ 4 ∧ c.kind ≠ 2 ∧ c.kind ≠ 1 ∧ c.kind ≠ 3 ∧ c.kind = 5) ∨ (c.kind ≠ 4 ∧ c.kind ≠ 2 ∧ c.kind ≠ 1 ∧ c.kind ≠ 3 ∧ c.kind ≠ 5) := by omega
  obtain ⟨kind, client, seq, key0, val, rev⟩ := c
  simp only at key
  rcases key with h | ⟨h4, h⟩ | ⟨h4, h2, h⟩ | ⟨h4, h2, h1, h⟩ | ⟨h4, h2, h1, h3, h⟩ | ⟨h4, h2, h1, h3, h5⟩
  · subst h
    go_enter Tryz.func79, Tryz.ntmps79
    go_wp2_with fail
    obtain ⟨w1, hw1⟩ : ∃ w1, w1 = ((w.alloc (.cells #[.int .i64 4, .int .i64 client, .int .i64 seq, .string key0, .string val, .int .i64 rev] 24)).alloc (.cells #[.int .i64 0, .int .i64 0, .int .i64 0, .string ⟨#[]⟩, .string ⟨#[]⟩, .int .i64 0] 24)).alloc (.cells #[.int .i64 4, .int .i64 0, .int .i64 0, .string ⟨#[]⟩, .string val, .int .i64 rev] 24) := ⟨_, rfl⟩
    rw [← hw1]
    have h0 : w1.heap[w.heap.size]? = some (.cells #[.int .i64 4, .int .i64 client, .int .i64 seq, .string key0, .string val, .int .i64 rev] 24 (0, 0)) := by
      rw [hw1, heap_al, if_neg (by simp <;> omega), heap_al, if_neg (by simp <;> omega), heap_alloc_new]
    have h2 : w1.heap[w.heap.size + 1 + 1]? = some (.cells #[.int .i64 4, .int .i64 0, .int .i64 0, .string ⟨#[]⟩, .string val, .int .i64 rev] 24 (0, 0)) := by
      rw [hw1, heap_al, if_pos (by simp)]
    have h1 : w1.heap[w.heap.size + 1]? = some (.cells #[.int .i64 0, .int .i64 0, .int .i64 0, .string ⟨#[]⟩, .string ⟨#[]⟩, .int .i64 0] 24 (0, 0)) := by
      rw [hw1, heap_al, if_neg (by simp), heap_al, if_pos (by simp)]
    have hb1 : Below w.heap.size w w1 := by rw [hw1]; exact (((Below.refl _ _).alloc (Nat.le_refl _) _).alloc (by simp) _).alloc (by simp <;> omega) _
    obtain ⟨⟨_, a1, a2, a3, _, _⟩, _⟩ := box6 h0
    obtain ⟨⟨_, b1, b2, b3, _, _⟩, f2⟩ := box6 h2
    have f21 := f2 1
    have f22 := f2 2
    have f23 := f2 3
    clear f2 hw1 h0
    have H1 := Lib.hid h1
    have H2 := Lib.hid h2
    have HB1 := Lib.hid hb1
    clear h1 h2 hb1
    go_cut [] (fun wx => NamedAt w wx #[.int .i64 4, .int .i64 client, .int .i64 seq, .string key0, .string val, .int .i64 rev])
    case first =>
      go_region
      (first | go_meet | (go_wp2_with fail; go_meet))
      refine ⟨?_, ?_, ?_⟩
      · have s1 := heap_set w1 (w.heap.size + 1 + 1) 3 (.string key0) (w.heap.size + 1 + 1) _ _ _ H2.out
        rw [if_pos rfl] at s1
        have s2 := heap_set _ (w.heap.size + 1 + 1) 1 (.int .i64 client) (w.heap.size + 1 + 1) _ _ _ s1
        rw [if_pos rfl] at s2
        have s3 := heap_set _ (w.heap.size + 1 + 1) 2 (.int .i64 seq) (w.heap.size + 1 + 1) _ _ _ s2
        rw [if_pos rfl] at s3
        exact s3
      · refine (Below.heap_setCell _ _ _ _ (by simp)).trans ((Below.heap_setCell _ _ _ _ (by simp)).trans ((Below.heap_setCell _ _ _ _ (by simp)).trans H1.out))
      · exact ((((HB1.out.setCell (p := ⟨w.heap.size + 1 + 1, 3, none⟩) (by show w.heap.size ≤ w.heap.size + 1 + 1; omega) _).setCell (p := ⟨w.heap.size + 1 + 1, 1, none⟩) (by show w.heap.size ≤ w.heap.size + 1 + 1; omega) _).setCell (p := ⟨w.heap.size + 1 + 1, 2, none⟩) (by show w.heap.size ≤ w.heap.size + 1 + 1; omega) _)).drew
    case rest =>
      obtain ⟨n2, n1, nb⟩ := hcut
      obtain ⟨⟨c0, c1, c2, c3, c4, c5⟩, _⟩ := box6 n2
      obtain ⟨⟨d0, d1, d2, d3, d4, d5⟩, g1⟩ := box6 n1
      have N1 := Lib.hid n1
      have NB := Lib.hid nb
      clear n1 n2 nb
      go_wp2_with fail
      refine ret_box (w.heap.size + 1) #[.int .i64 4, .int .i64 client, .int .i64 seq, .string key0, .string val, .int .i64 rev] 24 (.agg #[.int .i64 4, .int .i64 client, .int .i64 seq, .string key0, .string val, .int .i64 rev]) ?_ (fun W' h => ?_) rfl ?_
      · exact set6 N1.out
      · obtain ⟨⟨e0, e1, e2, e3, e4, e5⟩, _⟩ := box6 h
        simp [results, Tryz.results79, go_sem, e0, e1, e2, e3, e4, e5]
      · exact ⟨rfl, set6_below (by omega) NB.out⟩
  · subst h
    go_enter Tryz.func79, Tryz.ntmps79
    go_wp2_with fail
    obtain ⟨w1, hw1⟩ : ∃ w1, w1 = ((w.alloc (.cells #[.int .i64 2, .int .i64 client, .int .i64 seq, .string key0, .string val, .int .i64 rev] 24)).alloc (.cells #[.int .i64 0, .int .i64 0, .int .i64 0, .string ⟨#[]⟩, .string ⟨#[]⟩, .int .i64 0] 24)).alloc (.cells #[.int .i64 2, .int .i64 0, .int .i64 0, .string ⟨#[]⟩, .string val, .int .i64 0] 24) := ⟨_, rfl⟩
    rw [← hw1]
    have h0 : w1.heap[w.heap.size]? = some (.cells #[.int .i64 2, .int .i64 client, .int .i64 seq, .string key0, .string val, .int .i64 rev] 24 (0, 0)) := by
      rw [hw1, heap_al, if_neg (by simp <;> omega), heap_al, if_neg (by simp <;> omega), heap_alloc_new]
    have h2 : w1.heap[w.heap.size + 1 + 1]? = some (.cells #[.int .i64 2, .int .i64 0, .int .i64 0, .string ⟨#[]⟩, .string val, .int .i64 0] 24 (0, 0)) := by
      rw [hw1, heap_al, if_pos (by simp)]
    have h1 : w1.heap[w.heap.size + 1]? = some (.cells #[.int .i64 0, .int .i64 0, .int .i64 0, .string ⟨#[]⟩, .string ⟨#[]⟩, .int .i64 0] 24 (0, 0)) := by
      rw [hw1, heap_al, if_neg (by simp), heap_al, if_pos (by simp)]
    have hb1 : Below w.heap.size w w1 := by rw [hw1]; exact (((Below.refl _ _).alloc (Nat.le_refl _) _).alloc (by simp) _).alloc (by simp <;> omega) _
    obtain ⟨⟨_, a1, a2, a3, _, _⟩, _⟩ := box6 h0
    obtain ⟨⟨_, b1, b2, b3, _, _⟩, f2⟩ := box6 h2
    have f21 := f2 1
    have f22 := f2 2
    have f23 := f2 3
    clear f2 hw1 h0
    have H1 := Lib.hid h1
    have H2 := Lib.hid h2
    have HB1 := Lib.hid hb1
    clear h1 h2 hb1
    go_cut [] (fun wx => NamedAt w wx #[.int .i64 2, .int .i64 client, .int .i64 seq, .string key0, .string val, .int .i64 0])
    case first =>
      go_region
      (first | go_meet | (go_wp2_with fail; go_meet))
      refine ⟨?_, ?_, ?_⟩
      · have s1 := heap_set w1 (w.heap.size + 1 + 1) 3 (.string key0) (w.heap.size + 1 + 1) _ _ _ H2.out
        rw [if_pos rfl] at s1
        have s2 := heap_set _ (w.heap.size + 1 + 1) 1 (.int .i64 client) (w.heap.size + 1 + 1) _ _ _ s1
        rw [if_pos rfl] at s2
        have s3 := heap_set _ (w.heap.size + 1 + 1) 2 (.int .i64 seq) (w.heap.size + 1 + 1) _ _ _ s2
        rw [if_pos rfl] at s3
        exact s3
      · refine (Below.heap_setCell _ _ _ _ (by simp)).trans ((Below.heap_setCell _ _ _ _ (by simp)).trans ((Below.heap_setCell _ _ _ _ (by simp)).trans H1.out))
      · exact ((((HB1.out.setCell (p := ⟨w.heap.size + 1 + 1, 3, none⟩) (by show w.heap.size ≤ w.heap.size + 1 + 1; omega) _).setCell (p := ⟨w.heap.size + 1 + 1, 1, none⟩) (by show w.heap.size ≤ w.heap.size + 1 + 1; omega) _).setCell (p := ⟨w.heap.size + 1 + 1, 2, none⟩) (by show w.heap.size ≤ w.heap.size + 1 + 1; omega) _)).drew
    case rest =>
      obtain ⟨n2, n1, nb⟩ := hcut
      obtain ⟨⟨c0, c1, c2, c3, c4, c5⟩, _⟩ := box6 n2
      obtain ⟨⟨d0, d1, d2, d3, d4, d5⟩, g1⟩ := box6 n1
      have N1 := Lib.hid n1
      have NB := Lib.hid nb
      clear n1 n2 nb
      go_wp2_with fail
      refine ret_box (w.heap.size + 1) #[.int .i64 2, .int .i64 client, .int .i64 seq, .string key0, .string val, .int .i64 0] 24 (.agg #[.int .i64 2, .int .i64 client, .int .i64 seq, .string key0, .string val, .int .i64 0]) ?_ (fun W' h => ?_) rfl ?_
      · exact set6 N1.out
      · obtain ⟨⟨e0, e1, e2, e3, e4, e5⟩, _⟩ := box6 h
        simp [results, Tryz.results79, go_sem, e0, e1, e2, e3, e4, e5]
      · exact ⟨rfl, set6_below (by omega) NB.out⟩
  · subst h
    go_enter Tryz.func79, Tryz.ntmps79
    go_wp2_with fail
    obtain ⟨w1, hw1⟩ : ∃ w1, w1 = ((w.alloc (.cells #[.int .i64 1, .int .i64 client, .int .i64 seq, .string key0, .string val, .int .i64 rev] 24)).alloc (.cells #[.int .i64 0, .int .i64 0, .int .i64 0, .string ⟨#[]⟩, .string ⟨#[]⟩, .int .i64 0] 24)).alloc (.cells #[.int .i64 1, .int .i64 0, .int .i64 0, .string ⟨#[]⟩, .string ⟨#[]⟩, .int .i64 0] 24) := ⟨_, rfl⟩
    rw [← hw1]
    have h0 : w1.heap[w.heap.size]? = some (.cells #[.int .i64 1, .int .i64 client, .int .i64 seq, .string key0, .string val, .int .i64 rev] 24 (0, 0)) := by
      rw [hw1, heap_al, if_neg (by simp <;> omega), heap_al, if_neg (by simp <;> omega), heap_alloc_new]
    have h2 : w1.heap[w.heap.size + 1 + 1]? = some (.cells #[.int .i64 1, .int .i64 0, .int .i64 0, .string ⟨#[]⟩, .string ⟨#[]⟩, .int .i64 0] 24 (0, 0)) := by
      rw [hw1, heap_al, if_pos (by simp)]
    have h1 : w1.heap[w.heap.size + 1]? = some (.cells #[.int .i64 0, .int .i64 0, .int .i64 0, .string ⟨#[]⟩, .string ⟨#[]⟩, .int .i64 0] 24 (0, 0)) := by
      rw [hw1, heap_al, if_neg (by simp), heap_al, if_pos (by simp)]
    have hb1 : Below w.heap.size w w1 := by rw [hw1]; exact (((Below.refl _ _).alloc (Nat.le_refl _) _).alloc (by simp) _).alloc (by simp <;> omega) _
    obtain ⟨⟨_, a1, a2, a3, _, _⟩, _⟩ := box6 h0
    obtain ⟨⟨_, b1, b2, b3, _, _⟩, f2⟩ := box6 h2
    have f21 := f2 1
    have f22 := f2 2
    have f23 := f2 3
    clear f2 hw1 h0
    have H1 := Lib.hid h1
    have H2 := Lib.hid h2
    have HB1 := Lib.hid hb1
    clear h1 h2 hb1
    go_cut [] (fun wx => NamedAt w wx #[.int .i64 1, .int .i64 client, .int .i64 seq, .string key0, .string ⟨#[]⟩, .int .i64 0])
    case first =>
      go_region
      (first | go_meet | (go_wp2_with fail; go_meet))
      refine ⟨?_, ?_, ?_⟩
      · have s1 := heap_set w1 (w.heap.size + 1 + 1) 3 (.string key0) (w.heap.size + 1 + 1) _ _ _ H2.out
        rw [if_pos rfl] at s1
        have s2 := heap_set _ (w.heap.size + 1 + 1) 1 (.int .i64 client) (w.heap.size + 1 + 1) _ _ _ s1
        rw [if_pos rfl] at s2
        have s3 := heap_set _ (w.heap.size + 1 + 1) 2 (.int .i64 seq) (w.heap.size + 1 + 1) _ _ _ s2
        rw [if_pos rfl] at s3
        exact s3
      · refine (Below.heap_setCell _ _ _ _ (by simp)).trans ((Below.heap_setCell _ _ _ _ (by simp)).trans ((Below.heap_setCell _ _ _ _ (by simp)).trans H1.out))
      · exact ((((HB1.out.setCell (p := ⟨w.heap.size + 1 + 1, 3, none⟩) (by show w.heap.size ≤ w.heap.size + 1 + 1; omega) _).setCell (p := ⟨w.heap.size + 1 + 1, 1, none⟩) (by show w.heap.size ≤ w.heap.size + 1 + 1; omega) _).setCell (p := ⟨w.heap.size + 1 + 1, 2, none⟩) (by show w.heap.size ≤ w.heap.size + 1 + 1; omega) _)).drew
    case rest =>
      obtain ⟨n2, n1, nb⟩ := hcut
      obtain ⟨⟨c0, c1, c2, c3, c4, c5⟩, _⟩ := box6 n2
      obtain ⟨⟨d0, d1, d2, d3, d4, d5⟩, g1⟩ := box6 n1
      have N1 := Lib.hid n1
      have NB := Lib.hid nb
      clear n1 n2 nb
      go_wp2_with fail
      refine ret_box (w.heap.size + 1) #[.int .i64 1, .int .i64 client, .int .i64 seq, .string key0, .string ⟨#[]⟩, .int .i64 0] 24 (.agg #[.int .i64 1, .int .i64 client, .int .i64 seq, .string key0, .string ⟨#[]⟩, .int .i64 0]) ?_ (fun W' h => ?_) rfl ?_
      · exact set6 N1.out
      · obtain ⟨⟨e0, e1, e2, e3, e4, e5⟩, _⟩ := box6 h
        simp [results, Tryz.results79, go_sem, e0, e1, e2, e3, e4, e5]
      · exact ⟨rfl, set6_below (by omega) NB.out⟩
  · subst h
    go_enter Tryz.func79, Tryz.ntmps79
    go_wp2_with fail
    obtain ⟨w1, hw1⟩ : ∃ w1, w1 = ((w.alloc (.cells #[.int .i64 3, .int .i64 client, .int .i64 seq, .string key0, .string val, .int .i64 rev] 24)).alloc (.cells #[.int .i64 0, .int .i64 0, .int .i64 0, .string ⟨#[]⟩, .string ⟨#[]⟩, .int .i64 0] 24)).alloc (.cells #[.int .i64 3, .int .i64 0, .int .i64 0, .string ⟨#[]⟩, .string ⟨#[]⟩, .int .i64 0] 24) := ⟨_, rfl⟩
    rw [← hw1]
    have h0 : w1.heap[w.heap.size]? = some (.cells #[.int .i64 3, .int .i64 client, .int .i64 seq, .string key0, .string val, .int .i64 rev] 24 (0, 0)) := by
      rw [hw1, heap_al, if_neg (by simp <;> omega), heap_al, if_neg (by simp <;> omega), heap_alloc_new]
    have h2 : w1.heap[w.heap.size + 1 + 1]? = some (.cells #[.int .i64 3, .int .i64 0, .int .i64 0, .string ⟨#[]⟩, .string ⟨#[]⟩, .int .i64 0] 24 (0, 0)) := by
      rw [hw1, heap_al, if_pos (by simp)]
    have h1 : w1.heap[w.heap.size + 1]? = some (.cells #[.int .i64 0, .int .i64 0, .int .i64 0, .string ⟨#[]⟩, .string ⟨#[]⟩, .int .i64 0] 24 (0, 0)) := by
      rw [hw1, heap_al, if_neg (by simp), heap_al, if_pos (by simp)]
    have hb1 : Below w.heap.size w w1 := by rw [hw1]; exact (((Below.refl _ _).alloc (Nat.le_refl _) _).alloc (by simp) _).alloc (by simp <;> omega) _
    obtain ⟨⟨_, a1, a2, a3, _, _⟩, _⟩ := box6 h0
    obtain ⟨⟨_, b1, b2, b3, _, _⟩, f2⟩ := box6 h2
    have f21 := f2 1
    have f22 := f2 2
    have f23 := f2 3
    clear f2 hw1 h0
    have H1 := Lib.hid h1
    have H2 := Lib.hid h2
    have HB1 := Lib.hid hb1
    clear h1 h2 hb1
    go_cut [] (fun wx => NamedAt w wx #[.int .i64 3, .int .i64 client, .int .i64 seq, .string key0, .string ⟨#[]⟩, .int .i64 0])
    case first =>
      go_region
      (first | go_meet | (go_wp2_with fail; go_meet))
      refine ⟨?_, ?_, ?_⟩
      · have s1 := heap_set w1 (w.heap.size + 1 + 1) 3 (.string key0) (w.heap.size + 1 + 1) _ _ _ H2.out
        rw [if_pos rfl] at s1
        have s2 := heap_set _ (w.heap.size + 1 + 1) 1 (.int .i64 client) (w.heap.size + 1 + 1) _ _ _ s1
        rw [if_pos rfl] at s2
        have s3 := heap_set _ (w.heap.size + 1 + 1) 2 (.int .i64 seq) (w.heap.size + 1 + 1) _ _ _ s2
        rw [if_pos rfl] at s3
        exact s3
      · refine (Below.heap_setCell _ _ _ _ (by simp)).trans ((Below.heap_setCell _ _ _ _ (by simp)).trans ((Below.heap_setCell _ _ _ _ (by simp)).trans H1.out))
      · exact ((((HB1.out.setCell (p := ⟨w.heap.size + 1 + 1, 3, none⟩) (by show w.heap.size ≤ w.heap.size + 1 + 1; omega) _).setCell (p := ⟨w.heap.size + 1 + 1, 1, none⟩) (by show w.heap.size ≤ w.heap.size + 1 + 1; omega) _).setCell (p := ⟨w.heap.size + 1 + 1, 2, none⟩) (by show w.heap.size ≤ w.heap.size + 1 + 1; omega) _)).drew
    case rest =>
      obtain ⟨n2, n1, nb⟩ := hcut
      obtain ⟨⟨c0, c1, c2, c3, c4, c5⟩, _⟩ := box6 n2
      obtain ⟨⟨d0, d1, d2, d3, d4, d5⟩, g1⟩ := box6 n1
      have N1 := Lib.hid n1
      have NB := Lib.hid nb
      clear n1 n2 nb
      go_wp2_with fail
      refine ret_box (w.heap.size + 1) #[.int .i64 3, .int .i64 client, .int .i64 seq, .string key0, .string ⟨#[]⟩, .int .i64 0] 24 (.agg #[.int .i64 3, .int .i64 client, .int .i64 seq, .string key0, .string ⟨#[]⟩, .int .i64 0]) ?_ (fun W' h => ?_) rfl ?_
      · exact set6 N1.out
      · obtain ⟨⟨e0, e1, e2, e3, e4, e5⟩, _⟩ := box6 h
        simp [results, Tryz.results79, go_sem, e0, e1, e2, e3, e4, e5]
      · exact ⟨rfl, set6_below (by omega) NB.out⟩
  · subst h
    go_enter Tryz.func79, Tryz.ntmps79
    go_wp2_with fail
    obtain ⟨w1, hw1⟩ : ∃ w1, w1 = ((w.alloc (.cells #[.int .i64 5, .int .i64 client, .int .i64 seq, .string key0, .string val, .int .i64 rev] 24)).alloc (.cells #[.int .i64 0, .int .i64 0, .int .i64 0, .string ⟨#[]⟩, .string ⟨#[]⟩, .int .i64 0] 24)).alloc (.cells #[.int .i64 5, .int .i64 0, .int .i64 0, .string ⟨#[]⟩, .string ⟨#[]⟩, .int .i64 0] 24) := ⟨_, rfl⟩
    rw [← hw1]
    have h0 : w1.heap[w.heap.size]? = some (.cells #[.int .i64 5, .int .i64 client, .int .i64 seq, .string key0, .string val, .int .i64 rev] 24 (0, 0)) := by
      rw [hw1, heap_al, if_neg (by simp <;> omega), heap_al, if_neg (by simp <;> omega), heap_alloc_new]
    have h2 : w1.heap[w.heap.size + 1 + 1]? = some (.cells #[.int .i64 5, .int .i64 0, .int .i64 0, .string ⟨#[]⟩, .string ⟨#[]⟩, .int .i64 0] 24 (0, 0)) := by
      rw [hw1, heap_al, if_pos (by simp)]
    have h1 : w1.heap[w.heap.size + 1]? = some (.cells #[.int .i64 0, .int .i64 0, .int .i64 0, .string ⟨#[]⟩, .string ⟨#[]⟩, .int .i64 0] 24 (0, 0)) := by
      rw [hw1, heap_al, if_neg (by simp), heap_al, if_pos (by simp)]
    have hb1 : Below w.heap.size w w1 := by rw [hw1]; exact (((Below.refl _ _).alloc (Nat.le_refl _) _).alloc (by simp) _).alloc (by simp <;> omega) _
    obtain ⟨⟨_, a1, a2, a3, _, _⟩, _⟩ := box6 h0
    obtain ⟨⟨_, b1, b2, b3, _, _⟩, f2⟩ := box6 h2
    have f21 := f2 1
    have f22 := f2 2
    have f23 := f2 3
    clear f2 hw1 h0
    have H1 := Lib.hid h1
    have H2 := Lib.hid h2
    have HB1 := Lib.hid hb1
    clear h1 h2 hb1
    go_cut [] (fun wx => NamedAt w wx #[.int .i64 5, .int .i64 client, .int .i64 seq, .string key0, .string ⟨#[]⟩, .int .i64 0])
    case first =>
      go_region
      (first | go_meet | (go_wp2_with fail; go_meet))
      refine ⟨?_, ?_, ?_⟩
      · have s1 := heap_set w1 (w.heap.size + 1 + 1) 3 (.string key0) (w.heap.size + 1 + 1) _ _ _ H2.out
        rw [if_pos rfl] at s1
        have s2 := heap_set _ (w.heap.size + 1 + 1) 1 (.int .i64 client) (w.heap.size + 1 + 1) _ _ _ s1
        rw [if_pos rfl] at s2
        have s3 := heap_set _ (w.heap.size + 1 + 1) 2 (.int .i64 seq) (w.heap.size + 1 + 1) _ _ _ s2
        rw [if_pos rfl] at s3
        exact s3
      · refine (Below.heap_setCell _ _ _ _ (by simp)).trans ((Below.heap_setCell _ _ _ _ (by simp)).trans ((Below.heap_setCell _ _ _ _ (by simp)).trans H1.out))
      · exact ((((HB1.out.setCell (p := ⟨w.heap.size + 1 + 1, 3, none⟩) (by show w.heap.size ≤ w.heap.size + 1 + 1; omega) _).setCell (p := ⟨w.heap.size + 1 + 1, 1, none⟩) (by show w.heap.size ≤ w.heap.size + 1 + 1; omega) _).setCell (p := ⟨w.heap.size + 1 + 1, 2, none⟩) (by show w.heap.size ≤ w.heap.size + 1 + 1; omega) _)).drew
    case rest =>
      obtain ⟨n2, n1, nb⟩ := hcut
      obtain ⟨⟨c0, c1, c2, c3, c4, c5⟩, _⟩ := box6 n2
      obtain ⟨⟨d0, d1, d2, d3, d4, d5⟩, g1⟩ := box6 n1
      have N1 := Lib.hid n1
      have NB := Lib.hid nb
      clear n1 n2 nb
      go_wp2_with fail
      refine ret_box (w.heap.size + 1) #[.int .i64 5, .int .i64 client, .int .i64 seq, .string key0, .string ⟨#[]⟩, .int .i64 0] 24 (.agg #[.int .i64 5, .int .i64 client, .int .i64 seq, .string key0, .string ⟨#[]⟩, .int .i64 0]) ?_ (fun W' h => ?_) rfl ?_
      · exact set6 N1.out
      · obtain ⟨⟨e0, e1, e2, e3, e4, e5⟩, _⟩ := box6 h
        simp [results, Tryz.results79, go_sem, e0, e1, e2, e3, e4, e5]
      · exact ⟨rfl, set6_below (by omega) NB.out⟩
  · have e4 : (kind == 4) = false := by rw [beq_eq_false_iff_ne]; exact h4
    have e2 : (kind == 2) = false := by rw [beq_eq_false_iff_ne]; exact h2
    have e1 : (kind == 1) = false := by rw [beq_eq_false_iff_ne]; exact h1
    have e3 : (kind == 3) = false := by rw [beq_eq_false_iff_ne]; exact h3
    have e5 : (kind == 5) = false := by rw [beq_eq_false_iff_ne]; exact h5
    have HN : Hid (namedC ⟨kind, client, seq, key0, val, rev⟩ = ⟨kind, 0, 0, nul, nul, 0⟩) := Lib.hid (by
      unfold namedC
      simp only
      rw [if_neg h4, if_neg h2, if_neg (by omega)])
    clear h4 h2 h1 h3 h5
    go_enter Tryz.func79, Tryz.ntmps79
    go_upto_region 11 with fail
    obtain ⟨w1, hw1⟩ : ∃ w1, w1 = ((w.alloc (.cells #[.int .i64 kind, .int .i64 client, .int .i64 seq, .string key0, .string val, .int .i64 rev] 24)).alloc (.cells #[.int .i64 0, .int .i64 0, .int .i64 0, .string ⟨#[]⟩, .string ⟨#[]⟩, .int .i64 0] 24)).alloc (.cells #[.int .i64 kind, .int .i64 0, .int .i64 0, .string ⟨#[]⟩, .string ⟨#[]⟩, .int .i64 0] 24) := ⟨_, rfl⟩
    rw [← hw1]
    have n2 : w1.heap[w.heap.size + 1 + 1]? = some (.cells #[.int .i64 kind, .int .i64 0, .int .i64 0, .string ⟨#[]⟩, .string ⟨#[]⟩, .int .i64 0] 24 (0, 0)) := by
      rw [hw1, heap_al, if_pos (by simp)]
    have n1 : w1.heap[w.heap.size + 1]? = some (.cells #[.int .i64 0, .int .i64 0, .int .i64 0, .string ⟨#[]⟩, .string ⟨#[]⟩, .int .i64 0] 24 (0, 0)) := by
      rw [hw1, heap_al, if_neg (by simp), heap_al, if_pos (by simp)]
    have nb : Below w.heap.size w w1 := by rw [hw1]; exact (((Below.refl _ _).alloc (Nat.le_refl _) _).alloc (by simp) _).alloc (by simp <;> omega) _
    obtain ⟨⟨c0, c1, c2, c3, c4, c5⟩, _⟩ := box6 n2
    obtain ⟨⟨d0, d1, d2, d3, d4, d5⟩, g1⟩ := box6 n1
    have N1 := Lib.hid n1
    have NB := Lib.hid nb
    clear n1 n2 nb hw1
    go_wp2_with fail
    refine ret_box (w.heap.size + 1) #[.int .i64 kind, .int .i64 0, .int .i64 0, .string ⟨#[]⟩, .string ⟨#[]⟩, .int .i64 0] 24 (.agg #[.int .i64 kind, .int .i64 0, .int .i64 0, .string ⟨#[]⟩, .string ⟨#[]⟩, .int .i64 0]) ?_ (fun W' h => ?_) rfl ?_
    · exact set6 N1.out
    · obtain ⟨⟨e0, e1, e2, e3, e4, e5⟩, _⟩ := box6 h
      simp [results, Tryz.results79, go_sem, e0, e1, e2, e3, e4, e5]
    · exact ⟨by rw [HN.out]; rfl, set6_below (by omega) NB.out⟩
end Go.Proofs.YtlbkbjeajcadiaaGreatDoor.P
