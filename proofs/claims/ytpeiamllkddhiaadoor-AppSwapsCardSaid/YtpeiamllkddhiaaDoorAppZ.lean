/- The App laws' beginnings: Great at their bounds; a row of commands, one more. -/
import Derived.Test.YtpeiamllkddhiaaDoorAppY
namespace Go.Proofs.YtpeiamllkddhiaaDoor.P
open Go.RowKit Go.Proofs.YtpeiamllkddhiaaDoor.R Go.Proofs.YtpeiamllkddhiaaDoor.M Go.BigFrame
set_option linter.unusedVariables false
set_option linter.unusedSimpArgs false

theorem run_take (A : List Ent) (l : List Cmd) (i : Nat) (c : Cmd) (h : l[i]? = some c) : run A (l.take (i + 1)) = (appDo (run A (l.take i)) c).1 := by
  rw [List.take_add_one, h, Option.toList_some, run_snoc]
theorem great60 (B : Nat) (L : List Cmd) (ao : Option Addr) (cap : Nat) (w : World) (h : CmdsV B w ao cap L) :
    Calls Tryd.prog 11 #[.slice ao L.length cap, .int .i64 60] w fun e w' => e = .returned (.bool (greatB L 60)) ∧ w = w' := great_any B L 60 ao cap w h (by decide)
theorem great_cells {w : World} {g : Nat} {c : Cmd} {T : TypeId} (h : w.heap[g]? = some (.cells (cmdA c) T (0, 0))) (hc : CmdOk c) : CmdsV (g + 1) w (some ⟨g, 0, none⟩) 1 [c] := by
  obtain ⟨⟨c0, c1, c2, c3, c4, c5⟩, _⟩ := box6 h
  refine ⟨⟨Nat.le_refl _, by unfold maxLen; decide⟩, fun i x hi => ?_, fun x hx => ?_⟩
  · have : i = 0 := by have := (List.getElem?_eq_some_iff.1 hi).1; simp at this; exact this
    subst this
    cases hi
    exact ⟨g, 0, rfl, by omega, c0, c1, c2, c3, c4, c5⟩
  · obtain rfl := List.mem_singleton.1 hx
    exact hc
theorem great_one {w : World} {g : Nat} {c : Cmd} {T : TypeId} (h : w.heap[g]? = some (.cells (cmdA c) T (0, 0))) (hc : CmdOk c) (v : Bool) (hv : greatB [c] 1 = v) :
    Calls Tryd.prog 11 #[.slice (some ⟨g, 0, none⟩) 1 1, .int .i64 1] w fun e w' => e = .returned (.bool v) ∧ w = w' := by
  subst hv
  exact great_any (g + 1) [c] 1 _ 1 w (great_cells h hc) (by decide)
abbrev cmdA2 (c d : Cmd) : Array Value := #[.int .i64 c.kind, .int .i64 c.client, .int .i64 c.seq, .string c.key, .string c.val, .int .i64 c.rev, .int .i64 d.kind, .int .i64 d.client, .int .i64 d.seq, .string d.key, .string d.val, .int .i64 d.rev]
theorem great_cells2 {w : World} {g : Nat} {c d : Cmd} {T : TypeId} (h : w.heap[g]? = some (.cells (cmdA2 c d) T (0, 0))) (hc : CmdOk c) (hd : CmdOk d) : CmdsV (g + 1) w (some ⟨g, 0, none⟩) 2 [c, d] := by
  have cell : ∀ j v, (cmdA2 c d)[j]? = some v → w.cell? ⟨g, j, none⟩ = some v := fun j v hv => (cell_of_row w g j _ _ _ h).trans hv
  refine ⟨⟨Nat.le_refl _, by unfold maxLen; decide⟩, fun i x hi => ?_, fun x hx => ?_⟩
  · have hi2 : i = 0 ∨ i = 1 := by have := (List.getElem?_eq_some_iff.1 hi).1; simp at this; omega
    rcases hi2 with rfl | rfl
    · cases hi
      exact ⟨g, 0, rfl, by omega, cell 0 _ rfl, cell 1 _ rfl, cell 2 _ rfl, cell 3 _ rfl, cell 4 _ rfl, cell 5 _ rfl⟩
    · cases hi
      exact ⟨g, 0, rfl, by omega, cell 6 _ rfl, cell 7 _ rfl, cell 8 _ rfl, cell 9 _ rfl, cell 10 _ rfl, cell 11 _ rfl⟩
  · rcases List.mem_cons.1 hx with rfl | hx
    · exact hc
    · obtain rfl := List.mem_singleton.1 hx
      exact hd
theorem great_two {w : World} {g : Nat} {c d : Cmd} {T : TypeId} (h : w.heap[g]? = some (.cells (cmdA2 c d) T (0, 0))) (hc : CmdOk c) (hd : CmdOk d) (v : Bool) (hv : greatB [c, d] 2 = v) :
    Calls Tryd.prog 11 #[.slice (some ⟨g, 0, none⟩) 2 2, .int .i64 2] w fun e w' => e = .returned (.bool v) ∧ w = w' := by
  subst hv
  exact great_any (g + 1) [c, d] 2 _ 2 w (great_cells2 h hc hd) (by decide)
theorem great_ones {L : List Cmd} {m : Nat} (h : greatB L m = false) {c : Cmd} (hc : c ∈ L) : c.key.size ≤ 1000000 := by
  have := (great_no h).2 c hc
  omega
abbrev repO (R : Rep) : Obj := .cells #[.int .i64 R.code, .string R.val, .int .i64 R.rev] 29
abbrev askO (k : Int) (key : ByteArray) : Obj := .cells #[.int .i64 k, .int .i64 1, .int .i64 1, .string key, .string ⟨#[]⟩, .int .i64 0] 32
abbrev cmdO (c : Cmd) : Obj := .cells (cmdA c) 32
/-- boxes of the call's own, none of them the map at b -/
def Boxed (w : World) (b : Nat) (l : List (Nat × Obj)) : Prop := ∀ x ∈ l, w.heap[x.1]? = some x.2 ∧ x.1 ≠ b
theorem Boxed.at {w : World} {b g : Nat} {o : Obj} {l : List (Nat × Obj)} (h : Boxed w b l) (hx : (g, o) ∈ l) : w.heap[g]? = some o := (h _ hx).1
theorem Boxed.none (w : World) (b : Nat) : Boxed w b [] := fun x h => by cases h
theorem Boxed.mods {w w1 : World} {b : Nat} {l : List (Nat × Obj)} (h : Boxed w b l) (hm : Mods (fun k => k = b) w w1) : Boxed w1 b l := fun x hx => ⟨hm.heap (h x hx).1 (h x hx).2, (h x hx).2⟩
theorem Boxed.below {w w1 : World} {b : Nat} {l : List (Nat × Obj)} (h : Boxed w b l) (hb : Below w.heap.size w w1) : Boxed w1 b l := fun x hx => ⟨(hb.block _ (M.heap_lt (h x hx).1)).trans (h x hx).1, (h x hx).2⟩
theorem Boxed.alloc {w : World} {b : Nat} {l : List (Nat × Obj)} (h : Boxed w b l) (hb : b < w.heap.size) (o : Obj) : Boxed (w.alloc o) b ((w.heap.size, o) :: l) := fun x hx => by
  rcases List.mem_cons.1 hx with rfl | hx
  · exact ⟨heap_alloc_new w o, by simp only; omega⟩
  · exact h.below ((Below.refl _ _).alloc (Nat.le_refl _) _) x hx
theorem Boxed.set {w w1 : World} {b g : Nat} {o o1 : Obj} {l : List (Nat × Obj)} (h : Boxed w b ((g, o) :: l)) (hm : Mods (fun k => k = g) w w1) (hn : ∀ x ∈ l, x.1 ≠ g) (h1 : w1.heap[g]? = some o1) : Boxed w1 b ((g, o1) :: l) := fun x hx => by
  rcases List.mem_cons.1 hx with rfl | hx
  · exact ⟨h1, (h (g, o) (List.mem_cons_self)).2⟩
  · have := h x (List.mem_cons_of_mem _ hx)
    exact ⟨hm.heap this.1 (hn x hx), this.2⟩
theorem Boxed.swap {w : World} {b : Nat} {x y : Nat × Obj} {l : List (Nat × Obj)} (h : Boxed w b (x :: y :: l)) : Boxed w b (y :: x :: l) := fun z hz => h z (by simp only [List.mem_cons] at hz ⊢; rcases hz with e | e | e <;> simp [e])
theorem Boxed.turn {w : World} {b : Nat} {x y z : Nat × Obj} {l : List (Nat × Obj)} (h : Boxed w b (x :: y :: z :: l)) : Boxed w b (z :: x :: y :: l) := fun u hu => h u (by simp only [List.mem_cons] at hu ⊢; rcases hu with e | e | e | e <;> simp [e])
theorem RunAt.turned {w w1 w2 : World} {p b n : Nat} {A : List Ent} {g : Nat} (h : RunAt w w1 p b n A) (hm : Mods (fun k => k = g) w1 w2) (hg : w.heap.size ≤ g) (h1 : p ≠ g) (h2 : b ≠ g) : RunAt w w2 p b n A := h.apart hm hg h1 h2
theorem mods_set {w : World} {g i : Nat} {u : Value} : Mods (fun k => k = g) w (w.setCell ⟨g, i, none⟩ u) := (Mods.refl (fun k => k = g) w).setCell (p := ⟨g, i, none⟩) (fun _ => rfl) u
end Go.Proofs.YtpeiamllkddhiaaDoor.P
