/- A finder under single stores; the contract of enter. -/
import Derived.Test.YtmmggeaaheegmaaCompA
namespace Go.Proofs.Ytmmggeaaheegmaa.K
open Go.RowKit M T
set_option linter.unusedVariables false
set_option linter.unusedSimpArgs false

section
variable {B n : Nat} {w w1 : World} {b : Nat} {m : Lay} {s : St} {o : Nat → Int}
theorem FM.other (h : FM B n w b m s o) {S : Nat → Prop} (hm : Mods S w w1) (hr : ∀ k, S k → ¬ Rows m k) : (∀ (i : Nat) c r, s.comps[i]? = some c → m.R[i]? = some r → w1.ownsRow B 3 1 (.slice r.1 c.length r.2) c.length (iv c)) := fun i c r hc hrr =>
  own_kept (h.row i c r hc hrr) hm (fun k hk hS => by
    obtain ⟨r1, r2⟩ := r
    cases r1 with
    | none => cases hk
    | some a => exact hr k hS ⟨_, List.mem_of_getElem? hrr, a, rfl, (Option.some.inj hk).symm⟩)
theorem FM.stk_kept (h : FM B n w b m s o) {S : Nat → Prop} (hm : Mods S w w1) (hs : ∀ a, m.so = some a → ¬ S a.block) : w1.ownsRow B 3 1 (.slice m.so s.stack.length m.sc) s.stack.length (iv s.stack) :=
  own_kept h.stk hm (fun k hk => by
    cases hso : m.so with
    | none => rw [hso] at hk; cases hk
    | some a => rw [hso] at hk; have := hs a hso; rwa [Option.some.inj hk] at this)
theorem FM.cmp_kept (h : FM B n w b m s o) {S : Nat → Prop} (hm : Mods S w w1) (hs : ∀ a, m.co = some a → ¬ S a.block) : w1.ownsRow B 26 1 (.slice m.co s.comps.length m.cc) s.comps.length (hdrs m.R s.comps) :=
  own_kept h.cmp hm (fun k hk => by
    cases hco : m.co with
    | none => rw [hco] at hk; cases hk
    | some a => rw [hco] at hk; have := hs a hco; rwa [Option.some.inj hk] at this)
theorem FM.rows_ne (h : FM B n w b m s o) : ∀ k, Rows m k → k ≠ b ∧ k ≠ m.gN ∧ k ≠ m.gL ∧ k ≠ m.gO ∧ (∀ a, m.so = some a → k ≠ a.block) ∧ ∀ a, m.co = some a → k ≠ a.block := by
  rintro k ⟨r, hr, a, ha, rfl⟩
  obtain ⟨h1, h2, h3, h4⟩ := h.rne r hr a ha
  obtain ⟨i, hi⟩ := List.mem_iff_getElem?.1 hr
  have hil : i < s.comps.length := by have := (List.getElem?_eq_some_iff.1 hi).1; rw [← h.rl]; exact this
  obtain ⟨c, hc⟩ : ∃ c, s.comps[i]? = some c := ⟨_, List.getElem?_eq_getElem hil⟩
  obtain ⟨cur, hg, _⟩ := own_heap (h.row i c r hc hi) a ha
  refine ⟨fun e => ?_, h1, h2, h3, h4, fun a' ha' e => ?_⟩
  · rw [e, h.blk] at hg; simp at hg
  · obtain ⟨cur', hg', _⟩ := own_heap h.cmp a' ha'; rw [e, hg'] at hg; simp at hg
theorem FM.rows_lt (h : FM B n w b m s o) : ∀ k, Rows m k → k < w.heap.size := by
  rintro k ⟨r, hr, a, ha, rfl⟩
  obtain ⟨i, hi⟩ := List.mem_iff_getElem?.1 hr
  have hil : i < s.comps.length := by have := (List.getElem?_eq_some_iff.1 hi).1; rw [← h.rl]; exact this
  obtain ⟨c, hc⟩ : ∃ c, s.comps[i]? = some c := ⟨_, List.getElem?_eq_getElem hil⟩
  obtain ⟨cur, hg, _⟩ := own_heap (h.row i c r hc hi) a ha
  exact heap_lt hg
theorem FM.set_next (h : FM B n w b m s o) (k : Nat) : FM B n (w.setCell ⟨b, 5, none⟩ (.int .i64 (k : Int))) b m { s with next := k } o := by
  have hm : Mods (fun k => k = b) w (w.setCell ⟨b, 5, none⟩ (.int .i64 (k : Int))) := (Mods.refl (fun k => k = b) w).setCell (p := ⟨b, 5, none⟩) (fun _ => rfl) _
  obtain ⟨n1, n2, n3, n4, n5⟩ := h.bne
  refine ⟨h.lo, ?_, hm.heap h.hn (fun e => n1 e.symm), hm.heap h.hl (fun e => n2 e.symm), hm.heap h.ho (fun e => n3 e.symm), h.stk_kept hm (fun a ha e => n4 a ha e), h.cmp_kept hm (fun a ha e => (n5 a ha).1 e), h.rl, h.other hm (fun k hk hr => (h.rows_ne k hr).1 hk), h.ne, h.sne, h.rne⟩
  have := heap_set w b 5 (.int .i64 (k : Int)) b _ _ _ h.blk
  rw [if_pos rfl] at this
  rw [this]; rfl
theorem FM.set_num (h : FM B n w b m s o) (v x : Nat) : FM B n (w.setCell ⟨m.gN, v, none⟩ (.int .i64 (x : Int))) b m { s with num := upd s.num v x } o := by
  have hm : Mods (fun k => k = m.gN) w (w.setCell ⟨m.gN, v, none⟩ (.int .i64 (x : Int))) := (Mods.refl (fun k => k = m.gN) w).setCell (p := ⟨m.gN, v, none⟩) (fun _ => rfl) _
  obtain ⟨n1, n2, n3, n4, n5⟩ := h.bne
  refine ⟨h.lo, hm.heap h.blk n1, ?_, hm.heap h.hl (fun e => h.ne.1 e.symm), hm.heap h.ho (fun e => h.ne.2.1 e.symm), h.stk_kept hm (fun a ha e => (h.sne a ha).1 e), h.cmp_kept hm (fun a ha e => (n5 a ha).2.1 e), h.rl, h.other hm (fun k hk hr => (h.rows_ne k hr).2.1 hk), h.ne, h.sne, h.rne⟩
  have := heap_set w m.gN v (.int .i64 (x : Int)) m.gN _ _ _ h.hn
  rw [if_pos rfl, tab_set] at this
  rw [this, tab_congr n _ (fun y => ((upd s.num v x y : Nat) : Int)) (fun y _ => by simp only [upd]; split <;> rfl)]
theorem FM.set_low (h : FM B n w b m s o) (v x : Nat) : FM B n (w.setCell ⟨m.gL, v, none⟩ (.int .i64 (x : Int))) b m { s with low := upd s.low v x } o := by
  have hm : Mods (fun k => k = m.gL) w (w.setCell ⟨m.gL, v, none⟩ (.int .i64 (x : Int))) := (Mods.refl (fun k => k = m.gL) w).setCell (p := ⟨m.gL, v, none⟩) (fun _ => rfl) _
  obtain ⟨n1, n2, n3, n4, n5⟩ := h.bne
  refine ⟨h.lo, hm.heap h.blk n2, hm.heap h.hn h.ne.1, ?_, hm.heap h.ho (fun e => h.ne.2.2 e.symm), h.stk_kept hm (fun a ha e => (h.sne a ha).2.1 e), h.cmp_kept hm (fun a ha e => (n5 a ha).2.2.1 e), h.rl, h.other hm (fun k hk hr => (h.rows_ne k hr).2.2.1 hk), h.ne, h.sne, h.rne⟩
  have := heap_set w m.gL v (.int .i64 (x : Int)) m.gL _ _ _ h.hl
  rw [if_pos rfl, tab_set] at this
  rw [this, tab_congr n _ (fun y => ((upd s.low v x y : Nat) : Int)) (fun y _ => by simp only [upd]; split <;> rfl)]
theorem FM.set_of (h : FM B n w b m s o) (v : Nat) (x : Int) : FM B n (w.setCell ⟨m.gO, v, none⟩ (.int .i64 x)) b m s (upd o v x) := by
  have hm : Mods (fun k => k = m.gO) w (w.setCell ⟨m.gO, v, none⟩ (.int .i64 x)) := (Mods.refl (fun k => k = m.gO) w).setCell (p := ⟨m.gO, v, none⟩) (fun _ => rfl) _
  obtain ⟨n1, n2, n3, n4, n5⟩ := h.bne
  refine ⟨h.lo, hm.heap h.blk n3, hm.heap h.hn h.ne.2.1, hm.heap h.hl h.ne.2.2, ?_, h.stk_kept hm (fun a ha e => (h.sne a ha).2.2 e), h.cmp_kept hm (fun a ha e => (n5 a ha).2.2.2.1 e), h.rl, h.other hm (fun k hk hr => (h.rows_ne k hr).2.2.2.1 hk), h.ne, h.sne, h.rne⟩
  have := heap_set w m.gO v (.int .i64 x) m.gO _ _ _ h.ho
  rw [if_pos rfl, tab_set] at this
  rw [this]
/-- the stack, a number longer: behind append, and the store of what it hands back -/
theorem FM.set_stack (h : FM B n w b m s o) {w2 : World} {gg cg v : Nat} {bx : Obj} (ho : w2.ownsRow B 3 1 (.slice (some ⟨gg, 0, none⟩) (s.stack.length + 1) cg) (s.stack.length + 1) (iv s.stack ++ [.int .i64 (v : Int)]))
    (hg : (w.alloc bx).grownBy w2 (Value.slice m.so s.stack.length m.sc).ownBlock) (hat : (Value.slice m.so s.stack.length m.sc).ownBlock = some gg ∨ gg = w.heap.size + 1) (hB : B ≤ w.heap.size) :
    FM B n (w2.setCell ⟨b, 4, none⟩ (.slice (some ⟨gg, 0, none⟩) (s.stack.length + 1) cg)) b { m with so := some ⟨gg, 0, none⟩, sc := cg } { s with stack := s.stack ++ [v] } o ∧
      ((∃ a, m.so = some a ∧ gg = a.block) ∨ w.heap.size ≤ gg) ∧ Mods (Foot m b) w (w2.setCell ⟨b, 4, none⟩ (.slice (some ⟨gg, 0, none⟩) (s.stack.length + 1) cg)) := by
  have hM : Mods (fun k => ∃ a, m.so = some a ∧ k = a.block) w w2 := ((Mods.refl _ w).alloc bx).grown hg (fun k hk _ => by
    cases hso : m.so with
    | none => rw [hso] at hk; cases hk
    | some a => rw [hso] at hk; exact ⟨a, rfl, (Option.some.inj hk).symm⟩)
  have hgg : (∃ a, m.so = some a ∧ gg = a.block) ∨ gg = w.heap.size + 1 := by
    rcases hat with h1 | h1
    · cases hso : m.so with
      | none => rw [hso] at h1; cases h1
      | some a => rw [hso] at h1; exact .inl ⟨a, rfl, (Option.some.inj h1).symm⟩
    · exact .inr h1
  obtain ⟨n1, n2, n3, n4, n5⟩ := h.bne
  have hblk2 := hM.heap h.blk (fun ⟨a, ha, e⟩ => n4 a ha e.symm)
  have hm2 : Mods (fun k => k = b) w2 (w2.setCell ⟨b, 4, none⟩ (.slice (some ⟨gg, 0, none⟩) (s.stack.length + 1) cg)) := (Mods.refl (fun k => k = b) w2).setCell (p := ⟨b, 4, none⟩) (fun _ => rfl) _
  have hMM : Mods (fun k => k = b ∨ ∃ a, m.so = some a ∧ k = a.block) w (w2.setCell ⟨b, 4, none⟩ (.slice (some ⟨gg, 0, none⟩) (s.stack.length + 1) cg)) := (hM.mono (fun _ _ h => .inr h)).then hm2 (fun _ _ h => .inl h)
  have hbl := heap_lt h.blk
  have hlt := h.lt
  have hggne : gg ≠ b ∧ gg ≠ m.gN ∧ gg ≠ m.gL ∧ gg ≠ m.gO := by
    rcases hgg with ⟨a, ha, e⟩ | e
    · rw [e]; exact ⟨n4 a ha, h.sne a ha⟩
    · have h1 := (hlt b (.inl rfl)).2
      have h2 := (hlt m.gN (.inr (.inl rfl))).2
      have h3 := (hlt m.gL (.inr (.inr (.inl rfl)))).2
      have h4 := (hlt m.gO (.inr (.inr (.inr (.inl rfl))))).2
      omega
  refine ⟨⟨h.lo, ?_, hMM.heap h.hn ?_, hMM.heap h.hl ?_, hMM.heap h.ho ?_, ?_, h.cmp_kept hMM (fun a ha => ?_), h.rl, h.other hMM (fun k hk hr => ?_), h.ne, fun a ha => ?_, fun r hr a ha => ?_⟩, ?_, hMM.mono (fun k _ hk => ?_)⟩
  · have := heap_set w2 b 4 (.slice (some ⟨gg, 0, none⟩) (s.stack.length + 1) cg) b _ _ _ hblk2
    rw [if_pos rfl] at this
    rw [this]
    simp
  · rintro (e | ⟨a, ha, e⟩)
    · exact n1 e.symm
    · exact (h.sne a ha).1 e.symm
  · rintro (e | ⟨a, ha, e⟩)
    · exact n2 e.symm
    · exact (h.sne a ha).2.1 e.symm
  · rintro (e | ⟨a, ha, e⟩)
    · exact n3 e.symm
    · exact (h.sne a ha).2.2 e.symm
  · show World.ownsRow _ B _ 1 (.slice (some ⟨gg, 0, none⟩) (s.stack ++ [v]).length cg) (s.stack ++ [v]).length (iv (s.stack ++ [v]))
    rw [List.length_append, iv_append]
    exact own_kept ho hm2 (fun k hk e => hggne.1 ((Option.some.inj hk).trans e))
  · rintro (e | ⟨a', ha', e⟩)
    · exact (n5 a ha).1 e
    · exact (n5 a ha).2.2.2.2 a' ha' e
  · obtain ⟨h1, _, _, _, h5, _⟩ := h.rows_ne k hr
    rcases hk with e | ⟨a', ha', e⟩
    · exact h1 e
    · exact h5 a' ha' e
  · obtain rfl := Option.some.inj ha
    exact hggne.2
  · obtain ⟨h1, h2, h3, h4⟩ := h.rne r hr a ha
    refine ⟨h1, h2, h3, fun a' ha' e => ?_⟩
    obtain rfl := Option.some.inj ha'
    rcases hgg with ⟨a2, ha2, e2⟩ | e2
    · exact h4 a2 ha2 (e.trans e2)
    · obtain ⟨i, hi⟩ := List.mem_iff_getElem?.1 hr
      have hil : i < s.comps.length := by have := (List.getElem?_eq_some_iff.1 hi).1; rw [← h.rl]; exact this
      obtain ⟨c, hc⟩ : ∃ c, s.comps[i]? = some c := ⟨_, List.getElem?_eq_getElem hil⟩
      obtain ⟨cur, hgc, _⟩ := own_heap (h.row i c r hc hi) a ha
      have := heap_lt hgc
      simp only at e
      omega
  · rcases hgg with h1 | h1
    · exact .inl h1
    · exact .inr (by omega)
  · rcases hk with e | e
    · exact .inl e
    · exact .inr (.inr (.inr (.inr (.inl e))))
end
end Go.Proofs.Ytmmggeaaheegmaa.K
