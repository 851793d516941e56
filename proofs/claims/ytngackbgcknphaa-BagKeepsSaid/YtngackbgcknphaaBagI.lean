/- The walk of BagKeeps. -/
import Derived.Test.YtngackbgcknphaaBagF
import Derived.Deep.DeepCutAuto
import Derived.StillTailTactics
import Derived.Laws.OwnMore
namespace Go.Proofs.Ytngackbgcknphaa.B
open Go.RowKit M
set_option linter.unusedVariables false

/-- an envelope of one's own, in a box -/
def KeepIn (w1 : World) (f t : Int) (l : List UInt8) (s : Value) (wx : World) : Prop :=
  ∃ bx ao cap, s = .pointer (some ⟨bx, 0, none⟩) ∧ w1.heap.size ≤ bx ∧ wx.heap[bx]? = some (.cells #[.int .i64 f, .int .i64 t, .slice ao l.length cap] 24 (0, 0)) ∧
    wx.ownsRow w1.heap.size 5 1 (.slice ao l.length cap) l.length (byteVals l) ∧ (∀ a, ao = some a → a.block ≠ bx) ∧ Below w1.heap.size w1 wx
/-- bytes that may be written, whatever they are -/
def Some8 (w : World) (ao : Option Addr) (m : Nat) : Prop := ∀ j, j < m → ∃ b off v, ao = some ⟨b, off, none⟩ ∧ w.cell? ⟨b, off + j, none⟩ = some (.int .u8 v) ∧ ∀ o, w.frozen? ⟨b, o, none⟩ = false
theorem Some8.set {w : World} {ao : Option Addr} {m : Nat} (h : Some8 w ao m) (p : Addr) (u : Int) : Some8 (w.setCell p (.int .u8 u)) ao m := by
  intro j hj
  obtain ⟨b, off, v, rfl, h1, h2⟩ := h j hj
  by_cases e : p = ⟨b, off + j, none⟩
  · exact ⟨b, off, u, rfl, by rw [e]; exact World.cell?_setCell_same _ _ _ h1, fun o => by rw [World.frozen?_setCell]; exact h2 o⟩
  · exact ⟨b, off, v, rfl, by rw [World.cell?_setCell_other _ _ _ _ e]; exact h1, fun o => by rw [World.frozen?_setCell]; exact h2 o⟩
theorem Some8.drewN {w : World} {ao : Option Addr} {m : Nat} (h : Some8 w ao m) (n : Nat) : Some8 (w.drewN n) ao m := h
theorem Some8.keep {S : Nat → Prop} {w w1 : World} {ao : Option Addr} {m : Nat} (h : Some8 w ao m) (hm : Mods S w w1) (hs : ∀ k, (∃ p, ao = some p ∧ k = p.block) → ¬ S k) : Some8 w1 ao m := by
  intro j hj
  obtain ⟨b, off, v, rfl, h1, h2⟩ := h j hj
  have hb : b < w.heap.size := World.block_lt_of_cell? w ⟨b, off + j, none⟩ h1
  exact ⟨b, off, v, rfl, (hm.cell (p := ⟨b, off + j, none⟩) hb (hs b ⟨_, rfl, rfl⟩)).trans h1, fun o => (hm.frozen (p := ⟨b, o, none⟩) hb (hs b ⟨_, rfl, rfl⟩)).trans (h2 o)⟩
theorem Some8.of {w : World} {ao : Option Addr} {cap : Nat} {l : List UInt8} (h : BytesV w (.slice ao l.length cap) l) (ht : Thaw w ao) : Some8 w ao l.length := by
  intro j hj
  obtain ⟨ao, cap, e, _, _, _, hc⟩ := h
  cases e
  obtain ⟨b, off, rfl, h1⟩ := hc j hj
  exact ⟨b, off, _, rfl, h1, (ht _ rfl).2⟩
theorem keepin_nil1 (w1 : World) (f t : Int) : KeepIn w1 f t [] (.pointer (some ⟨w1.heap.size + 1, 0, none⟩)) ((w1.alloc (.cells #[] 5)).alloc (.cells #[.int .i64 f, .int .i64 t, .slice (some ⟨w1.heap.size, 0, none⟩) 0 0] 24)).drew := by
  refine ⟨w1.heap.size + 1, some ⟨w1.heap.size, 0, none⟩, 0, rfl, by omega, ?_, ?_, ?_, ?_⟩
  · show ((w1.alloc _).alloc _).heap[_]? = _
    rw [heap_al, if_pos (by simp)]; rfl
  · exact (World.ownsRow_made (base := w1.heap.size) (e := 5) (size := 1) w1 #[] 0 (Nat.le_refl _) (Nat.zero_le _) rfl).alloc _
  · intro a ha; cases ha; show w1.heap.size ≠ _; omega
  · exact (((Below.refl _ _).alloc (Nat.le_refl _) _).alloc (by simp) _).drew
theorem keepin_nil2 (w1 : World) (f t : Int) : KeepIn w1 f t [] (.pointer (some ⟨w1.heap.size, 0, none⟩)) ((w1.alloc (.cells #[.int .i64 f, .int .i64 t, .slice (some ⟨w1.heap.size + 1, 0, none⟩) 0 0] 24)).alloc (.cells #[] 5)).drew := by
  refine ⟨w1.heap.size, some ⟨w1.heap.size + 1, 0, none⟩, 0, rfl, Nat.le_refl _, ?_, ?_, ?_, ?_⟩
  · show ((w1.alloc _).alloc _).heap[_]? = _
    rw [heap_al, if_neg (by simp), heap_al, if_pos rfl]; rfl
  · have h := World.ownsRow_made (base := w1.heap.size) (e := 5) (size := 1) (w1.alloc (.cells #[.int .i64 f, .int .i64 t, .slice (some ⟨w1.heap.size + 1, 0, none⟩) 0 0] 24)) #[] 0 (by simp) (Nat.zero_le _) rfl
    rw [show (w1.alloc (.cells #[.int .i64 f, .int .i64 t, .slice (some ⟨w1.heap.size + 1, 0, none⟩) 0 0] 24)).heap.size = w1.heap.size + 1 by simp] at h
    exact h
  · intro a ha; cases ha; show w1.heap.size + 1 ≠ _; omega
  · exact (((Below.refl _ _).alloc (Nat.le_refl _) _).alloc (by simp) _).drew
/-- append of nothing, as one step of a region that draws -/
theorem step_append_none {P : Program} {w : World} {ops : Array Oper} {o : Oper} {a : Act} {K : Act → World → Prop} {Q : Exit → Act → World → Prop} {E : Prop} (hgd : o.guard = none) (s x : Operand) (t : TypeId)
    (ho : o.op = .call { callee := .builtin .append, args := #[s, x], argTypes := #[t, t] })
    (base : Nat) (e : TypeId) (i : TypeInfo) (size : Nat) (ht : P.underlying t = some (.slice e)) (hi : P.info? e = some i)
    (v : Value) (n : Nat) (xs : List Value) (hs : a.eval s = v) (hown : w.ownsRow base e size v n xs) (hx : a.eval x = .slice none 0 0)
    (h : K (a.put o.dst v) w) : if Region.wanted o (yielded ops a.tmps) = true then Oper.wp P o a w K Q else E := by
  have hw : Region.wanted o (yielded ops a.tmps) = true := by simp [Region.wanted, hgd]
  rw [if_pos hw]
  have hrun := run_append_owned_none (P := P) (w := w) base t o.type e i size ht hi v n xs hown
  unfold Oper.wp
  simp [execOp, ho, resolve, invoke, builtin, hs, hx, hrun, Result.andThen]
  exact h
theorem keepin_alloc {w1 w2 : World} {f t : Int} {l : List UInt8} {ao : Option Addr} {cap : Nat} (hm : Below w1.heap.size w1 w2)
    (h : w2.ownsRow w1.heap.size 5 1 (.slice ao l.length cap) l.length (byteVals l)) :
    KeepIn w1 f t l (.pointer (some ⟨w2.heap.size, 0, none⟩)) (w2.alloc (.cells #[.int .i64 f, .int .i64 t, .slice ao l.length cap] 24)) := by
  refine ⟨w2.heap.size, ao, cap, rfl, hm.size, heap_alloc_new w2 _, h.alloc _, fun a ha => ?_, hm.alloc hm.size _⟩
  obtain ⟨ao', cap', e, _, _, _, h4⟩ := own_view h
  cases e
  obtain ⟨g, cur, rfl, _, hg, _⟩ := h4 a ha
  have := heap_lt hg
  show g ≠ w2.heap.size
  omega
theorem keepin_set {w1 w2 : World} {f t : Int} {l : List UInt8} {ao : Option Addr} {cap : Nat} (bx : Nat) (hb : w1.heap.size ≤ bx) {x y z : Value} (hm : Below w1.heap.size w1 w2)
    (h : w2.ownsRow w1.heap.size 5 1 (.slice ao l.length cap) l.length (byteVals l)) (he : w2.heap[bx]? = some (.cells #[x, y, z] 24 (0, 0))) :
    KeepIn w1 f t l (.pointer (some ⟨bx, 0, none⟩)) (((w2.setCell ⟨bx, 0, none⟩ (.int .i64 f)).setCell ⟨bx, 1, none⟩ (.int .i64 t)).setCell ⟨bx, 2, none⟩ (.slice ao l.length cap)) := by
  have e1 : (w2.setCell ⟨bx, 0, none⟩ (.int .i64 f)).heap[bx]? = some (.cells #[.int .i64 f, y, z] 24 (0, 0)) := by rw [heap_set _ _ _ _ _ _ _ _ he, if_pos rfl]; rfl
  have e2 : ((w2.setCell ⟨bx, 0, none⟩ (.int .i64 f)).setCell ⟨bx, 1, none⟩ (.int .i64 t)).heap[bx]? = some (.cells #[.int .i64 f, .int .i64 t, z] 24 (0, 0)) := by rw [heap_set _ _ _ _ _ _ _ _ e1, if_pos rfl]; rfl
  have e3 : (((w2.setCell ⟨bx, 0, none⟩ (.int .i64 f)).setCell ⟨bx, 1, none⟩ (.int .i64 t)).setCell ⟨bx, 2, none⟩ (.slice ao l.length cap)).heap[bx]? = some (.cells #[.int .i64 f, .int .i64 t, .slice ao l.length cap] 24 (0, 0)) := by rw [heap_set _ _ _ _ _ _ _ _ e2, if_pos rfl]; rfl
  have hmm : Mods (fun k => k = bx) w2 (((w2.setCell ⟨bx, 0, none⟩ (.int .i64 f)).setCell ⟨bx, 1, none⟩ (.int .i64 t)).setCell ⟨bx, 2, none⟩ (.slice ao l.length cap)) :=
    (((Mods.refl (fun k => k = bx) w2).setCell (p := ⟨bx, 0, none⟩) (fun _ => rfl) _).setCell (p := ⟨bx, 1, none⟩) (fun _ => rfl) _).setCell (p := ⟨bx, 2, none⟩) (fun _ => rfl) _
  have hne : ∀ a, ao = some a → a.block ≠ bx := by
    intro a ha
    obtain ⟨ao', cap', e, _, _, _, h4⟩ := own_view h
    cases e
    obtain ⟨g, cur, rfl, _, hg, _⟩ := h4 a ha
    rintro rfl
    rw [he] at hg
    simp at hg
  refine ⟨bx, ao, cap, rfl, hb, e3, own_kept h hmm (fun k hk => ?_), hne, ?_⟩
  · cases ao with
    | none => cases hk
    | some a => simp only [Value.ownBlock, Option.some.injEq] at hk; subst hk; exact hne a rfl
  · exact ((hm.setCell (p := ⟨bx, 0, none⟩) hb _).setCell (p := ⟨bx, 1, none⟩) hb _).setCell (p := ⟨bx, 2, none⟩) hb _
set_option maxRecDepth 100000 in
set_option maxHeartbeats 2000000 in
theorem keeps_any (W : World) (f t : Int) (eo : Option Addr) (cap : Nat) (l : List UInt8) (hv : BytesV W (.slice eo l.length cap) l) (hw : BytesAway (fun k => W.heap.size ≤ k) (.slice eo l.length cap) l) (hl : l.length ≤ 100) :
    Calls Try.prog 3 #[.agg #[.int .i64 f, .int .i64 t, .slice eo l.length cap]] W fun e w' => e = .returned (.bool true) ∧ Below W.heap.size W w' := by
  obtain ⟨i0, hi, hz0, hz1, hz2⟩ := info_parts info_u8
  have HV := Lib.hid hv
  have HW := Lib.hid hw
  have hl0 : ¬ (100 : Int) < (l.length : Int) := by omega
  clear hv hw
  go_enter Try.func3, Try.ntmps3
  go_wp2_with fail
  obtain ⟨W1, hW1⟩ : ∃ W1, W1 = W.alloc (.cells #[.int .i64 f, .int .i64 t, .slice eo l.length cap] 24) := ⟨_, rfl⟩
  have hbx : W1.heap[W.heap.size]? = some (.cells #[.int .i64 f, .int .i64 t, .slice eo l.length cap] 24 (0, 0)) := by rw [hW1]; exact heap_alloc_new W _
  have hB1 : Below W.heap.size W W1 := by rw [hW1]; exact (Below.refl _ _).alloc (Nat.le_refl _) _
  rw [← hW1]
  obtain ⟨n, hn⟩ : ∃ n, W1.heap.size = n := ⟨_, rfl⟩
  have hWn : W.heap.size < n := by rw [← hn]; exact (Array.getElem?_eq_some_iff.1 hbx).1
  refine (new_any 4 _ (by decide) (by decide)).mono ?_
  rintro e w1 ⟨rfl, h1, b1⟩
  rw [hn] at h1 b1 ⊢
  have h1 : BagAt n w1 n 4 [] none 0 := h1
  have hbx1 : w1.heap[W.heap.size]? = some (.cells #[.int .i64 f, .int .i64 t, .slice eo l.length cap] 24 (0, 0)) := (b1.block _ hWn).trans hbx
  have HB := Lib.hid h1
  have HVW1 : BytesV W1 (.slice eo l.length cap) l := HV.out.keep (Mods.of_below (S := fun _ => False) hB1) (fun _ _ _ h => h)
  have HBASE := Lib.hid (show ∀ w, Below n W1 w → (w.cell? ⟨W.heap.size, 0, none⟩ = some (.int .i64 f) ∧ w.cell? ⟨W.heap.size, 1, none⟩ = some (.int .i64 t) ∧ w.cell? ⟨W.heap.size, 2, none⟩ = some (.slice eo l.length cap)) ∧ BytesV w (.slice eo l.length cap) l ∧ Below W.heap.size W w from fun w hb =>
    ⟨(box3 ((hb.block _ hWn).trans hbx)).1, HVW1.keep (Mods.of_below (S := fun _ => False) (by rw [hn]; exact hb)) (fun _ _ _ h => h), hB1.trans (hb.mono (by omega))⟩)
  have HN1 := Lib.hid (show Below n W1 w1 from b1)
  have HW1 := Lib.hid (hB1.trans (b1.mono (by omega)))
  have HX := Lib.hid hbx1
  have HV1 := Lib.hid (HV.out.keep (S := fun k => W.heap.size ≤ k) ⟨HW1.out.os, HW1.out.tape, HW1.out.output, HW1.out.size, fun k hk hn => HW1.out.block k (by omega)⟩ HW.out)
  obtain ⟨⟨c0, c1, c2⟩, _, _⟩ := box3 hbx1
  have hz1' : W.heap.size < w1.heap.size := (Array.getElem?_eq_some_iff.1 hbx1).1
  have hnw : n < w1.heap.size := (HB.out.lt n (.inl rfl)).2
  clear hW1 hbx hB1 hn h1 b1 hbx1 HVW1
  go_wp2_with fail
  have hne1 : ¬ w1.heap.size + 1 = W.heap.size := by omega
  have hne2 : ¬ w1.heap.size = W.heap.size := by omega
  go_upto_region 4 with fail
  go_cut [4] (fun s wx => KeepIn w1 f t l s wx)
  case first =>
   cases eo with
   | none =>
    obtain ⟨rfl, rfl⟩ : l = [] ∧ cap = 0 := by
      obtain ⟨_, _, e0, h1, _, h3, _⟩ := HV1.out
      cases e0
      have := h3 rfl
      exact ⟨List.eq_nil_of_length_eq_zero (by omega), this⟩
    have c2 : w1.cell? ⟨W.heap.size, 2, none⟩ = some (.slice none 0 0) := c2
    have HOW := Lib.hid (World.ownsRow_made (base := w1.heap.size) (e := 5) (size := 1) w1 #[] 0 (Nat.le_refl _) (Nat.zero_le _) rfl)
    have HOW3 := Lib.hid (show ((w1.alloc (.cells #[.int .i64 0, .int .i64 0, .slice none 0 0] 24)).alloc (.cells #[] 5)).ownsRow w1.heap.size 5 1 (.slice (some ⟨w1.heap.size + 1, 0, none⟩) 0 0) 0 [] from by
      have h := World.ownsRow_made (base := w1.heap.size) (e := 5) (size := 1) (w1.alloc (.cells #[.int .i64 0, .int .i64 0, .slice none 0 0] 24)) #[] 0 (by simp) (Nat.zero_le _) rfl
      rwa [show (w1.alloc (.cells #[.int .i64 0, .int .i64 0, .slice none 0 0] 24)).heap.size = w1.heap.size + 1 by simp] at h)
    go_region_held3 (fun w' => w'.cell? ⟨W.heap.size, 0, none⟩ = some (.int .i64 f) ∧ w'.cell? ⟨W.heap.size, 1, none⟩ = some (.int .i64 t) ∧ w'.cell? ⟨W.heap.size, 2, none⟩ = some (.slice none 0 0))
     (go_keep)
     ((first
      | (refine step_append_none (by rfl) (.tmp 22) (.tmp 24) 22 (by rfl) w1.heap.size 5 i0 1 Try.underlying22 hi  (.slice (some ⟨w1.heap.size, 0, none⟩) 0 0) 0 [] (by rfl) (by exact HOW.out) (by rfl) ?_)
      | (refine step_append_none (by rfl) (.tmp 22) (.tmp 24) 22 (by rfl) w1.heap.size 5 i0 1 Try.underlying22 hi  (.slice (some ⟨w1.heap.size, 0, none⟩) 0 0) 0 [] (by rfl) (by exact HOW.out.alloc _) (by rfl) ?_)
      | (refine step_append_none (by rfl) (.tmp 22) (.tmp 24) 22 (by rfl) w1.heap.size 5 i0 1 Try.underlying22 hi  (.slice (some ⟨w1.heap.size + 1, 0, none⟩) 0 0) 0 [] (by rfl) (by exact HOW3.out) (by rfl) ?_)))
    all_goals
     (first | go_meet | (go_wp2_with fail; go_meet))
    case rel => exact keepin_nil1 w1 f t
    case rel => exact keepin_nil1 w1 f t
    case rel => exact keepin_nil2 w1 f t
   | some a =>
    have hnl := byteVals_length l
    have hcl : ∀ j u, (byteVals l)[j]? = some u → w1.cell? (a.add j) = some u := by
      obtain ⟨_, _, e0, _, _, _, hc⟩ := HV1.out
      cases e0
      intro j u hu
      have hj : j < l.length := by have := (List.getElem?_eq_some_iff.1 hu).1; rwa [byteVals_length] at this
      obtain ⟨b, off, ha, h0⟩ := hc j hj
      obtain rfl := Option.some.inj ha
      rw [byteVals_get l j hj] at hu
      rw [Addr.add_lit, h0]; exact hu
    have HCC := Lib.hid (show ∀ j u, (byteVals l)[j]? = some u → (w1.alloc (.cells #[] 5)).drew.cell? (a.add j) = some u from fun j u hu => by
      have h := hcl j u hu
      show (w1.alloc _).cell? _ = _
      rw [World.cell?_alloc_some _ _ _ (by rw [h]; rfl)]; exact h)
    have HOW := Lib.hid (World.ownsRow_made (base := w1.heap.size) (e := 5) (size := 1) w1 #[] 0 (Nat.le_refl _) (Nat.zero_le _) rfl)
    have HOW3 := Lib.hid (show ((w1.alloc (.cells #[.int .i64 0, .int .i64 0, .slice none 0 0] 24)).alloc (.cells #[] 5)).ownsRow w1.heap.size 5 1 (.slice (some ⟨w1.heap.size + 1, 0, none⟩) 0 0) 0 [] from by
      have h := World.ownsRow_made (base := w1.heap.size) (e := 5) (size := 1) (w1.alloc (.cells #[.int .i64 0, .int .i64 0, .slice none 0 0] 24)) #[] 0 (by simp) (Nat.zero_le _) rfl
      rwa [show (w1.alloc (.cells #[.int .i64 0, .int .i64 0, .slice none 0 0] 24)).heap.size = w1.heap.size + 1 by simp] at h)
    have HCC2 := Lib.hid (show ∀ j u, (byteVals l)[j]? = some u → ((w1.alloc (.cells #[] 5)).alloc (.cells #[.int .i64 0, .int .i64 0, .slice none 0 0] 24)).drew.cell? (a.add j) = some u from fun j u hu => by
      have h := HCC.out j u hu
      have h : (w1.alloc (.cells #[] 5)).cell? (a.add j) = some u := h
      show ((w1.alloc _).alloc _).cell? _ = _
      rw [World.cell?_alloc_some _ _ _ (by rw [h]; rfl)]; exact h)
    have HCC3 := Lib.hid (show ∀ j u, (byteVals l)[j]? = some u → ((w1.alloc (.cells #[.int .i64 0, .int .i64 0, .slice none 0 0] 24)).alloc (.cells #[] 5)).drew.cell? (a.add j) = some u from fun j u hu => by
      have h := hcl j u hu
      have h2 : (w1.alloc (.cells #[.int .i64 0, .int .i64 0, .slice none 0 0] 24)).cell? (a.add j) = some u := by rw [World.cell?_alloc_some _ _ _ (by rw [h]; rfl)]; exact h
      show ((w1.alloc _).alloc _).cell? _ = _
      rw [World.cell?_alloc_some _ _ _ (by rw [h2]; rfl)]; exact h2)
    have HONE := Lib.hid (show ∀ u ∈ byteVals l, u.oneCell' = true from fun u hu => by
      obtain ⟨b, _, rfl⟩ := List.mem_map.1 hu; rfl)
    have HN := Lib.hid (show (byteVals l).length = l.length * 1 by rw [hnl, Nat.mul_one])
    have hcap : cap ≤ 9223372036854775807 := by obtain ⟨_, _, e0, _, h2, _⟩ := HV1.out; cases e0; unfold maxLen at h2; omega
    clear hcl hnl
    go_region_held3 (fun w' => w'.cell? ⟨W.heap.size, 0, none⟩ = some (.int .i64 f) ∧ w'.cell? ⟨W.heap.size, 1, none⟩ = some (.int .i64 t) ∧ w'.cell? ⟨W.heap.size, 2, none⟩ = some (.slice (some a) l.length cap))
     (go_keep)
     ((first
       | (refine step_append_own (by rfl) (.tmp 22) (.tmp 24) 22 (by rfl) w1.heap.size 5 i0 (.int .u8 0) 1 1 Try.underlying22 hi hz0 hz1 hz2 rfl (by decide) (.slice (some ⟨w1.heap.size, 0, none⟩) 0 0) 0 [] (by rfl) (by exact HOW.out) a l.length cap (byteVals l) (by rfl) HN.out HCC.out HONE.out (by unfold maxLen; omega) (by omega) (by simp; try omega) ?_; intro ao' cap' w2 hown hgrow; have k0 := hgrow.cell_far ⟨W.heap.size, 0, none⟩ (by simp; omega) (by simp [Value.ownBlock]; omega); have k1 := hgrow.cell_far ⟨W.heap.size, 1, none⟩ (by simp; omega) (by simp [Value.ownBlock]; omega); have k2 := hgrow.cell_far ⟨W.heap.size, 2, none⟩ (by simp; omega) (by simp [Value.ownBlock]; omega); have hzz := hgrow.size; have hz2 : W.heap.size < w2.heap.size := (by simp at hzz; omega))
       | (refine step_append_own (by rfl) (.tmp 22) (.tmp 24) 22 (by rfl) w1.heap.size 5 i0 (.int .u8 0) 1 1 Try.underlying22 hi hz0 hz1 hz2 rfl (by decide) (.slice (some ⟨w1.heap.size, 0, none⟩) 0 0) 0 [] (by rfl) (by exact HOW.out.alloc _) a l.length cap (byteVals l) (by rfl) HN.out HCC2.out HONE.out (by unfold maxLen; omega) (by omega) (by simp; try omega) ?_; intro ao' cap' w2 hown hgrow; have k0 := hgrow.cell_far ⟨W.heap.size, 0, none⟩ (by simp; omega) (by simp [Value.ownBlock]; omega); have k1 := hgrow.cell_far ⟨W.heap.size, 1, none⟩ (by simp; omega) (by simp [Value.ownBlock]; omega); have k2 := hgrow.cell_far ⟨W.heap.size, 2, none⟩ (by simp; omega) (by simp [Value.ownBlock]; omega); have hzz := hgrow.size; have hz2 : W.heap.size < w2.heap.size := (by simp at hzz; omega); have e3 : w2.heap[w1.heap.size + 1]? = some (.cells #[.int .i64 0, .int .i64 0, .slice none 0 0] 24 (0, 0)) := (hgrow.block _ (by simp) (by simp [Value.ownBlock])).trans (by show ((w1.alloc _).alloc _).heap[_]? = _; rw [heap_al, if_pos (by simp)]); obtain ⟨⟨z0, z1, z2⟩, zf, _⟩ := box3 e3; have HE3 := Lib.hid e3; clear e3)
       | (refine step_append_own (by rfl) (.tmp 22) (.tmp 24) 22 (by rfl) w1.heap.size 5 i0 (.int .u8 0) 1 1 Try.underlying22 hi hz0 hz1 hz2 rfl (by decide) (.slice (some ⟨w1.heap.size + 1, 0, none⟩) 0 0) 0 [] (by rfl) (by exact HOW3.out) a l.length cap (byteVals l) (by rfl) HN.out HCC3.out HONE.out (by unfold maxLen; omega) (by omega) (by simp; try omega) ?_; intro ao' cap' w2 hown hgrow; have k0 := hgrow.cell_far ⟨W.heap.size, 0, none⟩ (by simp; omega) (by simp [Value.ownBlock]; omega); have k1 := hgrow.cell_far ⟨W.heap.size, 1, none⟩ (by simp; omega) (by simp [Value.ownBlock]; omega); have k2 := hgrow.cell_far ⟨W.heap.size, 2, none⟩ (by simp; omega) (by simp [Value.ownBlock]; omega); have hzz := hgrow.size; have hz2 : W.heap.size < w2.heap.size := (by simp at hzz; omega); have e3 : w2.heap[w1.heap.size]? = some (.cells #[.int .i64 0, .int .i64 0, .slice none 0 0] 24 (0, 0)) := (hgrow.block _ (by simp; omega) (by simp [Value.ownBlock])).trans (by show ((w1.alloc _).alloc _).heap[_]? = _; rw [heap_al, if_neg (by simp), heap_al, if_pos rfl]); obtain ⟨⟨z0, z1, z2⟩, zf, _⟩ := box3 e3; have HE3 := Lib.hid e3; clear e3)))
    all_goals
      (first | go_meet | (go_wp2_with fail; go_meet))
    case rel =>
      exact keepin_alloc (((((Below.refl _ _).alloc (Nat.le_refl _) _).drew).grown hgrow (by show _ ≤ _; simp; try omega) (by intro k hk; simp [Value.ownBlock] at hk; omega))) (by simpa using hown)
    case rel =>
      exact keepin_set _ (by omega) ((((((Below.refl _ _).alloc (Nat.le_refl _) _).alloc (by simp) _).drew).grown hgrow (by show _ ≤ _; simp; try omega) (by intro k hk; simp [Value.ownBlock] at hk; omega))) (by simpa using hown) HE3.out
    case rel =>
      exact keepin_set _ (by omega) ((((((Below.refl _ _).alloc (Nat.le_refl _) _).alloc (by simp) _).drew).grown hgrow (by show _ ≤ _; simp; try omega) (by intro k hk; simp [Value.ownBlock] at hk; omega))) (by simpa using hown) HE3.out
  case rest =>
   clear HX HV1 c0 c1 c2
   obtain ⟨bx, ao, c, rfl, hbx, hblk, hown, hne, hbel⟩ := hcut
   have HX1 := Lib.hid (HN1.out.trans (hbel.mono (by omega)))
   have HBG := Lib.hid (HB.out.below hbel)
   have HBLK := Lib.hid hblk
   have HBYT := Lib.hid (BytesV.of_own hown)
   have HNE := Lib.hid hne
   have HAO := Lib.hid (show (∀ p, ao = some p → w1.heap.size ≤ p.block ∧ p.block < wc.heap.size) ∧ Thaw wc ao from ⟨fun p hp => hown.lt p.block (by rw [hp]; rfl), Thaw.of_own hown⟩)
   obtain ⟨⟨i0', i1, i2⟩, _, _⟩ := box3 hblk
   have hbxl := heap_lt hblk
   clear hblk hown hne hbel
   go_wp2_with fail
   refine (put_any n _ n 4 [] none 0 HBG.out ⟨f, t, ao, c, l⟩ HBYT.out hl (by decide) (by decide)).mono ?_
   rintro e w2 ⟨rfl, y, ao2, cap2, hy, hb2, ⟨hf2, hy2⟩, hm2⟩
   obtain ⟨yf, yt, yao, yc, yl⟩ := y
   obtain ⟨rfl, rfl, rfl⟩ : f = yf ∧ t = yt ∧ l = yl := by simpa [E.key, eq_comm] using hy
   have HB2 := Lib.hid hb2
   have HF2 := Lib.hid (And.intro hf2 hy2)
   have HM2 := Lib.hid hm2
   clear hb2 hf2 hy2 hm2 hy
   go_wp2_with fail
   refine (twice_in n _ n 4 _ ao2 cap2 HB2.out 0 _ rfl (by simp) (by decide)).mono ?_
   rintro e w3 ⟨rfl, z, ao3, cap3, hz, hb3, ⟨hf3, hz3⟩, hm3⟩
   obtain ⟨zf, zt, zao, zc, zl⟩ := z
   obtain ⟨rfl, rfl, rfl⟩ : f = zf ∧ t = zt ∧ l = zl := by simpa [E.key, eq_comm] using hz
   have HB3 := Lib.hid hb3
   have HF3 := Lib.hid (And.intro hf3 hz3)
   have HM3 := Lib.hid hm3
   clear hb3 hf3 hz3 hm3 hz
   go_wp2_with fail
   refine (at_in n _ n 4 _ ao3 cap3 HB3.out 0 _ rfl).mono ?_
   rintro e w4 ⟨ao4, cap4, rfl, hbv4, hfr4, b4, ht4⟩
   have HV4 := Lib.hid hbv4
   have HF4 := Lib.hid hfr4
   have HB4 := Lib.hid b4
   have HT4 := Lib.hid ht4
   clear hbv4 hfr4 b4 ht4
   go_wp2_with fail
   obtain ⟨W5, hW5⟩ : ∃ W5, W5 = w4.alloc (.cells #[.int .i64 f, .int .i64 t, .slice ao4 l.length cap4] 24) := ⟨_, rfl⟩
   have hbx5 : W5.heap[w4.heap.size]? = some (.cells #[.int .i64 f, .int .i64 t, .slice ao4 l.length cap4] 24 (0, 0)) := by rw [hW5]; exact heap_alloc_new w4 _
   have hM45 : Mods (fun _ => False) w4 W5 := by rw [hW5]; exact (Mods.refl _ w4).alloc _
   rw [← hW5]
   clear hW5
   have hs2 := HM2.out.size
   have hs3 := HM3.out.size
   have hs4 := HB4.out.size
   have hs5 := hM45.size
   have hF3 : ∀ k, Foot n ao3 k → (k = n ∨ wc.heap.size ≤ k) ∧ k < w3.heap.size := fun k hk => ⟨by
     rcases HF3.out.1 k hk with h | h
     · rcases HF2.out.1 k h with h | h
       · rcases h with h | ⟨_, h, _⟩
         · exact .inl h
         · cases h
       · exact .inr h
     · exact .inr (by omega), (HB3.out.lt k hk).2⟩
   have hMT : Mods (fun k => k = n ∨ wc.heap.size ≤ k) wc W5 := by
     refine (((HM2.out.mono (fun k _ h => ?_)).then HM3.out (fun k _ h => ?_)).then (Mods.of_below (S := fun _ => False) HB4.out) (fun _ _ h => h.elim)).then hM45 (fun _ _ h => h.elim)
     · rcases h with h | ⟨_, h, _⟩
       · exact .inl h
       · cases h
     · rcases HF2.out.1 k h with h | h
       · rcases h with h | ⟨_, h, _⟩
         · exact .inl h
         · cases h
       · exact .inr h
   have hBX : W5.heap[bx]? = some (.cells #[.int .i64 f, .int .i64 t, .slice ao l.length c] 24 (0, 0)) := hMT.heap HBLK.out (by omega)
   have hX5 : Below n W1 W5 := HX1.out.trans (hMT.below (fun k h => by rcases h with h | h <;> omega) (by omega))
   obtain ⟨S, hS⟩ : ∃ S : Nat → Prop, ∀ k, S k ↔ ((∃ p, ao = some p ∧ k = p.block) ∨ (∃ p, ao4 = some p ∧ k = p.block)) := ⟨_, fun _ => Iff.rfl⟩
   have hSS : ∀ k, S k → n < k ∧ k ≠ bx ∧ k ≠ w4.heap.size ∧ ((k < wc.heap.size) ∨ w3.heap.size ≤ k) := by
     intro k hk
     rcases (hS k).1 hk with ⟨p, hp, rfl⟩ | ⟨p, hp, rfl⟩
     · have h1 := HAO.out.1 p hp
       exact ⟨by omega, HNE.out p hp, by omega, .inl h1.2⟩
     · have h1 := HF4.out p hp
       have h2 := (HT4.out p hp).1
       exact ⟨by omega, by omega, by omega, .inr h1⟩
   have h81 : Some8 W5 ao l.length := (Some8.of HBYT.out HAO.out.2).keep hMT (by
     rintro k ⟨p, hp, rfl⟩ h
     have := HAO.out.1 p hp
     omega)
   have h82 : Some8 W5 ao4 l.length := (Some8.of HV4.out HT4.out).keep hM45 (fun _ _ h => h)
   have hBag : BagAt n W5 n 4 [⟨f, t, yao, yc, l⟩, ⟨f, t, zao, zc, l⟩] ao3 cap3 := (HB3.out.below HB4.out).keep hM45 (fun _ h => h.elim) (fun _ _ _ _ _ h => h)
   have HAFTER := Lib.hid (show ∀ wr, Mods S W5 wr → BagAt n wr n 4 [⟨f, t, yao, yc, l⟩, ⟨f, t, zao, zc, l⟩] ao3 cap3 ∧ Below n W1 wr ∧ (wr.cell? ⟨bx, 0, none⟩ = some (.int .i64 f) ∧ wr.cell? ⟨bx, 1, none⟩ = some (.int .i64 t) ∧ wr.cell? ⟨bx, 2, none⟩ = some (.slice ao l.length c)) ∧ (wr.cell? ⟨w4.heap.size, 0, none⟩ = some (.int .i64 f) ∧ wr.cell? ⟨w4.heap.size, 1, none⟩ = some (.int .i64 t) ∧ wr.cell? ⟨w4.heap.size, 2, none⟩ = some (.slice ao4 l.length cap4)) from fun wr hm =>
     ⟨hBag.keep hm (fun k hk hF => by
         have h1 := hSS k hk
         have h2 := hF3 k hF
         omega) (fun x hx k hk hne hSk => by
         have h1 := hSS k hSk
         rcases List.mem_cons.1 hx with rfl | hx
         · have h2 := HF2.out.2 k hk
           have h3 := (HB3.out.ok _ (by simp)).1.lt k hk hne
           omega
         · obtain rfl := List.mem_singleton.1 hx
           have h2 := HF3.out.2 k hk
           have h3 := (HB3.out.ok _ (by simp)).1.lt k hk hne
           omega),
      hX5.trans (hm.below (fun k hk => by have := hSS k hk; omega) (by omega)),
      (box3 (hm.heap hBX (fun h => (hSS _ h).2.1 rfl))).1, (box3 (hm.heap hbx5 (fun h => (hSS _ h).2.2.1 rfl))).1⟩)
   have H81 := Lib.hid h81
   have H82 := Lib.hid h82
   have HS := Lib.hid hS
   have HSS := Lib.hid hSS
   have hz5 : w4.heap.size < W5.heap.size := heap_lt hbx5
   clear hS h81 h82 hBag hSS hX5 hBX hMT hF3 hM45 hbx5 i0' i1 i2
   go_loopw [7] (fun i wr => ∃ k : Nat, i = .int .i64 k ∧ k ≤ l.length ∧ Mods S W5 wr ∧ Some8 wr ao l.length ∧ Some8 wr ao4 l.length) (fun i _ => l.length - (intOf i).toNat)
   case atStart => exact ⟨0, rfl, Nat.zero_le _, Mods.refl _ _, H81.out, H82.out⟩
   case round =>
    obtain ⟨k, rfl, hk, hmr, hr1, hr2⟩ := hrel
    obtain ⟨_, _, ⟨b0, b1, b2⟩, ⟨x0, x1, x2⟩⟩ := HAFTER.out _ hmr
    by_cases hlt : k < l.length
    · obtain ⟨p, po, v, rfl, hc1, hf1⟩ := hr1 k hlt
      obtain ⟨q, qo, u, rfl, hc2, hf2⟩ := hr2 k hlt
      have hp := HSS.out p ((HS.out p).2 (.inl ⟨_, rfl, rfl⟩))
      have hq := HSS.out q ((HS.out q).2 (.inr ⟨_, rfl, rfl⟩))
      have hkl : (k : Int) < (l.length : Int) := by omega
      go_wp2_with fail
      have hpw : p < wc.heap.size := (HAO.out.1 _ rfl).2
      have hqw : w3.heap.size ≤ q := HF4.out _ rfl
      have hqp : ¬ q = p := by omega
      have hpq : ¬ p = q := by omega
      have hxp : ¬ w4.heap.size = p := by omega
      have hpx : ¬ p = w4.heap.size := by omega
      go_still_tail 10, (by kernel_rfl)
      go_wp2_with fail
      obtain ⟨w6, hw6⟩ : ∃ w6, w6 = (wr.setCell ⟨p, po + k, none⟩ (.int .u8 ((v + 1) % 256))).drew := ⟨_, rfl⟩
      have hm6 : Mods S wr w6 := by rw [hw6]; exact ((Mods.refl S wr).setCell (p := ⟨p, po + k, none⟩) (fun _ => (HS.out p).2 (.inl ⟨_, rfl, rfl⟩)) _).drew
      have g1 : Some8 w6 (some ⟨p, po, none⟩) l.length := by rw [hw6]; exact (hr1.set _ _).drewN 1
      have g2 : Some8 w6 (some ⟨q, qo, none⟩) l.length := by rw [hw6]; exact (hr2.set _ _).drewN 1
      have hmm := hmr.trans hm6
      obtain ⟨_, _, _, ⟨y0, y1, y2⟩⟩ := HAFTER.out _ hmm
      obtain ⟨_, _, u', e1, hc3, hf3⟩ := g2 k hlt
      obtain ⟨rfl, rfl⟩ : _ = _ ∧ _ = _ := by simpa using e1
      rw [← hw6]
      have HMM := Lib.hid hmm
      have HG1 := Lib.hid g1
      have HG2 := Lib.hid g2
      clear hw6 hm6 g1 g2 hmm hmr hr1 hr2 hc2 hf2 hc1 hf1 b0 b1 b2 x0 x1 x2 e1
      go_still_tail 10, (by kernel_rfl)
      go_wp2_with fail
      go_roundw
      case rel => exact ⟨k + 1, by go_num, by omega, (HMM.out.setCell (p := ⟨q, qo + k, none⟩) (fun _ => (HS.out q).2 (.inr ⟨_, rfl, rfl⟩)) _).drew, (HG1.out.set _ _).drewN 1, (HG2.out.set _ _).drewN 1⟩
      case measure => simp [intOf]; omega
    · have hkl : ¬ (k : Int) < (l.length : Int) := by omega
      obtain ⟨hb, hx, _, _⟩ := HAFTER.out _ hmr
      have HBr := Lib.hid hb
      have HXr := Lib.hid hx
      clear hb hx x0 x1 x2 hr1 hr2 hmr
      go_wp2_with fail
      refine (at_in n _ n 4 _ ao3 cap3 HBr.out 0 _ rfl).mono ?_
      rintro e w7 ⟨ao7, cap7, rfl, hbv7, hfr7, b7, _⟩
      have HV7 := Lib.hid hbv7
      have HF7 := Lib.hid hfr7
      have HB7 := Lib.hid b7
      clear hbv7 hfr7 b7 b0 b1 b2
      go_wp2_with fail
      obtain ⟨W8, hW8⟩ : ∃ W8, W8 = w7.alloc (.cells #[.int .i64 f, .int .i64 t, .slice ao7 l.length cap7] 24) := ⟨_, rfl⟩
      have hbx8 : W8.heap[w7.heap.size]? = some (.cells #[.int .i64 f, .int .i64 t, .slice ao7 l.length cap7] 24 (0, 0)) := by rw [hW8]; exact heap_alloc_new w7 _
      have hM8 : Mods (fun _ => False) w7 W8 := by rw [hW8]; exact (Mods.refl _ w7).alloc _
      rw [← hW8]
      have HB8 := Lib.hid ((HBr.out.below HB7.out).keep hM8 (fun _ h => h.elim) (fun _ _ _ _ _ h => h))
      refine (take_in n _ n 4 _ ao3 cap3 HB8.out 1 _ rfl).mono ?_
      rintro e w9 ⟨ao9, cap9, rfl, hbv9, _, _, hm9⟩
      have HM9 := Lib.hid hm9
      have HV9 := Lib.hid hbv9
      have HX8 := Lib.hid hbx8
      have HM8 := Lib.hid hM8
      clear hW8 hbx8 hM8 hm9 hbv9
      have hfl : ∀ q, Foot n ao3 q → n ≤ q ∧ q < wr.heap.size := fun q hq => HBr.out.lt q hq
      have hnr : n < wr.heap.size := (hfl n (.inl rfl)).2
      have hs7 := HB7.out.size
      have hs8 := HM8.out.size
      have hs9 := HM9.out.size
      have hz8 := heap_lt HX8.out
      have hbx7 : w9.heap[w7.heap.size]? = some (.cells #[.int .i64 f, .int .i64 t, .slice ao7 l.length cap7] 24 (0, 0)) := HM9.out.heap HX8.out (fun h => by have := hfl _ h; omega)
      have hn9 : Below n W1 w9 := 
        HXr.out.trans (Below.trans (HB7.out.mono (by omega)) (Below.trans (HM8.out.below (fun _ h => h.elim) (by omega)) (HM9.out.below (fun q hq => (hfl q hq).1) (by omega))))
      obtain ⟨⟨e0, e1, e2⟩, hve, hW9⟩ := HBASE.out _ hn9
      obtain ⟨p0, p1, p2⟩ := (box3 hbx7).1
      have hv7 : BytesV w9 (.slice ao7 l.length cap7) l := (HV7.out.keep HM8.out (fun _ _ _ h => h)).keep HM9.out (fun q hq _ hF => by
        cases ao7 with
        | none => cases hq
        | some z => have h1 := HF7.out z rfl; have h2 := hfl q hF; simp only [Value.ownBlock, Option.some.injEq] at hq; omega)
      have HW9 := Lib.hid hW9
      have HVE := Lib.hid hve
      have HV7' := Lib.hid hv7
      have HEQ := Lib.hid (show ∀ (x y : Option Addr) (u v : Nat), decide ((⟨f, t, x, u, l⟩ : E).key = (⟨f, t, y, v, l⟩ : E).key) = true from fun _ _ _ _ => decide_eq_true rfl)
      clear hW9 hve hv7 hfl hbx7 hn9
      have hlW : W.heap.size < w9.heap.size := by omega
      have hl7 : w7.heap.size < w9.heap.size := by omega
      have hMA : Mods (fun _ => False) w9 (w9.alloc (.cells #[.int .i64 f, .int .i64 t, .slice ao9 l.length cap9] 24)) := (Mods.refl _ w9).alloc _
      have r0 := (hMA.cell (p := ⟨W.heap.size, 0, none⟩) hlW (fun h => h)).trans e0
      have r1 := (hMA.cell (p := ⟨W.heap.size, 1, none⟩) hlW (fun h => h)).trans e1
      have r2 := (hMA.cell (p := ⟨W.heap.size, 2, none⟩) hlW (fun h => h)).trans e2
      have t0 := (hMA.cell (p := ⟨w7.heap.size, 0, none⟩) hl7 (fun h => h)).trans p0
      have t1 := (hMA.cell (p := ⟨w7.heap.size, 1, none⟩) hl7 (fun h => h)).trans p1
      have t2 := (hMA.cell (p := ⟨w7.heap.size, 2, none⟩) hl7 (fun h => h)).trans p2
      clear hMA e0 e1 e2 p0 p1 p2
      go_wp2_with fail
      obtain ⟨W10, hW10⟩ : ∃ W10, W10 = w9.alloc (.cells #[.int .i64 f, .int .i64 t, .slice ao9 l.length cap9] 24) := ⟨_, rfl⟩
      have hbx10 : W10.heap[w9.heap.size]? = some (.cells #[.int .i64 f, .int .i64 t, .slice ao9 l.length cap9] 24 (0, 0)) := by rw [hW10]; exact heap_alloc_new w9 _
      have hM10 : Mods (fun _ => False) w9 W10 := by rw [hW10]; exact (Mods.refl _ w9).alloc _
      rw [← hW10]
      have hs10 := hM10.size
      have hz10 := heap_lt hbx10
      obtain ⟨p0', p1', p2'⟩ := (box3 hbx10).1
      rw [← hW10] at r0 r1 r2
      have HW10 := Lib.hid (show Below W.heap.size W W10 by rw [hW10]; exact HW9.out.alloc HW9.out.size _)
      have HVE := Lib.hid (HVE.out.keep hM10 (fun _ _ _ h => h))
      have HV7 := Lib.hid (HV7'.out.keep hM10 (fun _ _ _ h => h))
      have HV9 := Lib.hid (HV9.out.keep hM10 (fun _ _ _ h => h))
      clear hW10 hbx10 hM10 t0 t1 t2
      refine (same_any ⟨f, t, ao7, cap7, l⟩ ⟨f, t, eo, cap, l⟩ W10 (fun _ => False) (fun _ => False) ⟨HV7.out, fun _ _ _ h => h, hl⟩ ⟨HVE.out, fun _ _ _ h => h, hl⟩ true (HEQ.out _ _ _ _)).mono ?_
      rintro e w11 ⟨rfl, b11⟩
      have hz11 := b11.size
      have s0 := (b11.cell (p := ⟨W.heap.size, 0, none⟩) (by show W.heap.size < _; omega)).trans r0
      have s1 := (b11.cell (p := ⟨W.heap.size, 1, none⟩) (by show W.heap.size < _; omega)).trans r1
      have s2 := (b11.cell (p := ⟨W.heap.size, 2, none⟩) (by show W.heap.size < _; omega)).trans r2
      have u0 := (b11.cell (p := ⟨w9.heap.size, 0, none⟩) (by show w9.heap.size < _; omega)).trans p0'
      have u1 := (b11.cell (p := ⟨w9.heap.size, 1, none⟩) (by show w9.heap.size < _; omega)).trans p1'
      have u2 := (b11.cell (p := ⟨w9.heap.size, 2, none⟩) (by show w9.heap.size < _; omega)).trans p2'
      have HW11 := Lib.hid (HW10.out.trans (b11.mono HW10.out.size))
      have HVE := Lib.hid (HVE.out.keep (Mods.of_below (S := fun _ => False) b11) (fun _ _ _ h => h))
      have HV9 := Lib.hid (HV9.out.keep (Mods.of_below (S := fun _ => False) b11) (fun _ _ _ h => h))
      clear r0 r1 r2 p0' p1' p2' b11
      go_wp2_with fail
      refine (same_any ⟨f, t, ao9, cap9, l⟩ ⟨f, t, eo, cap, l⟩ w11 (fun _ => False) (fun _ => False) ⟨HV9.out, fun _ _ _ h => h, hl⟩ ⟨HVE.out, fun _ _ _ h => h, hl⟩ true (HEQ.out _ _ _ _)).mono ?_
      rintro e w12 ⟨rfl, b12⟩
      have HW12 := Lib.hid (HW11.out.trans (b12.mono HW11.out.size))
      clear b12 s0 s1 s2 u0 u1 u2
      go_wp2_with fail
      refine (awake_any w12).mono ?_
      rintro e w13 ⟨rfl, b13⟩
      have HW13 := Lib.hid (HW12.out.trans (b13.mono HW12.out.size))
      clear b13
      go_wp2_with fail
      go_ret
      exact ⟨rfl, HW13.out⟩

set_option maxHeartbeats 400000 in
theorem keeps_long (W : World) (f t : Int) (eo : Option Addr) (cap : Nat) (l : List UInt8) (hl : 100 < l.length) :
    Calls Try.prog 3 #[.agg #[.int .i64 f, .int .i64 t, .slice eo l.length cap]] W fun e w' => e = .returned (.bool true) ∧ Below W.heap.size W w' := by
  have hl0 : (100 : Int) < (l.length : Int) := by omega
  go_enter Try.func3, Try.ntmps3
  go_wp2_with fail
  refine (awake_any _).mono ?_
  rintro e w1 ⟨rfl, b1⟩
  have HB := Lib.hid (((Below.refl W.heap.size W).alloc (Nat.le_refl _) _).trans (b1.mono (by simp)))
  clear b1
  go_wp2_with fail
  go_ret
  exact ⟨rfl, HB.out⟩
theorem keeps_all (W : World) (f t : Int) (eo : Option Addr) (cap : Nat) (l : List UInt8) (hv : BytesV W (.slice eo l.length cap) l) (hw : BytesAway (fun k => W.heap.size ≤ k) (.slice eo l.length cap) l) :
    Calls Try.prog 3 #[.agg #[.int .i64 f, .int .i64 t, .slice eo l.length cap]] W fun e w' => e = .returned (.bool true) ∧ Below W.heap.size W w' := by
  by_cases h : l.length ≤ 100
  · exact keeps_any W f t eo cap l hv hw h
  · exact keeps_long W f t eo cap l (by omega)
end Go.Proofs.Ytngackbgcknphaa.B
