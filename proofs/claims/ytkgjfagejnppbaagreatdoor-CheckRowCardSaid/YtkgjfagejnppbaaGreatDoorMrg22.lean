/- Several texts in one. -/
import Derived.Test.YtkgjfagejnppbaaGreatDoorMrg21
import Derived.Test.YtkgjfagejnppbaaGreatDoorMrg19
import Derived.Test.YtkgjfagejnppbaaGreatDoorMrg11
import Derived.Test.YtkgjfagejnppbaaGreatDoorMrg13
import Derived.Test.YtkgjfagejnppbaaGreatDoorMrg5

/- The engine in memory: New, Has, Done, Commit. -/
namespace Go.Proofs.YtkgjfagejnppbaaGreatDoor.O
open Go.RowKit Go.Proofs.YtkgjfagejnppbaaGreatDoor.M Go.BigFrame Go.Proofs.YtkgjfagejnppbaaGreatDoor.R
set_option linter.unusedVariables false
set_option linter.unusedSimpArgs false

/-- the blocks that an engine turns -/
def EngF (p b1 b2 : Nat) (ro : Option Addr) : Nat → Prop := fun j => j = p ∨ j = b1 ∨ j = b2 ∨ ∃ a, ro = some a ∧ j = a.block
abbrev engO (b1 b2 n : Nat) (ro : Option Addr) (rc : Nat) : Obj := .cells #[.map (some b1), .map (some b2), .slice ro n rc] 107 (0, 0)
structure EngAt (w : World) (p b1 b2 n m : Nat) (ro : Option Addr) (rc : Nat) (L : List Rv) (D : List Id) : Prop where
  box : w.heap[p]? = some (engO b1 b2 D.length ro rc)
  wt : MapR w b1 n L
  dn : MapB w b2 m D
  row : OwnL w 0 ro rc D
  ne : b1 ≠ b2
  ok : ∀ x ∈ L, RvOk w x ∧ goodR x = true
  di : ∀ i ∈ D, IdI i
  sep : ∀ x ∈ L, ∀ a, x.ao = some a → x.deps ≠ [] → ¬ EngF p b1 b2 ro a.block
theorem own_mods {w w1 : World} {S : Nat → Prop} {B : Nat} {ro : Option Addr} {rc : Nat} {D : List Id} (h : OwnL w B ro rc D) (hm : Mods S w w1) (hn : ∀ a, ro = some a → ¬ S a.block) : OwnL w1 B ro rc D :=
  own_kept h hm fun k hk => by
    cases ro with
    | none => cases hk
    | some a =>
      obtain rfl : a.block = k := Option.some.inj hk
      exact hn a rfl
section
variable {w : World} {p b1 b2 n m : Nat} {ro : Option Addr} {rc : Nat} {L : List Rv} {D : List Id}
theorem EngAt.keep {w1 : World} {S : Nat → Prop} (h : EngAt w p b1 b2 n m ro rc L D) (hm : Mods S w w1) (hn : ∀ j, EngF p b1 b2 ro j → ¬ S j) (hd : ∀ x ∈ L, ∀ a, x.ao = some a → x.deps ≠ [] → ¬ S a.block) : EngAt w1 p b1 b2 n m ro rc L D :=
  ⟨(hm.block p (M.heap_lt h.box) (hn p (.inl rfl))).trans h.box, h.wt.keep hm (hn b1 (.inr (.inl rfl))), h.dn.keep hm (hn b2 (.inr (.inr (.inl rfl)))), own_mods h.row hm (fun a e => hn _ (.inr (.inr (.inr ⟨a, e, rfl⟩)))),
    h.ne, fun x hx => ⟨⟨(h.ok x hx).1.cmd, (h.ok x hx).1.deps.keep hm (hd x hx), (h.ok x hx).1.id⟩, (h.ok x hx).2⟩, h.di, h.sep⟩
theorem EngAt.below {w1 : World} (h : EngAt w p b1 b2 n m ro rc L D) (hb : Below w.heap.size w w1) : EngAt w1 p b1 b2 n m ro rc L D :=
  h.keep (S := fun _ => False) (M.Mods.of_below hb) (fun _ _ h => h) (fun _ _ _ _ _ h => h)
theorem EngAt.cells (h : EngAt w p b1 b2 n m ro rc L D) : w.cell? ⟨p, 0, none⟩ = some (.map (some b1)) ∧ w.cell? ⟨p, 1, none⟩ = some (.map (some b2)) ∧ w.cell? ⟨p, 2, none⟩ = some (.slice ro D.length rc) := by
  have hc : ∀ j, w.cell? ⟨p, j, none⟩ = (#[.map (some b1), .map (some b2), .slice ro D.length rc] : Array Value)[j]? := fun j => cell_of_row w p j _ _ _ h.box
  exact ⟨hc 0, hc 1, hc 2⟩
theorem EngAt.plt (h : EngAt w p b1 b2 n m ro rc L D) : p < w.heap.size := M.heap_lt h.box
end
set_option maxRecDepth 100000 in
set_option maxHeartbeats 4000000 in
theorem engnew_any (w : World) :
    Calls Tryz.prog 30 #[] w fun e w' => ∃ p b1 b2, e = .returned (.pointer (some ⟨p, 0, none⟩)) ∧ (EngAt w' p b1 b2 0 0 none 0 [] [] ∧ (∀ j, EngF p b1 b2 none j → w.heap.size ≤ j) ∧ Below w.heap.size w w') := by
  have hmm := @run_makeMap Tryz.prog
  go_enter Tryz.func30, Tryz.ntmps30
  go_wp2_with fail
  go_ret
  refine ⟨w.heap.size + 2, w.heap.size, w.heap.size + 1, rfl, ⟨?_, ?_, ?_, ?_, ?_, ?_, ?_, ?_⟩, ?_, (((Below.refl _ _).alloc (Nat.le_refl _) _).alloc (by simp) _).alloc (by simp; omega) _⟩
  · rw [heap_al, if_pos (by simp)]; rfl
  · exact (MapR.made w).below (((Below.refl _ _).alloc (Nat.le_refl _) _).alloc (by simp) _)
  · have := (MapB.made (w.alloc (.map #[] 0)))
    simp only [World.size_alloc] at this
    exact this.below ((Below.refl _ _).alloc (Nat.le_refl _) _)
  · exact World.ownsRow_nil _ _ _ _
  · omega
  · intro x hx; cases hx
  · intro x hx; cases hx
  · intro x hx; cases hx
  · rintro j (rfl | rfl | rfl | ⟨a, e, _⟩)
    · omega
    · omega
    · omega
    · cases e
set_option maxRecDepth 100000 in
set_option maxHeartbeats 4000000 in
theorem enghas_any (p b1 b2 n m : Nat) (ro : Option Addr) (rc : Nat) (L : List Rv) (D : List Id) (i : Id) (w : World) (h : EngAt w p b1 b2 n m ro rc L D) (hi : IdI i) (v : Bool) (hv : thereB L D i = v) :
    Calls Tryz.prog 45 #[.pointer (some ⟨p, 0, none⟩), idV i] w fun e w' => e = .returned (.bool v) ∧ Below w.heap.size w w' := by
  have H := Lib.hid h
  have HI := Lib.hid hi
  have HV := Lib.hid hv
  clear h hi hv
  go_enter Tryz.func45, Tryz.ntmps45
  go_upto_region 1 with fail
  obtain ⟨W, hW⟩ : ∃ W, W = w.alloc (idO i) := ⟨_, rfl⟩
  rw [← hW]
  have HB : Hid (Below w.heap.size w W) := Lib.hid (by rw [hW]; exact (Below.refl _ _).alloc (Nat.le_refl _) _)
  have HX : Hid (W.heap[w.heap.size]? = some (idO i)) := Lib.hid (by rw [hW]; exact heap_alloc_new w _)
  clear hW
  have HA := Lib.hid (H.out.below HB.out)
  have hzp := HA.out.plt
  have hlt := M.heap_lt HX.out
  obtain ⟨x, hx⟩ : ∃ x, lookR L i = x := ⟨_, rfl⟩
  obtain ⟨bw, hbw⟩ : ∃ b, decide (i ∈ idsX L) = b := ⟨_, rfl⟩
  obtain ⟨bd, hbd⟩ : ∃ b, decide (i ∈ D) = b := ⟨_, rfl⟩
  have HVV := Lib.hid (show (bw || bd) = v by rw [← HV.out, ← hbw, ← hbd]; rfl)
  have HLK := Lib.hid (fun (w' : World) (hb : Below W.heap.size W w') => show (Instr.lookup tMR (.map (some b1)) (idV i) true).run Tryz.prog w' = .ok (.tuple #[recV x, .bool bw]) w' from by rw [← hx, ← hbw]; exact (HA.out.below hb).wt.look_ok HI.out)
  have HLD := Lib.hid (fun (w' : World) (hb : Below W.heap.size W w') => show (Instr.lookup tMB (.map (some b2)) (idV i) false).run Tryz.prog w' = .ok (.bool bd) w' from by rw [← hbd]; exact (HA.out.below hb).dn.look HI.out)
  obtain ⟨⟨d0, d1⟩, _⟩ := box2 HX.out
  obtain ⟨e0, e1, e2⟩ := HA.out.cells
  clear hx hbw hbd
  have HST := Lib.hid (show ∀ w', Below W.heap.size W w' → w'.cell? ⟨p, 0, none⟩ = some (.map (some b1)) ∧ w'.cell? ⟨w.heap.size, 0, none⟩ = some (.int .i64 i.r) ∧ w'.cell? ⟨w.heap.size, 1, none⟩ = some (.int .i64 i.n) ∧ (Instr.lookup 104 (.map (some b1)) (idV i) true).run Tryz.prog w' = .ok (.tuple #[recV x, .bool bw]) w' ∧ Below W.heap.size W w' from fun w' hb =>
    ⟨(hb.cell (p := ⟨p, 0, none⟩) hzp).trans e0, (hb.cell (p := ⟨w.heap.size, 0, none⟩) hlt).trans d0, (hb.cell (p := ⟨w.heap.size, 1, none⟩) hlt).trans d1, HLK.out w' hb, hb⟩)
  go_region_held3 (fun w' => w'.cell? ⟨p, 0, none⟩ = some (.map (some b1)) ∧ w'.cell? ⟨w.heap.size, 0, none⟩ = some (.int .i64 i.r) ∧ w'.cell? ⟨w.heap.size, 1, none⟩ = some (.int .i64 i.n) ∧ (Instr.lookup 104 (.map (some b1)) (idV i) true).run Tryz.prog w' = .ok (.tuple #[recV x, .bool bw]) w' ∧ Below W.heap.size W w')
    (first | exact HST.out _ (Below.refl _ _).drew | exact HST.out _ ((Below.refl _ _).drew.alloc (Nat.le_refl _) _))
    (fail)
  all_goals
    obtain ⟨w5, hw5⟩ : ∃ w5, w5 = (W.alloc (recO x)).drew := ⟨_, rfl⟩
    rw [← hw5]
    have hb5 : Below W.heap.size W w5 := by rw [hw5]; exact ((Below.refl _ _).alloc (Nat.le_refl _) _).drew
    have HB5 := Lib.hid hb5
    have k0 := Kin.cell ((hb5.cell (p := ⟨p, 1, none⟩) hzp).trans e1)
    have k1 := Kin.cell ((hb5.cell (p := ⟨w.heap.size, 0, none⟩) hlt).trans d0)
    have k2 := Kin.cell ((hb5.cell (p := ⟨w.heap.size, 1, none⟩) hlt).trans d1)
    have k3 : ∀ y : Kin w5, (Instr.lookup 105 (.map (some b2)) (idV i) false).run Tryz.prog y.w = .ok (.bool bd) y.w := fun y => HLD.out _ (hb5.trans (y.h.mono hb5.size))
    clear hw5 hb5 d0 d1 e0 e1 e2
    cases bw with
    | true =>
      go_upto_region 2 with fail
      refine wp_region_kin (by kernel_rfl) (by kernel_rfl) ?_
      repeat (go_big_quiet_step (fail))
      refine wpQuiet_nil ?_
      intro _ hxx
      obtain ⟨xk, rfl⟩ := hxx
      have HBE := Lib.hid (HB.out.trans ((HB5.out.trans (xk.h.mono HB5.out.size)).mono HB.out.size))
      clear k0 k1 k2 k3
      go_wp2_with fail
      go_ret
      exact ⟨by rw [← HVV.out]; rfl, HBE.out⟩
    | false =>
      go_upto_region 2 with fail
      refine wp_region_kin (by kernel_rfl) (by kernel_rfl) ?_
      repeat (go_big_quiet_step (fail))
      refine wpQuiet_nil ?_
      intro _ hxx
      obtain ⟨xk, rfl⟩ := hxx
      have HBE := Lib.hid (HB.out.trans ((HB5.out.trans (xk.h.mono HB5.out.size)).mono HB.out.size))
      clear k0 k1 k2 k3
      go_wp2_with fail
      go_ret
      exact ⟨by rw [← HVV.out]; rfl, HBE.out⟩
set_option maxRecDepth 100000 in
set_option maxHeartbeats 4000000 in
theorem engdone_any (p b1 b2 n m : Nat) (ro : Option Addr) (rc : Nat) (L : List Rv) (D : List Id) (i : Id) (w : World) (h : EngAt w p b1 b2 n m ro rc L D) (hi : IdI i) (v : Bool) (hv : decide (i ∈ D) = v) :
    Calls Tryz.prog 84 #[.pointer (some ⟨p, 0, none⟩), idV i] w fun e w' => e = .returned (.bool v) ∧ Below w.heap.size w w' := by
  have H := Lib.hid h
  have HI := Lib.hid hi
  have HV := Lib.hid hv
  clear h hi hv
  go_enter Tryz.func84, Tryz.ntmps84
  go_upto_region 1 with fail
  obtain ⟨W, hW⟩ : ∃ W, W = w.alloc (idO i) := ⟨_, rfl⟩
  rw [← hW]
  have HB : Hid (Below w.heap.size w W) := Lib.hid (by rw [hW]; exact (Below.refl _ _).alloc (Nat.le_refl _) _)
  have HX : Hid (W.heap[w.heap.size]? = some (idO i)) := Lib.hid (by rw [hW]; exact heap_alloc_new w _)
  clear hW
  have HA := Lib.hid (H.out.below HB.out)
  obtain ⟨⟨d0, d1⟩, _⟩ := box2 HX.out
  obtain ⟨e0, e1, e2⟩ := HA.out.cells
  have k0 := Kin.cell e1
  have k1 := Kin.cell d0
  have k2 := Kin.cell d1
  have k3 : ∀ y : Kin W, (Instr.lookup 105 (.map (some b2)) (idV i) false).run Tryz.prog y.w = .ok (.bool v) y.w := fun y => by rw [← HV.out]; exact (HA.out.below y.h).dn.look HI.out
  clear d0 d1 e0 e1 e2
  refine wp_region_kin (by kernel_rfl) (by kernel_rfl) ?_
  repeat (go_big_quiet_step (fail))
  refine wpQuiet_nil ?_
  intro _ hxx
  obtain ⟨xk, rfl⟩ := hxx
  have HBE := Lib.hid (HB.out.trans (xk.h.mono HB.out.size))
  clear k0 k1 k2 k3
  go_wp2_with fail
  go_ret
  exact ⟨rfl, HBE.out⟩
end Go.Proofs.YtkgjfagejnppbaaGreatDoor.O

/- The engine's Commit. -/
namespace Go.Proofs.YtkgjfagejnppbaaGreatDoor.O
open Go.RowKit Go.Proofs.YtkgjfagejnppbaaGreatDoor.M Go.BigFrame Go.Proofs.YtkgjfagejnppbaaGreatDoor.R
set_option linter.unusedVariables false
set_option linter.unusedSimpArgs false

theorem MapR.nocells {w : World} {b n : Nat} {L : List Rv} (h : MapR w b n L) {cs : Array Value} {t : TypeId} {fr : Nat × Nat} (hc : w.heap[b]? = some (.cells cs t fr)) : False := by
  obtain ⟨D, ⟨es, clock, hb, _⟩, _⟩ := h.own
  rw [hb] at hc; cases hc
theorem MapB.nocells {w : World} {b n : Nat} {O : List Id} (h : MapB w b n O) {cs : Array Value} {t : TypeId} {fr : Nat × Nat} (hc : w.heap[b]? = some (.cells cs t fr)) : False := by
  obtain ⟨D, ⟨es, clock, hb, _⟩, _⟩ := h
  rw [hb] at hc; cases hc
theorem own_cells {w : World} {B : Nat} {ro : Option Addr} {rc : Nat} {D : List Id} (h : OwnL w B ro rc D) : ∀ a, ro = some a → ∃ cs, w.heap[a.block]? = some (.cells cs 37 (0, 0)) := by
  intro a e
  subst e
  rcases h.2 with ⟨e, _⟩ | ⟨g, cap, cur, e, _, hg, _⟩
  · cases e
  · cases e
    exact ⟨_, hg⟩
section
variable {w : World} {p b1 b2 n m : Nat} {ro : Option Addr} {rc : Nat} {L : List Rv} {D : List Id}
theorem EngAt.ap (h : EngAt w p b1 b2 n m ro rc L D) : p ≠ b1 ∧ p ≠ b2 ∧ ∀ a, ro = some a → a.block ≠ p ∧ a.block ≠ b1 ∧ a.block ≠ b2 := by
  refine ⟨fun e => ?_, fun e => ?_, fun a ha => ?_⟩
  · subst e; exact h.wt.nocells h.box
  · subst e; exact h.dn.nocells h.box
  · obtain ⟨cs, hc⟩ := own_cells h.row a ha
    refine ⟨fun e => ?_, fun e => ?_, fun e => ?_⟩
    · rw [e, h.box] at hc
      simp only [Option.some.injEq, Obj.cells.injEq] at hc
      exact absurd hc.2.1 (by decide)
    · rw [e] at hc; exact h.wt.nocells hc
    · rw [e] at hc; exact h.dn.nocells hc
theorem EngAt.lts (h : EngAt w p b1 b2 n m ro rc L D) : ∀ j, EngF p b1 b2 ro j → j < w.heap.size := by
  rintro j (rfl | rfl | rfl | ⟨a, e, rfl⟩)
  · exact M.heap_lt h.box
  · exact h.wt.lt
  · exact h.dn.lt
  · obtain ⟨cs, hc⟩ := own_cells h.row a e
    exact M.heap_lt hc
end
/-- the map's store, at the operation -/
theorem wpList_putR {ops : Array Oper} {rest : List Oper} {o : Oper} {a : Act} {Q : Exit → Act → World → Prop} {w : World} {b n : Nat} {L : List Rv} (h : MapR w b n L) (hn : n < maxLen) (x : Rv) (hi : IdI x.id) (hx : x.id ∉ idsX L)
    (hg : o.guard = none) (m k v : Operand) (hop : o.op = Op.mapUpdate 104 m k v) (hm : a.eval m = .map (some b)) (hk : a.eval k = idV x.id) (hv : a.eval v = recV x)
    (hK : ∀ w', MapR w' b (n + 1) (L ++ [x]) → Mods (fun k => k = b) w w' → wpList Tryz.prog ops Q rest (a.put o.dst undef) w') : wpList Tryz.prog ops Q (o :: rest) a w := by
  refine wpList_plain hg fun K' hK' => ?_
  obtain ⟨w', hrun, r1, r2⟩ := h.put hn hi hx
  unfold Oper.wp
  simp [execOp, hop, hm, hk, hv, hrun, Result.andThen]
  exact hK' _ _ (hK w' r1 r2)
theorem wpList_putB {ops : Array Oper} {rest : List Oper} {o : Oper} {a : Act} {Q : Exit → Act → World → Prop} {w : World} {b n : Nat} {O : List Id} (h : MapB w b n O) (hn : n < maxLen) (i : Id) (hi : IdI i) (hx : i ∉ O)
    (hg : o.guard = none) (m k v : Operand) (hop : o.op = Op.mapUpdate 105 m k v) (hm : a.eval m = .map (some b)) (hk : a.eval k = idV i) (hv : a.eval v = .bool true)
    (hK : ∀ w', MapB w' b (n + 1) (O ++ [i]) → Mods (fun k => k = b) w w' → wpList Tryz.prog ops Q rest (a.put o.dst undef) w') : wpList Tryz.prog ops Q (o :: rest) a w := by
  refine wpList_plain hg fun K' hK' => ?_
  obtain ⟨w', hrun, r1, r2⟩ := h.put hn hi hx
  unfold Oper.wp
  simp [execOp, hop, hm, hk, hv, hrun, Result.andThen]
  exact hK' _ _ (hK w' r1 r2)
theorem wpList_delR {ops : Array Oper} {rest : List Oper} {o : Oper} {a : Act} {Q : Exit → Act → World → Prop} {w : World} {b n : Nat} {L : List Rv} (h : MapR w b n L) (i : Id) (hi : IdI i)
    (hg : o.guard = none) (m k : Operand) (hop : o.op = Op.call { callee := Callee.builtin Builtin.delete, args := #[m, k], argTypes := #[104, 37] }) (hm : a.eval m = .map (some b)) (hk : a.eval k = idV i)
    (hK : ∀ w', MapR w' b n (L.filter fun x => !decide (x.id = i)) → Mods (fun k => k = b) w w' → wpList Tryz.prog ops Q rest (a.put o.dst (.tuple #[])) w') : wpList Tryz.prog ops Q (o :: rest) a w := by
  refine wpList_plain hg fun K' hK' => ?_
  obtain ⟨w', hrun, r1, r2⟩ := h.del hi o.type
  unfold Oper.wp
  simp [execOp, hop, resolve, invoke, builtin, hm, hk, hrun, Result.andThen]
  exact hK' _ _ (hK w' r1 r2)
/-- the range's step, at the operation -/
theorem wpList_nextR {ops : Array Oper} {rest : List Oper} {o : Oper} {a : Act} {Q : Exit → Act → World → Prop} {w : World} {b r n : Nat} {L left : List Rv} {cnt : Nat} (h : RngR w b r n L left cnt)
    (hg : o.guard = none) (it : Operand) (hop : o.op = Op.next it false) (hit : a.eval it = .pointer (some ⟨r, 0, none⟩))
    (hDone : Hid (left = []) → wpList Tryz.prog ops Q rest (a.put o.dst (.tuple #[.bool false])) w)
    (hMore : ∀ x w' cnt', Hid (x ∈ left) → Hid (RngR w' b r n L (left.filter fun y => !decide (y.id = x.id)) cnt') → Hid (cnt' < cnt) → Hid (Mods (fun k => k = r) w w') → (Instr.entry (.pointer (some ⟨r, 0, none⟩))).run Tryz.prog w' = .ok (.tuple #[idV x.id, recV x]) w' → wpList Tryz.prog ops Q rest (a.put o.dst (.tuple #[.bool true, idV x.id, recV x])) w') :
    wpList Tryz.prog ops Q (o :: rest) a w := by
  refine wpList_plain hg fun K' hK' => ?_
  unfold Oper.wp
  rcases h.next o.type with ⟨h0, hl, hrun⟩ | ⟨x, w', cnt', hx, hrun, hrg, hlt, hm, hen⟩
  · simp [execOp, hop, hit, hrun, Result.andThen]
    exact hK' _ _ (hDone (Lib.hid hl))
  · simp [execOp, hop, hit, hrun, Result.andThen]
    exact hK' _ _ (hMore x w' cnt' (Lib.hid hx) (Lib.hid hrg) (Lib.hid hlt) (Lib.hid hm) hen)
theorem wpList_rangeR {ops : Array Oper} {rest : List Oper} {o : Oper} {a : Act} {Q : Exit → Act → World → Prop} {w : World} {b n : Nat} {L : List Rv} (h : MapR w b n L)
    (hg : o.guard = none) (m : Operand) (hop : o.op = Op.range 104 m) (hm : a.eval m = .map (some b))
    (hK : ∀ w' cnt, RngR w' b w.heap.size n L L cnt → Below w.heap.size w w' → wpList Tryz.prog ops Q rest (a.put o.dst (.pointer (some ⟨w.heap.size, 0, none⟩))) w') :
    wpList Tryz.prog ops Q (o :: rest) a w := by
  refine wpList_plain hg fun K' hK' => ?_
  obtain ⟨w', cnt, hrun, r1, r2⟩ := h.range
  unfold Oper.wp
  simp [execOp, hop, hm, hrun, Result.andThen]
  exact hK' _ _ (hK w' cnt r1 r2)
theorem eown_below {w w1 : World} {B : Nat} {oo : Option Addr} {oc : Nat} {l : List Id} (h : OwnL w B oo oc l) (hb : Below w.heap.size w w1) : OwnL w1 B oo oc l := own_kept h (Mods.of_below (S := fun _ => False) hb) (fun _ _ h => h)
/-- ids don't lie in a record's box -/
theorem eown_apart {w w1 : World} {B g : Nat} {oo : Option Addr} {oc : Nat} {l : List Id} {x : Rv} (h : OwnL w B oo oc l) (hg : w.heap[g]? = some (recO x)) (hm : Mods (fun k => k = g) w w1) : OwnL w1 B oo oc l :=
  own_kept h hm fun k hk e => by
    subst e
    rcases h.2 with ⟨e, _⟩ | ⟨g2, cap, cur, e, _, hg2, _⟩
    · rw [e] at hk; cases hk
    · rw [e] at hk
      cases hk
      rw [hg] at hg2
      simp only [Option.some.injEq, Obj.cells.injEq] at hg2
      exact absurd hg2.2.1 (by decide)
set_option maxRecDepth 100000 in
set_option maxHeartbeats 4000000 in
theorem engcommit_yes (p b1 b2 n m : Nat) (ro : Option Addr) (rc : Nat) (L : List Rv) (D : List Id) (x : Rv) (w : World) (h : EngAt w p b1 b2 n m ro rc L D) (h0 : RvOk w x) (hT : Tabs w) (hl : x.deps.length ≤ 1000000) (hk : x.cmd.key.size ≤ 1000000) (hn : n ≤ 1000000) (hg : goodR x = true) (hth : thereB L D x.id = false) :
    Calls Tryz.prog 31 #[.pointer (some ⟨p, 0, none⟩), recV x] w fun e w' => ∃ ao cap, e = .returned (.bool true) ∧ (EngAt w' p b1 b2 (n + 1) m ro rc (L ++ [{ x with ao := ao, cap := cap }]) D ∧ Mods (fun k => k = b1) w w' ∧ ∀ a, ao = some a → w.heap.size ≤ a.block) := by
  have H := Lib.hid h
  have H0 := Lib.hid h0
  have HT := Lib.hid hT
  have HGD := Lib.hid hg
  have HTH := Lib.hid hth
  have hrk : recOk x = true := by unfold goodR at hg; rw [Bool.and_eq_true] at hg; exact hg.1
  have hst : x.st = 3 := by unfold goodR at hg; rw [Bool.and_eq_true, decide_eq_true_eq] at hg; exact hg.2
  clear h h0 hT hg hth
  go_enter Tryz.func31, Tryz.ntmps31
  go_upto_region 1 with fail
  obtain ⟨W, hW⟩ : ∃ W, W = w.alloc (recO x) := ⟨_, rfl⟩
  have HB : Hid (Below w.heap.size w W) := Lib.hid (by rw [hW]; exact (Below.refl _ _).alloc (Nat.le_refl _) _)
  have HX : Hid (W.heap[w.heap.size]? = some (recO x)) := Lib.hid (by rw [hW]; exact heap_alloc_new w _)
  rw [← hW]
  clear hW
  have HA := Lib.hid (H.out.below HB.out)
  have HR := Lib.hid (H0.out.below HB.out)
  have HCK := Lib.hid (reccheck_any x W HR.out (HT.out.next HB.out) hl hk _ rfl)
  obtain ⟨c0, c1, c2, c3, c4, c5, c6, c7, c8, c9, c10, c11, c12, c13, c14, c15⟩ := box16 HX.out
  rw [hrk] at HCK
  clear hrk
  have HST := Lib.hid hst
  clear hst
  go_wp2_with fail
  refine HCK.out.mono ?_
  rintro e w1 ⟨rfl, hb1⟩
  have HB1 := Lib.hid hb1
  have hx1 := (hb1.block _ (M.heap_lt HX.out)).trans HX.out
  have HX1 := Lib.hid hx1
  clear hb1 HCK c0 c1 c2 c3 c4 c5 c6 c7 c8 c9 c10 c11 c12 c13 c14 c15
  obtain ⟨c0, c1, c2, _⟩ := box16 hx1
  clear hx1
  have HHAS := Lib.hid (enghas_any p b1 b2 n m ro rc L D x.id w1 (HA.out.below HB1.out) H0.out.id false HTH.out)
  rw [HST.out] at c2
  go_wp2_with fail
  refine HHAS.out.mono ?_
  rintro e w2 ⟨rfl, hb2⟩
  have HB2 := Lib.hid (HB1.out.trans (hb2.mono HB1.out.size))
  have HX2 := Lib.hid ((hb2.block _ (M.heap_lt HX1.out)).trans HX1.out)
  have HR2 := Lib.hid (HR.out.below HB2.out)
  have HCL := Lib.hid (cloneI_any x.deps x.ao x.cap w2 HR2.out.deps hl)
  clear hb2 c0 c1 c2 HHAS
  obtain ⟨c0, c1, c2, c3, c4, c5, c6, c7, c8, c9, c10, c11, c12, c13, c14, c15⟩ := box16 HX2.out
  clear c0 c1 c2 c3 c4 c5 c6 c7 c8 c9 c10 c11 c12 c14 c15
  go_wp2_with fail
  refine HCL.out.mono ?_
  rintro e w3 ⟨ao, cap, rfl, hown, hb3⟩
  have HB3 := Lib.hid (HB2.out.trans (hb3.mono HB2.out.size))
  have HX3 := Lib.hid ((hb3.block _ (M.heap_lt HX2.out)).trans HX2.out)
  have HR3 := Lib.hid (HR2.out.below hb3)
  have HW3 := Lib.hid (HB.out.trans (HB3.out.mono HB.out.size))
  have HOWN := Lib.hid (show OwnL w3 w.heap.size ao cap x.deps from own_base hown (fun q hq => Nat.le_trans (Nat.le_trans HB.out.size HB2.out.size) (hown.lt q hq).1))
  clear hown hb3 HCL c13
  obtain ⟨c0, c1, c2, c3, c4, c5, c6, c7, c8, c9, c10, c11, c12, c13, c14, c15⟩ := box16 HX3.out
  have nf : w3.frozen? ⟨w.heap.size, 13, none⟩ = false := by simp [World.frozen?, HX3.out]
  clear c0 c1 c2 c3 c4 c5 c6 c7 c8 c9 c10 c11 c12 c14 c15
  go_upto_region 4 with fail
  clear c13 nf
  obtain ⟨w5, hw5⟩ : ∃ w5, w5 = w3.setCell ⟨w.heap.size, 13, none⟩ (.slice ao x.deps.length cap) := ⟨_, rfl⟩
  rw [← hw5]
  have s1 := heap_set w3 w.heap.size 13 (.slice ao x.deps.length cap) w.heap.size _ _ _ HX3.out
  rw [if_pos rfl, ← hw5] at s1
  have ms : Mods (fun j => j = w.heap.size) w3 w5 := by rw [hw5]; exact (Mods.refl (fun j => j = w.heap.size) w3).setCell (p := ⟨w.heap.size, 13, none⟩) (fun _ => rfl) _
  obtain ⟨y, hy⟩ : ∃ y : Rv, { x with ao := ao, cap := cap } = y := ⟨_, rfl⟩
  have hx5 : w5.heap[w.heap.size]? = some (recO y) := by rw [← hy, s1]; rfl
  have HY := Lib.hid hy
  have HW5 := Lib.hid (HW3.out.trans (ms.below (fun j e => by omega) HW3.out.size))
  have HE5 := Lib.hid (H.out.below HW5.out)
  have HOW5 := Lib.hid (show OwnL w5 w.heap.size y.ao y.cap y.deps by rw [← hy]; exact eown_apart HOWN.out HX3.out ms)
  have HYI := Lib.hid (show IdI y.id by rw [← hy]; exact H0.out.id)
  have HYN := Lib.hid (show y.id ∉ idsX L by
    rw [← hy]
    intro hm
    have h1 := HTH.out
    rw [thereB_iff.2 (.inl hm)] at h1
    cases h1)
  clear s1 ms hw5 hy
  obtain ⟨c0, c1, c2, c3, c4, c5, c6, c7, c8, c9, c10, c11, c12, c13, c14, c15⟩ := box16 hx5
  obtain ⟨e0, e1, e2⟩ := HE5.out.cells
  have k0 := Kin.cell c0
  have k1 := Kin.cell c1
  have k2 := Kin.cell c2
  have k3 := Kin.cell c3
  have k4 := Kin.cell c4
  have k5 := Kin.cell c5
  have k6 := Kin.cell c6
  have k7 := Kin.cell c7
  have k8 := Kin.cell c8
  have k9 := Kin.cell c9
  have k10 := Kin.cell c10
  have k11 := Kin.cell c11
  have k12 := Kin.cell c12
  have k13 := Kin.cell c13
  have k14 := Kin.cell c14
  have k15 := Kin.cell c15
  have k16 := Kin.cell e0
  clear c0 c1 c2 c3 c4 c5 c6 c7 c8 c9 c10 c11 c12 c13 c14 c15 e0 e1 e2 hx5
  refine wp_region_kin_tail 7 (by kernel_rfl) (by kernel_rfl) ?_
  simp only [List.take_succ_cons, List.take_zero, List.drop_succ_cons, List.drop_zero]
  repeat (go_big_quiet_step (fail))
  refine wpQuiet_nil ?_
  intro _ hx
  obtain ⟨xk, rfl⟩ := hx
  refine wpList_putR (HE5.out.below xk.h).wt (by unfold maxLen; omega) y HYI.out HYN.out (by rfl) _ _ _ (by rfl) (by rfl) (by rfl) (by rfl) ?_
  intro w6 hm6 hM6
  have HM6 := Lib.hid hM6
  have HMP := Lib.hid hm6
  have HB6 := Lib.hid (HW5.out.trans (xk.h.mono HW5.out.size))
  have HMM := Lib.hid ((Mods.of_below (S := fun k => k = b1) HB6.out).trans hM6)
  have HOK := Lib.hid (show OwnL xk.w w.heap.size y.ao y.cap y.deps from eown_below HOW5.out xk.h)
  have HOK6 := Lib.hid (show OwnL w6 w.heap.size y.ao y.cap y.deps from own_mods HOK.out hM6 (fun a e e2 => by
    obtain ⟨cs, hc⟩ := own_cells HOK.out a e
    rw [e2] at hc
    exact ((HE5.out.below xk.h).wt).nocells hc))
  clear hm6 hM6 k0 k1 k2 k3 k4 k5 k6 k7 k8 k9 k10 k11 k12 k13 k14 k15 k16
  go_wp2_with fail
  go_ret
  have hap := H.out.ap
  have hfr : ∀ a, y.ao = some a → w.heap.size ≤ a.block := fun a e => (HOK6.out.lt a.block (by rw [e]; rfl)).1
  obtain ⟨hya, hyc⟩ : y.ao = ao ∧ y.cap = cap := by rw [← HY.out]; exact ⟨rfl, rfl⟩
  refine ⟨ao, cap, rfl, ?_, HMM.out, fun a e => hfr a (by rw [hya]; exact e)⟩
  rw [HY.out]
  refine ⟨HMM.out.heap H.out.box hap.1, HMP.out, H.out.dn.keep HMM.out (fun e => H.out.ne e.symm), own_mods H.out.row HMM.out (fun a e => (hap.2.2 a e).2.1), H.out.ne, fun z hz => ?_, H.out.di, fun z hz a e hne => ?_⟩
  · rcases List.mem_append.1 hz with hz | hz
    · exact ⟨⟨(H.out.ok z hz).1.cmd, (H.out.ok z hz).1.deps.keep HMM.out (fun a e hne h1 => H.out.sep z hz a e hne (.inr (.inl h1))), (H.out.ok z hz).1.id⟩, (H.out.ok z hz).2⟩
    · rw [List.mem_singleton.1 hz]
      refine ⟨⟨?_, IdsV.of_own HOK6.out (fun d hd => ?_), HYI.out⟩, ?_⟩
      · rw [← HY.out]; exact H0.out.cmd
      · rw [← HY.out] at hd; exact H0.out.deps.ok d hd
      · rw [← HY.out]; exact HGD.out
  · rcases List.mem_append.1 hz with hz | hz
    · exact H.out.sep z hz a e hne
    · rw [List.mem_singleton.1 hz] at e
      intro hf
      have h1 := hfr a e
      have h2 := H.out.lts _ hf
      omega
end Go.Proofs.YtkgjfagejnppbaaGreatDoor.O

/- slices.IndexFunc, ContainsFunc, DeleteFunc at ids. -/
namespace Go.Proofs.YtkgjfagejnppbaaGreatDoor.O
open Go.RowKit Go.Proofs.YtkgjfagejnppbaaGreatDoor.M Go.BigFrame Go.Proofs.YtkgjfagejnppbaaGreatDoor.R
set_option linter.unusedVariables false
set_option linter.unusedSimpArgs false

theorem first_at (q : Id → Bool) : ∀ (l : List Id), l.any q = true → ∃ (n : Nat) (y : Id), l[n]? = some y ∧ q y = true ∧ ∀ (j : Nat) (z : Id), j < n → l[j]? = some z → q z = false
  | [], h => by cases h
  | a :: l, h => by
    cases ha : q a with
    | true => exact ⟨0, a, rfl, ha, fun j z hj _ => by omega⟩
    | false =>
      rw [List.any_cons, ha, Bool.false_or] at h
      obtain ⟨n, y, h1, h2, h3⟩ := first_at q l h
      refine ⟨n + 1, y, by simpa using h1, h2, fun j z hj hz => ?_⟩
      cases j with
      | zero => simp at hz; rw [← hz]; exact ha
      | succ j => exact h3 j z (by omega) (by simpa using hz)
set_option maxRecDepth 100000 in
set_option maxHeartbeats 4000000 in
theorem lost_none (g1 g2 : Nat) (l : List Id) (ao : Option Addr) (cap : Nat) (q : Id → Bool) (w : World) (h : IdsV w ao cap l)
    (hq : ∀ wx, Below w.heap.size w wx → ∀ x ∈ l, Calls Tryz.prog 109 #[idV x, .pointer (some ⟨g1, 0, none⟩), .pointer (some ⟨g2, 0, none⟩)] wx fun e w' => e = .returned (.bool (q x)) ∧ Below wx.heap.size wx w') (hno : ∀ x ∈ l, q x = false) :
    Calls Tryz.prog 111 #[.slice ao l.length cap, .func (.func 109) #[] #[.pointer (some ⟨g1, 0, none⟩), .pointer (some ⟨g2, 0, none⟩)]] w fun e w' => e = .returned (.int .i64 (-1)) ∧ Below w.heap.size w w' := by
  obtain ⟨hl1, hl2⟩ := h.le
  unfold maxLen at hl2
  have H := Lib.hid h
  have HQ := Lib.hid hq
  clear h hq
  go_enter Tryz.func111, Tryz.ntmps111
  go_wp2_with fail
  go_loopw [8] (fun i wr => ∃ k : Nat, i = .int .i64 k ∧ k ≤ l.length ∧ Below w.heap.size w wr) (fun i _ => l.length - (intOf i).toNat)
  case atStart => exact ⟨0, rfl, Nat.zero_le _, Below.refl _ _⟩
  case round =>
    obtain ⟨k, rfl, hk, hbel⟩ := hrel
    have HB := Lib.hid hbel
    clear hbel
    by_cases hlt : k < l.length
    · obtain ⟨x, hx⟩ : ∃ x, l[k]? = some x := ⟨_, List.getElem?_eq_getElem hlt⟩
      have hmem := List.mem_of_getElem? hx
      obtain ⟨g, off, rfl, hgl, d0, d1⟩ := H.out.row k x hx
      have c0 := (HB.out.cell (p := ⟨g, _, none⟩) hgl).trans d0
      have c1 := (HB.out.cell (p := ⟨g, _, none⟩) hgl).trans d1
      clear d0 d1
      have hkl : (k : Int) < (l.length : Int) := by omega
      have hne := hno x hmem
      clear hx
      go_wp2_with (go_at_call 109; refine (HQ.out _ HB.out x hmem).mono ?_; rintro e w2 ⟨rfl, b2⟩; have HB2 := Lib.hid (HB.out.trans (b2.mono HB.out.size)); clear b2; rw [hne])
      go_roundw
      case rel => exact ⟨k + 1, by go_num, by omega, HB2.out⟩
      case measure => simp [intOf]; omega
    · have hkl : ¬ (k : Int) < (l.length : Int) := by omega
      go_wp2_with fail
      go_ret
      exact ⟨rfl, HB.out⟩
set_option maxRecDepth 100000 in
set_option maxHeartbeats 4000000 in
theorem lost_at (g1 g2 : Nat) (l : List Id) (ao : Option Addr) (cap : Nat) (q : Id → Bool) (w : World) (h : IdsV w ao cap l)
    (hq : ∀ wx, Below w.heap.size w wx → ∀ x ∈ l, Calls Tryz.prog 109 #[idV x, .pointer (some ⟨g1, 0, none⟩), .pointer (some ⟨g2, 0, none⟩)] wx fun e w' => e = .returned (.bool (q x)) ∧ Below wx.heap.size wx w') (n : Nat) (y : Id) (hyn : l[n]? = some y) (hyt : q y = true) (hno : ∀ (j : Nat) (y : Id), j < n → l[j]? = some y → q y = false) :
    Calls Tryz.prog 111 #[.slice ao l.length cap, .func (.func 109) #[] #[.pointer (some ⟨g1, 0, none⟩), .pointer (some ⟨g2, 0, none⟩)]] w fun e w' => e = .returned (.int .i64 (n : Int)) ∧ Below w.heap.size w w' := by
  obtain ⟨hl1, hl2⟩ := h.le
  unfold maxLen at hl2
  have H := Lib.hid h
  have HQ := Lib.hid hq
  have HYN := Lib.hid hyn
  have hnl : n < l.length := (List.getElem?_eq_some_iff.1 hyn).1
  clear h hq hyn
  go_enter Tryz.func111, Tryz.ntmps111
  go_wp2_with fail
  go_loopw [8] (fun i wr => ∃ k : Nat, i = .int .i64 k ∧ k ≤ n ∧ Below w.heap.size w wr) (fun i _ => n - (intOf i).toNat)
  case atStart => exact ⟨0, rfl, Nat.zero_le _, Below.refl _ _⟩
  case round =>
    obtain ⟨k, rfl, hk, hbel⟩ := hrel
    have HB := Lib.hid hbel
    clear hbel
    have hkl : (k : Int) < (l.length : Int) := by omega
    by_cases hlt : k < n
    · obtain ⟨x, hx⟩ : ∃ x, l[k]? = some x := ⟨_, List.getElem?_eq_getElem (by omega)⟩
      have hmem := List.mem_of_getElem? hx
      obtain ⟨g, off, rfl, hgl, d0, d1⟩ := H.out.row k x hx
      have c0 := (HB.out.cell (p := ⟨g, _, none⟩) hgl).trans d0
      have c1 := (HB.out.cell (p := ⟨g, _, none⟩) hgl).trans d1
      clear d0 d1
      have hne := hno k x hlt hx
      clear hx
      go_wp2_with (go_at_call 109; refine (HQ.out _ HB.out x hmem).mono ?_; rintro e w2 ⟨rfl, b2⟩; have HB2 := Lib.hid (HB.out.trans (b2.mono HB.out.size)); clear b2; rw [hne])
      go_roundw
      case rel => exact ⟨k + 1, by go_num, by omega, HB2.out⟩
      case measure => simp [intOf]; omega
    · obtain rfl : k = n := by omega
      obtain ⟨x, hxy⟩ : ∃ x, x = y := ⟨_, rfl⟩
      subst hxy
      have hx := HYN.out
      have hmem := List.mem_of_getElem? hx
      obtain ⟨g, off, rfl, hgl, d0, d1⟩ := H.out.row k x hx
      have c0 := (HB.out.cell (p := ⟨g, _, none⟩) hgl).trans d0
      have c1 := (HB.out.cell (p := ⟨g, _, none⟩) hgl).trans d1
      clear d0 d1
      clear hx
      go_wp2_with (go_at_call 109; refine (HQ.out _ HB.out x hmem).mono ?_; rintro e w2 ⟨rfl, b2⟩; have HB2 := Lib.hid (HB.out.trans (b2.mono HB.out.size)); clear b2; rw [hyt])
      go_ret
      exact ⟨rfl, HB2.out⟩
set_option maxRecDepth 100000 in
set_option maxHeartbeats 4000000 in
theorem idone_none (g1 : Nat) (l : List Id) (ao : Option Addr) (cap : Nat) (q : Id → Bool) (w : World) (h : IdsV w ao cap l)
    (hq : ∀ wx, Below w.heap.size w wx → ∀ x ∈ l, Calls Tryz.prog 84 #[.pointer (some ⟨g1, 0, none⟩), idV x] wx fun e w' => e = .returned (.bool (q x)) ∧ Below wx.heap.size wx w') (hno : ∀ x ∈ l, q x = false) :
    Calls Tryz.prog 111 #[.slice ao l.length cap, .func (.func 84) #[.pointer (some ⟨g1, 0, none⟩)] #[]] w fun e w' => e = .returned (.int .i64 (-1)) ∧ Below w.heap.size w w' := by
  obtain ⟨hl1, hl2⟩ := h.le
  unfold maxLen at hl2
  have H := Lib.hid h
  have HQ := Lib.hid hq
  clear h hq
  go_enter Tryz.func111, Tryz.ntmps111
  go_wp2_with fail
  go_loopw [8] (fun i wr => ∃ k : Nat, i = .int .i64 k ∧ k ≤ l.length ∧ Below w.heap.size w wr) (fun i _ => l.length - (intOf i).toNat)
  case atStart => exact ⟨0, rfl, Nat.zero_le _, Below.refl _ _⟩
  case round =>
    obtain ⟨k, rfl, hk, hbel⟩ := hrel
    have HB := Lib.hid hbel
    clear hbel
    by_cases hlt : k < l.length
    · obtain ⟨x, hx⟩ : ∃ x, l[k]? = some x := ⟨_, List.getElem?_eq_getElem hlt⟩
      have hmem := List.mem_of_getElem? hx
      obtain ⟨g, off, rfl, hgl, d0, d1⟩ := H.out.row k x hx
      have c0 := (HB.out.cell (p := ⟨g, _, none⟩) hgl).trans d0
      have c1 := (HB.out.cell (p := ⟨g, _, none⟩) hgl).trans d1
      clear d0 d1
      have hkl : (k : Int) < (l.length : Int) := by omega
      have hne := hno x hmem
      clear hx
      go_wp2_with (go_at_call 84; refine (HQ.out _ HB.out x hmem).mono ?_; rintro e w2 ⟨rfl, b2⟩; have HB2 := Lib.hid (HB.out.trans (b2.mono HB.out.size)); clear b2; rw [hne])
      go_roundw
      case rel => exact ⟨k + 1, by go_num, by omega, HB2.out⟩
      case measure => simp [intOf]; omega
    · have hkl : ¬ (k : Int) < (l.length : Int) := by omega
      go_wp2_with fail
      go_ret
      exact ⟨rfl, HB.out⟩
set_option maxRecDepth 100000 in
set_option maxHeartbeats 4000000 in
theorem idone_at (g1 : Nat) (l : List Id) (ao : Option Addr) (cap : Nat) (q : Id → Bool) (w : World) (h : IdsV w ao cap l)
    (hq : ∀ wx, Below w.heap.size w wx → ∀ x ∈ l, Calls Tryz.prog 84 #[.pointer (some ⟨g1, 0, none⟩), idV x] wx fun e w' => e = .returned (.bool (q x)) ∧ Below wx.heap.size wx w') (n : Nat) (y : Id) (hyn : l[n]? = some y) (hyt : q y = true) (hno : ∀ (j : Nat) (y : Id), j < n → l[j]? = some y → q y = false) :
    Calls Tryz.prog 111 #[.slice ao l.length cap, .func (.func 84) #[.pointer (some ⟨g1, 0, none⟩)] #[]] w fun e w' => e = .returned (.int .i64 (n : Int)) ∧ Below w.heap.size w w' := by
  obtain ⟨hl1, hl2⟩ := h.le
  unfold maxLen at hl2
  have H := Lib.hid h
  have HQ := Lib.hid hq
  have HYN := Lib.hid hyn
  have hnl : n < l.length := (List.getElem?_eq_some_iff.1 hyn).1
  clear h hq hyn
  go_enter Tryz.func111, Tryz.ntmps111
  go_wp2_with fail
  go_loopw [8] (fun i wr => ∃ k : Nat, i = .int .i64 k ∧ k ≤ n ∧ Below w.heap.size w wr) (fun i _ => n - (intOf i).toNat)
  case atStart => exact ⟨0, rfl, Nat.zero_le _, Below.refl _ _⟩
  case round =>
    obtain ⟨k, rfl, hk, hbel⟩ := hrel
    have HB := Lib.hid hbel
    clear hbel
    have hkl : (k : Int) < (l.length : Int) := by omega
    by_cases hlt : k < n
    · obtain ⟨x, hx⟩ : ∃ x, l[k]? = some x := ⟨_, List.getElem?_eq_getElem (by omega)⟩
      have hmem := List.mem_of_getElem? hx
      obtain ⟨g, off, rfl, hgl, d0, d1⟩ := H.out.row k x hx
      have c0 := (HB.out.cell (p := ⟨g, _, none⟩) hgl).trans d0
      have c1 := (HB.out.cell (p := ⟨g, _, none⟩) hgl).trans d1
      clear d0 d1
      have hne := hno k x hlt hx
      clear hx
      go_wp2_with (go_at_call 84; refine (HQ.out _ HB.out x hmem).mono ?_; rintro e w2 ⟨rfl, b2⟩; have HB2 := Lib.hid (HB.out.trans (b2.mono HB.out.size)); clear b2; rw [hne])
      go_roundw
      case rel => exact ⟨k + 1, by go_num, by omega, HB2.out⟩
      case measure => simp [intOf]; omega
    · obtain rfl : k = n := by omega
      obtain ⟨x, hxy⟩ : ∃ x, x = y := ⟨_, rfl⟩
      subst hxy
      have hx := HYN.out
      have hmem := List.mem_of_getElem? hx
      obtain ⟨g, off, rfl, hgl, d0, d1⟩ := H.out.row k x hx
      have c0 := (HB.out.cell (p := ⟨g, _, none⟩) hgl).trans d0
      have c1 := (HB.out.cell (p := ⟨g, _, none⟩) hgl).trans d1
      clear d0 d1
      clear hx
      go_wp2_with (go_at_call 84; refine (HQ.out _ HB.out x hmem).mono ?_; rintro e w2 ⟨rfl, b2⟩; have HB2 := Lib.hid (HB.out.trans (b2.mono HB.out.size)); clear b2; rw [hyt])
      go_ret
      exact ⟨rfl, HB2.out⟩
set_option maxRecDepth 100000 in
set_option maxHeartbeats 4000000 in
theorem contains_any (g1 g2 : Nat) (l : List Id) (ao : Option Addr) (cap : Nat) (q : Id → Bool) (w : World) (h : IdsV w ao cap l)
    (hq : ∀ wx, Below w.heap.size w wx → ∀ x ∈ l, Calls Tryz.prog 109 #[idV x, .pointer (some ⟨g1, 0, none⟩), .pointer (some ⟨g2, 0, none⟩)] wx fun e w' => e = .returned (.bool (q x)) ∧ Below wx.heap.size wx w') (v : Bool) (hv : l.any q = v) :
    Calls Tryz.prog 110 #[.slice ao l.length cap, .func (.func 109) #[] #[.pointer (some ⟨g1, 0, none⟩), .pointer (some ⟨g2, 0, none⟩)]] w fun e w' => e = .returned (.bool v) ∧ Below w.heap.size w w' := by
  cases v with
  | false =>
    have HI := Lib.hid (lost_none g1 g2 l ao cap q w h hq (fun x hx => by simpa using List.any_eq_false.1 hv x hx))
    clear h hq hv
    go_enter Tryz.func110, Tryz.ntmps110
    go_wp2_with fail
    refine HI.out.mono ?_
    rintro e w1 ⟨rfl, hb1⟩
    have HB1 := Lib.hid hb1
    clear hb1
    go_wp2_with fail
    go_ret
    exact ⟨rfl, HB1.out⟩
  | true =>
    obtain ⟨n, y, h1, h2, h3⟩ := first_at q l hv
    have HI := Lib.hid (lost_at g1 g2 l ao cap q w h hq n y h1 h2 h3)
    clear h hq hv h1 h2 h3
    have hn0 : (0 : Int) ≤ (n : Int) := by omega
    go_enter Tryz.func110, Tryz.ntmps110
    go_wp2_with fail
    refine HI.out.mono ?_
    rintro e w1 ⟨rfl, hb1⟩
    have HB1 := Lib.hid hb1
    clear hb1
    go_wp2_with fail
    go_ret
    exact ⟨rfl, HB1.out⟩
end Go.Proofs.YtkgjfagejnppbaaGreatDoor.O
