/- Several texts in one. -/
import Derived.Test.YtlbkbjeajcadiaaGreatDoorBkG
import Derived.Test.YtlbkbjeajcadiaaGreatDoorMrg16
import Derived.Test.YtlbkbjeajcadiaaGreatDoorMrg17
import Derived.Great.BuildSlice
import Derived.Laws.Tables
import Derived.Test.YtlbkbjeajcadiaaGreatDoorMrg10

/- The book: copyOf, Get. -/
namespace Go.Proofs.YtlbkbjeajcadiaaGreatDoor.B
open Go.RowKit Go.Proofs.YtlbkbjeajcadiaaGreatDoor.M Go.BigFrame Go.Maps Go.Proofs.YtlbkbjeajcadiaaGreatDoor.O Go.Proofs.YtlbkbjeajcadiaaGreatDoor.P Go.Proofs.YtlbkbjeajcadiaaGreatDoor.Mp Go.Proofs.YtlbkbjeajcadiaaGreatDoor.Rw Go.Proofs.YtlbkbjeajcadiaaGreatDoor.R
set_option linter.unusedVariables false
set_option linter.unusedSimpArgs false

/-- a record's zero -/
abbrev zrO : Obj := .cells #[.int .i64 0, .int .i64 0, .int .i64 0, .int .i64 0, .int .i64 0, .int .i64 0, .int .i64 0, .int .i64 0, .int .i64 0, .int .i64 0, .string ⟨#[]⟩, .string ⟨#[]⟩, .int .i64 0, .slice none 0 0, .int .i64 0, .int .i64 0] 40
theorem zrO_eq : zrO = recO (rv0 ⟨0, 0⟩) := rfl
theorem setrow_mods (w : World) (g : Nat) (cs : Array Value) : Mods (fun j => j = g) w (w.setRow g cs) :=
  ⟨rfl, rfl, rfl, by simp, fun k _ hk => setRow_other w g k cs hk⟩
theorem info_rec : (Tryz.prog.info? 40).map (·.size) = some 16 := by kernel_rfl
/-- a record is stored, whole -/
theorem wpList_storeRec {ops : Array Oper} {rest : List Oper} {o : Oper} {a : Act} {w : World} {Q : Exit → Act → World → Prop} (hgd : o.guard = none) (x y : Operand) (ho : o.op = .store 40 x y) (hd : o.dst = none) (g : Nat) (r z : Rv)
    (hx : a.eval x = .pointer (some ⟨g, 0, none⟩)) (hy : a.eval y = recV r) (hg : w.heap[g]? = some (recO z))
    (h : ∀ w', w'.heap[g]? = some (recO r) → Mods (fun j => j = g) w w' → wpList Tryz.prog ops Q rest a w') : wpList Tryz.prog ops Q (o :: rest) a w :=
  wpList_store_rowTo hgd _ x y ho hd g (recA r) hx hy _ (recA z) hg info_rec rfl (by kernel_rfl) (h _ (setRow_heap w g _ _ _ _ hg) (setrow_mods w g _))
/-- a record is read, whole -/
theorem wpList_loadRec {ops : Array Oper} {rest : List Oper} {o : Oper} {a : Act} {w : World} {Q : Exit → Act → World → Prop} (hgd : o.guard = none) (x : Operand) (ho : o.op = .load 40 x) (g : Nat) (r : Rv)
    (hx : a.eval x = .pointer (some ⟨g, 0, none⟩)) (hg : w.heap[g]? = some (recO r)) (h : wpList Tryz.prog ops Q rest (a.put o.dst (recV r)) w) : wpList Tryz.prog ops Q (o :: rest) a w :=
  wpList_load_row hgd _ x ho g hx _ (recA r) _ _ hg Tryz.underlying40 rfl info_rec h
/-- a result that is a record -/
theorem ret_rec {f : Func} {Q : Ending → World → Prop} {a : Act} {W : World} (b : Nat) (r : Rv) (p : Tmp) (hr : f.results = #[.cell p 40]) (hp : a.tmps.getD p undef = .pointer (some ⟨b, 0, none⟩)) (hW : W.heap[b]? = some (recO r)) (hd : a.defers = []) (hQ : Q (.returned (recV r)) W) : bodyPost Tryz.prog f Q .ret a W :=
  ret_box b (recA r) _ (recV r) hW (fun W' h => results_cell_row hr a.tmps W' b _ (recA r) _ _ hp h Tryz.underlying40 rfl info_rec) hd hQ
set_option maxRecDepth 100000 in
set_option maxHeartbeats 4000000 in
theorem copy_any (x : Rv) (w : World) (h : RvOk w x) (hl : x.deps.length ≤ 1000000) :
    Calls Tryz.prog 42 #[recV x] w fun e w' => ∃ ao cap, e = .returned (recV { x with ao := ao, cap := cap }) ∧ (OwnL w' w.heap.size ao cap x.deps ∧ Below w.heap.size w w') := by
  have H0 := Lib.hid h
  clear h
  go_enter Tryz.func42, Tryz.ntmps42
  go_upto_region 1 with fail
  obtain ⟨W, hW⟩ : ∃ W, W = (w.alloc (recO x)).alloc zrO := ⟨_, rfl⟩
  have HB : Hid (Below w.heap.size w W) := Lib.hid (by rw [hW]; exact ((Below.refl _ _).alloc (Nat.le_refl _) _).alloc (by simp) _)
  have HX : Hid (W.heap[w.heap.size]? = some (recO x)) := Lib.hid (by rw [hW, heap_al, if_neg (by simp)]; exact heap_alloc_new w _)
  have HZ : Hid (W.heap[w.heap.size + 1]? = some (recO (rv0 ⟨0, 0⟩))) := Lib.hid (by rw [hW, heap_al, if_pos (by simp)]; rfl)
  rw [← hW]
  clear hW
  have HCL := Lib.hid (cloneI_any x.deps x.ao x.cap W (H0.out.below HB.out).deps hl)
  obtain ⟨c0, c1, c2, c3, c4, c5, c6, c7, c8, c9, c10, c11, c12, c13, c14, c15⟩ := box16 HX.out
  clear c0 c1 c2 c3 c4 c5 c6 c7 c8 c9 c10 c11 c12 c14 c15
  go_wp2_with fail
  refine HCL.out.mono ?_
  rintro e w3 ⟨ao, cap, rfl, hown, hb3⟩
  have HX3 := Lib.hid ((hb3.block _ (M.heap_lt HX.out)).trans HX.out)
  have HZ3 := Lib.hid ((hb3.block _ (M.heap_lt HZ.out)).trans HZ.out)
  have HW3 := Lib.hid (HB.out.trans (hb3.mono HB.out.size))
  have HOWN := Lib.hid (show OwnL w3 w.heap.size ao cap x.deps from own_base hown (fun q hq => Nat.le_trans HB.out.size (hown.lt q hq).1))
  have HOGE := Lib.hid (show ∀ a, ao = some a → w.heap.size + 2 ≤ a.block from fun a e => by
    have h1 := (hown.lt a.block (by rw [e]; rfl)).1
    have h2 := M.heap_lt HZ.out
    omega)
  clear hown hb3 HCL c13
  obtain ⟨c0, c1, c2, c3, c4, c5, c6, c7, c8, c9, c10, c11, c12, c13, c14, c15⟩ := box16 HX3.out
  have nf : w3.frozen? ⟨w.heap.size, 13, none⟩ = false := by simp [World.frozen?, HX3.out]
  clear c0 c1 c2 c3 c4 c5 c6 c7 c8 c9 c10 c11 c12 c14 c15
  go_upto_region 2 with fail
  clear c13 nf
  obtain ⟨w5, hw5⟩ : ∃ w5, w5 = w3.setCell ⟨w.heap.size, 13, none⟩ (.slice ao x.deps.length cap) := ⟨_, rfl⟩
  rw [← hw5]
  have s1 := heap_set w3 w.heap.size 13 (.slice ao x.deps.length cap) w.heap.size _ _ _ HX3.out
  rw [if_pos rfl, ← hw5] at s1
  have ms : Mods (fun j => j = w.heap.size) w3 w5 := by rw [hw5]; exact (Mods.refl (fun j => j = w.heap.size) w3).setCell (p := ⟨w.heap.size, 13, none⟩) (fun _ => rfl) _
  obtain ⟨y, hy⟩ : ∃ y : Rv, { x with ao := ao, cap := cap } = y := ⟨_, rfl⟩
  have hx5 : w5.heap[w.heap.size]? = some (recO y) := by rw [← hy, s1]; rfl
  have HY := Lib.hid hy
  have HW5 := Lib.hid (HW3.out.trans (ms.below (fun j e => by omega) HW3.out.size))
  have HOW5 := Lib.hid (show OwnL w5 w.heap.size ao cap x.deps from own_kept HOWN.out ms (fun k hk e => by
    cases ao with
    | none => cases hk
    | some a =>
      obtain rfl : a.block = k := Option.some.inj hk
      have := HOGE.out a rfl
      omega))
  have HZ5 := Lib.hid (ms.heap HZ3.out (by omega))
  clear s1 ms hw5 hy
  have HX5 := Lib.hid hx5
  clear hx5
  go_wp2_with (first | (refine wpList_loadRec (by rfl) _ (by rfl) w.heap.size y (by rfl) HX5.out ?_) | (refine wpList_storeRec (by rfl) _ _ (by rfl) (by rfl) (w.heap.size + 1) y (rv0 ⟨0, 0⟩) (by rfl) (by rfl) HZ5.out ?_; intro w6 hx6 hm6; have HX6 := Lib.hid hx6; have HM6 := Lib.hid hm6; clear hx6 hm6))
  refine ret_rec (w.heap.size + 1) y 2 (by rfl) (by rfl) HX6.out rfl ?_
  · refine ⟨ao, cap, by rw [HY.out], ?_, HW5.out.trans (HM6.out.below (fun j e => by omega) HW5.out.size)⟩
    exact own_kept HOW5.out HM6.out (fun k hk e => by
      cases ao with
      | none => cases hk
      | some a =>
        obtain rfl : a.block = k := Option.some.inj hk
        have := HOGE.out a rfl
        omega)
end Go.Proofs.YtlbkbjeajcadiaaGreatDoor.B

/- The book in memory: Get, note. -/
namespace Go.Proofs.YtlbkbjeajcadiaaGreatDoor.B
open Go.RowKit Go.Proofs.YtlbkbjeajcadiaaGreatDoor.M Go.BigFrame Go.Maps Go.Proofs.YtlbkbjeajcadiaaGreatDoor.O Go.Proofs.YtlbkbjeajcadiaaGreatDoor.P Go.Proofs.YtlbkbjeajcadiaaGreatDoor.Mp Go.Proofs.YtlbkbjeajcadiaaGreatDoor.Rw Go.Proofs.YtlbkbjeajcadiaaGreatDoor.R
set_option linter.unusedVariables false
set_option linter.unusedSimpArgs false

/-- a book in memory: its box at p; the index's at x; the records' map at b -/
structure BkAt (w : World) (p x b n : Nat) (R : List (O.Id × Rv)) (A : List (O.Id × En)) (Fi : Nat → Prop) : Prop where
  box : w.heap[p]? = some (.cells #[.pointer (some ⟨x, 0, none⟩), .map (some b), .pointer none] 63 (0, 0))
  ix : Ix w x n A Fi
  rel : BkRel R A
  recs : MapL sIR w b n R
  ok : ∀ q ∈ R, RvOk w q.2 ∧ q.2.id = q.1 ∧ recOk q.2 = true ∧ q.2.deps.length ≤ 1000 ∧ q.2.cmd.key.size ≤ 1000
  sep : ∀ q ∈ R, ∀ a, q.2.ao = some a → q.2.deps ≠ [] → ¬ Fi a.block ∧ a.block ≠ b
  ne : ¬ Fi p ∧ p ≠ x ∧ p ≠ b ∧ ¬ Fi b ∧ b ≠ x
section
variable {w w1 : World} {p x b n : Nat} {R : List (O.Id × Rv)} {A : List (O.Id × En)} {Fi : Nat → Prop}
/-- the blocks of a book -/
def BkU (p x b : Nat) (R : List (O.Id × Rv)) (Fi : Nat → Prop) : Nat → Prop := fun j => j = p ∨ j = x ∨ j = b ∨ Fi j ∨ ∃ q ∈ R, ∃ a, q.2.ao = some a ∧ q.2.deps ≠ [] ∧ j = a.block
theorem BkAt.keep {S : Nat → Prop} (h : BkAt w p x b n R A Fi) (hm : Mods S w w1) (hn : ∀ j, BkU p x b R Fi j → ¬ S j) : BkAt w1 p x b n R A Fi :=
  ⟨hm.heap h.box (hn _ (.inl rfl)), h.ix.keep hm (hn _ (.inr (.inl rfl))) (fun j hj => hn _ (.inr (.inr (.inr (.inl hj))))), h.rel, h.recs.keep hm (hn _ (.inr (.inr (.inl rfl)))),
    fun q hq => ⟨⟨(h.ok q hq).1.cmd, (h.ok q hq).1.deps.keep hm (fun a e hne => hn _ (.inr (.inr (.inr (.inr ⟨q, hq, a, e, hne, rfl⟩))))), (h.ok q hq).1.id⟩, (h.ok q hq).2⟩, h.sep, h.ne⟩
theorem BkAt.below (h : BkAt w p x b n R A Fi) (hb : Below w.heap.size w w1) : BkAt w1 p x b n R A Fi :=
  h.keep (S := fun _ => False) (Mods.of_below hb) (fun _ _ h => h)
theorem BkAt.cells (h : BkAt w p x b n R A Fi) : w.cell? ⟨p, 0, none⟩ = some (.pointer (some ⟨x, 0, none⟩)) ∧ w.cell? ⟨p, 1, none⟩ = some (.map (some b)) ∧ w.cell? ⟨p, 2, none⟩ = some (.pointer none) := (box3 h.box).1
theorem idsv_lt {w : World} {ao : Option Addr} {cap : Nat} {l : List O.Id} (h : IdsV w ao cap l) : ∀ a, ao = some a → l ≠ [] → a.block < w.heap.size := by
  intro a e hne
  cases l with
  | nil => exact absurd rfl hne
  | cons x t =>
    obtain ⟨b, off, e2, hl, _⟩ := h.row 0 x rfl
    rw [e] at e2
    cases e2
    exact hl
theorem BkAt.lts (h : BkAt w p x b n R A Fi) : ∀ j, BkU p x b R Fi j → j < w.heap.size := by
  rintro j (rfl | rfl | rfl | hj | ⟨q, hq, a, e, hne, rfl⟩)
  · exact M.heap_lt h.box
  · exact h.ix.lt
  · exact h.recs.lt
  · exact h.ix.flt j hj
  · exact idsv_lt (h.ok q hq).1.deps a e hne
end
/-- a book, its blocks among those of U -/
def Bk (w : World) (p n : Nat) (R : List (O.Id × Rv)) (U : Nat → Prop) : Prop := ∃ x b A Fi, BkAt w p x b n R A Fi ∧ (∀ j, BkU p x b R Fi j → U j) ∧ ∀ j, U j → j < w.heap.size
theorem Bk.keep {w w1 : World} {p n : Nat} {R : List (O.Id × Rv)} {U S : Nat → Prop} (h : Bk w p n R U) (hm : Mods S w w1) (hn : ∀ j, U j → ¬ S j) : Bk w1 p n R U := by
  obtain ⟨x, b, A, Fi, h1, h2, h3⟩ := h
  exact ⟨x, b, A, Fi, h1.keep hm (fun j hj => hn j (h2 j hj)), h2, fun j hj => Nat.lt_of_lt_of_le (h3 j hj) hm.size⟩
theorem Bk.below {w w1 : World} {p n : Nat} {R : List (O.Id × Rv)} {U : Nat → Prop} (h : Bk w p n R U) (hb : Below w.heap.size w w1) : Bk w1 p n R U := h.keep (S := fun _ => False) (Mods.of_below hb) (fun _ _ h => h)
theorem Bk.lts {w : World} {p n : Nat} {R : List (O.Id × Rv)} {U : Nat → Prop} (h : Bk w p n R U) : ∀ j, U j → j < w.heap.size := by
  obtain ⟨x, b, A, Fi, h1, h2, h3⟩ := h
  exact h3
theorem Bk.nd {w : World} {p n : Nat} {R : List (O.Id × Rv)} {U : Nat → Prop} (h : Bk w p n R U) : (R.map Prod.fst).Nodup := by
  obtain ⟨x, b, A, Fi, h1, h2, h3⟩ := h
  exact h1.recs.nd
theorem getR_none {R : List (O.Id × Rv)} {i : O.Id} (h : hasD R i = false) : getR R i = rv0 i := by
  unfold getR
  rw [findD_has] at h
  cases hf : findD R i with
  | none => rfl
  | some v => rw [hf] at h; cases h
theorem getR_some {R : List (O.Id × Rv)} {i : O.Id} (h : hasD R i = true) : findD R i = some (getR R i) := by
  unfold getR
  rw [findD_has] at h
  cases hf : findD R i with
  | none => rw [hf] at h; cases h
  | some v => rfl
set_option maxRecDepth 100000 in
set_option maxHeartbeats 4000000 in
theorem get_at (p x b n : Nat) (R : List (O.Id × Rv)) (A : List (O.Id × En)) (Fi : Nat → Prop) (i : O.Id) (w : World) (h : BkAt w p x b n R A Fi) (hi : IdI i) :
    Calls Tryz.prog 20 #[.pointer (some ⟨p, 0, none⟩), idV i] w fun e w' => ∃ ao cap, e = .returned (recV { getR R i with ao := ao, cap := cap }) ∧ (OwnL w' w.heap.size ao cap (getR R i).deps ∧ Below w.heap.size w w') := by
  have H := Lib.hid h
  have HI := Lib.hid hi
  clear h hi
  go_enter Tryz.func20, Tryz.ntmps20
  go_upto_region 1 with fail
  obtain ⟨W, hW⟩ : ∃ W, W = (w.alloc (idO i)).alloc zrO := ⟨_, rfl⟩
  have HB : Hid (Below w.heap.size w W) := Lib.hid (by rw [hW]; exact ((Below.refl _ _).alloc (Nat.le_refl _) _).alloc (by simp) _)
  have HX : Hid (W.heap[w.heap.size]? = some (idO i)) := Lib.hid (by rw [hW, heap_al, if_neg (by simp)]; exact heap_alloc_new w _)
  have HZ : Hid (W.heap[w.heap.size + 1]? = some (recO (rv0 ⟨0, 0⟩))) := Lib.hid (by rw [hW, heap_al, if_pos (by simp)]; rfl)
  rw [← hW]
  clear hW
  have HA := Lib.hid (H.out.below HB.out)
  have hzp := M.heap_lt HA.out.box
  have hlt := M.heap_lt HX.out
  obtain ⟨y, hy⟩ : ∃ y, lookD R i (rv0 ⟨0, 0⟩) = y := ⟨_, rfl⟩
  obtain ⟨bb, hbb⟩ : ∃ bb, hasD R i = bb := ⟨_, rfl⟩
  have HY := Lib.hid hy
  have HBB := Lib.hid hbb
  clear hy hbb
  have HLK := Lib.hid (fun (w' : World) (hb : Below W.heap.size W w') => show (Instr.lookup 61 (.map (some b)) (.agg #[.int .i64 i.r, .int .i64 i.n]) true).run Tryz.prog w' = .ok (.tuple #[recV y, .bool bb]) w' from (HA.out.below hb).recs.look_ok lIR HI.out HY.out HBB.out)
  obtain ⟨⟨d0, d1⟩, _⟩ := box2 HX.out
  obtain ⟨e0, e1, e2⟩ := HA.out.cells
  have HST := Lib.hid (show ∀ w', Below W.heap.size W w' → w'.cell? ⟨p, 1, none⟩ = some (.map (some b)) ∧ w'.cell? ⟨w.heap.size, 0, none⟩ = some (.int .i64 i.r) ∧ w'.cell? ⟨w.heap.size, 1, none⟩ = some (.int .i64 i.n) ∧ (Instr.lookup 61 (.map (some b)) (.agg #[.int .i64 i.r, .int .i64 i.n]) true).run Tryz.prog w' = .ok (.tuple #[recV y, .bool bb]) w' ∧ Below W.heap.size W w' from fun w' hb =>
    ⟨(hb.cell (p := ⟨p, 1, none⟩) hzp).trans e1, (hb.cell (p := ⟨w.heap.size, 0, none⟩) hlt).trans d0, (hb.cell (p := ⟨w.heap.size, 1, none⟩) hlt).trans d1, HLK.out w' hb, hb⟩)
  go_region_held3 (fun w' => w'.cell? ⟨p, 1, none⟩ = some (.map (some b)) ∧ w'.cell? ⟨w.heap.size, 0, none⟩ = some (.int .i64 i.r) ∧ w'.cell? ⟨w.heap.size, 1, none⟩ = some (.int .i64 i.n) ∧ (Instr.lookup 61 (.map (some b)) (.agg #[.int .i64 i.r, .int .i64 i.n]) true).run Tryz.prog w' = .ok (.tuple #[recV y, .bool bb]) w' ∧ Below W.heap.size W w')
    (first | exact HST.out _ (Below.refl _ _).drew | exact HST.out _ ((Below.refl _ _).drew.alloc (Nat.le_refl _) _))
    (fail)
  all_goals
    obtain ⟨w5, hw5⟩ : ∃ w5, w5 = (W.alloc (recO y)).drew := ⟨_, rfl⟩
    rw [← hw5]
    have hb5 : Below W.heap.size W w5 := by rw [hw5]; exact ((Below.refl _ _).alloc (Nat.le_refl _) _).drew
    have hE5 : w5.heap[W.heap.size]? = some (recO y) := by rw [hw5]; exact heap_alloc_new W _
    have HEB := Lib.hid hE5
    have HB5 := Lib.hid (HB.out.trans (hb5.mono HB.out.size))
    have HX5 := Lib.hid ((hb5.block _ hlt).trans HX.out)
    have HZ5 := Lib.hid ((hb5.block _ (M.heap_lt HZ.out)).trans HZ.out)
    have HWS := Lib.hid HB.out.size
    clear hw5 hb5 d0 d1 e0 e1 e2 HST HLK hE5 hzp hlt HA
    cases bb with
    | false =>
      have HG := Lib.hid (getR_none HBB.out)
      obtain ⟨⟨d0, d1⟩, _⟩ := box2 HX5.out
      go_wp2_with (refine wpList_storeRec (by rfl) _ _ (by rfl) (by rfl) (w.heap.size + 1) (rv0 i) (rv0 ⟨0, 0⟩) (by rfl) (by rfl) HZ5.out ?_; intro w6 hx6 hm6; have HX6 := Lib.hid hx6; have HM6 := Lib.hid hm6; clear hx6 hm6)
      refine ret_rec (w.heap.size + 1) (rv0 i) 4 (by rfl) (by rfl) HX6.out rfl ?_
      refine ⟨none, 0, by rw [HG.out]; rfl, ?_, HB5.out.trans (HM6.out.below (fun j e => by omega) HB5.out.size)⟩
      rw [HG.out]
      exact World.ownsRow_nil _ _ _ _
    | true =>
      have hfd := getR_some HBB.out
      have hgy : getR R i = y := by
        have h1 := HY.out
        unfold lookD at h1
        rw [hfd] at h1
        exact h1
      have hmem := findD_some hfd
      rw [hgy] at hmem
      have HG := Lib.hid hgy
      have HOK := Lib.hid (H.out.ok _ hmem)
      have HCP := Lib.hid (copy_any y w5 (HOK.out.1.below HB5.out) (by have := HOK.out.2.2.2.1; simp only at this; omega))
      clear hfd hgy hmem
      go_wp2_with (refine wpList_loadRec (by rfl) _ (by rfl) W.heap.size y (by rfl) HEB.out ?_)
      refine HCP.out.mono ?_
      rintro e w6 ⟨ao, cap, rfl, ho, hb6⟩
      have HO6 := Lib.hid ho
      have HB6 := Lib.hid hb6
      have HZ6 := Lib.hid ((hb6.block _ (M.heap_lt HZ5.out)).trans HZ5.out)
      have HS5 := Lib.hid HB5.out.size
      have HZL := Lib.hid (M.heap_lt HZ5.out)
      clear ho hb6 HCP
      go_wp2_with (refine wpList_storeRec (by rfl) _ _ (by rfl) (by rfl) (w.heap.size + 1) { y with ao := ao, cap := cap } (rv0 ⟨0, 0⟩) (by rfl) (by rfl) HZ6.out ?_; intro w7 hx7 hm7; have HX7 := Lib.hid hx7; have HM7 := Lib.hid hm7; clear hx7 hm7)
      refine ret_rec (w.heap.size + 1) { y with ao := ao, cap := cap } 4 (by rfl) (by rfl) HX7.out rfl ?_
      have hB6 : Below w.heap.size w w6 := HB5.out.trans (HB6.out.mono HB5.out.size)
      refine ⟨ao, cap, by rw [HG.out], ?_, hB6.trans (HM7.out.below (fun j e => by omega) hB6.size)⟩
      rw [HG.out]
      refine own_base (own_kept HO6.out HM7.out (fun k hk e => ?_)) (fun k hk => ?_)
      · have h1 := (HO6.out.lt k hk).1
        have h2 := HZL.out
        omega
      · have h1 := (HO6.out.lt k hk).1
        have h2 := HS5.out
        omega
theorem get_any (p n : Nat) (R : List (O.Id × Rv)) (U : Nat → Prop) (i : O.Id) (w : World) (h : Bk w p n R U) (hi : IdI i) :
    Calls Tryz.prog 20 #[.pointer (some ⟨p, 0, none⟩), idV i] w fun e w' => ∃ ao cap, e = .returned (recV { getR R i with ao := ao, cap := cap }) ∧ (OwnL w' w.heap.size ao cap (getR R i).deps ∧ Below w.heap.size w w') := by
  obtain ⟨x, b, A, Fi, h1, h2, h3⟩ := h
  exact get_at p x b n R A Fi i w h1 hi
end Go.Proofs.YtlbkbjeajcadiaaGreatDoor.B
