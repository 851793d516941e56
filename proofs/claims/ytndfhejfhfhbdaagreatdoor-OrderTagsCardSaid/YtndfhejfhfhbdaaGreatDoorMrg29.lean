/- Several texts in one. -/
import Derived.Test.YtndfhejfhfhbdaaGreatDoorMrg28
import Derived.Test.YtndfhejfhfhbdaaGreatDoorMrg9
import Derived.Test.YtndfhejfhfhbdaaGreatDoorCom
import Derived.OpenShut
import Derived.Test.YtndfhejfhfhbdaaGreatDoorMrg8
import Derived.Test.YtndfhejfhfhbdaaGreatDoorMrg26

/- The law's awake. -/
namespace Go.Proofs.YtndfhejfhfhbdaaGreatDoor.O
open Go.RowKit Go.Proofs.YtndfhejfhfhbdaaGreatDoor.M Go.BigFrame Go.Proofs.YtndfhejfhfhbdaaGreatDoor.K Go.Proofs.YtndfhejfhfhbdaaGreatDoor.T Go.Proofs.YtndfhejfhfhbdaaGreatDoor.R
set_option linter.unusedVariables false
set_option linter.unusedSimpArgs false

theorem heap_dr (w : World) (k : Nat) : w.drew.heap[k]? = w.heap[k]? := rfl
theorem ex_cells (g1 g2 : Nat) : (cellsR (exX g1 g2)).toArray = #[.int .i64 0, .int .i64 1, .int .i64 3, .int .i64 0, .int .i64 0, .int .i64 0, .int .i64 0, .int .i64 0, .int .i64 0, .int .i64 0, .string ⟨#[]⟩, .string ⟨#[]⟩, .int .i64 0, .slice (some ⟨g1, 0, none⟩) 1 1, .int .i64 2, .int .i64 1, .int .i64 1, .int .i64 1, .int .i64 3, .int .i64 0, .int .i64 0, .int .i64 0, .int .i64 0, .int .i64 0, .int .i64 0, .int .i64 0, .string ⟨#[]⟩, .string ⟨#[]⟩, .int .i64 0, .slice (some ⟨g2, 0, none⟩) 1 1, .int .i64 1, .int .i64 1] := by
  simp [cellsR, exX, comR, cmd0, P.nul, exA, exB]
  rfl
theorem ex_run2 (w0 : World) (g1 g2 g3 : Nat) (hg : g3 = w0.heap.size) (h1 : w0.heap[g1]? = some (.cells #[.int .i64 1, .int .i64 1] 27 (0, 0))) (h2 : w0.heap[g2]? = some (.cells #[.int .i64 0, .int .i64 1] 27 (0, 0))) (hT : Tabs w0) :
    Calls Tryz.prog 13 #[.slice (some ⟨g3, 0, none⟩) 2 2] (w0.alloc (.cells #[.int .i64 0, .int .i64 1, .int .i64 3, .int .i64 0, .int .i64 0, .int .i64 0, .int .i64 0, .int .i64 0, .int .i64 0, .int .i64 0, .string ⟨#[]⟩, .string ⟨#[]⟩, .int .i64 0, .slice (some ⟨g1, 0, none⟩) 1 1, .int .i64 2, .int .i64 1, .int .i64 1, .int .i64 1, .int .i64 3, .int .i64 0, .int .i64 0, .int .i64 0, .int .i64 0, .int .i64 0, .int .i64 0, .int .i64 0, .string ⟨#[]⟩, .string ⟨#[]⟩, .int .i64 0, .slice (some ⟨g2, 0, none⟩) 1 1, .int .i64 1, .int .i64 1] 38)).drew fun e w' => ∃ (oo : Option Addr) (oc : Nat), e = .returned (.tuple #[.slice oo 2 oc, .int .i64 0]) ∧ (OwnL w' w0.heap.size oo oc [exB, exA] ∧ Below w0.heap.size w0 w') := by
  subst hg
  have hb : Below w0.heap.size w0 (w0.alloc (.cells #[.int .i64 0, .int .i64 1, .int .i64 3, .int .i64 0, .int .i64 0, .int .i64 0, .int .i64 0, .int .i64 0, .int .i64 0, .int .i64 0, .string ⟨#[]⟩, .string ⟨#[]⟩, .int .i64 0, .slice (some ⟨g1, 0, none⟩) 1 1, .int .i64 2, .int .i64 1, .int .i64 1, .int .i64 1, .int .i64 3, .int .i64 0, .int .i64 0, .int .i64 0, .int .i64 0, .int .i64 0, .int .i64 0, .int .i64 0, .string ⟨#[]⟩, .string ⟨#[]⟩, .int .i64 0, .slice (some ⟨g2, 0, none⟩) 1 1, .int .i64 1, .int .i64 1] 38)).drew := ((Below.refl _ _).alloc (Nat.le_refl _) _).drew
  refine (ex_run g1 g2 w0.heap.size _ (hT.next hb) ((hb.block _ (M.heap_lt h1)).trans h1) ((hb.block _ (M.heap_lt h2)).trans h2) (by rw [ex_cells, heap_dr, heap_al, if_pos rfl])).mono ?_
  rintro e w' ⟨oo, oc, rfl, h3, h4⟩
  exact ⟨oo, oc, rfl, own_base h3 (fun q hq => Nat.le_trans hb.size (h3.lt q hq).1), hb.trans (h4.mono hb.size)⟩
theorem com_one (ao : Option Addr) (cap : Nat) (w : World) :
    Calls Tryz.prog 41 #[.int .i64 0, .int .i64 2, .slice ao 1 cap] w fun e w' => e = .returned (.agg #[.int .i64 0, .int .i64 1, .int .i64 3, .int .i64 0, .int .i64 0, .int .i64 0, .int .i64 0, .int .i64 0, .int .i64 0, .int .i64 0, .string ⟨#[]⟩, .string ⟨#[]⟩, .int .i64 0, .slice ao 1 cap, .int .i64 2, .int .i64 1]) ∧
      w' = w.alloc (.cells #[.int .i64 0, .int .i64 1, .int .i64 3, .int .i64 0, .int .i64 0, .int .i64 0, .int .i64 0, .int .i64 0, .int .i64 0, .int .i64 0, .string ⟨#[]⟩, .string ⟨#[]⟩, .int .i64 0, .slice ao 1 cap, .int .i64 2, .int .i64 1] 38) := com_any 0 2 [exB] ao cap w
theorem com_two (ao : Option Addr) (cap : Nat) (w : World) :
    Calls Tryz.prog 41 #[.int .i64 1, .int .i64 1, .slice ao 1 cap] w fun e w' => e = .returned (.agg #[.int .i64 1, .int .i64 1, .int .i64 3, .int .i64 0, .int .i64 0, .int .i64 0, .int .i64 0, .int .i64 0, .int .i64 0, .int .i64 0, .string ⟨#[]⟩, .string ⟨#[]⟩, .int .i64 0, .slice ao 1 cap, .int .i64 1, .int .i64 1]) ∧
      w' = w.alloc (.cells #[.int .i64 1, .int .i64 1, .int .i64 3, .int .i64 0, .int .i64 0, .int .i64 0, .int .i64 0, .int .i64 0, .int .i64 0, .int .i64 0, .string ⟨#[]⟩, .string ⟨#[]⟩, .int .i64 0, .slice ao 1 cap, .int .i64 1, .int .i64 1] 38) := com_any 1 1 [exA] ao cap w
theorem ids_lit {w : World} {g : Nat} {l : List Id} (h : w.heap[g]? = some (.cells (cellsI l).toArray 27 (0, 0))) (hl : l.length ≤ 1000) (hok : ∀ x ∈ l, IdI x) : IdsV w (some ⟨g, 0, none⟩) l.length l := by
  refine ⟨⟨Nat.le_refl _, by unfold maxLen; omega⟩, fun e => (by cases e), fun k x hk => ?_, hok⟩
  obtain ⟨h1, h2⟩ := cellsI_get l k x hk
  refine ⟨g, 0, rfl, M.heap_lt h, ?_, ?_⟩
  · rw [cell_of_row w g _ _ _ _ h, Nat.zero_add]; simpa using h1
  · rw [cell_of_row w g _ _ _ _ h, Nat.zero_add]; simpa using h2
theorem keep4 {W w' : World} {g1 g2 : Nat} {v0 v1 v2 v3 : Value} (hb : Below W.heap.size W w') (h1 : g1 < W.heap.size) (h2 : g2 < W.heap.size) (a0 : W.cell? ⟨g1, 0, none⟩ = some v0) (a1 : W.cell? ⟨g1, 1, none⟩ = some v1) (b0 : W.cell? ⟨g2, 0, none⟩ = some v2) (b1 : W.cell? ⟨g2, 1, none⟩ = some v3) :
    w'.cell? ⟨g1, 0, none⟩ = some v0 ∧ w'.cell? ⟨g1, 1, none⟩ = some v1 ∧ w'.cell? ⟨g2, 0, none⟩ = some v2 ∧ w'.cell? ⟨g2, 1, none⟩ = some v3 :=
  ⟨(hb.cell (p := ⟨g1, 0, none⟩) h1).trans a0, (hb.cell (p := ⟨g1, 1, none⟩) h1).trans a1, (hb.cell (p := ⟨g2, 0, none⟩) h2).trans b0, (hb.cell (p := ⟨g2, 1, none⟩) h2).trans b1⟩
set_option maxRecDepth 100000 in
set_option maxHeartbeats 4000000 in
theorem awake_any (w : World) (hT : Tabs w) :
    Calls Tryz.prog 10 #[] w fun e w' => e = .returned (.bool true) ∧ Below w.heap.size w w' := by
  have HT0 := Lib.hid hT
  clear hT
  go_enter Tryz.func10, Tryz.ntmps10
  go_upto_region 2 with fail
  obtain ⟨W, hW⟩ : ∃ W, W = (w.alloc (.cells #[.int .i64 0, .int .i64 1] 27)).alloc (.cells #[.int .i64 1, .int .i64 1] 27) := ⟨_, rfl⟩
  have hA : W.heap[w.heap.size]? = some (.cells #[.int .i64 0, .int .i64 1] 27 (0, 0)) := by rw [hW, heap_al, heap_al]; simp
  have hB : W.heap[w.heap.size + 1]? = some (.cells #[.int .i64 1, .int .i64 1] 27 (0, 0)) := by rw [hW, heap_al]; simp
  have HBW := Lib.hid (show Below w.heap.size w W by rw [hW]; exact ((Below.refl _ _).alloc (Nat.le_refl _) _).alloc (by simp) _)
  have HT := Lib.hid (HT0.out.next HBW.out)
  rw [← hW]
  clear hW
  obtain ⟨⟨a0, a1⟩, _⟩ := box2 hA
  obtain ⟨⟨b0, b1⟩, _⟩ := box2 hB
  obtain ⟨ga, hga⟩ : ∃ g, g = w.heap.size := ⟨_, rfl⟩
  obtain ⟨gb, hgb⟩ : ∃ g, g = w.heap.size + 1 := ⟨_, rfl⟩
  have hlt := M.heap_lt hB
  rw [← hgb] at b0 b1 hlt ⊢
  have HGA := Lib.hid hga
  have HGB := Lib.hid hgb
  have hla : w.heap.size < W.heap.size := M.heap_lt hA
  clear hA hB hgb
  go_region_held3 (fun w' => w'.cell? ⟨w.heap.size, 0, none⟩ = some (.int .i64 0) ∧ w'.cell? ⟨w.heap.size, 1, none⟩ = some (.int .i64 1) ∧ w'.cell? ⟨gb, 0, none⟩ = some (.int .i64 1) ∧ w'.cell? ⟨gb, 1, none⟩ = some (.int .i64 1))
    (exact keep4 (by repeat (first | (exact HZ.out) | exact Below.refl _ _ | refine Below.drew ?_ | refine Below.alloc ?_ (by simp <;> omega) _)) hla hlt a0 a1 b0 b1)
    ((first
      | (go_at_call 41; first | with_reducible refine (com_one _ _ _).mono ?_ | with_reducible refine (com_two _ _ _).mono ?_
         rintro e wc ⟨rfl, rfl⟩)
      | (go_at_call 13
         refine (ex_run2 _ _ _ _ (by simp) (by rw [heap_al, heap_al, heap_al, heap_al]; simp +arith) (by rw [heap_al, heap_al, heap_al, heap_al]; simp +arith) (HT.out.next (by repeat (first | exact Below.refl _ _ | refine Below.drew ?_ | refine Below.alloc ?_ (by simp <;> omega) _)))).mono ?_
         rintro e wz ⟨oo, oc, rfl, how, hbz⟩
         have HZ := Lib.hid (Below.trans (a := W) (c := wz) (B := W.heap.size) (by repeat (first | exact Below.refl _ _ | refine Below.drew ?_ | refine Below.alloc ?_ (by simp <;> omega) _)) (hbz.mono (by simp <;> omega)))
         have HOWZ := Lib.hid how
         clear how hbz)))
  all_goals
    have HBZ := Lib.hid (HBW.out.trans (HZ.out.mono HBW.out.size))
    have HOWV := Lib.hid (Go.Proofs.YtndfhejfhfhbdaaGreatDoor.O.IdsV.of_own (B := 0) (l := [exB, exA]) (own_base HOWZ.out (fun _ _ => Nat.zero_le _)) (fun x hx => by
      rcases List.mem_cons.1 hx with rfl | hx
      · exact ⟨by unfold P.InI exB; simp, by unfold P.InI exB; simp⟩
      · rw [List.mem_singleton.1 hx]; exact ⟨by unfold P.InI exA; simp, by unfold P.InI exA; simp⟩))
    obtain ⟨a0', a1', b0', b1'⟩ := keep4 HZ.out hla hlt a0 a1 b0 b1
    clear a0 a1 b0 b1
    go_upto_region 3 with fail
    have HEQ := Lib.hid (refequal_any [exB, exA] [exB, exA] oo (some ⟨wz.heap.size, 0, none⟩) oc 2 (wz.alloc (.cells #[.int .i64 1, .int .i64 1, .int .i64 0, .int .i64 1] 27)) (HOWV.out.below (B := 0) ((Below.refl _ _).alloc (Nat.le_refl _) _)) (ids_lit (l := [exB, exA]) (heap_alloc_new wz _) (by simp) (fun x hx => by
      rcases List.mem_cons.1 hx with rfl | hx
      · exact ⟨by unfold P.InI exB; simp, by unfold P.InI exB; simp⟩
      · rw [List.mem_singleton.1 hx]; exact ⟨by unfold P.InI exA; simp, by unfold P.InI exA; simp⟩)) true (decide_eq_true rfl))
    go_wp2_with fail
    refine HEQ.out.mono ?_
    rintro e wf ⟨rfl, hbf⟩
    have HBF := Lib.hid ((HBZ.out.alloc HBZ.out.size _).trans (hbf.mono (by have := HBZ.out.size; simp; omega)))
    clear hbf HEQ a0' a1' b0' b1'
    go_wp2_with fail
    go_ret
    exact ⟨rfl, HBF.out⟩
end Go.Proofs.YtndfhejfhfhbdaaGreatDoor.O

/- Rows of bools and of bytes that came in. -/
namespace Go.Proofs.YtndfhejfhfhbdaaGreatDoor.O
open Go.RowKit Go.Proofs.YtndfhejfhfhbdaaGreatDoor.M Go.WideShapes Go.ChangeShapes
set_option linter.unusedVariables false
set_option linter.unusedSimpArgs false

/-- a slice of elements of one cell each -/
structure OneV {α : Type} (mk : α → Value) (w : World) (ao : Option Addr) (cap : Nat) (l : List α) : Prop where
  le : l.length ≤ cap ∧ cap ≤ maxLen
  row : ∀ i x, l[i]? = some x → ∃ b off, ao = some ⟨b, off, none⟩ ∧ b < w.heap.size ∧ w.cell? ⟨b, off + i, none⟩ = some (mk x)
theorem OneV.below {α : Type} {mk : α → Value} {B : Nat} {w w1 : World} {ao : Option Addr} {cap : Nat} {l : List α} (h : OneV mk w ao cap l) (hb : Below w.heap.size w w1) : OneV mk w1 ao cap l :=
  ⟨h.le, fun i x hi => by
    obtain ⟨b, off, e1, hl, c0⟩ := h.row i x hi
    exact ⟨b, off, e1, Nat.lt_of_lt_of_le hl hb.size, (hb.cell (p := ⟨b, _, none⟩) hl).trans c0⟩⟩
abbrev boolV (x : Bool) : Value := .bool x
abbrev u8V (x : Nat) : Value := .int .u8 (x : Int)
theorem bools_view {H : Type} {enc : TypeId × Value → H} {w : World} {v : Value} {d : DataW H} {p : List MemPlace} (h : DataW.Trod enc Tryz.prog w 0 (fun _ => true) true 22 v d p)
    (hlt : ∀ y ∈ p, y.block < w.heap.size) (hs : ∃ a l c, v = .slice a l c) : ∃ ao cap l, v = .slice ao (l : List Bool).length cap ∧ OneV boolV w ao cap l := by
  obtain ⟨a, l, c, rfl⟩ := hs
  obtain ⟨fuel, hf⟩ := h
  obtain ⟨ao, b, off, len, cap, n, C, D, hcs, hl, hm, hz, h0, _, hC⟩ := C.slice_view2 Tryz.underlying22 (k := 1) (by kernel_rfl) (by decide) hf hlt
  have hcs' : (Value.slice a l c) = .slice ao len cap := by simpa [Value.cells] using hcs
  have hE : ∀ i, i < len → ∃ z : Bool, C i = [.bool z] := fun i hi => by
    obtain ⟨_, _, pi, ht, hp⟩ := hC i hi
    obtain ⟨z, e, _⟩ := DataW.trod_bool Tryz.underlying4 ht
    exact ⟨z, e⟩
  obtain ⟨Y, hY⟩ := @Go.Deep.choose_lt Bool _ _ _ hE
  have hlen : ((List.range len).map Y).length = len := by simp
  refine ⟨ao, cap, (List.range len).map Y, by rw [hlen]; exact hcs', by rw [hlen]; exact ⟨hl, hm⟩, fun i x hx => ?_⟩
  have hi : i < len := by have := (List.getElem?_eq_some_iff.1 hx).1; rwa [hlen] at this
  have e : Y i = x := by simpa [hi] using hx
  have hc := (hC i hi).2.1 0 (by decide)
  rw [hY i hi, e] at hc
  simp only [Nat.mul_one, Nat.add_zero] at hc
  exact ⟨b, off, (h0 (by omega)).1, (h0 (by omega)).2, hc⟩
theorem u8s_view {H : Type} {enc : TypeId × Value → H} {w : World} {v : Value} {d : DataW H} {p : List MemPlace} (h : DataW.Trod enc Tryz.prog w 0 (fun _ => true) true 23 v d p)
    (hlt : ∀ y ∈ p, y.block < w.heap.size) (hs : ∃ a l c, v = .slice a l c) : ∃ ao cap l, v = .slice ao (l : List Nat).length cap ∧ OneV u8V w ao cap l ∧ ∀ x ∈ l, x < 256 := by
  obtain ⟨a, l, c, rfl⟩ := hs
  obtain ⟨fuel, hf⟩ := h
  obtain ⟨ao, b, off, len, cap, n, C, D, hcs, hl, hm, hz, h0, _, hC⟩ := C.slice_view2 Tryz.underlying23 (k := 1) (by kernel_rfl) (by decide) hf hlt
  have hcs' : (Value.slice a l c) = .slice ao len cap := by simpa [Value.cells] using hcs
  have hE : ∀ i, i < len → ∃ z : Nat, C i = [.int .u8 (z : Int)] ∧ z < 256 := fun i hi => by
    obtain ⟨_, _, pi, ht, hp⟩ := hC i hi
    obtain ⟨z, e, _, hw⟩ := DataW.trod_int Tryz.underlying5 ht
    have hw2 : 0 ≤ z ∧ z ≤ 255 := by
      simp only [Lit.wf, Bool.and_eq_true, decide_eq_true_eq] at hw
      exact hw
    refine ⟨z.toNat, ?_, by omega⟩
    rw [e, Int.toNat_of_nonneg hw2.1]
  obtain ⟨Y, hY⟩ := @Go.Deep.choose_lt Nat _ _ _ hE
  have hlen : ((List.range len).map Y).length = len := by simp
  refine ⟨ao, cap, (List.range len).map Y, by rw [hlen]; exact hcs', ⟨by rw [hlen]; exact ⟨hl, hm⟩, fun i x hx => ?_⟩, fun x hx => ?_⟩
  · have hi : i < len := by have := (List.getElem?_eq_some_iff.1 hx).1; rwa [hlen] at this
    have e : Y i = x := by simpa [hi] using hx
    have hc := (hC i hi).2.1 0 (by decide)
    rw [(hY i hi).1, e] at hc
    simp only [Nat.mul_one, Nat.add_zero] at hc
    exact ⟨b, off, (h0 (by omega)).1, (h0 (by omega)).2, hc⟩
  · obtain ⟨i, hi, rfl⟩ := List.mem_map.1 hx
    exact (hY i (List.mem_range.1 hi)).2
end Go.Proofs.YtndfhejfhfhbdaaGreatDoor.O

/- A region that draws its order, by an invariant over what is done: each operation shown once. -/
namespace Go.Proofs.YtndfhejfhfhbdaaGreatDoor.M
open Go.RowKit
set_option linter.unusedVariables false
section
variable {P : Program} {ops : Array Oper} {Q : Exit → Act → World → Prop}
/-- each operation waits for earlier ones alone -/
def fwdB (ops : Array Oper) : Bool := (List.range ops.size).all fun i => ((ops[i]?).map fun o => o.after.all fun e => !Region.binds .any e || decide (e.on < i)).getD true
theorem fwd_of (h : fwdB ops = true) {i : Nat} {o : Oper} (hi : ops[i]? = some o) : ∀ e ∈ o.after, Region.binds .any e = true → e.on < i := by
  intro e he hb
  have hil : i < ops.size := (Array.getElem?_eq_some_iff.1 hi).1
  have h1 := List.all_eq_true.1 h i (List.mem_range.2 hil)
  rw [hi] at h1
  simp only [Option.map_some, Option.getD_some] at h1
  have h2 := Array.all_eq_true_iff_forall_mem.1 h1 e he
  rw [hb] at h2
  simpa using h2
theorem getD_true_false {l : Array Bool} {i : Nat} (hi : i < l.size) : l.getD i true = l.getD i false := by
  simp [Array.getD, hi]
theorem ready_some (hf : fwdB ops = true) {listed : Array Bool} (hs : listed.size = ops.size) : ∀ i, i < ops.size → listed.getD i true = false → Region.ready .any ops listed ≠ [] := by
  intro i
  induction i using Nat.strongRecOn with
  | _ i ih =>
    intro hi hn hr
    have ho : ops[i]? = some (ops[i]'hi) := Array.getElem?_eq_getElem hi
    by_cases hall : ∀ e ∈ (ops[i]'hi).after, Region.binds .any e = true → listed.getD e.on false = true
    · have : i ∈ Region.ready .any ops listed := mem_ready.2 ⟨hn, _, ho, hall⟩
      rw [hr] at this
      cases this
    · have : ∃ e, e ∈ (ops[i]'hi).after ∧ Region.binds .any e = true ∧ listed.getD e.on false = false := by
        refine Classical.byContradiction fun hc => hall fun e he hb => ?_
        cases hl : listed.getD e.on false with
        | true => rfl
        | false => exact absurd ⟨e, he, hb, hl⟩ hc
      obtain ⟨e, he, hb, hl⟩ := this
      have hlt := fwd_of hf ho e he hb
      exact ih e.on hlt (by omega) (by rw [getD_true_false (by omega)]; exact hl) hr
def openN (l : Array Bool) : Nat := l.toList.count false
theorem openN_set {l : Array Bool} {i : Nat} (hi : i < l.size) (hn : l.getD i true = false) : openN l = openN (l.setIfInBounds i true) + 1 := by
  unfold openN
  rw [Array.toList_setIfInBounds]
  have hil : i < l.toList.length := by simpa using hi
  have hg : l.toList[i]'hil = false := by
    have : l.getD i true = l[i] := by simp [Array.getD, hi]
    rw [this] at hn
    simpa using hn
  have hpos : 0 < l.toList.count false := List.count_pos_iff.2 (by rw [← hg]; exact List.getElem_mem hil)
  rw [List.count_set hil, hg]
  simp only [BEq.rfl, if_true, show (true == false) = false from rfl, Bool.false_eq_true, if_false]
  omega
theorem openN_zero {l : Array Bool} (h : openN l = 0) {i : Nat} (hi : i < l.size) : l.getD i true = true := by
  unfold openN at h
  have hg : l.getD i true = l[i] := by simp [Array.getD, hi]
  rw [hg]
  cases hl : l[i] with
  | true => rfl
  | false =>
    have := List.count_eq_zero.1 h
    exact absurd (by rw [← hl]; exact Array.mem_toList_iff.2 (Array.getElem_mem hi)) this
/-- A REGION that draws its order: what holds is kept by each operation that may come up. -/
theorem wp_region_inv {id : Nat} {arr : Array Value} {w : World} (I : Array Value → Array Bool → Act → World → Prop) (hm : P.follows .mixedOrders = true) (hf : fwdB ops = true)
    (h0 : I arr (Array.replicate ops.size false) ⟨arr, []⟩ { w with drawn := w.drawn + 1 })
    (hstep : ∀ (listed : Array Bool) (a : Act) (w : World) (i : Nat) (o : Oper), I arr listed a w → i < ops.size → ops[i]? = some o → listed.getD i true = false → (∀ e ∈ o.after, Region.binds .any e = true → listed.getD e.on false = true) →
      wpOp P ops Q i (I arr (listed.setIfInBounds i true)) a w)
    (hdone : ∀ (listed : Array Bool) (a : Act) (w : World), I arr listed a w → (∀ i, i < ops.size → listed.getD i true = true) → Q .normal a w) : (Code.region id ops true).wp P Q ⟨arr, []⟩ w := by
  refine wp_region_any hm ?_
  have key : ∀ (f : Nat) (listed : Array Bool) (a : Act) (w : World), listed.size = ops.size → openN listed = f → I arr listed a w → wpAny P .any ops Q f listed a w := by
    intro f
    induction f with
    | zero =>
      intro listed a w hs hc hI
      have hall : ∀ i, i < ops.size → listed.getD i true = true := fun i hi => openN_zero hc (by omega)
      refine ⟨List.eq_nil_iff_forall_not_mem.2 fun i hi => ?_, hdone listed a w hI hall⟩
      obtain ⟨hn, o, ho, _⟩ := mem_ready.1 hi
      rw [hall i (Array.getElem?_eq_some_iff.1 ho).1] at hn
      cases hn
    | succ f ih =>
      intro listed a w hs hc hI
      refine ⟨fun hr => ?_, fun i hi => ?_⟩
      · have : ∃ i, i < ops.size ∧ listed.getD i true = false := by
          have hpos : 0 < listed.toList.count false := by unfold openN at hc; omega
          obtain ⟨i, hi, he⟩ := List.mem_iff_getElem.1 (List.count_pos_iff.1 hpos)
          have hi2 : i < listed.size := by simpa using hi
          refine ⟨i, by omega, ?_⟩
          have hg : listed.getD i true = listed[i] := by simp [Array.getD, hi2]
          rw [hg]
          simpa using he
        obtain ⟨i, hi, hn⟩ := this
        exact absurd hr (ready_some hf hs i hi hn)
      · obtain ⟨hn, o, ho, hall⟩ := mem_ready.1 hi
        have hil := (Array.getElem?_eq_some_iff.1 ho).1
        have hcc := openN_set (l := listed) (i := i) (by omega) hn
        exact wpOp_mono (fun a' w' h => ih _ a' w' (by simpa using hs) (by omega) h) (hstep listed a w i o hI hil ho hn hall)
  refine key _ _ _ _ (by simp) ?_ h0
  unfold openN
  simp
/-- one operation, what follows behind a variable -/
theorem wpOp_hid {K : Act → World → Prop} {i : Nat} {o : Oper} {a : Act} {w : World} (hi : ops[i]? = some o)
    (h : ∀ K' : Act → World → Prop, Hid (∀ a w, K a w → K' a w) → if Region.wanted o (yielded ops a.tmps) = true then Oper.wp P o a w K' Q else K' (a.put o.dst undef) w) : wpOp P ops Q i K a w := by
  unfold wpOp
  rw [hi]
  simp only
  have := h K (Lib.hid fun _ _ h => h)
  split
  · rename_i hw
    rw [if_pos hw] at this
    exact .inl this
  · rename_i hw
    rw [if_neg hw] at this
    exact this
end
end Go.Proofs.YtndfhejfhfhbdaaGreatDoor.M

/- OrderTags: what holds in its drawn regions. -/
namespace Go.Proofs.YtndfhejfhfhbdaaGreatDoor.O
open Go.RowKit Go.Proofs.YtndfhejfhfhbdaaGreatDoor.M Go.BigFrame
set_option linter.unusedVariables false
set_option linter.unusedSimpArgs false

theorem set_self (arr : Array Value) (j : Nat) : arr.setIfInBounds j (arr.getD j undef) = arr := by
  apply Array.ext_getElem?
  intro i
  rw [Array.getElem?_setIfInBounds]
  by_cases h : j = i
  · subst h
    by_cases hj : j < arr.size
    · simp [Array.getD, hj]
    · simp [hj]
  · simp [h]
def zeroT : Rv := ⟨⟨0, 0⟩, 0, ⟨0, 0⟩, ⟨0, 0⟩, ⟨0, 0, 0, P.nul, P.nul, 0⟩, [], 0, 0, none, 0⟩
def tagY (n : Nat) (y : Id) (wo : Option Addr) (wc : Nat) : Rv := ⟨y, 3, ⟨0, 0⟩, ⟨0, 0⟩, cmd0, withoutI (setI (allN n)) y, 0, 2, wo, wc⟩
theorem frz {w : World} {g : Nat} {cs : Array Value} {t : TypeId} (h : w.heap[g]? = some (.cells cs t (0, 0))) : ∀ o, w.frozen? ⟨g, o, none⟩ = false := fun o => by simp [World.frozen?, h]
theorem ownl_below {w w1 : World} {B : Nat} {oo : Option Addr} {oc : Nat} {l : List Id} (h : OwnL w B oo oc l) (hb : Below w.heap.size w w1) : OwnL w1 B oo oc l := own_kept h (Mods.of_below (S := fun _ => False) hb) (fun _ _ h => h)
/-- ids don't lie in a record's box -/
theorem ownl_apart {w w1 : World} {B g : Nat} {oo : Option Addr} {oc : Nat} {l : List Id} {x : Rv} (h : OwnL w B oo oc l) (hg : w.heap[g]? = some (recO x)) (hm : Mods (fun k => k = g) w w1) : OwnL w1 B oo oc l :=
  own_kept h hm fun k hk e => by
    subst e
    rcases h.2 with ⟨e, _⟩ | ⟨g2, cap, cur, e, _, hg2, _⟩
    · rw [e] at hk; cases hk
    · rw [e] at hk
      cases hk
      rw [hg] at hg2
      simp only [Option.some.injEq, Obj.cells.injEq] at hg2
      exact absurd hg2.2.1 (by decide)
def putC (w : World) (g : Nat) : Nat → List Value → World
  | _, [] => w
  | k, v :: t => putC (w.setCell ⟨g, k, none⟩ v) g (k + 1) t
theorem putC_heap {g : Nat} {T : TypeId} {fz : Nat × Nat} : ∀ (l : List Value) (k : Nat) (w : World) (cs : Array Value), w.heap[g]? = some (.cells cs T fz) → k + l.length = cs.size → (putC w g k l).heap[g]? = some (.cells (cs.toList.take k ++ l).toArray T fz)
  | [], k, w, cs, h, hk => by
    rw [List.append_nil, List.take_of_length_le (by simp at hk ⊢; omega)]
    exact h
  | v :: t, k, w, cs, h, hk => by
    have h1 := heap_set w g k v g _ _ _ h
    rw [if_pos rfl] at h1
    have h2 := putC_heap t (k + 1) _ _ h1 (by simp at hk ⊢; omega)
    show (putC _ g (k + 1) t).heap[g]? = _
    rw [h2]
    have hkl : k < cs.toList.length := by simp at hk ⊢; omega
    congr 2
    rw [Array.toList_setIfInBounds, List.take_add_one, List.take_set_of_le (Nat.le_refl _), List.getElem?_set_self hkl]
    simp
theorem putC_mods {g : Nat} : ∀ (l : List Value) (k : Nat) (w : World), Mods (fun j => j = g) w (putC w g k l)
  | [], k, w => Mods.refl _ w
  | v :: t, k, w => ((Mods.refl (fun j => j = g) w).setCell (p := ⟨g, k, none⟩) (fun _ => rfl) _).trans (putC_mods t (k + 1) _)
theorem set16 {w : World} {g : Nat} {x0 : Rv} (h : w.heap[g]? = some (recO x0)) (x : Rv) : ((((((((((((((((w.setCell ⟨g, 0, none⟩ (.int .i64 x.id.r)).setCell ⟨g, 1, none⟩ (.int .i64 x.id.n)).setCell ⟨g, 2, none⟩ (.int .i64 x.st)).setCell ⟨g, 3, none⟩ (.int .i64 x.bal.round)).setCell ⟨g, 4, none⟩ (.int .i64 x.bal.by_)).setCell ⟨g, 5, none⟩ (.int .i64 x.took.round)).setCell ⟨g, 6, none⟩ (.int .i64 x.took.by_)).setCell ⟨g, 7, none⟩ (.int .i64 x.cmd.kind)).setCell ⟨g, 8, none⟩ (.int .i64 x.cmd.client)).setCell ⟨g, 9, none⟩ (.int .i64 x.cmd.seq)).setCell ⟨g, 10, none⟩ (.string x.cmd.key)).setCell ⟨g, 11, none⟩ (.string x.cmd.val)).setCell ⟨g, 12, none⟩ (.int .i64 x.cmd.rev)).setCell ⟨g, 13, none⟩ (.slice x.ao x.deps.length x.cap)).setCell ⟨g, 14, none⟩ (.int .i64 x.seq)).setCell ⟨g, 15, none⟩ (.int .i64 x.tag)).heap[g]? = some (recO x) ∧ Mods (fun j => j = g) w ((((((((((((((((w.setCell ⟨g, 0, none⟩ (.int .i64 x.id.r)).setCell ⟨g, 1, none⟩ (.int .i64 x.id.n)).setCell ⟨g, 2, none⟩ (.int .i64 x.st)).setCell ⟨g, 3, none⟩ (.int .i64 x.bal.round)).setCell ⟨g, 4, none⟩ (.int .i64 x.bal.by_)).setCell ⟨g, 5, none⟩ (.int .i64 x.took.round)).setCell ⟨g, 6, none⟩ (.int .i64 x.took.by_)).setCell ⟨g, 7, none⟩ (.int .i64 x.cmd.kind)).setCell ⟨g, 8, none⟩ (.int .i64 x.cmd.client)).setCell ⟨g, 9, none⟩ (.int .i64 x.cmd.seq)).setCell ⟨g, 10, none⟩ (.string x.cmd.key)).setCell ⟨g, 11, none⟩ (.string x.cmd.val)).setCell ⟨g, 12, none⟩ (.int .i64 x.cmd.rev)).setCell ⟨g, 13, none⟩ (.slice x.ao x.deps.length x.cap)).setCell ⟨g, 14, none⟩ (.int .i64 x.seq)).setCell ⟨g, 15, none⟩ (.int .i64 x.tag)) := by
  refine ⟨?_, putC_mods (recC x) 0 w⟩
  have := putC_heap (recC x) 0 w _ h rfl
  exact this
structure T12S (u : World) (B b off k oc nA n : Nat) (y : Id) (b0 b1 b2 b3 b4 b5 b6 b7 b8 b9 b10 b11 b12 b13 b14 : Bool) (x53 x54 x55 x56 x57 x58 x59 x60 x61 x62 x63 x64 x65 x9 : Value) (w : World) : Prop where
  k0 : b0 = true → x53 = .slice (some ⟨b, off, none⟩) nA oc
  k1 : b1 = true → x54 = .int .i64 (k : Int)
  k2 : b2 = true → x55 = .pointer (some ⟨b, off + k * 2, none⟩)
  k3 : b3 = true → x56 = idV y
  k4 : b4 = true → x57 = .slice (some ⟨b, off, none⟩) nA oc
  k6 : b6 = true → x59 = .slice (some ⟨b, off, none⟩) nA oc
  k7 : b7 = true → x60 = .int .i64 (k : Int)
  k8 : b8 = true → x61 = .pointer (some ⟨b, off + k * 2, none⟩)
  k9 : b9 = true → x62 = idV y
  kin : Below u.heap.size u w
  ks : b5 = true → ∃ so sc, x58 = .slice so (setI (allN n)).length sc ∧ OwnL w 0 so sc (setI (allN n))
  kw : b10 = true → b14 = false → ∃ wo wc, x63 = .slice wo (withoutI (setI (allN n)) y).length wc ∧ OwnL w B wo wc (withoutI (setI (allN n)) y) ∧ (b11 = true → x64 = .agg #[.slice wo (withoutI (setI (allN n)) y).length wc, .int .i64 0, .int .i64 2]) ∧ (b12 = true → x65 = .agg #[.int .i64 y.r, .int .i64 y.n, .int .i64 3, .int .i64 0, .int .i64 0, .int .i64 0, .int .i64 0, .int .i64 0, .int .i64 0, .int .i64 0, .string ⟨#[]⟩, .string ⟨#[]⟩, .int .i64 0, .slice wo (withoutI (setI (allN n)) y).length wc, .int .i64 0, .int .i64 2])
  kb : b13 = true → b14 = false → ∃ g, x9 = .pointer (some ⟨g, 0, none⟩) ∧ u.heap.size ≤ g ∧ w.heap[g]? = some (recO zeroT)
  kz : b14 = true → ∃ g wo wc, x9 = .pointer (some ⟨g, 0, none⟩) ∧ u.heap.size ≤ g ∧ w.heap[g]? = some (recO (tagY n y wo wc)) ∧ OwnL w B wo wc (withoutI (setI (allN n)) y)
  c2_0 : b2 = true → b0 = true
  c2_1 : b2 = true → b1 = true
  c3_2 : b3 = true → b2 = true
  c5_4 : b5 = true → b4 = true
  c8_6 : b8 = true → b6 = true
  c8_7 : b8 = true → b7 = true
  c9_8 : b9 = true → b8 = true
  c10_5 : b10 = true → b5 = true
  c10_9 : b10 = true → b9 = true
  c11_10 : b11 = true → b10 = true
  c12_3 : b12 = true → b3 = true
  c12_11 : b12 = true → b11 = true
  c14_13 : b14 = true → b13 = true
  c14_12 : b14 = true → b12 = true
def T12I (u : World) (B b off k oc nA n : Nat) (y : Id) (arr : Array Value) (listed : Array Bool) (a : Act) (w : World) : Prop :=
  ∃ (b0 b1 b2 b3 b4 b5 b6 b7 b8 b9 b10 b11 b12 b13 b14 : Bool) (x53 x54 x55 x56 x57 x58 x59 x60 x61 x62 x63 x64 x65 x9 : Value), listed = #[b0, b1, b2, b3, b4, b5, b6, b7, b8, b9, b10, b11, b12, b13, b14] ∧ a = ⟨((((((((((((((arr.setIfInBounds 53 x53).setIfInBounds 54 x54).setIfInBounds 55 x55).setIfInBounds 56 x56).setIfInBounds 57 x57).setIfInBounds 58 x58).setIfInBounds 59 x59).setIfInBounds 60 x60).setIfInBounds 61 x61).setIfInBounds 62 x62).setIfInBounds 63 x63).setIfInBounds 64 x64).setIfInBounds 65 x65).setIfInBounds 9 x9), []⟩ ∧ T12S u B b off k oc nA n y b0 b1 b2 b3 b4 b5 b6 b7 b8 b9 b10 b11 b12 b13 b14 x53 x54 x55 x56 x57 x58 x59 x60 x61 x62 x63 x64 x65 x9 w
theorem T12_start (u : World) (B b off k oc nA n : Nat) (y : Id) (arr : Array Value) (w : World) (h : ∀ x53 x54 x55 x56 x57 x58 x59 x60 x61 x62 x63 x64 x65 x9, T12S u B b off k oc nA n y false false false false false false false false false false false false false false false x53 x54 x55 x56 x57 x58 x59 x60 x61 x62 x63 x64 x65 x9 w) : T12I u B b off k oc nA n y arr (Array.replicate 15 false) ⟨arr, []⟩ w :=
  ⟨false, false, false, false, false, false, false, false, false, false, false, false, false, false, false, arr.getD 53 undef, arr.getD 54 undef, arr.getD 55 undef, arr.getD 56 undef, arr.getD 57 undef, arr.getD 58 undef, arr.getD 59 undef, arr.getD 60 undef, arr.getD 61 undef, arr.getD 62 undef, arr.getD 63 undef, arr.getD 64 undef, arr.getD 65 undef, arr.getD 9 undef, rfl, by simp only [set_self], h _ _ _ _ _ _ _ _ _ _ _ _ _ _⟩
structure T23S (u : World) (gb o1 k i n gc1 g off rc p q : Nat) (ia ib : Id) (x y : Rv) (b0 b1 b2 b3 b4 b5 b6 b7 b8 b9 b10 b11 b12 b13 b14 b15 b16 b17 b18 b19 b20 b21 b22 : Bool) (x104 x105 x106 x107 x108 x109 x110 x111 x112 x113 x114 x115 x116 x117 x118 x119 x120 x121 x122 x13 x14 : Value) (w : World) : Prop where
  k0 : b0 = true → x104 = .slice (some ⟨g, off, none⟩) n rc
  k1 : b1 = true → x105 = .slice (some ⟨g, off, none⟩) n rc
  k2 : b2 = true → x106 = .slice (some ⟨gb, o1, none⟩) n gc1
  k3 : b3 = true → x107 = .int .i64 (i : Int)
  k4 : b4 = true → x108 = .int .i64 (k : Int)
  k5 : b5 = true → x109 = .pointer (some ⟨gb, o1 + k * 2, none⟩)
  k6 : b6 = true → x110 = idV ia
  k7 : b7 = true → x111 = .int .i64 (p : Int)
  k8 : b8 = true → x112 = .pointer (some ⟨g, off + p * 16, none⟩)
  k9 : b9 = true → x113 = recV x
  k10 : b10 = true → x114 = .slice (some ⟨g, off, none⟩) n rc
  k11 : b11 = true → x115 = .slice (some ⟨g, off, none⟩) n rc
  k12 : b12 = true → x116 = .slice (some ⟨gb, o1, none⟩) n gc1
  k13 : b13 = true → x117 = .int .i64 (i : Int)
  k14 : b14 = true → x118 = .pointer (some ⟨gb, o1 + i * 2, none⟩)
  k15 : b15 = true → x119 = idV ib
  k16 : b16 = true → x120 = .int .i64 (q : Int)
  k17 : b17 = true → x121 = .pointer (some ⟨g, off + q * 16, none⟩)
  k18 : b18 = true → x122 = recV y
  kin : Below u.heap.size u w
  ka : b19 = true → b21 = false → ∃ g9, x13 = .pointer (some ⟨g9, 0, none⟩) ∧ u.heap.size ≤ g9 ∧ w.heap[g9]? = some (recO zeroT)
  kb : b20 = true → b22 = false → ∃ g9, x14 = .pointer (some ⟨g9, 0, none⟩) ∧ u.heap.size ≤ g9 ∧ w.heap[g9]? = some (recO zeroT)
  kx : b21 = true → ∃ g9, x13 = .pointer (some ⟨g9, 0, none⟩) ∧ u.heap.size ≤ g9 ∧ w.heap[g9]? = some (recO x)
  ky : b22 = true → ∃ g9, x14 = .pointer (some ⟨g9, 0, none⟩) ∧ u.heap.size ≤ g9 ∧ w.heap[g9]? = some (recO y)
  kd : b19 = true → b20 = true → x13 ≠ x14
  c4_3 : b4 = true → b3 = true
  c5_2 : b5 = true → b2 = true
  c5_4 : b5 = true → b4 = true
  c6_5 : b6 = true → b5 = true
  c7_1 : b7 = true → b1 = true
  c7_6 : b7 = true → b6 = true
  c8_0 : b8 = true → b0 = true
  c8_7 : b8 = true → b7 = true
  c9_8 : b9 = true → b8 = true
  c14_12 : b14 = true → b12 = true
  c14_13 : b14 = true → b13 = true
  c15_14 : b15 = true → b14 = true
  c16_11 : b16 = true → b11 = true
  c16_15 : b16 = true → b15 = true
  c16_7 : b16 = true → b7 = true
  c17_10 : b17 = true → b10 = true
  c17_16 : b17 = true → b16 = true
  c18_17 : b18 = true → b17 = true
  c21_19 : b21 = true → b19 = true
  c21_9 : b21 = true → b9 = true
  c21_16 : b21 = true → b16 = true
  c21_20 : b21 = true → b20 = true
  c22_20 : b22 = true → b20 = true
  c22_18 : b22 = true → b18 = true
  c22_21 : b22 = true → b21 = true
def T23I (u : World) (gb o1 k i n gc1 g off rc p q : Nat) (ia ib : Id) (x y : Rv) (arr : Array Value) (listed : Array Bool) (a : Act) (w : World) : Prop :=
  ∃ (b0 b1 b2 b3 b4 b5 b6 b7 b8 b9 b10 b11 b12 b13 b14 b15 b16 b17 b18 b19 b20 b21 b22 : Bool) (x104 x105 x106 x107 x108 x109 x110 x111 x112 x113 x114 x115 x116 x117 x118 x119 x120 x121 x122 x13 x14 : Value), listed = #[b0, b1, b2, b3, b4, b5, b6, b7, b8, b9, b10, b11, b12, b13, b14, b15, b16, b17, b18, b19, b20, b21, b22] ∧ a = ⟨(((((((((((((((((((((arr.setIfInBounds 104 x104).setIfInBounds 105 x105).setIfInBounds 106 x106).setIfInBounds 107 x107).setIfInBounds 108 x108).setIfInBounds 109 x109).setIfInBounds 110 x110).setIfInBounds 111 x111).setIfInBounds 112 x112).setIfInBounds 113 x113).setIfInBounds 114 x114).setIfInBounds 115 x115).setIfInBounds 116 x116).setIfInBounds 117 x117).setIfInBounds 118 x118).setIfInBounds 119 x119).setIfInBounds 120 x120).setIfInBounds 121 x121).setIfInBounds 122 x122).setIfInBounds 13 x13).setIfInBounds 14 x14), []⟩ ∧ T23S u gb o1 k i n gc1 g off rc p q ia ib x y b0 b1 b2 b3 b4 b5 b6 b7 b8 b9 b10 b11 b12 b13 b14 b15 b16 b17 b18 b19 b20 b21 b22 x104 x105 x106 x107 x108 x109 x110 x111 x112 x113 x114 x115 x116 x117 x118 x119 x120 x121 x122 x13 x14 w
theorem T23_start (u : World) (gb o1 k i n gc1 g off rc p q : Nat) (ia ib : Id) (x y : Rv) (arr : Array Value) (w : World) (h : ∀ x104 x105 x106 x107 x108 x109 x110 x111 x112 x113 x114 x115 x116 x117 x118 x119 x120 x121 x122 x13 x14, T23S u gb o1 k i n gc1 g off rc p q ia ib x y false false false false false false false false false false false false false false false false false false false false false false false x104 x105 x106 x107 x108 x109 x110 x111 x112 x113 x114 x115 x116 x117 x118 x119 x120 x121 x122 x13 x14 w) : T23I u gb o1 k i n gc1 g off rc p q ia ib x y arr (Array.replicate 23 false) ⟨arr, []⟩ w :=
  ⟨false, false, false, false, false, false, false, false, false, false, false, false, false, false, false, false, false, false, false, false, false, false, false, arr.getD 104 undef, arr.getD 105 undef, arr.getD 106 undef, arr.getD 107 undef, arr.getD 108 undef, arr.getD 109 undef, arr.getD 110 undef, arr.getD 111 undef, arr.getD 112 undef, arr.getD 113 undef, arr.getD 114 undef, arr.getD 115 undef, arr.getD 116 undef, arr.getD 117 undef, arr.getD 118 undef, arr.getD 119 undef, arr.getD 120 undef, arr.getD 121 undef, arr.getD 122 undef, arr.getD 13 undef, arr.getD 14 undef, rfl, by simp only [set_self], h _ _ _ _ _ _ _ _ _ _ _ _ _ _ _ _ _ _ _ _ _⟩
end Go.Proofs.YtndfhejfhfhbdaaGreatDoor.O
