/- Several texts in one. -/
import Derived.Test.YtkgjfagejnppbaaGreatDoorChkF
import Derived.Test.YtkgjfagejnppbaaGreatDoorMrg16
import Derived.Test.YtkgjfagejnppbaaGreatDoorMrg29
import Derived.Deep.DeepCutAuto

/- check.round: who has to be ahead of whom, in memory. -/
namespace Go.Proofs.YtkgjfagejnppbaaGreatDoor.X
open Go.RowKit Go.Proofs.YtkgjfagejnppbaaGreatDoor.M Go.BigFrame Go.Proofs.YtkgjfagejnppbaaGreatDoor.O Go.Proofs.YtkgjfagejnppbaaGreatDoor.P Go.Proofs.YtkgjfagejnppbaaGreatDoor.Mp Go.Proofs.YtkgjfagejnppbaaGreatDoor.Rw
set_option linter.unusedVariables false
set_option linter.unusedSimpArgs false

/-- a row of values -/
def tabV (n : Nat) (f : Nat → Value) : Array Value := ((List.range n).map f).toArray
theorem tabV_size (n : Nat) (f : Nat → Value) : (tabV n f).size = n := by simp [tabV]
theorem tabV_get (n : Nat) (f : Nat → Value) (v : Nat) (h : v < n) : (tabV n f)[v]? = some (f v) := by simp [tabV, h]
theorem tabV_set {n : Nat} {f g : Nat → Value} {v : Nat} {x : Value} (h : ∀ j, g j = if j = v then x else f j) : (tabV n f).setIfInBounds v x = tabV n g := by
  apply Array.ext_getElem?
  intro j
  rw [Array.getElem?_setIfInBounds]
  by_cases hj : j < n
  · rw [tabV_get n _ j hj, tabV_get n _ j hj, tabV_size, h j]
    by_cases e : v = j
    · subst e; simp [hj]
    · rw [if_neg e, if_neg (fun e2 => e e2.symm)]
  · have h1 : (tabV n f)[j]? = none := by rw [Array.getElem?_eq_none_iff, tabV_size]; omega
    have h2 : (tabV n g)[j]? = none := by rw [Array.getElem?_eq_none_iff, tabV_size]; omega
    rw [h1, h2, tabV_size]
    by_cases e : v = j
    · subst e; simp [hj]
    · rw [if_neg e]
theorem made_tabV (n : Nat) : madeCells (Value.slice none 0 0).cells n = tabV n fun _ => .slice none 0 0 := by
  apply Array.ext_getElem?
  intro j
  by_cases hj : j < n
  · rw [tabV_get n _ j hj]
    simp [madeCells, Value.cells, hj, Nat.mod_one]
  · have h2 : (tabV n fun _ => .slice none 0 0)[j]? = none := by rw [Array.getElem?_eq_none_iff, tabV_size]; omega
    rw [h2, Array.getElem?_eq_none_iff]
    simp [madeCells]; omega
theorem make_rows (n : Nat) (hn : n ≤ 10000) (w : World) : (Instr.makeSlice 90 (.int .i64 (n : Int)) (.int .i64 (n : Int))).run Tryz.prog w = .ok (.slice (some ⟨w.heap.size, 0, none⟩) n n) (w.alloc (.cells (tabV n fun _ => .slice none 0 0) 87)) := by
  obtain ⟨i0, hi, hz0, hz1, hz2⟩ := info_parts K.info_ints
  have h := run_make (P := Tryz.prog) w 90 87 i0 _ Tryz.underlying90 hi hz0 .i64 .i64 (n : Int) (n : Int) (by omega) (Int.le_refl _) (by rw [hz2]; omega) (by omega)
  simp only [Int.toNat_natCast, hz1, Nat.mul_one] at h
  rw [made_tabV] at h
  exact h
/-- rows of numbers under way: their headers at ge -/
structure EgSt (w0 wr : World) (ge n : Nat) (hd : Nat → Option Addr × Nat) (E : Nat → List Int) : Prop where
  tb : wr.heap[ge]? = some (.cells (tabV n fun v => .slice (hd v).1 (E v).length (hd v).2) 87 (0, 0))
  rows : ∀ v, v < n → OwnG sRN wr w0.heap.size (hd v).1 (hd v).2 (E v)
  apart : ∀ u v, u < n → v < n → u ≠ v → ∀ a, (hd u).1 = some a → ∀ b, (hd v).1 = some b → a.block ≠ b.block
  ge : w0.heap.size ≤ ge
  bel : Below w0.heap.size w0 wr
section
variable {w0 wr w2 : World} {ge n : Nat} {hd : Nat → Option Addr × Nat} {E : Nat → List Int}
theorem EgSt.start (w0 : World) (n : Nat) : EgSt w0 (w0.alloc (.cells (tabV n fun _ => .slice none 0 0) 87)) w0.heap.size n (fun _ => (none, 0)) (fun _ => []) :=
  ⟨heap_alloc_new w0 _, fun v _ => OwnG.nil _ _ _, (fun u v _ _ _ a e => by cases e), Nat.le_refl _, (Below.refl _ _).alloc (Nat.le_refl _) _⟩
theorem EgSt.below (h : EgSt w0 wr ge n hd E) (hb : Below wr.heap.size wr w2) : EgSt w0 w2 ge n hd E :=
  ⟨(hb.block _ (M.heap_lt h.tb)).trans h.tb, fun v hv => (h.rows v hv).below hb, h.apart, h.ge, h.bel.trans (hb.mono h.bel.size)⟩
theorem EgSt.lt (h : EgSt w0 wr ge n hd E) : ge < wr.heap.size := M.heap_lt h.tb
theorem EgSt.cell (h : EgSt w0 wr ge n hd E) {v : Nat} (hv : v < n) : wr.cell? ⟨ge, v, none⟩ = some (.slice (hd v).1 (E v).length (hd v).2) ∧ wr.frozen? ⟨ge, v, none⟩ = false :=
  ⟨(cell_of_row wr ge v _ _ (0, 0) h.tb).trans (tabV_get _ _ _ hv), by simp [World.frozen?, h.tb]⟩
/-- between append and the header's store -/
structure EgMid (w0 wr : World) (ge n i : Nat) (hd : Nat → Option Addr × Nat) (E : Nat → List Int) (oo : Option Addr) (oc : Nat) (X : List Int) : Prop where
  tb : wr.heap[ge]? = some (.cells (tabV n fun v => .slice (hd v).1 (E v).length (hd v).2) 87 (0, 0))
  rows : ∀ v, v < n → v ≠ i → OwnG sRN wr w0.heap.size (hd v).1 (hd v).2 (E v)
  row : OwnG sRN wr w0.heap.size oo oc X
  apart : ∀ u v, u < n → v < n → u ≠ v → u ≠ i → v ≠ i → ∀ a, (hd u).1 = some a → ∀ b, (hd v).1 = some b → a.block ≠ b.block
  apI : ∀ u, u < n → u ≠ i → ∀ a, (hd u).1 = some a → ∀ b, oo = some b → a.block ≠ b.block
  ge : w0.heap.size ≤ ge
  bel : Below w0.heap.size w0 wr
theorem EgSt.grow (h : EgSt w0 wr ge n hd E) {i : Nat} (hi : i < n) {oo : Option Addr} {oc : Nat} {X : List Int} (ho : OwnG sRN w2 w0.heap.size oo oc X) (hM : Mods (fun j => ∃ a, (hd i).1 = some a ∧ j = a.block) wr w2) (hb : Below w0.heap.size wr w2) (hf : ∀ a, oo = some a → (∃ a0, (hd i).1 = some a0 ∧ a.block = a0.block) ∨ wr.heap.size ≤ a.block) : EgMid w0 w2 ge n i hd E oo oc X := by
  refine ⟨hM.heap h.tb (fun ⟨a, e, eg⟩ => ?_), fun v hv hne => (h.rows v hv).keep hM (fun b eb ⟨a, ea, e⟩ => h.apart i v hi hv (Ne.symm hne) a ea b eb e.symm), ho, fun u v hu hv hne _ _ => h.apart u v hu hv hne, fun u hu hne a ea b eb => ?_, h.ge, h.bel.trans hb⟩
  · obtain ⟨cs, hc, _⟩ := (h.rows i hi).cells a e
    rw [← eg, h.tb] at hc
    simp only [Option.some.injEq, Obj.cells.injEq] at hc
    exact absurd hc.2.1 (by decide)
  · rcases hf b eb with ⟨a0, e0, e1⟩ | hn
    · rw [e1]; exact h.apart u i hu hi hne a ea a0 e0
    · obtain ⟨_, _, _, hl⟩ := (h.rows u hu).cells a ea
      omega
theorem EgMid.cell {i oc : Nat} {oo : Option Addr} {X : List Int} (h : EgMid w0 wr ge n i hd E oo oc X) {v : Nat} (hv : v < n) : wr.cell? ⟨ge, v, none⟩ = some (.slice (hd v).1 (E v).length (hd v).2) ∧ wr.frozen? ⟨ge, v, none⟩ = false :=
  ⟨(cell_of_row wr ge v _ _ (0, 0) h.tb).trans (tabV_get _ _ _ hv), by simp [World.frozen?, h.tb]⟩
theorem EgMid.set {i oc : Nat} {oo : Option Addr} {X : List Int} (h : EgMid w0 wr ge n i hd E oo oc X) : EgSt w0 (wr.setCell ⟨ge, i, none⟩ (.slice oo X.length oc)) ge n (fun v => if v = i then (oo, oc) else hd v) (fun v => if v = i then X else E v) := by
  have hs := heap_set wr ge i (.slice oo X.length oc) ge _ _ _ h.tb
  rw [if_pos rfl] at hs
  have hm : Mods (fun j => j = ge) wr (wr.setCell ⟨ge, i, none⟩ (.slice oo X.length oc)) := Mods.setCell (S := fun j => j = ge) (Mods.refl _ wr) (p := ⟨ge, i, none⟩) (fun _ => rfl) _
  have hne : ∀ {o : Option Addr} {c : Nat} {Y : List Int}, OwnG sRN wr w0.heap.size o c Y → ∀ a, o = some a → a.block ≠ ge := fun ho a e eg => by
    obtain ⟨cs, hc, _⟩ := ho.cells a e
    rw [eg, h.tb] at hc
    simp only [Option.some.injEq, Obj.cells.injEq] at hc
    exact absurd hc.2.1 (by decide)
  refine ⟨?_, fun v hv => ?_, fun u v hu hv huv a ea b eb => ?_, h.ge, h.bel.trans ((Below.refl _ _).setCell (p := ⟨ge, i, none⟩) h.ge _)⟩
  · rw [hs, tabV_set (g := fun v => .slice (if v = i then (oo, oc) else hd v).1 (if v = i then X else E v).length (if v = i then (oo, oc) else hd v).2)]
    intro j
    by_cases e : j = i <;> simp [e]
  · by_cases e : v = i
    · simp only [e, if_true]; exact h.row.keep hm (fun a ea => hne h.row a ea)
    · simp only [e, if_false]; exact (h.rows v hv e).keep hm (fun a ea => hne (h.rows v hv e) a ea)
  · by_cases e1 : u = i <;> by_cases e2 : v = i
    · omega
    · simp only [e1, e2, if_true, if_false] at ea eb
      exact fun e => h.apI v hv e2 b eb a ea e.symm
    · simp only [e1, e2, if_true, if_false] at ea eb
      exact h.apI u hu e1 a ea b eb
    · simp only [e1, e2, if_false] at ea eb
      exact h.apart u v hu hv huv e1 e2 a ea b eb
theorem EgSt.ext {hd2 : Nat → Option Addr × Nat} {E2 : Nat → List Int} (h : EgSt w0 wr ge n hd E) (he : ∀ v, v < n → E v = E2 v) (hh : ∀ v, v < n → hd v = hd2 v) : EgSt w0 wr ge n hd2 E2 := by
  refine ⟨?_, fun v hv => by rw [← he v hv, ← hh v hv]; exact h.rows v hv, fun u v hu hv hne => by rw [← hh u hu, ← hh v hv]; exact h.apart u v hu hv hne, h.ge, h.bel⟩
  rw [h.tb]
  congr 2
  unfold tabV
  congr 1
  exact List.map_congr_left fun v hv => by rw [he v (List.mem_range.1 hv), hh v (List.mem_range.1 hv)]
theorem EgSt.ed (h : EgSt w0 wr ge n hd E) (hn : n ≤ 10000) : K.EdAt wr.heap.size wr (some ⟨ge, 0, none⟩) n n E := by
  refine ⟨⟨Nat.le_refl _, by unfold maxLen; omega⟩, fun i hi => ?_⟩
  have hr := h.rows i hi
  refine ⟨ge, 0, (hd i).1, (hd i).2, rfl, h.lt, by rw [Nat.zero_add]; exact (h.cell hi).1, hr.len.1, hr.len.2, fun j x hj => ?_⟩
  obtain ⟨b, off, e, hb, hc⟩ := num_of (hr.view lRN) hj
  exact ⟨b, off, e, hb, hc⟩
end
/-- a part of a node's edges -/
noncomputable def edgeP (R : List Cmd) (H : List Ev) (i k : Nat) : List Int := ((List.range k).filter (edgeB R H i)).map fun (k : Nat) => (k : Int)
theorem edgeP_yes {R : List Cmd} {H : List Ev} {i k : Nat} (h : edgeB R H i k = true) : edgeP R H i (k + 1) = edgeP R H i k ++ [(k : Int)] := by
  unfold edgeP
  rw [List.range_succ, List.filter_append, List.map_append]
  simp [h]
theorem edgeP_no {R : List Cmd} {H : List Ev} {i k : Nat} (h : edgeB R H i k = false) : edgeP R H i (k + 1) = edgeP R H i k := by
  unfold edgeP
  rw [List.range_succ, List.filter_append, List.map_append]
  simp [h]
theorem edgeP_len (R : List Cmd) (H : List Ev) (i k : Nat) : (edgeP R H i k).length ≤ k := by
  unfold edgeP
  rw [List.length_map]
  exact Nat.le_trans (List.length_filter_le _ _) (by simp)
/-- the edges when i rows are done, and the row i as far as k -/
noncomputable def edgesAt (R : List Cmd) (H : List Ev) (i k v : Nat) : List Int := if v < i then edgeE R H v else if v = i then edgeP R H i k else []
end Go.Proofs.YtkgjfagejnppbaaGreatDoor.X

/- check.round: the walk. -/
namespace Go.Proofs.YtkgjfagejnppbaaGreatDoor.X
open Go.RowKit Go.Proofs.YtkgjfagejnppbaaGreatDoor.M Go.BigFrame Go.Proofs.YtkgjfagejnppbaaGreatDoor.O Go.Proofs.YtkgjfagejnppbaaGreatDoor.P Go.Proofs.YtkgjfagejnppbaaGreatDoor.Mp Go.Proofs.YtkgjfagejnppbaaGreatDoor.Rw
set_option linter.unusedVariables false
set_option linter.unusedSimpArgs false

theorem edgesAt_zero (R : List Cmd) (H : List Ev) : edgesAt R H 0 0 = fun _ => [] := by
  funext v
  unfold edgesAt
  by_cases e : v = 0
  · subst e; simp [edgeP]
  · simp [e]
theorem edgesAt_turn (R : List Cmd) (H : List Ev) (i : Nat) : edgesAt R H i R.length = edgesAt R H (i + 1) 0 := by
  funext v
  unfold edgesAt
  by_cases e : v < i
  · rw [if_pos e, if_pos (by omega)]
  · rw [if_neg e]
    by_cases e2 : v = i
    · subst e2; rw [if_pos rfl, if_pos (by omega)]; rfl
    · rw [if_neg e2, if_neg (by omega)]
      by_cases e3 : v = i + 1
      · rw [if_pos e3]; simp [edgeP]
      · rw [if_neg e3]
theorem edgesAt_yes {R : List Cmd} {H : List Ev} {i k : Nat} (h : edgeB R H i k = true) : (fun v => if v = i then edgeP R H i k ++ [(k : Int)] else edgesAt R H i k v) = edgesAt R H i (k + 1) := by
  funext v
  unfold edgesAt
  by_cases e : v = i
  · subst e
    rw [if_pos rfl, if_neg (by omega), if_pos rfl, edgeP_yes h]
  · rw [if_neg e]
    by_cases e2 : v < i
    · rw [if_pos e2, if_pos e2]
    · rw [if_neg e2, if_neg e2, if_neg e, if_neg e]
theorem edgesAt_no {R : List Cmd} {H : List Ev} {i k : Nat} (h : edgeB R H i k = false) : edgesAt R H i k = edgesAt R H i (k + 1) := by
  funext v
  unfold edgesAt
  by_cases e : v = i
  · subst e
    rw [if_neg (by omega), if_pos rfl, if_neg (by omega), if_pos rfl, edgeP_no h]
  · by_cases e2 : v < i
    · rw [if_pos e2, if_pos e2]
    · rw [if_neg e2, if_neg e2, if_neg e, if_neg e]
theorem edgesAt_here (R : List Cmd) (H : List Ev) (i k : Nat) : edgesAt R H i k i = edgeP R H i k := by unfold edgesAt; rw [if_neg (by omega), if_pos rfl]
theorem edge_val {R : List Cmd} {H : List Ev} {i k : Nat} {c d : Cmd} (hc : R[i]? = some c) (hd : R[k]? = some d) {b1 b2 b3 b4 : Bool} (h1 : decide (i < k) = b1) (h2 : meet c d = b2) (h3 : (i != k) = b3) (h4 : decide (anN R H i < caN R H k) = b4) : edgeB R H i k = ((b1 && b2) || (b3 && b4)) := by
  unfold edgeB
  rw [← h1, ← h2, ← h3, ← h4]
  have e1 : R.getD i ⟨0, 0, 0, nul, nul, 0⟩ = c := by simp [List.getD, hc]
  have e2 : R.getD k ⟨0, 0, 0, nul, nul, 0⟩ = d := by simp [List.getD, hd]
  rw [e1, e2]
  congr 2
  rw [Bool.eq_iff_iff]; simp
set_option maxRecDepth 100000 in
set_option maxHeartbeats 4000000 in
theorem round_any (R : List Cmd) (H : List Ev) (ro ho : Option Addr) (rc hc : Nat) (w : World) (hR : RowV sRC w ro rc R) (hH : RowV sRE w ho hc H) (hok : ∀ e ∈ H, EvOkM e) (hokR : ∀ c ∈ R, CmdOk c) (hl : R.length ≤ 1000) (hlh : H.length ≤ 100000) (v : Bool) (hv : RoundV R H v) :
    Calls Tryz.prog 18 #[.slice ro R.length rc, .slice ho H.length hc] w fun e w' => e = .returned (.bool v) ∧ Below w.heap.size w w' := by
  obtain ⟨hr1, hr2⟩ := hR.le
  obtain ⟨hh1, hh2⟩ := hH.le
  unfold maxLen at hr2 hh2
  have HR := Lib.hid hR
  have HFI := Lib.hid (first_any R H ro ho rc hc w hR hH hok hokR hl hlh)
  have HOR := Lib.hid hokR
  have HV := Lib.hid hv
  clear hR hH hok hokR hv
  go_enter Tryz.func18, Tryz.ntmps18
  go_wp2_with fail
  refine HFI.out.mono ?_
  rintro e w1 ⟨co, cc, ao, ac, rfl, hca, han, hb1⟩
  have HCA := Lib.hid (hca.view lRN)
  have HAN := Lib.hid (han.view lRN)
  have HB1 := Lib.hid hb1
  clear hca han hb1 HFI
  have hmk := make_rows R.length (by omega) w1
  go_upto_region 3 with fail
  clear hmk
  obtain ⟨W, hW⟩ : ∃ W, W = w1.alloc (.cells (tabV R.length fun _ => .slice none 0 0) 87) := ⟨_, rfl⟩
  have HS := Lib.hid (show ∃ hd, EgSt w1 W w1.heap.size R.length hd (edgesAt R H 0 0) by
    rw [hW, edgesAt_zero]
    exact ⟨_, EgSt.start w1 R.length⟩)
  rw [← hW]
  clear hW
  obtain ⟨ge, hge⟩ : ∃ ge, ge = w1.heap.size := ⟨_, rfl⟩
  rw [← hge] at HS ⊢
  clear hge
  go_wp2_with fail
  go_loopw [23] (fun iv wr => ∃ (i : Nat), iv = .int .i64 i ∧ i ≤ R.length ∧ ∃ hd, EgSt w1 wr ge R.length hd (edgesAt R H i 0)) (fun iv _ => R.length - (intOf iv).toNat)
  case atStart => exact ⟨0, rfl, Nat.zero_le _, HS.out⟩
  case round =>
    obtain ⟨i, rfl, hi, hp⟩ := hrel
    have HE := Lib.hid hp
    clear hp HS
    by_cases hil : i < R.length
    · have hii : (i : Int) < (R.length : Int) := by omega
      obtain ⟨c, hx⟩ : ∃ c, R[i]? = some c := ⟨_, List.getElem?_eq_getElem hil⟩
      have HX := Lib.hid hx
      have HBW := Lib.hid (show Below w.heap.size w wr by obtain ⟨_, h⟩ := HE.out; exact HB1.out.trans (h.bel.mono HB1.out.size))
      obtain ⟨b, off, e0, hbl, hrec⟩ := cmd_of (HR.out.below HBW.out) hx
      subst e0
      obtain ⟨c0, c1, c2, c3, c4, c5⟩ := hrec
      clear hx
      go_upto_region 6 with fail
      obtain ⟨w5, hw5⟩ : ∃ w5, w5 = wr.alloc (.cells (cmdA c) 30) := ⟨_, rfl⟩
      have HE5 := Lib.hid (show ∃ hd, EgSt w1 w5 ge R.length hd (edgesAt R H i 0) by
        obtain ⟨hd, h⟩ := HE.out
        exact ⟨hd, by rw [hw5]; exact h.below ((Below.refl _ _).alloc (Nat.le_refl _) _)⟩)
      obtain ⟨gc, hgc⟩ : ∃ gc, gc = wr.heap.size := ⟨_, rfl⟩
      have hba : w5.heap[gc]? = some (.cells (cmdA c) 30 (0, 0)) := by rw [hw5, hgc]; exact heap_alloc_new wr _
      have HBA := Lib.hid hba
      rw [← hw5, ← hgc]
      have HW5 := Lib.hid (show Below w.heap.size w w5 by rw [hw5]; exact HBW.out.alloc HBW.out.size _)
      clear hw5 hgc c0 c1 c2 c3 c4 c5 hba HE
      go_wp2_with fail
      obtain ⟨wa, rfl⟩ : ∃ wa, wa = w5 := ⟨_, rfl⟩
      go_loopw [30] (fun kv wr2 => ∃ (k : Nat), kv = .int .i64 k ∧ k ≤ R.length ∧ (∃ hd, EgSt w1 wr2 ge R.length hd (edgesAt R H i k)) ∧ wr2.heap[gc]? = some (.cells (cmdA c) 30 (0, 0))) (fun kv _ => R.length - (intOf kv).toNat)
      case atStart => exact ⟨0, rfl, Nat.zero_le _, HE5.out, HBA.out⟩
      case round =>
        obtain ⟨k, rfl, hk, hp, hg⟩ := hrel
        have HE := Lib.hid hp
        have HGC := Lib.hid hg
        clear hp HE5 HBA hg
        by_cases hkl : k < R.length
        · have hkk : (k : Int) < (R.length : Int) := by omega
          obtain ⟨d, hx⟩ : ∃ d, R[k]? = some d := ⟨_, List.getElem?_eq_getElem hkl⟩
          have HXD := Lib.hid hx
          have HBR := Lib.hid (show Below w.heap.size w wr by obtain ⟨_, h⟩ := HE.out; exact HB1.out.trans (h.bel.mono HB1.out.size))
          obtain ⟨b2, off2, e0, hbl2, hrec⟩ := cmd_of (HR.out.below HBR.out) hx
          obtain ⟨c0, c1, c2, c3, c4, c5⟩ := hrec
          cases e0
          clear hx
          go_upto_region 9 with fail
          obtain ⟨w6, hw6⟩ : ∃ w6, w6 = wr.alloc (.cells (cmdA d) 30) := ⟨_, rfl⟩
          have hb6 : Below wr.heap.size wr w6 := by rw [hw6]; exact (Below.refl _ _).alloc (Nat.le_refl _) _
          have HE6 := Lib.hid (show ∃ hd, EgSt w1 w6 ge R.length hd (edgesAt R H i k) by
            obtain ⟨hd, h⟩ := HE.out
            exact ⟨hd, h.below hb6⟩)
          have HG6 := Lib.hid ((hb6.block _ (M.heap_lt HGC.out)).trans HGC.out)
          obtain ⟨gd, hgd⟩ : ∃ gd, gd = wr.heap.size := ⟨_, rfl⟩
          have hba : w6.heap[gd]? = some (.cells (cmdA d) 30 (0, 0)) := by rw [hw6, hgd]; exact heap_alloc_new wr _
          rw [← hw6, ← hgd]
          have HGD := Lib.hid hba
          have HZ := Lib.hid (show Below w1.heap.size w1 w6 by obtain ⟨_, h⟩ := HE6.out; exact h.bel)
          clear hw6 hb6 hgd c0 c1 c2 c3 c4 c5 hba HE
          obtain ⟨⟨c0, c1, c2, c3, c4, c5⟩, _⟩ := box6 HG6.out
          obtain ⟨⟨d0, d1, d2, d3, d4, d5⟩, _⟩ := box6 HGD.out
          obtain ⟨ab, aoff, ae, hab, a0⟩ := num_of (HAN.out.below HZ.out) (show (tabF (hitA R) H R.length H.length)[i]? = some (anN R H i : Int) from tabF_get hil)
          obtain ⟨cb, coff, ce, hcb, b0⟩ := num_of (HCA.out.below HZ.out) (show (tabF (hitC R) H R.length H.length)[k]? = some (caN R H k : Int) from tabF_get hkl)
          subst ae
          subst ce
          obtain ⟨mv, hmv⟩ : ∃ mv, meet c d = mv := ⟨_, rfl⟩
          have HMT := Lib.hid (fun W => meet_any c d W mv hmv)
          obtain ⟨ev, hev⟩ : ∃ ev, edgeB R H i k = ev := ⟨_, rfl⟩
          obtain ⟨an, han⟩ : ∃ an, an = anN R H i := ⟨_, rfl⟩
          obtain ⟨ca, hca⟩ : ∃ ca, ca = caN R H k := ⟨_, rfl⟩
          rw [← han] at a0
          rw [← hca] at b0
          have HVAL := Lib.hid (show ∀ (b1 b3 b4 : Bool), decide (i < k) = b1 → (i != k) = b3 → decide (an < ca) = b4 → ev = ((b1 && mv) || (b3 && b4)) from fun b1 b3 b4 h1 h3 h4 => hev.symm.trans (edge_val HX.out HXD.out h1 hmv h3 (by rw [← han, ← hca]; exact h4)))
          have HEB := Lib.hid hev
          clear hev hmv han hca
          go_cut [58] (fun bv wx => bv = .bool ev ∧ Below w6.heap.size w6 wx)
          case first =>
            have k0 := Kin.cell c0
            have k1 := Kin.cell c1
            have k2 := Kin.cell c2
            have k3 := Kin.cell c3
            have k4 := Kin.cell c4
            have k5 := Kin.cell c5
            have k10 := Kin.cell d0
            have k11 := Kin.cell d1
            have k12 := Kin.cell d2
            have k13 := Kin.cell d3
            have k14 := Kin.cell d4
            have k15 := Kin.cell d5
            have k20 := Kin.cell a0
            have k21 := Kin.cell b0
            clear c0 c1 c2 c3 c4 c5 d0 d1 d2 d3 d4 d5 a0 b0
            cases h1 : decide (i < k) with
            | true =>
              cases mv with
              | true =>
                have HEV := Lib.hid (show ev = true from HVAL.out true _ _ h1 rfl rfl)
                clear HVAL
                refine wp_region_kin (by kernel_rfl) (by kernel_rfl) ?_
                repeat (go_big_quiet_step ((go_at_call 35; exact Kin.call _ (HMT.out _))))
                refine wpQuiet_nil ?_
                intro _ hxx
                obtain ⟨xk, rfl⟩ := hxx
                (first | go_meet | (go_wp2_with fail; go_meet))
                exact ⟨by rw [HEV.out], xk.h⟩
              | false =>
                have h3 : (i != k) = true := by simp at h1 ⊢; omega
                have h3b : ((i : Int) != (k : Int)) = true := by simp at h3 ⊢; omega
                have h3c : decide (i = k) = false := by simp at h3 ⊢; omega
                have h3d : (i == k) = false := by simp at h3 ⊢; omega
                have h3e : ((i : Int) == (k : Int)) = false := by simp at h3 ⊢; omega
                cases h4 : decide (an < ca) with
                | true =>
                  have HEV := Lib.hid (show ev = true from HVAL.out true true true h1 h3 h4)
                  clear HVAL
                  refine wp_region_kin (by kernel_rfl) (by kernel_rfl) ?_
                  repeat (go_big_quiet_step ((go_at_call 35; exact Kin.call _ (HMT.out _))))
                  refine wpQuiet_nil ?_
                  intro _ hxx
                  obtain ⟨xk, rfl⟩ := hxx
                  (first | go_meet | (go_wp2_with fail; go_meet))
                  exact ⟨by rw [HEV.out], xk.h⟩
                | false =>
                  have HEV := Lib.hid (show ev = false from HVAL.out true true false h1 h3 h4)
                  clear HVAL
                  refine wp_region_kin (by kernel_rfl) (by kernel_rfl) ?_
                  repeat (go_big_quiet_step ((go_at_call 35; exact Kin.call _ (HMT.out _))))
                  refine wpQuiet_nil ?_
                  intro _ hxx
                  obtain ⟨xk, rfl⟩ := hxx
                  (first | go_meet | (go_wp2_with fail; go_meet))
                  exact ⟨by rw [HEV.out], xk.h⟩
            | false =>
              cases h3 : (i != k) with
              | true =>
                have h3b : ((i : Int) != (k : Int)) = true := by simp at h3 ⊢; omega
                have h3c : decide (i = k) = false := by simp at h3 ⊢; omega
                have h3d : (i == k) = false := by simp at h3 ⊢; omega
                have h3e : ((i : Int) == (k : Int)) = false := by simp at h3 ⊢; omega
                cases h4 : decide (an < ca) with
                | true =>
                  have HEV := Lib.hid (show ev = true from HVAL.out false true true h1 h3 h4)
                  clear HVAL
                  refine wp_region_kin (by kernel_rfl) (by kernel_rfl) ?_
                  repeat (go_big_quiet_step ((go_at_call 35; exact Kin.call _ (HMT.out _))))
                  refine wpQuiet_nil ?_
                  intro _ hxx
                  obtain ⟨xk, rfl⟩ := hxx
                  (first | go_meet | (go_wp2_with fail; go_meet))
                  exact ⟨by rw [HEV.out], xk.h⟩
                | false =>
                  have HEV := Lib.hid (show ev = false from HVAL.out false true false h1 h3 h4)
                  clear HVAL
                  refine wp_region_kin (by kernel_rfl) (by kernel_rfl) ?_
                  repeat (go_big_quiet_step ((go_at_call 35; exact Kin.call _ (HMT.out _))))
                  refine wpQuiet_nil ?_
                  intro _ hxx
                  obtain ⟨xk, rfl⟩ := hxx
                  (first | go_meet | (go_wp2_with fail; go_meet))
                  exact ⟨by rw [HEV.out], xk.h⟩
              | false =>
                have h3b : ((i : Int) != (k : Int)) = false := by simp at h3 ⊢; omega
                have h3c : decide (i = k) = true := by simp at h3 ⊢; omega
                have h3d : (i == k) = true := by simp at h3 ⊢; omega
                have h3e : ((i : Int) == (k : Int)) = true := by simp at h3 ⊢; omega
                have HEV := Lib.hid (show ev = false from HVAL.out false false _ h1 h3 rfl)
                clear HVAL
                refine wp_region_kin (by kernel_rfl) (by kernel_rfl) ?_
                repeat (go_big_quiet_step ((go_at_call 35; exact Kin.call _ (HMT.out _))))
                refine wpQuiet_nil ?_
                intro _ hxx
                obtain ⟨xk, rfl⟩ := hxx
                (first | go_meet | (go_wp2_with fail; go_meet))
                exact ⟨by rw [HEV.out], xk.h⟩
          case rest =>
            obtain ⟨rfl, hbc⟩ := hcut
            obtain ⟨wz, rfl⟩ : ∃ wz, wz = wc := ⟨_, rfl⟩
            have HEZ := Lib.hid (show ∃ hd, EgSt w1 wz ge R.length hd (edgesAt R H i k) by
              obtain ⟨hd, h⟩ := HE6.out
              exact ⟨hd, h.below hbc⟩)
            have HGZ := Lib.hid ((hbc.block _ (M.heap_lt HG6.out)).trans HG6.out)
            clear hbc c0 c1 c2 c3 c4 c5 d0 d1 d2 d3 d4 d5 a0 b0 HVAL HMT
            cases ev with
            | false =>
              go_wp2_with fail
              go_roundw
              case rel => exact ⟨k + 1, by go_num, by omega, by rw [← edgesAt_no HEB.out]; exact HEZ.out, HGZ.out⟩
              case measure => simp [intOf]; omega
            | true =>
              obtain ⟨hd, hE⟩ := HEZ.out
              have HST := Lib.hid hE
              obtain ⟨e0, nf⟩ := hE.cell hil
              rw [edgesAt_here] at e0
              obtain ⟨oi, hoi⟩ : ∃ o, (hd i).1 = o := ⟨_, rfl⟩
              obtain ⟨ci, hci⟩ : ∃ o, (hd i).2 = o := ⟨_, rfl⟩
              rw [hoi, hci] at e0
              have HROW := Lib.hid (show OwnG sRN wz w1.heap.size oi ci (edgeP R H i k) by rw [← hoi, ← hci, ← edgesAt_here]; exact hE.rows i hil)
              have hpl := edgeP_len R H i k
              have HOI := Lib.hid hoi
              clear hE hoi hci HEZ
              obtain ⟨P0, hP0⟩ : ∃ P0, edgeP R H i k = P0 := ⟨_, rfl⟩
              have HPE := Lib.hid hP0
              rw [hP0] at e0 HROW hpl
              clear hP0
              go_upto_region 11 with (refine wpList_rowApp lRN (by rfl) _ _ (by rfl) w1.heap.size oi ci 1 P0 [(k : Int)] wz.heap.size #[.int .i64 (k : Int)] (heap_alloc_new wz _) rfl rfl (by rfl) (HROW.out.below ((Below.refl _ _).alloc (Nat.le_refl _) _)) (by rfl) (by simp; omega) (by have := HST.out.bel.size; simp; omega) ?_
                                      intro oo' oc' w8 ho hM hb hf
                                      have HMD := Lib.hid ((HST.out.below ((Below.refl _ _).alloc (Nat.le_refl _) _)).grow hil ho (by rw [HOI.out]; exact hM) hb (by rw [HOI.out]; exact hf))
                                      have HG8 := Lib.hid (show w8.heap[gc]? = some (.cells (cmdA c) 30 (0, 0)) by
                                        have h0 := M.heap_lt HGZ.out
                                        refine (hM.block _ (by simp; omega) ?_).trans ((heap_al wz _ _).trans ((if_neg (by omega)).trans HGZ.out))
                                        rintro ⟨a, ea, eb⟩
                                        obtain ⟨cs, hc, _⟩ := HROW.out.cells a ea
                                        rw [← eb, HGZ.out] at hc
                                        simp only [Option.some.injEq, Obj.cells.injEq] at hc
                                        exact absurd hc.2.1 (by decide))
                                      obtain ⟨f0, nf8⟩ := HMD.out.cell hil
                                      clear ho hM hb hf e0 nf)
              clear f0 nf8
              obtain ⟨w9, hw9⟩ : ∃ w9, w9 = w8.setCell ⟨ge, i, none⟩ (.slice oo' (P0.length + 1) oc') := ⟨_, rfl⟩
              have HE9 := Lib.hid (show ∃ hd, EgSt w1 w9 ge R.length hd (edgesAt R H i (k + 1)) by
                have h0 := HMD.out.set
                rw [List.length_append, List.length_singleton] at h0
                rw [← edgesAt_yes HEB.out, HPE.out, hw9]
                exact ⟨_, h0⟩)
              have HG9 := Lib.hid (show w9.heap[gc]? = some (.cells (cmdA c) 30 (0, 0)) by
                rw [hw9]
                refine (Mods.setCell (S := fun j => j = ge) (Mods.refl _ w8) (p := ⟨ge, i, none⟩) (fun _ => rfl) _).heap HG8.out (fun e => ?_)
                have h1 := HMD.out.tb
                rw [← e, HG8.out] at h1
                simp only [Option.some.injEq, Obj.cells.injEq] at h1
                exact absurd h1.2.1 (by decide))
              rw [← hw9]
              clear hw9
              go_wp2_with fail
              go_roundw
              case rel => exact ⟨k + 1, by go_num, by omega, HE9.out, HG9.out⟩
              case measure => simp [intOf]; omega
        · obtain rfl : k = R.length := by omega
          have hkk : ¬ (R.length : Int) < (R.length : Int) := by omega
          go_wp2_with fail
          go_roundw
          case rel => exact ⟨i + 1, by go_num, by omega, by rw [← edgesAt_turn]; exact HE.out⟩
          case measure => simp [intOf]; omega
    · obtain rfl : i = R.length := by omega
      have hii : ¬ (R.length : Int) < (R.length : Int) := by omega
      have HFIN := Lib.hid (show ∃ hd, EgSt w1 wr ge R.length hd (edgeE R H) by
        obtain ⟨hd, h⟩ := HE.out
        exact ⟨hd, h.ext (fun v hv => by unfold edgesAt; rw [if_pos hv]) (fun _ _ => rfl)⟩)
      have HCP := Lib.hid (show Calls Tryz.prog 36 #[.slice (some ⟨ge, 0, none⟩) R.length R.length] wr fun e w' => ∃ oo oc L, e = .returned (.slice oo (List.length (α := List Nat) L) oc) ∧ (decide (L.length < R.length) = v ∧ Below wr.heap.size wr w') by
        obtain ⟨hd, h⟩ := HFIN.out
        refine (K.comps_any (edgeE R H) R.length _ R.length wr (h.ed (by omega)) (by omega)).mono ?_
        rintro e w' ⟨oo, oc, RR, L, q, he, ho, _, hb⟩
        exact ⟨oo, oc, L, he, HV.out L q ho.co, hb⟩)
      have HBW := Lib.hid (show Below w.heap.size w wr by obtain ⟨_, h⟩ := HE.out; exact HB1.out.trans (h.bel.mono HB1.out.size))
      go_wp2_with fail
      refine HCP.out.mono ?_
      rintro e w2 ⟨oo, oc, L, rfl, hlt, hb2⟩
      have HB2 := Lib.hid (HBW.out.trans (hb2.mono HBW.out.size))
      clear hb2 HCP
      cases v with
      | true =>
        have e1 : L.length < R.length := by simpa using hlt
        have e2 : (L.length : Int) < (R.length : Int) := by omega
        clear hlt
        go_wp2_with fail
        go_ret
        exact ⟨rfl, HB2.out⟩
      | false =>
        have e1 : ¬ L.length < R.length := by simpa using hlt
        have e2 : ¬ (L.length : Int) < (R.length : Int) := by omega
        clear hlt
        go_wp2_with fail
        go_ret
        exact ⟨rfl, HB2.out⟩
end Go.Proofs.YtkgjfagejnppbaaGreatDoor.X
