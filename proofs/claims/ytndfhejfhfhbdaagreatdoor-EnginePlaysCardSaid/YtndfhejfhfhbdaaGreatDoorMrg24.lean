/- Several texts in one. -/
import Derived.Test.YtndfhejfhfhbdaaGreatDoorOrdAF
import Derived.Test.YtndfhejfhfhbdaaGreatDoorMrg22
import Derived.Test.YtndfhejfhfhbdaaGreatDoorMrg23

/- The document's Within. -/
namespace Go.Proofs.YtndfhejfhfhbdaaGreatDoor.O
open Go.RowKit Go.Proofs.YtndfhejfhfhbdaaGreatDoor.M Go.BigFrame Go.Proofs.YtndfhejfhfhbdaaGreatDoor.K
set_option linter.unusedVariables false
set_option linter.unusedSimpArgs false

set_option maxRecDepth 100000 in
set_option maxHeartbeats 4000000 in
theorem refwithin_any (X : List Rv) (ao : Option Addr) (cap : Nat) (w : World) (h : RecsV w ao cap X) (hl : X.length ≤ 100000) :
    Calls Tryz.prog 24 #[.slice ao X.length cap] w fun e w' => ∃ (oo : Option Addr) (oc : Nat) (m : List Rv), e = .returned (.slice oo X.length oc) ∧ (m.Perm X ∧ m.Pairwise (fun a b => wlt b.nd a.nd = false) ∧ OwnL w' w.heap.size oo oc (m.map Rv.id) ∧ Below w.heap.size w w') := by
  have H := Lib.hid h
  have HC := Lib.hid (refsorted_any X ao cap true w h (by omega))
  clear h
  go_enter Tryz.func24, Tryz.ntmps24
  go_wp2_with fail
  refine HC.out.mono ?_
  rintro e w2 ⟨oo, oc, m, rfl, h1, h2, h3, h4, h5⟩
  have HB2 := Lib.hid h5
  have HM := Lib.hid (And.intro h1 (show m.Pairwise (fun a b => wlt b.nd a.nd = false) from h2))
  have HV := Lib.hid (RecsV.of_own h4 (fun x hx => (H.out.ok x (h1.mem_iff.1 hx)).below h5))
  have HN := Lib.hid (refnames_any m oo oc w2 HV.out (by omega))
  rw [h3] at HN
  clear h1 h2 h3 h4 h5 HC
  go_wp2_with fail
  refine HN.out.mono ?_
  rintro e w3 ⟨oo3, oc3, rfl, h6, h7⟩
  have HF := Lib.hid (show OwnL w3 w.heap.size oo3 oc3 (m.map Rv.id) ∧ Below w.heap.size w w3 from ⟨own_base h6 (fun k hk => Nat.le_trans HB2.out.size (h6.lt k hk).1), HB2.out.trans (h7.mono HB2.out.size)⟩)
  clear h6 h7 HN
  go_wp2_with fail
  go_ret
  exact ⟨oo3, oc3, m, rfl, HM.out.1, HM.out.2, HF.out⟩
end Go.Proofs.YtndfhejfhfhbdaaGreatDoor.O

/- Plain law: what OrderParts and OrderOne ask of Order and Closed. -/
namespace Go.Proofs.YtndfhejfhfhbdaaGreatDoor.O
open Go.RowKit Go.Proofs.YtndfhejfhfhbdaaGreatDoor.M Go.BigFrame Go.Proofs.YtndfhejfhfhbdaaGreatDoor.K Go.Proofs.YtndfhejfhfhbdaaGreatDoor.T
set_option linter.unusedVariables false
set_option linter.unusedSimpArgs false

theorem nds_get {s : List Rv} {u : Nat} {x : Rv} (h : s[u]? = some x) : (nds s)[u]? = some x.nd := by unfold nds; rw [List.getElem?_map, h]; rfl
theorem ids_get {s : List Rv} {u : Nat} {x : Rv} (h : s[u]? = some x) : (idsX s)[u]? = some x.id := by rw [List.getElem?_map, h]; rfl
theorem nds_len (s : List Rv) : (nds s).length = s.length := List.length_map _
theorem unl_nds {s : List Rv} : Unl (nds s) ↔ (idsX s).Nodup := by unfold Unl; rw [nds_ids]
theorem mem_ids_get {s : List Rv} {i : Id} (h : i ∈ idsX s) : ∃ u x, s[u]? = some x ∧ x.id = i ∧ (idsX s).idxOf i = u := by
  have h1 := at_idx h
  have hl := List.idxOf_lt_length_iff.2 h
  rw [List.length_map] at hl
  exact ⟨_, s[(idsX s).idxOf i], List.getElem?_eq_getElem hl, by rw [List.getElem?_map, List.getElem?_eq_getElem hl] at h1; simpa using h1, rfl⟩
/-- sorted records whose ids differ -/
structure Sd (s : List Rv) : Prop where
  nd : (idsX s).Nodup
  st : srtR s = s
theorem Sd.of {X : List Rv} (h : (idsX X).Nodup) : Sd (srtR X) := ⟨srtR_ids h, srtR_same h (srtR_perm X)⟩
theorem Sd.ids {s : List Rv} (h : Sd s) : byIds (nds s) = nds s := by rw [← srtR_nd, h.st]
theorem Sd.unl {s : List Rv} (h : Sd s) : Unl (nds s) := unl_nds.2 h.nd
theorem Sd.pw {s : List Rv} (h : Sd s) : (nds s).Pairwise (fun a b => iln a b = true) := by
  rw [← h.ids]
  exact srt_sorted h.unl.iln h.unl.nodup
theorem row_mem {s : List Rv} (hs : Sd s) {a : List Id} (h : Row (nds s) a) : a.Perm (idsX s) := by
  obtain ⟨L, q, h1, rfl⟩ := h.cmps
  rw [← nds_ids]
  exact rowI_perm h1 hs.unl
end Go.Proofs.YtndfhejfhfhbdaaGreatDoor.O

/- The contract of the reference's Comps. -/
namespace Go.Proofs.YtndfhejfhfhbdaaGreatDoor.K
open Go.RowKit M T
set_option linter.unusedVariables false
set_option linter.unusedSimpArgs false

/-- what the reference's Comps has in memory -/
structure RS (B : Nat) (W0 w : World) (n : Nat) (ao : Option Addr) (cap : Nat) (G : List Nat) (r : Nat → Nat → Bool) (gc : Nat) (q : Nat → Nat) (p : Nat) (oo : Option Addr) (oc : Nat) (R : List (Option Addr × Nat)) (L : List (List Nat)) : Prop where
  rm : RM B W0 w n ao cap G r
  gcB : B ≤ gc
  come : w.heap[gc]? = some (.cells (tabB n (comeP q p)) 4 (0, 0))
  gcG : gc ∉ G
  out : OutAt B w oo oc R L
section
variable {B n cap gc p oc : Nat} {W0 w w4 w7 : World} {ao oo : Option Addr} {G : List Nat} {r : Nat → Nat → Bool} {q : Nat → Nat} {R : List (Option Addr × Nat)} {L : List (List Nat)}
theorem RS.next (h : RS B W0 w n ao cap G r gc q p oo oc R L) (hm : Mods (fun k => k = gc) w w4) (hc4 : w4.heap[gc]? = some (.cells (tabB n (comeP q (p + 1))) 4 (0, 0))) {gcc cc gg cg : Nat} {c : List Nat} {bx : Obj}
    (hrow : w4.ownsRow w.heap.size 3 1 (.slice (some ⟨gcc, 0, none⟩) c.length cc) c.length (iv c))
    (ho : w7.ownsRow B 79 1 (.slice (some ⟨gg, 0, none⟩) (L.length + 1) cg) (L.length + 1) (hdrs R L ++ [.slice (some ⟨gcc, 0, none⟩) c.length cc]))
    (hg : (w4.alloc bx).grownBy w7 (Value.slice oo L.length oc).ownBlock) :
    RS B W0 w7 n ao cap G r gc q (p + 1) (some ⟨gg, 0, none⟩) cg (R ++ [(some ⟨gcc, 0, none⟩, cc)]) (L ++ [c]) := by
  have hB := h.rm.hB
  have hgc : ∀ a, oo = some a → a.block ≠ gc := fun a ha e => by
    obtain ⟨cur, hh, _⟩ := h.out.lt.1 a ha
    rw [e, h.come] at hh
    simp at hh
  have hrc : ∀ x ∈ R, ∀ a, x.1 = some a → a.block ≠ gc := fun x hx a ha e => by
    obtain ⟨cur, hh, _⟩ := h.out.lt.2 x hx a ha
    rw [e, h.come] at hh
    simp at hh
  have hao : ∀ a, ao = some a → a.block ≠ gc := fun a ha e => by
    obtain ⟨⟨cur, hh, _⟩, _⟩ := h.rm.topne a ha
    rw [e, h.come] at hh
    simp at hh
  have ho4 := h.out.keep hm hgc hrc
  have hrow' : w4.ownsRow B 3 1 (.slice (some ⟨gcc, 0, none⟩) c.length cc) c.length (iv c) := own_base hrow (fun k hk => by
    obtain ⟨_, _, hb⟩ := own_heap hrow _ rfl
    obtain rfl := Option.some.inj hk
    exact Nat.le_trans hB hb)
  obtain ⟨h7, hm7⟩ := ho4.more hrow' ho hg
  have hrm4 := h.rm.keep hm (fun k hk => by rw [show k = gc from hk]; exact h.gcB) hao (fun g hg e => h.gcG (by rw [← show g = gc from e]; exact hg))
  refine ⟨hrm4.keep hm7 (fun k ⟨a, ha, e⟩ => ?_) (fun a ha ⟨b, hb, e⟩ => ?_) (fun g hg ⟨b, hb, e⟩ => ?_), h.gcB, hm7.heap hc4 (fun ⟨b, hb, e⟩ => hgc b hb e.symm), h.gcG, h7⟩
  · obtain ⟨_, _, hb⟩ := ho4.lt.1 a ha
    omega
  · obtain ⟨⟨cur, hh, _⟩, _⟩ := hrm4.topne a ha
    obtain ⟨cur2, hh2, _⟩ := ho4.lt.1 b hb
    rw [e, hh2] at hh
    simp at hh
  · obtain ⟨i, hi⟩ := List.mem_iff_getElem?.1 hg
    have hh := (hrm4.row i g hi).2
    obtain ⟨cur2, hh2, _⟩ := ho4.lt.1 b hb
    rw [e, hh2] at hh
    simp at hh
end
theorem RS.at4 {B n cap gc p oc : Nat} {W0 w w4 : World} {ao oo : Option Addr} {G : List Nat} {r : Nat → Nat → Bool} {q : Nat → Nat} {R : List (Option Addr × Nat)} {L : List (List Nat)} (h : RS B W0 w n ao cap G r gc q p oo oc R L) (hm : Mods (fun k => k = gc) w w4) : RM B W0 w4 n ao cap G r ∧ OutAt B w4 oo oc R L := by
  refine ⟨h.rm.keep hm (fun k hk => by rw [show k = gc from hk]; exact h.gcB) (fun a ha e => ?_) (fun g hg e => h.gcG (by rw [← show g = gc from e]; exact hg)), h.out.keep hm (fun a ha e => ?_) (fun x hx a ha e => ?_)⟩
  · have e : a.block = gc := e
    obtain ⟨⟨cur, hh, _⟩, _⟩ := h.rm.topne a ha
    rw [e, h.come] at hh
    simp at hh
  · have e : a.block = gc := e
    obtain ⟨cur, hh, _⟩ := h.out.lt.1 a ha
    rw [e, h.come] at hh
    simp at hh
  · have e : a.block = gc := e
    obtain ⟨cur, hh, _⟩ := h.out.lt.2 x hx a ha
    rw [e, h.come] at hh
    simp at hh
theorem drop_sum_le (L : List (List Nat)) (p : Nat) : (L.drop p).flatten.length ≤ L.flatten.length := by
  have e : L.flatten = (L.take p).flatten ++ (L.drop p).flatten := by rw [← List.flatten_append, List.take_append_drop]
  rw [e, List.length_append]
  omega
theorem okV_of {E : Nat → List Int} {n : Nat} {r : Nat → Nat → Bool} {come : Nat → Bool} {v : Nat} (hr : ∀ a b, a < n → b < n → (r a b = true ↔ Path E n a b)) (hv : v < n) (hc : come v = false) (h : ∀ w, w < n → (!r v w || come w || r w v) = true) : okV E n come v :=
  ⟨hc, fun w hw hp => by
    have h1 := h w hw
    rw [(hr v w hv hw).2 hp] at h1
    rw [Bool.not_true, Bool.false_or, Bool.or_eq_true] at h1
    exact h1.imp id (fun h2 => (hr w v hw hv).1 h2)⟩
theorem okV_no {E : Nat → List Int} {n : Nat} {r : Nat → Nat → Bool} {come : Nat → Bool} {v w : Nat} (hr : ∀ a b, a < n → b < n → (r a b = true ↔ Path E n a b)) (hv : v < n) (hw : w < n) (h : (!r v w || come w || r w v) = false) : ¬ okV E n come v := by
  rintro ⟨_, h2⟩
  simp only [Bool.or_eq_false_iff, Bool.not_eq_false'] at h
  rcases h2 w hw ((hr v w hv hw).1 h.1.1) with h3 | h3
  · rw [h.1.2] at h3; cases h3
  · have := (hr w v hw hv).2 h3
    rw [h.2] at this; cases this
theorem flat_count : ∀ (L : List (List Nat)), (∀ c ∈ L, c ≠ []) → L.length ≤ L.flatten.length
  | [], _ => Nat.le_refl _
  | c :: L, h => by
    have h1 := flat_count L fun d hd => h d (List.mem_cons_of_mem _ hd)
    have h2 := List.length_pos_iff.2 (h c List.mem_cons_self)
    rw [List.flatten_cons, List.length_append, List.length_cons]
    omega
theorem Comp.count {E : Nat → List Int} {n : Nat} {L : List (List Nat)} {q : Nat → Nat} (h : Comp E n L q) : L.length ≤ n := by
  have := flat_count L (fun c hc => (h.d3 c hc).2)
  rw [h.sum] at this
  exact this
def gdB (r : Nat → Nat → Bool) (come : Nat → Bool) (v k : Nat) : Bool := !r v k || come k || r k v
structure GD (E : Nat → List Int) (n : Nat) (r : Nat → Nat → Bool) (come : Nat → Bool) (v : Nat) (b : Bool) (k : Nat) : Prop where
  yes : b = true → come v = false ∧ ∀ w, w < k → gdB r come v w = true
  no : b = false → ¬ okV E n come v
theorem GD.start {E : Nat → List Int} {n : Nat} {r : Nat → Nat → Bool} {come : Nat → Bool} {v : Nat} : GD E n r come v (!come v) 0 :=
  ⟨fun h => ⟨by simpa using h, fun w hw => by omega⟩, fun h hok => by rw [hok.1] at h; cases h⟩
theorem GD.next {E : Nat → List Int} {n : Nat} {r : Nat → Nat → Bool} {come : Nat → Bool} {v k : Nat} (h : GD E n r come v true k) (hr : ∀ a b, a < n → b < n → (r a b = true ↔ Path E n a b)) (hv : v < n) (hk : k < n) : GD E n r come v (gdB r come v k) (k + 1) :=
  ⟨fun hb => ⟨(h.yes rfl).1, fun w hw => by
    by_cases e : w = k
    · subst e; exact hb
    · exact (h.yes rfl).2 w (by omega)⟩, fun hb => okV_no hr hv hk hb⟩
theorem GD.done {E : Nat → List Int} {n : Nat} {r : Nat → Nat → Bool} {come : Nat → Bool} {v : Nat} (h : GD E n r come v true n) (hr : ∀ a b, a < n → b < n → (r a b = true ↔ Path E n a b)) (hv : v < n) : okV E n come v :=
  okV_of hr hv (h.yes rfl).1 (h.yes rfl).2
/-- one component, as it is collected -/
structure CL (n gc : Nat) (wa w : World) (q : Nat → Nat) (p : Nat) (co : Option Addr) (cc : Nat) (l : List Nat) : Prop where
  mo : Mods (fun k => k = gc) wa w
  come : w.heap[gc]? = some (.cells (tabB n fun v => comeP q p v || decide (v ∈ l)) 4 (0, 0))
  row : w.ownsRow wa.heap.size 3 1 (.slice co l.length cc) l.length (iv l)
theorem CL.step {n gc p cc gg cg x : Nat} {wa w w7 : World} {q : Nat → Nat} {co : Option Addr} {l : List Nat} {bx : Obj} (h : CL n gc wa w q p co cc l) (hgc : gc < wa.heap.size)
    (ho : w7.ownsRow wa.heap.size 3 1 (.slice (some ⟨gg, 0, none⟩) (l.length + 1) cg) (l.length + 1) (iv l ++ [.int .i64 x]))
    (hg : (w.alloc bx).grownBy w7 (Value.slice co l.length cc).ownBlock) : CL n gc wa (w7.setCell ⟨gc, x, none⟩ (.bool true)) q p (some ⟨gg, 0, none⟩) cg (l ++ [x]) ∧ w7.heap[gc]? = some (.cells (tabB n fun v => comeP q p v || decide (v ∈ l)) 4 (0, 0)) := by
  have hs := h.mo.size
  obtain ⟨⟨ho7, _⟩, hM⟩ := own_more h.row hs ho hg
  have hc7 := hM.heap h.come (fun ⟨a, ha, e⟩ => by
    obtain ⟨_, _, hb⟩ := own_heap h.row a ha
    omega)
  have hgg : wa.heap.size ≤ gg := by obtain ⟨_, _, hb⟩ := own_heap ho7 _ rfl; exact hb
  have hset : Mods (fun k => k = gc) w7 (w7.setCell ⟨gc, x, none⟩ (.bool true)) := (Mods.refl (fun k => k = gc) w7).setCell (p := ⟨gc, x, none⟩) (fun _ => rfl) _
  refine ⟨⟨(h.mo.then hM (fun k hk ⟨a, ha, e⟩ => ?_)).then hset (fun k hk e => e), ?_, own_kept ho7 hset (fun k hk e => ?_)⟩, hc7⟩
  · obtain ⟨_, _, hb⟩ := own_heap h.row a ha
    omega
  · have := heap_set w7 gc x (.bool true) gc _ _ _ hc7
    rw [if_pos rfl, tabB_set] at this
    rw [this]
    congr 2
    refine tabB_congr n _ _ fun v hv => ?_
    unfold upd
    by_cases e : v = x <;> simp [e]
  · have := Option.some.inj hk
    have e : k = gc := e
    simp only at this
    omega
/-- the class of a component's head, read off the table -/
theorem cls_row {E : Nat → List Int} {n p : Nat} {q : Nat → Nat} {L : List (List Nat)} {c : List Nat} {r : Nat → Nat → Bool} (h : InOrder E n L q) (hc : L[p]? = some c) (hr : ∀ a b, a < n → b < n → (r a b = true ↔ Path E n a b)) : upTo (fun w => r (c.headD 0) w && r w (c.headD 0)) n = c := by
  have hh := comp_head h.co hc
  refine sorted_ext (upTo_srt _ _) (h.co.d3 c (List.mem_of_getElem? hc)).1 fun v => ?_
  rw [upTo_mem, h.cls hc, Bool.and_eq_true]
  constructor
  · rintro ⟨a, b, d⟩; exact ⟨a, (hr _ _ hh.1 a).1 b, (hr _ _ a hh.1).1 d⟩
  · rintro ⟨a, b, d⟩; exact ⟨a, (hr _ _ hh.1 a).2 b, (hr _ _ a hh.1).2 d⟩
end Go.Proofs.YtndfhejfhfhbdaaGreatDoor.K

/- The walk of the reference's Comps. -/
namespace Go.Proofs.YtndfhejfhfhbdaaGreatDoor.K
open Go.RowKit M T
set_option linter.unusedVariables false
set_option linter.unusedSimpArgs false

set_option maxRecDepth 100000 in
set_option maxHeartbeats 4000000 in
theorem refcomps_any (E : Nat → List Int) (n : Nat) (eo : Option Addr) (ec : Nat) (w : World) (L : List (List Nat)) (q : Nat → Nat) (hEd : EdAt w.heap.size w eo n ec E) (hn : n ≤ 10000) (hL : InOrder E n L q) :
    Calls Tryz.prog 51 #[.slice eo n ec] w fun e w' => ∃ oo oc R, e = .returned (.slice oo L.length oc) ∧ (OutAt w.heap.size w' oo oc R L ∧ Below w.heap.size w w') := by
  have HRE := Lib.hid (reach_any E n eo ec w hEd hn)
  have HL := Lib.hid hL
  obtain ⟨i0, hii, hz0, hz1, hz2⟩ := info_parts info_int
  obtain ⟨j0, hji, hy0, hy1, hy2⟩ := info_parts info_ints
  have hmk := make_bools n hn
  have hec := hEd.le.2
  have HSUM := Lib.hid hL.co.sum
  clear hEd hL
  go_enter Tryz.func51, Tryz.ntmps51
  go_wp2_with fail
  refine HRE.out.mono ?_
  rintro e w1 ⟨ao, cap, G, r, rfl, hG, hrm, hr⟩
  have HG := Lib.hid hG
  have HRM := Lib.hid hrm
  have HR := Lib.hid hr
  clear hG hrm hr
  go_upto_region 4 with fail
  obtain ⟨w2, hw2⟩ : ∃ w2, w2 = w1.alloc (.cells (tabB n fun _ => false) 4) := ⟨_, rfl⟩
  obtain ⟨gc, hgc⟩ : ∃ gc, gc = w1.heap.size := ⟨_, rfl⟩
  rw [← hw2, ← hgc]
  have hrs : RS w.heap.size w w2 n ao cap G r gc q 0 none 0 [] (L.take 0) := by
    have hb : Below w1.heap.size w1 w2 := by rw [hw2]; exact (Below.refl _ _).alloc (Nat.le_refl _) _
    refine ⟨HRM.out.below hb, by rw [hgc]; exact HRM.out.hB, ?_, fun hm => ?_, OutAt.nil _ _⟩
    · rw [hw2, hgc, heap_alloc_new]
      rw [tabB_congr n (comeP q 0) (fun _ => false) (fun v _ => by unfold comeP; simp)]
    · obtain ⟨i, hi⟩ := List.mem_iff_getElem?.1 hm
      have := heap_lt (HRM.out.row i _ hi).2
      omega
  have HRS := Lib.hid hrs
  have HS0 : Hid (n = (L.drop 0).flatten.length) := Lib.hid (by rw [List.drop_zero]; exact HSUM.out.symm)
  clear hrs hw2 hgc HRM HSUM hmk
  go_wp2_with fail
  have hnv : Hid (Value.int .i64 (n : Int) = .int .i64 ((L.drop 0).flatten.length : Nat)) := Lib.hid (by rw [← HS0.out])
  go_loopw [6, 7] (fun ov lv wr => ∃ (p : Nat) (oo : Option Addr) (oc : Nat) (R : List (Option Addr × Nat)), ov = .slice oo (L.take p).length oc ∧ lv = .int .i64 ((L.drop p).flatten.length : Nat) ∧ p ≤ L.length ∧ RS w.heap.size w wr n ao cap G r gc q p oo oc R (L.take p)) (fun _ lv _ => (intOf lv).toNat)
  case atStart => exact ⟨0, none, 0, [], rfl, hnv.out, Nat.zero_le _, HRS.out⟩
  case round =>
    clear HRS HS0 hnv
    obtain ⟨p, oo, oc, R, rfl, rfl, hp, hrs⟩ := hrel
    obtain ⟨wa, rfl⟩ : ∃ wa, wa = wr := ⟨_, rfl⟩
    obtain ⟨T, hT⟩ : ∃ T, T = L.take p := ⟨_, rfl⟩
    rw [← hT] at hrs ⊢
    have hTl : T.length = p := by rw [hT, List.length_take]; omega
    have hLn := HL.out.co.count
    have HT := Lib.hid hT
    have HTL := Lib.hid hTl
    have hTle : T.length ≤ 10000 := by omega
    have HRS := Lib.hid hrs
    clear hT hTl
    by_cases hpl : p < L.length
    · obtain ⟨c, hc⟩ : ∃ c, L[p]? = some c := ⟨_, List.getElem?_eq_getElem hpl⟩
      have hsd := sum_drop hc
      have hcp := List.length_pos_iff.2 (HL.out.co.d3 c (List.mem_of_getElem? hc)).2
      obtain ⟨hhn, hhq, _, _⟩ := comp_head HL.out.co hc
      have HOH := Lib.hid (HL.out.ok_head hc)
      have HOB := Lib.hid (fun v (hv : v < c.headD 0) => HL.out.ok_below hc hv)
      have HCL := Lib.hid (cls_row HL.out hc HR.out)
      have HNX := Lib.hid (fun v (hv : v < n) => comeP_next HL.out.co hc hv)
      have HC := Lib.hid hc
      obtain ⟨s, hs⟩ : ∃ s, s = (L.drop p).flatten.length := ⟨_, rfl⟩
      obtain ⟨s', hs'⟩ : ∃ s', s' = (L.drop (p + 1)).flatten.length := ⟨_, rfl⟩
      obtain ⟨h, hh⟩ : ∃ h, h = c.headD 0 := ⟨_, rfl⟩
      rw [← hs, ← hs'] at hsd
      rw [← hh] at hhn HOH HOB HCL
      rw [← hs]
      have hcs : c.length ≤ s := by omega
      have HS' := Lib.hid hs'
      have HSD := Lib.hid hsd
      have HHQ := Lib.hid (show comeP q p h = false by unfold comeP; rw [hh, hhq, decide_eq_false]; omega)
      have hgt : (0 : Int) < (s : Int) := by omega
      have hsn : s ≤ n := by rw [hs, ← HL.out.co.sum]; exact drop_sum_le L p
      clear hs hs' hh hhq hsd hc hrs
      go_wp2_with fail
      go_loopw [6, 7, 8] (fun ov lv vv wr2 => ∃ v : Nat, ov = .slice oo T.length oc ∧ lv = .int .i64 s ∧ vv = .int .i64 v ∧ v ≤ h ∧ wa = wr2) (fun _ _ vv _ => h - (intOf vv).toNat)
      case atStart => exact ⟨0, rfl, rfl, rfl, Nat.zero_le _, rfl⟩
      case round =>
        obtain ⟨v, rfl, rfl, rfl, hv, rfl⟩ := hrel
        have hvn : v < n := by omega
        have hvi : (v : Int) < (n : Int) := by omega
        obtain ⟨c0, _⟩ := rowB_cell HRS.out.come v hvn
        have HGS := Lib.hid (GD.start (E := E) (n := n) (r := r) (come := comeP q p) (v := v))
        obtain ⟨b0, hb0⟩ : ∃ b0, b0 = comeP q p v := ⟨_, rfl⟩
        rw [← hb0] at c0 HGS
        clear hb0
        go_wp2_with fail
        go_loopw [9, 10] (fun bv kv wr3 => ∃ (k : Nat) (b : Bool), bv = .bool b ∧ kv = .int .i64 k ∧ k ≤ n ∧ wa = wr3 ∧ GD E n r (comeP q p) v b k) (fun _ kv _ => n - (intOf kv).toNat)
        case atStart => exact ⟨0, !b0, rfl, rfl, Nat.zero_le _, rfl, HGS.out⟩
        case round =>
          clear HGS c0
          obtain ⟨k, b, rfl, rfl, hk, rfl, hgd⟩ := hrel
          have HGD := Lib.hid hgd
          clear hgd
          cases b with
          | false =>
            have hvh : v < h := by
              rcases Nat.lt_or_ge v h with e | e
              · exact e
              · obtain rfl : v = h := by omega
                exact absurd HOH.out (HGD.out.no rfl)
            by_cases hkn : k < n
            · have hki : (k : Int) < (n : Int) := by omega
              go_wp2_with fail
              go_roundw
              case rel => exact ⟨v + 1, by trivial, by trivial, by go_num, by omega, by trivial⟩
              case measure => simp [intOf]; omega
            · have hki : ¬ (k : Int) < (n : Int) := by omega
              go_wp2_with fail
              go_roundw
              case rel => exact ⟨v + 1, by trivial, by trivial, by go_num, by omega, by trivial⟩
              case measure => simp [intOf]; omega
          | true =>
            by_cases hkn : k < n
            · have hki : (k : Int) < (n : Int) := by omega
              have HN := Lib.hid (HGD.out.next HR.out hvn hkn)
              have HNE := Lib.hid (show gdB r (comeP q p) v k = (!r v k || comeP q p k || r k v) from rfl)
              obtain ⟨hcl1, hcl2⟩ := HRS.out.rm.capLe
              rw [HG.out] at hcl1
              obtain ⟨gt, gv, e9, _, cv, hrv⟩ := HRS.out.rm.cells (i := v) (by rw [HG.out]; exact hvn)
              subst e9
              obtain ⟨gt', gk, e9, _, ck, hrk⟩ := HRS.out.rm.cells (i := k) (by rw [HG.out]; exact hkn)
              cases e9
              obtain ⟨x1, _⟩ := hrv k hkn
              obtain ⟨x2, _⟩ := hrk v hvn
              obtain ⟨x3, _⟩ := rowB_cell HRS.out.come k hkn
              clear hrv hrk
              cases h1 : r v k with
              | false =>
                rw [h1] at x1
                rw [h1] at HNE
                clear h1
                go_wp2_with fail
                go_roundw
                case rel => exact ⟨k + 1, true, rfl, by go_num, by omega, by trivial, by have := HN.out; rwa [HNE.out] at this⟩
                case measure => simp [intOf]; omega
              | true =>
                rw [h1] at x1
                rw [h1] at HNE
                clear h1
                cases h2 : comeP q p k with
                | true =>
                  rw [h2] at x3
                  rw [h2] at HNE
                  clear h2
                  go_wp2_with fail
                  go_roundw
                  case rel => exact ⟨k + 1, true, rfl, by go_num, by omega, by trivial, by have := HN.out; rwa [HNE.out] at this⟩
                  case measure => simp [intOf]; omega
                | false =>
                  rw [h2] at x3
                  rw [h2] at HNE
                  obtain ⟨b3, h3⟩ : ∃ b3, b3 = r k v := ⟨_, rfl⟩
                  rw [← h3] at x2 HNE
                  clear h2 h3
                  go_wp2_with fail
                  go_roundw
                  case rel => exact ⟨k + 1, b3, rfl, by go_num, by omega, by trivial, by have := HN.out; rw [HNE.out] at this; simpa using this⟩
                  case measure => simp [intOf]; omega
            · obtain rfl : k = n := by omega
              have hki : ¬ (k : Int) < (k : Int) := by omega
              have hok := HGD.out.done HR.out hvn
              have hvh : v = h := by
                rcases Nat.lt_or_ge v h with e | e
                · exact absurd hok (HOB.out v e)
                · omega
              subst hvh
              clear hok
              have HC0 : Hid (CL k gc wa wa q p none 0 (upTo (fun w => r v w && r w v) 0)) := Lib.hid ⟨Mods.refl _ _, by
                have e : (fun y => comeP q p y || decide (y ∈ upTo (fun w => r v w && r w v) 0)) = comeP q p := by funext y; simp [upTo]
                rw [e]
                exact HRS.out.come, World.ownsRow_nil _ _ _ _⟩
              go_wp2_with fail
              go_loopw [11, 12] (fun cv kv wr4 => ∃ (x : Nat) (co : Option Addr) (cc : Nat), cv = .slice co (upTo (fun w => r v w && r w v) x).length cc ∧ kv = .int .i64 x ∧ x ≤ k ∧ CL k gc wa wr4 q p co cc (upTo (fun w => r v w && r w v) x)) (fun _ kv _ => k - (intOf kv).toNat)
              case atStart => exact ⟨0, none, 0, rfl, rfl, Nat.zero_le _, HC0.out⟩
              case round =>
                clear HC0
                obtain ⟨x, co, cc, rfl, rfl, hx, hcl⟩ := hrel
                have HCC := Lib.hid hcl
                obtain ⟨hrm4, ho4⟩ := HRS.out.at4 hcl.mo
                by_cases hxk : x < k
                · have hxi : (x : Int) < (k : Int) := by omega
                  obtain ⟨hcl1, hcl2⟩ := hrm4.capLe
                  rw [HG.out] at hcl1
                  obtain ⟨gt, gv, e9, _, cv, hrv⟩ := hrm4.cells (i := v) (by rw [HG.out]; exact hvn)
                  subst e9
                  obtain ⟨gt', gk, e9, _, ck, hrk⟩ := hrm4.cells (i := x) (by rw [HG.out]; exact hxk)
                  cases e9
                  obtain ⟨x1, _⟩ := hrv x hxk
                  obtain ⟨x2, _⟩ := hrk v hvn
                  have hul := upTo_len (fun w => r v w && r w v) x
                  have HY := Lib.hid (fun h => upTo_yes (f := fun w => r v w && r w v) (k := x) h)
                  have HN := Lib.hid (fun h => upTo_no (f := fun w => r v w && r w v) (k := x) h)
                  clear hcl hrm4 ho4 hrv hrk
                  cases h1 : r v x with
                  | false =>
                    rw [h1] at x1
                    have HN := Lib.hid (HN.out (by simp [h1]))
                    clear h1
                    generalize upTo (fun w => r v w && r w v) x = l at *
                    go_wp2_with fail
                    go_roundw
                    case rel => exact ⟨x + 1, co, cc, by rw [HN.out], by go_num, by omega, by rw [HN.out]; exact HCC.out⟩
                    case measure => simp [intOf]; omega
                  | true =>
                    rw [h1] at x1
                    cases h2 : r x v with
                    | false =>
                      rw [h2] at x2
                      have HN := Lib.hid (HN.out (by simp [h1, h2]))
                      clear h1 h2
                      generalize upTo (fun w => r v w && r w v) x = l at *
                      go_wp2_with fail
                      go_roundw
                      case rel => exact ⟨x + 1, co, cc, by rw [HN.out], by go_num, by omega, by rw [HN.out]; exact HCC.out⟩
                      case measure => simp [intOf]; omega
                    | true =>
                      rw [h2] at x2
                      have HY := Lib.hid (HY.out (by simp [h1, h2]))
                      have hgcl : gc < wa.heap.size := heap_lt HRS.out.come
                      have hws := HCC.out.mo.size
                      clear h1 h2 HN
                      generalize upTo (fun w => r v w && r w v) x = l at *
                      go_upto_region 22 with (refine wpList_append_lies _ (by rfl) (.tmp 86) (.tmp 88) 79 (by rfl) wa.heap.size 3 i0 _ 1 8 Tryz.underlying79 hii hz0 hz1 hz2 rfl (by decide) (.slice co l.length cc) l.length (iv l) (by rfl) (by exact HCC.out.row.alloc _) ⟨wr.heap.size, 0, none⟩ 1 1 [.int .i64 (x : Int)] (by rfl) (by rfl) (World.news_of_block (cs := #[.int .i64 (x : Int)]) (t := 3) (fr := (0, 0)) (heap_alloc_new wr _)) (by simp [Value.oneCell']) (by omega) (by unfold maxLen; omega) (by omega) (by simp; omega) (wr.heap.size + 1) (by simp) ?_; intro gg cg w7 hown hgrow hat hlt7; have HG7 := Lib.hid (And.intro hown (And.intro hgrow hat)); clear hown hgrow hat)
                      obtain ⟨hst, hc7⟩ := HCC.out.step hgcl HG7.out.1 HG7.out.2.1
                      obtain ⟨y0, y1⟩ := rowB_cell hc7 x hxk
                      have HST := Lib.hid hst
                      clear hst hc7
                      go_wp2_with fail
                      go_roundw
                      case rel => exact ⟨x + 1, some ⟨gg, 0, none⟩, cg, by rw [HY.out, List.length_append]; rfl, by go_num, by omega, by rw [HY.out]; exact HST.out⟩
                      case measure => simp [intOf]; omega
                · obtain rfl : x = k := by omega
                  have hxi : ¬ (x : Int) < (x : Int) := by omega
                  have hcl5 := hcl
                  rw [HCL.out] at hcl5 ⊢
                  have hc4 : wr.heap[gc]? = some (.cells (tabB x (comeP q (p + 1))) 4 (0, 0)) := by
                    rw [hcl5.come, tabB_congr x _ _ (fun y hy => HNX.out y hy)]
                  obtain ⟨gcc, rfl, _, hcc1, hcc2, _⟩ := rowcell hcl5.row hcp
                  have HCL5 := Lib.hid hcl5
                  have HC4 := Lib.hid hc4
                  have htop := ho4.top
                  have HTOP := Lib.hid htop
                  have hws := hcl5.mo.size
                  have hwB := HRS.out.rm.hB
                  clear hcl hcl5 hrm4 ho4 htop hc4
                  go_wp2_with (refine wpList_append_lies _ (by rfl) (.tmp 93) (.tmp 95) 76 (by rfl) w.heap.size 79 j0 _ 1 24 Tryz.underlying76 hji hy0 hy1 hy2 rfl (by decide) (.slice oo T.length oc) T.length (hdrs R T) (by rfl) (by exact HTOP.out.alloc _) ⟨wr.heap.size, 0, none⟩ 1 1 [.slice (some ⟨gcc, 0, none⟩) c.length cc] (by rfl) (by rfl) (World.news_of_block (cs := #[.slice (some ⟨gcc, 0, none⟩) c.length cc]) (t := 79) (fr := (0, 0)) (heap_alloc_new wr _)) (by simp [Value.oneCell']) (by omega) (by unfold maxLen; omega) (by omega) (by simp; omega) (wr.heap.size + 1) (by simp) ?_; intro gg cg w7 hown hgrow hat hlt7; have HG7 := Lib.hid (And.intro hown (And.intro hgrow hat)); clear hown hgrow hat)
                  go_roundw
                  case rel =>
                    have hTc : T ++ [c] = L.take (p + 1) := by rw [HT.out, List.take_add_one, HC.out]; rfl
                    refine ⟨p + 1, some ⟨gg, 0, none⟩, cg, R ++ [(some ⟨gcc, 0, none⟩, cc)], ?_, ?_, by omega, ?_⟩
                    · rw [← hTc, List.length_append]; rfl
                    · rw [← HS'.out]; have := HSD.out; congr 1; omega
                    · rw [← hTc]; exact HRS.out.next HCL5.out.mo HC4.out HCL5.out.row HG7.out.1 HG7.out.2.1
                  case measure => have := HSD.out; simp [intOf]; omega
    · have hple : p = L.length := by omega
      have hz : (L.drop p).flatten.length = 0 := by rw [List.drop_of_length_le (by omega)]; rfl
      rw [hz]
      have htk : T = L := by rw [HT.out]; exact List.take_of_length_le (by omega)
      subst htk
      have HB := Lib.hid hrs.rm.bel
      clear hrs hz HT HTL hple
      go_wp2_with fail
      go_ret
      exact ⟨oo, oc, R, rfl, HRS.out.out, HB.out⟩
end Go.Proofs.YtndfhejfhfhbdaaGreatDoor.K
