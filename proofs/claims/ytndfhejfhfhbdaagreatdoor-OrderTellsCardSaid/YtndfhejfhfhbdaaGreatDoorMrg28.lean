/- Several texts in one. -/
import Derived.Test.YtndfhejfhfhbdaaGreatDoorOrdAF
import Derived.Test.YtndfhejfhfhbdaaGreatDoorMrg26
import Derived.Test.YtndfhejfhfhbdaaGreatDoorMrg27

/- The document's Within. -/
namespace Go.Proofs.YtndfhejfhfhbdaaGreatDoor.O
open Go.RowKit Go.Proofs.YtndfhejfhfhbdaaGreatDoor.M Go.BigFrame Go.Proofs.YtndfhejfhfhbdaaGreatDoor.K
set_option linter.unusedVariables false
set_option linter.unusedSimpArgs false

set_option maxRecDepth 100000 in
set_option maxHeartbeats 4000000 in
theorem refwithin_any (X : List Rv) (ao : Option Addr) (cap : Nat) (w : World) (h : RecsV w ao cap X) (hl : X.length ≤ 100000) :
    Calls Tryz.prog 24 #[.slice ao X.length cap] w fun e w' => ∃ (oo : Option Addr) (oc : Nat) (m : List Rv), e = .returned (.slice oo X.length oc) ∧ (m.Perm X ∧ m.Pairwise (fun a b => wlt b.nd a.nd = false) ∧ OwnL w' w.heap.size oo oc (m.map Rv.id) ∧ Below w.heap.size w w') := by
  have H := Lib.hid h
  have HC := Lib.hid (refsorted_any X ao cap true w h (by omega))
  clear h
  go_enter Tryz.func24, Tryz.ntmps24
  go_wp2_with fail
  refine HC.out.mono ?_
  rintro e w2 ⟨oo, oc, m, rfl, h1, h2, h3, h4, h5⟩
  have HB2 := Lib.hid h5
  have HM := Lib.hid (And.intro h1 (show m.Pairwise (fun a b => wlt b.nd a.nd = false) from h2))
  have HV := Lib.hid (RecsV.of_own h4 (fun x hx => (H.out.ok x (h1.mem_iff.1 hx)).below h5))
  have HN := Lib.hid (refnames_any m oo oc w2 HV.out (by omega))
  rw [h3] at HN
  clear h1 h2 h3 h4 h5 HC
  go_wp2_with fail
  refine HN.out.mono ?_
  rintro e w3 ⟨oo3, oc3, rfl, h6, h7⟩
  have HF := Lib.hid (show OwnL w3 w.heap.size oo3 oc3 (m.map Rv.id) ∧ Below w.heap.size w w3 from ⟨own_base h6 (fun k hk => Nat.le_trans HB2.out.size (h6.lt k hk).1), HB2.out.trans (h7.mono HB2.out.size)⟩)
  clear h6 h7 HN
  go_wp2_with fail
  go_ret
  exact ⟨oo3, oc3, m, rfl, HM.out.1, HM.out.2, HF.out⟩
end Go.Proofs.YtndfhejfhfhbdaaGreatDoor.O

/- Plain law: what OrderParts and OrderOne ask of Order and Closed. -/
namespace Go.Proofs.YtndfhejfhfhbdaaGreatDoor.O
open Go.RowKit Go.Proofs.YtndfhejfhfhbdaaGreatDoor.M Go.BigFrame Go.Proofs.YtndfhejfhfhbdaaGreatDoor.K Go.Proofs.YtndfhejfhfhbdaaGreatDoor.T
set_option linter.unusedVariables false
set_option linter.unusedSimpArgs false

theorem nds_get {s : List Rv} {u : Nat} {x : Rv} (h : s[u]? = some x) : (nds s)[u]? = some x.nd := by unfold nds; rw [List.getElem?_map, h]; rfl
theorem ids_get {s : List Rv} {u : Nat} {x : Rv} (h : s[u]? = some x) : (idsX s)[u]? = some x.id := by rw [List.getElem?_map, h]; rfl
theorem nds_len (s : List Rv) : (nds s).length = s.length := List.length_map _
theorem unl_nds {s : List Rv} : Unl (nds s) ↔ (idsX s).Nodup := by unfold Unl; rw [nds_ids]
theorem mem_ids_get {s : List Rv} {i : Id} (h : i ∈ idsX s) : ∃ u x, s[u]? = some x ∧ x.id = i ∧ (idsX s).idxOf i = u := by
  have h1 := at_idx h
  have hl := List.idxOf_lt_length_iff.2 h
  rw [List.length_map] at hl
  exact ⟨_, s[(idsX s).idxOf i], List.getElem?_eq_getElem hl, by rw [List.getElem?_map, List.getElem?_eq_getElem hl] at h1; simpa using h1, rfl⟩
/-- sorted records whose ids differ -/
structure Sd (s : List Rv) : Prop where
  nd : (idsX s).Nodup
  st : srtR s = s
theorem Sd.of {X : List Rv} (h : (idsX X).Nodup) : Sd (srtR X) := ⟨srtR_ids h, srtR_same h (srtR_perm X)⟩
theorem Sd.ids {s : List Rv} (h : Sd s) : byIds (nds s) = nds s := by rw [← srtR_nd, h.st]
theorem Sd.unl {s : List Rv} (h : Sd s) : Unl (nds s) := unl_nds.2 h.nd
theorem Sd.pw {s : List Rv} (h : Sd s) : (nds s).Pairwise (fun a b => iln a b = true) := by
  rw [← h.ids]
  exact srt_sorted h.unl.iln h.unl.nodup
theorem leads_sub {s : List Rv} (h : (idsX s).Nodup) {f : Int} {l : List Nat} (hl : LeadsTo (edR (nds s)) s.length f l) : Sub (nds s) l := by
  refine ⟨fun x hx => by rw [nds_len]; exact ((hl.mem x).1 hx).1, hl.srt, fun u hu w hd => ?_⟩
  obtain ⟨h1, v, h2, h3, h4⟩ := (hl.mem u).1 hu
  have he := (edgeR (unl_nds.2 h)).2 hd
  rw [nds_len] at he
  exact (hl.mem w).2 ⟨he.2.1, v, h2, h3, h4.trans (.one he)⟩
/-- what one leads to, by itself -/
theorem cl_part {s : List Rv} (hs : Sd s) (hm : missB (nds s) = false) {i : Id} (hi : i ∈ idsX s) {inn : List Rv} {out : List Id} (h : ClO s i inn out) :
    ∃ l, LeadsTo (edR (nds s)) s.length ((idsX s).idxOf i : Nat) l ∧ inn = partR s l ∧ Sub (nds s) l ∧ nds inn = part (nds s) l ∧ out = [] ∧ Sd inn ∧ missB (nds inn) = false ∧ i ∈ idsX inn ∧ (∀ x ∈ inn, x ∈ s) ∧ inn.length ≤ s.length := by
  obtain ⟨l, h1, h2, h3⟩ := h.yes hi
  have hsub := leads_sub hs.nd h1
  have hn : nds inn = part (nds s) l := by rw [h2, partR_nd]
  have hU : Unl (nds inn) := by rw [hn]; exact part_unl hsub hs.unl
  have hmem : ∀ x ∈ inn, x ∈ s := fun x hx => by
    rw [h2] at hx
    obtain ⟨u, hu, rfl⟩ := List.mem_map.1 hx
    have := hsub.lt u hu
    rw [nds_len] at this
    rw [List.getD, List.getElem?_eq_getElem this]
    exact List.getElem_mem this
  have hlt : ∀ x ∈ l, x < s.length := fun x hx => by have := hsub.lt x hx; rwa [nds_len] at this
  refine ⟨l, h1, h2, hsub, hn, ?_, ⟨unl_nds.1 hU, ?_⟩, ?_, ?_, hmem, ?_⟩
  · rw [h3]
    have : missO s l = [] := by
      unfold missO
      rw [List.flatMap_eq_nil_iff]
      intro x hx
      rw [← h2] at hx
      refine List.filter_eq_nil_iff.2 fun d hd => ?_
      have := missB_no.1 hm x.nd (List.mem_map.2 ⟨x, hmem x hx, rfl⟩) d hd
      rw [nds_ids] at this
      simp [this]
    rw [this]
    rfl
  · have hp := part_sorted hsub hs.pw
    rw [← hn] at hp
    refine (srtR_one (unl_nds.1 hU) (List.Perm.refl _) ?_).symm
    unfold nds at hp
    rw [List.pairwise_map] at hp
    exact hp.imp fun h => ilt_asymm h
  · rw [hn]; exact part_closed hsub hm
  · obtain ⟨u, x, hu, hx, he⟩ := mem_ids_get hi
    have hul := (List.getElem?_eq_some_iff.1 hu).1
    have : u ∈ l := (h1.mem u).2 ⟨hul, u, by rw [he], hul, .refl _⟩
    refine List.mem_map.2 ⟨x, ?_, hx⟩
    rw [h2]
    exact List.mem_map.2 ⟨u, this, by rw [List.getD, hu]; rfl⟩
  · rw [h2, partR_len]
    exact nodup_le _ _ (sub_nodup hsub) hlt
theorem row_mem {s : List Rv} (hs : Sd s) {a : List Id} (h : Row (nds s) a) : a.Perm (idsX s) := by
  obtain ⟨L, q, h1, rfl⟩ := h.cmps
  rw [← nds_ids]
  exact rowI_perm h1 hs.unl
/-- the order among what one leads to is that of the whole -/
theorem parts_ok {s : List Rv} (hs : Sd s) (hm : missB (nds s) = false) {i : Id} (hi : i ∈ idsX s) {inn : List Rv} {out : List Id} (h : ClO s i inn out) {a b : List Id} (ha : Row (nds s) a) (hb : Row (nds inn) b)
    {x y : Nat} {bx b_y : Id} (hx : b[x]? = some bx) (hy : b[y]? = some b_y) {le : List Rv} {lo : List Id} (hle : ClO s bx le lo) (hin : b_y ∈ idsX le) : atI a bx < atI a b_y ↔ x < y := by
  obtain ⟨l, h1, h2, hsub, hn, _, hsi, hmi, hii, hmem, _⟩ := cl_part hs hm hi h
  have hpb := row_mem hsi hb
  have hnb : b.Nodup := hpb.nodup_iff.2 hsi.nd
  have e1 : atI b bx = (x : Int) := atI_some hnb hx
  have e2 : atI b b_y = (y : Int) := atI_some hnb hy
  have hfind : ∀ z ∈ b, ∃ u v, u ∈ l ∧ s[u]? = some v ∧ v.id = z := fun z hz => by
    have := hpb.mem_iff.1 hz
    obtain ⟨v, hv, rfl⟩ := List.mem_map.1 this
    rw [h2] at hv
    obtain ⟨u, hu, rfl⟩ := List.mem_map.1 hv
    have hl := hsub.lt u hu
    rw [nds_len] at hl
    exact ⟨u, s[u], hu, List.getElem?_eq_getElem hl, by rw [List.getD, List.getElem?_eq_getElem hl]; rfl⟩
  obtain ⟨u, vu, hul, hvu, hiu⟩ := hfind bx (List.mem_of_getElem? hx)
  obtain ⟨v, vv, hvl, hvv, hiv⟩ := hfind b_y (List.mem_of_getElem? hy)
  have hbs : bx ∈ idsX s := List.mem_map.2 ⟨vu, List.mem_of_getElem? hvu, hiu⟩
  have hfb : (idsX s).idxOf bx = u := by
    have h3 := ids_get hvu
    rw [hiu] at h3
    have h4 := at_idx hbs
    exact (List.getElem?_inj (List.getElem?_eq_some_iff.1 h4).1 hs.nd).1 (h4.trans h3.symm)
  obtain ⟨l2, g1, g2, _⟩ := hle.yes hbs
  rw [hfb] at g1
  have hvl2 : v ∈ l2 := by
    obtain ⟨z, hz, hz2⟩ := List.mem_map.1 hin
    rw [g2] at hz
    obtain ⟨k, hk, rfl⟩ := List.mem_map.1 hz
    have hks := ((g1.mem k).1 hk).1
    have hkg : s[k]? = some (s.getD k default) := by rw [List.getD, List.getElem?_eq_getElem hks]; rfl
    have h5 := ids_get hkg
    rw [hz2] at h5
    have h6 := ids_get hvv
    rw [hiv] at h6
    have : k = v := (List.getElem?_inj (List.getElem?_eq_some_iff.1 h5).1 hs.nd).1 (h5.trans h6.symm)
    rw [← this]; exact hk
  obtain ⟨_, u2, hu2, _, hpath⟩ := (g1.mem v).1 hvl2
  obtain rfl : u = u2 := by omega
  obtain ⟨L, q, c1, rfl⟩ := ha.cmps
  obtain ⟨L2, q2, c2, rfl⟩ := hb.cmps
  rw [hn] at c2 e1 e2
  rw [← nds_len] at hpath
  have := part_order hsub hs.unl c1 c2 (nds_get hvu) (nds_get hvv) hul hvl hpath
  rw [show vu.nd.id = bx from hiu, show vv.nd.id = b_y from hiv, e1, e2] at this
  rw [this]
  omega
/-- who hangs on another one that doesn't hang on it comes behind it -/
theorem one_ok {s : List Rv} (hs : Sd s) {a : List Id} (ha : Row (nds s) a) {x : Rv} (hx : x ∈ s) {d : Id} (hd : d ∈ x.deps) (hds : d ∈ idsX s) {le : List Rv} {lo : List Id} (hle : ClO s d le lo) (hno : x.id ∉ idsX le) : ¬ atI a x.id < atI a d := by
  intro hlt
  obtain ⟨u, hu⟩ := List.mem_iff_getElem?.1 hx
  obtain ⟨v, vv, hv, hvi, hvx⟩ := mem_ids_get hds
  obtain ⟨L, q, c1, rfl⟩ := ha.cmps
  have hp := one_dep c1 hs.unl (nds_get hu) (nds_get hv) (by show vv.id ∈ x.deps; rw [hvi]; exact hd) (by show atI _ x.id < atI _ vv.id; rw [hvi]; exact hlt)
  obtain ⟨l2, g1, g2, _⟩ := hle.yes hds
  rw [hvx] at g1
  rw [nds_len] at hp
  have hul := (List.getElem?_eq_some_iff.1 hu).1
  have : u ∈ l2 := (g1.mem u).2 ⟨hul, v, rfl, (List.getElem?_eq_some_iff.1 hv).1, hp⟩
  refine hno (List.mem_map.2 ⟨x, ?_, rfl⟩)
  rw [g2]
  exact List.mem_map.2 ⟨u, this, by rw [List.getD, hu]; rfl⟩
end Go.Proofs.YtndfhejfhfhbdaaGreatDoor.O

/- The contract of the reference's Comps. -/
namespace Go.Proofs.YtndfhejfhfhbdaaGreatDoor.K
open Go.RowKit M T
set_option linter.unusedVariables false
set_option linter.unusedSimpArgs false

/-- what the reference's Comps has in memory -/
structure RS (B : Nat) (W0 w : World) (n : Nat) (ao : Option Addr) (cap : Nat) (G : List Nat) (r : Nat → Nat → Bool) (gc : Nat) (q : Nat → Nat) (p : Nat) (oo : Option Addr) (oc : Nat) (R : List (Option Addr × Nat)) (L : List (List Nat)) : Prop where
  rm : RM B W0 w n ao cap G r
  gcB : B ≤ gc
  come : w.heap[gc]? = some (.cells (tabB n (comeP q p)) 4 (0, 0))
  gcG : gc ∉ G
  out : OutAt B w oo oc R L
section
variable {B n cap gc p oc : Nat} {W0 w w4 w7 : World} {ao oo : Option Addr} {G : List Nat} {r : Nat → Nat → Bool} {q : Nat → Nat} {R : List (Option Addr × Nat)} {L : List (List Nat)}
theorem RS.next (h : RS B W0 w n ao cap G r gc q p oo oc R L) (hm : Mods (fun k => k = gc) w w4) (hc4 : w4.heap[gc]? = some (.cells (tabB n (comeP q (p + 1))) 4 (0, 0))) {gcc cc gg cg : Nat} {c : List Nat} {bx : Obj}
    (hrow : w4.ownsRow w.heap.size 3 1 (.slice (some ⟨gcc, 0, none⟩) c.length cc) c.length (iv c))
    (ho : w7.ownsRow B 79 1 (.slice (some ⟨gg, 0, none⟩) (L.length + 1) cg) (L.length + 1) (hdrs R L ++ [.slice (some ⟨gcc, 0, none⟩) c.length cc]))
    (hg : (w4.alloc bx).grownBy w7 (Value.slice oo L.length oc).ownBlock) :
    RS B W0 w7 n ao cap G r gc q (p + 1) (some ⟨gg, 0, none⟩) cg (R ++ [(some ⟨gcc, 0, none⟩, cc)]) (L ++ [c]) := by
  have hB := h.rm.hB
  have hgc : ∀ a, oo = some a → a.block ≠ gc := fun a ha e => by
    obtain ⟨cur, hh, _⟩ := h.out.lt.1 a ha
    rw [e, h.come] at hh
    simp at hh
  have hrc : ∀ x ∈ R, ∀ a, x.1 = some a → a.block ≠ gc := fun x hx a ha e => by
    obtain ⟨cur, hh, _⟩ := h.out.lt.2 x hx a ha
    rw [e, h.come] at hh
    simp at hh
  have hao : ∀ a, ao = some a → a.block ≠ gc := fun a ha e => by
    obtain ⟨⟨cur, hh, _⟩, _⟩ := h.rm.topne a ha
    rw [e, h.come] at hh
    simp at hh
  have ho4 := h.out.keep hm hgc hrc
  have hrow' : w4.ownsRow B 3 1 (.slice (some ⟨gcc, 0, none⟩) c.length cc) c.length (iv c) := own_base hrow (fun k hk => by
    obtain ⟨_, _, hb⟩ := own_heap hrow _ rfl
    obtain rfl := Option.some.inj hk
    exact Nat.le_trans hB hb)
  obtain ⟨h7, hm7⟩ := ho4.more hrow' ho hg
  have hrm4 := h.rm.keep hm (fun k hk => by rw [show k = gc from hk]; exact h.gcB) hao (fun g hg e => h.gcG (by rw [← show g = gc from e]; exact hg))
  refine ⟨hrm4.keep hm7 (fun k ⟨a, ha, e⟩ => ?_) (fun a ha ⟨b, hb, e⟩ => ?_) (fun g hg ⟨b, hb, e⟩ => ?_), h.gcB, hm7.heap hc4 (fun ⟨b, hb, e⟩ => hgc b hb e.symm), h.gcG, h7⟩
  · obtain ⟨_, _, hb⟩ := ho4.lt.1 a ha
    omega
  · obtain ⟨⟨cur, hh, _⟩, _⟩ := hrm4.topne a ha
    obtain ⟨cur2, hh2, _⟩ := ho4.lt.1 b hb
    rw [e, hh2] at hh
    simp at hh
  · obtain ⟨i, hi⟩ := List.mem_iff_getElem?.1 hg
    have hh := (hrm4.row i g hi).2
    obtain ⟨cur2, hh2, _⟩ := ho4.lt.1 b hb
    rw [e, hh2] at hh
    simp at hh
end
theorem RS.at4 {B n cap gc p oc : Nat} {W0 w w4 : World} {ao oo : Option Addr} {G : List Nat} {r : Nat → Nat → Bool} {q : Nat → Nat} {R : List (Option Addr × Nat)} {L : List (List Nat)} (h : RS B W0 w n ao cap G r gc q p oo oc R L) (hm : Mods (fun k => k = gc) w w4) : RM B W0 w4 n ao cap G r ∧ OutAt B w4 oo oc R L := by
  refine ⟨h.rm.keep hm (fun k hk => by rw [show k = gc from hk]; exact h.gcB) (fun a ha e => ?_) (fun g hg e => h.gcG (by rw [← show g = gc from e]; exact hg)), h.out.keep hm (fun a ha e => ?_) (fun x hx a ha e => ?_)⟩
  · have e : a.block = gc := e
    obtain ⟨⟨cur, hh, _⟩, _⟩ := h.rm.topne a ha
    rw [e, h.come] at hh
    simp at hh
  · have e : a.block = gc := e
    obtain ⟨cur, hh, _⟩ := h.out.lt.1 a ha
    rw [e, h.come] at hh
    simp at hh
  · have e : a.block = gc := e
    obtain ⟨cur, hh, _⟩ := h.out.lt.2 x hx a ha
    rw [e, h.come] at hh
    simp at hh
theorem drop_sum_le (L : List (List Nat)) (p : Nat) : (L.drop p).flatten.length ≤ L.flatten.length := by
  have e : L.flatten = (L.take p).flatten ++ (L.drop p).flatten := by rw [← List.flatten_append, List.take_append_drop]
  rw [e, List.length_append]
  omega
theorem okV_of {E : Nat → List Int} {n : Nat} {r : Nat → Nat → Bool} {come : Nat → Bool} {v : Nat} (hr : ∀ a b, a < n → b < n → (r a b = true ↔ Path E n a b)) (hv : v < n) (hc : come v = false) (h : ∀ w, w < n → (!r v w || come w || r w v) = true) : okV E n come v :=
  ⟨hc, fun w hw hp => by
    have h1 := h w hw
    rw [(hr v w hv hw).2 hp] at h1
    rw [Bool.not_true, Bool.false_or, Bool.or_eq_true] at h1
    exact h1.imp id (fun h2 => (hr w v hw hv).1 h2)⟩
theorem okV_no {E : Nat → List Int} {n : Nat} {r : Nat → Nat → Bool} {come : Nat → Bool} {v w : Nat} (hr : ∀ a b, a < n → b < n → (r a b = true ↔ Path E n a b)) (hv : v < n) (hw : w < n) (h : (!r v w || come w || r w v) = false) : ¬ okV E n come v := by
  rintro ⟨_, h2⟩
  simp only [Bool.or_eq_false_iff, Bool.not_eq_false'] at h
  rcases h2 w hw ((hr v w hv hw).1 h.1.1) with h3 | h3
  · rw [h.1.2] at h3; cases h3
  · have := (hr w v hw hv).2 h3
    rw [h.2] at this; cases this
theorem flat_count : ∀ (L : List (List Nat)), (∀ c ∈ L, c ≠ []) → L.length ≤ L.flatten.length
  | [], _ => Nat.le_refl _
  | c :: L, h => by
    have h1 := flat_count L fun d hd => h d (List.mem_cons_of_mem _ hd)
    have h2 := List.length_pos_iff.2 (h c List.mem_cons_self)
    rw [List.flatten_cons, List.length_append, List.length_cons]
    omega
theorem Comp.count {E : Nat → List Int} {n : Nat} {L : List (List Nat)} {q : Nat → Nat} (h : Comp E n L q) : L.length ≤ n := by
  have := flat_count L (fun c hc => (h.d3 c hc).2)
  rw [h.sum] at this
  exact this
def gdB (r : Nat → Nat → Bool) (come : Nat → Bool) (v k : Nat) : Bool := !r v k || come k || r k v
structure GD (E : Nat → List Int) (n : Nat) (r : Nat → Nat → Bool) (come : Nat → Bool) (v : Nat) (b : Bool) (k : Nat) : Prop where
  yes : b = true → come v = false ∧ ∀ w, w < k → gdB r come v w = true
  no : b = false → ¬ okV E n come v
theorem GD.start {E : Nat → List Int} {n : Nat} {r : Nat → Nat → Bool} {come : Nat → Bool} {v : Nat} : GD E n r come v (!come v) 0 :=
  ⟨fun h => ⟨by simpa using h, fun w hw => by omega⟩, fun h hok => by rw [hok.1] at h; cases h⟩
theorem GD.next {E : Nat → List Int} {n : Nat} {r : Nat → Nat → Bool} {come : Nat → Bool} {v k : Nat} (h : GD E n r come v true k) (hr : ∀ a b, a < n → b < n → (r a b = true ↔ Path E n a b)) (hv : v < n) (hk : k < n) : GD E n r come v (gdB r come v k) (k + 1) :=
  ⟨fun hb => ⟨(h.yes rfl).1, fun w hw => by
    by_cases e : w = k
    · subst e; exact hb
    · exact (h.yes rfl).2 w (by omega)⟩, fun hb => okV_no hr hv hk hb⟩
theorem GD.done {E : Nat → List Int} {n : Nat} {r : Nat → Nat → Bool} {come : Nat → Bool} {v : Nat} (h : GD E n r come v true n) (hr : ∀ a b, a < n → b < n → (r a b = true ↔ Path E n a b)) (hv : v < n) : okV E n come v :=
  okV_of hr hv (h.yes rfl).1 (h.yes rfl).2
/-- one component, as it is collected -/
structure CL (n gc : Nat) (wa w : World) (q : Nat → Nat) (p : Nat) (co : Option Addr) (cc : Nat) (l : List Nat) : Prop where
  mo : Mods (fun k => k = gc) wa w
  come : w.heap[gc]? = some (.cells (tabB n fun v => comeP q p v || decide (v ∈ l)) 4 (0, 0))
  row : w.ownsRow wa.heap.size 3 1 (.slice co l.length cc) l.length (iv l)
theorem CL.step {n gc p cc gg cg x : Nat} {wa w w7 : World} {q : Nat → Nat} {co : Option Addr} {l : List Nat} {bx : Obj} (h : CL n gc wa w q p co cc l) (hgc : gc < wa.heap.size)
    (ho : w7.ownsRow wa.heap.size 3 1 (.slice (some ⟨gg, 0, none⟩) (l.length + 1) cg) (l.length + 1) (iv l ++ [.int .i64 x]))
    (hg : (w.alloc bx).grownBy w7 (Value.slice co l.length cc).ownBlock) : CL n gc wa (w7.setCell ⟨gc, x, none⟩ (.bool true)) q p (some ⟨gg, 0, none⟩) cg (l ++ [x]) ∧ w7.heap[gc]? = some (.cells (tabB n fun v => comeP q p v || decide (v ∈ l)) 4 (0, 0)) := by
  have hs := h.mo.size
  obtain ⟨⟨ho7, _⟩, hM⟩ := own_more h.row hs ho hg
  have hc7 := hM.heap h.come (fun ⟨a, ha, e⟩ => by
    obtain ⟨_, _, hb⟩ := own_heap h.row a ha
    omega)
  have hgg : wa.heap.size ≤ gg := by obtain ⟨_, _, hb⟩ := own_heap ho7 _ rfl; exact hb
  have hset : Mods (fun k => k = gc) w7 (w7.setCell ⟨gc, x, none⟩ (.bool true)) := (Mods.refl (fun k => k = gc) w7).setCell (p := ⟨gc, x, none⟩) (fun _ => rfl) _
  refine ⟨⟨(h.mo.then hM (fun k hk ⟨a, ha, e⟩ => ?_)).then hset (fun k hk e => e), ?_, own_kept ho7 hset (fun k hk e => ?_)⟩, hc7⟩
  · obtain ⟨_, _, hb⟩ := own_heap h.row a ha
    omega
  · have := heap_set w7 gc x (.bool true) gc _ _ _ hc7
    rw [if_pos rfl, tabB_set] at this
    rw [this]
    congr 2
    refine tabB_congr n _ _ fun v hv => ?_
    unfold upd
    by_cases e : v = x <;> simp [e]
  · have := Option.some.inj hk
    have e : k = gc := e
    simp only at this
    omega
/-- the class of a component's head, read off the table -/
theorem cls_row {E : Nat → List Int} {n p : Nat} {q : Nat → Nat} {L : List (List Nat)} {c : List Nat} {r : Nat → Nat → Bool} (h : InOrder E n L q) (hc : L[p]? = some c) (hr : ∀ a b, a < n → b < n → (r a b = true ↔ Path E n a b)) : upTo (fun w => r (c.headD 0) w && r w (c.headD 0)) n = c := by
  have hh := comp_head h.co hc
  refine sorted_ext (upTo_srt _ _) (h.co.d3 c (List.mem_of_getElem? hc)).1 fun v => ?_
  rw [upTo_mem, h.cls hc, Bool.and_eq_true]
  constructor
  · rintro ⟨a, b, d⟩; exact ⟨a, (hr _ _ hh.1 a).1 b, (hr _ _ a hh.1).1 d⟩
  · rintro ⟨a, b, d⟩; exact ⟨a, (hr _ _ hh.1 a).2 b, (hr _ _ a hh.1).2 d⟩
end Go.Proofs.YtndfhejfhfhbdaaGreatDoor.K
