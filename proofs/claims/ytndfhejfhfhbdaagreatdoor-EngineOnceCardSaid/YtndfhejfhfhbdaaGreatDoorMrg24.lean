/- Several texts in one. -/
import Derived.Test.YtndfhejfhfhbdaaGreatDoorOrdAD

/- Plain law: what OrderParts and OrderOne ask of Order and Closed. -/
namespace Go.Proofs.YtndfhejfhfhbdaaGreatDoor.O
open Go.RowKit Go.Proofs.YtndfhejfhfhbdaaGreatDoor.M Go.BigFrame Go.Proofs.YtndfhejfhfhbdaaGreatDoor.K Go.Proofs.YtndfhejfhfhbdaaGreatDoor.T
set_option linter.unusedVariables false
set_option linter.unusedSimpArgs false

theorem nds_get {s : List Rv} {u : Nat} {x : Rv} (h : s[u]? = some x) : (nds s)[u]? = some x.nd := by unfold nds; rw [List.getElem?_map, h]; rfl
theorem ids_get {s : List Rv} {u : Nat} {x : Rv} (h : s[u]? = some x) : (idsX s)[u]? = some x.id := by rw [List.getElem?_map, h]; rfl
theorem nds_len (s : List Rv) : (nds s).length = s.length := List.length_map _
theorem unl_nds {s : List Rv} : Unl (nds s) ↔ (idsX s).Nodup := by unfold Unl; rw [nds_ids]
theorem mem_ids_get {s : List Rv} {i : Id} (h : i ∈ idsX s) : ∃ u x, s[u]? = some x ∧ x.id = i ∧ (idsX s).idxOf i = u := by
  have h1 := at_idx h
  have hl := List.idxOf_lt_length_iff.2 h
  rw [List.length_map] at hl
  exact ⟨_, s[(idsX s).idxOf i], List.getElem?_eq_getElem hl, by rw [List.getElem?_map, List.getElem?_eq_getElem hl] at h1; simpa using h1, rfl⟩
/-- sorted records whose ids differ -/
structure Sd (s : List Rv) : Prop where
  nd : (idsX s).Nodup
  st : srtR s = s
theorem Sd.of {X : List Rv} (h : (idsX X).Nodup) : Sd (srtR X) := ⟨srtR_ids h, srtR_same h (srtR_perm X)⟩
theorem Sd.ids {s : List Rv} (h : Sd s) : byIds (nds s) = nds s := by rw [← srtR_nd, h.st]
theorem Sd.unl {s : List Rv} (h : Sd s) : Unl (nds s) := unl_nds.2 h.nd
theorem Sd.pw {s : List Rv} (h : Sd s) : (nds s).Pairwise (fun a b => iln a b = true) := by
  rw [← h.ids]
  exact srt_sorted h.unl.iln h.unl.nodup
theorem leads_sub {s : List Rv} (h : (idsX s).Nodup) {f : Int} {l : List Nat} (hl : LeadsTo (edR (nds s)) s.length f l) : Sub (nds s) l := by
  refine ⟨fun x hx => by rw [nds_len]; exact ((hl.mem x).1 hx).1, hl.srt, fun u hu w hd => ?_⟩
  obtain ⟨h1, v, h2, h3, h4⟩ := (hl.mem u).1 hu
  have he := (edgeR (unl_nds.2 h)).2 hd
  rw [nds_len] at he
  exact (hl.mem w).2 ⟨he.2.1, v, h2, h3, h4.trans (.one he)⟩
/-- what one leads to, by itself -/
theorem cl_part {s : List Rv} (hs : Sd s) (hm : missB (nds s) = false) {i : Id} (hi : i ∈ idsX s) {inn : List Rv} {out : List Id} (h : ClO s i inn out) :
    ∃ l, LeadsTo (edR (nds s)) s.length ((idsX s).idxOf i : Nat) l ∧ inn = partR s l ∧ Sub (nds s) l ∧ nds inn = part (nds s) l ∧ out = [] ∧ Sd inn ∧ missB (nds inn) = false ∧ i ∈ idsX inn ∧ (∀ x ∈ inn, x ∈ s) ∧ inn.length ≤ s.length := by
  obtain ⟨l, h1, h2, h3⟩ := h.yes hi
  have hsub := leads_sub hs.nd h1
  have hn : nds inn = part (nds s) l := by rw [h2, partR_nd]
  have hU : Unl (nds inn) := by rw [hn]; exact part_unl hsub hs.unl
  have hmem : ∀ x ∈ inn, x ∈ s := fun x hx => by
    rw [h2] at hx
    obtain ⟨u, hu, rfl⟩ := List.mem_map.1 hx
    have := hsub.lt u hu
    rw [nds_len] at this
    rw [List.getD, List.getElem?_eq_getElem this]
    exact List.getElem_mem this
  have hlt : ∀ x ∈ l, x < s.length := fun x hx => by have := hsub.lt x hx; rwa [nds_len] at this
  refine ⟨l, h1, h2, hsub, hn, ?_, ⟨unl_nds.1 hU, ?_⟩, ?_, ?_, hmem, ?_⟩
  · rw [h3]
    have : missO s l = [] := by
      unfold missO
      rw [List.flatMap_eq_nil_iff]
      intro x hx
      rw [← h2] at hx
      refine List.filter_eq_nil_iff.2 fun d hd => ?_
      have := missB_no.1 hm x.nd (List.mem_map.2 ⟨x, hmem x hx, rfl⟩) d hd
      rw [nds_ids] at this
      simp [this]
    rw [this]
    rfl
  · have hp := part_sorted hsub hs.pw
    rw [← hn] at hp
    refine (srtR_one (unl_nds.1 hU) (List.Perm.refl _) ?_).symm
    unfold nds at hp
    rw [List.pairwise_map] at hp
    exact hp.imp fun h => ilt_asymm h
  · rw [hn]; exact part_closed hsub hm
  · obtain ⟨u, x, hu, hx, he⟩ := mem_ids_get hi
    have hul := (List.getElem?_eq_some_iff.1 hu).1
    have : u ∈ l := (h1.mem u).2 ⟨hul, u, by rw [he], hul, .refl _⟩
    refine List.mem_map.2 ⟨x, ?_, hx⟩
    rw [h2]
    exact List.mem_map.2 ⟨u, this, by rw [List.getD, hu]; rfl⟩
  · rw [h2, partR_len]
    exact nodup_le _ _ (sub_nodup hsub) hlt
theorem row_mem {s : List Rv} (hs : Sd s) {a : List Id} (h : Row (nds s) a) : a.Perm (idsX s) := by
  obtain ⟨L, q, h1, rfl⟩ := h.cmps
  rw [← nds_ids]
  exact rowI_perm h1 hs.unl
/-- the order among what one leads to is that of the whole -/
theorem parts_ok {s : List Rv} (hs : Sd s) (hm : missB (nds s) = false) {i : Id} (hi : i ∈ idsX s) {inn : List Rv} {out : List Id} (h : ClO s i inn out) {a b : List Id} (ha : Row (nds s) a) (hb : Row (nds inn) b)
    {x y : Nat} {bx b_y : Id} (hx : b[x]? = some bx) (hy : b[y]? = some b_y) {le : List Rv} {lo : List Id} (hle : ClO s bx le lo) (hin : b_y ∈ idsX le) : atI a bx < atI a b_y ↔ x < y := by
  obtain ⟨l, h1, h2, hsub, hn, _, hsi, hmi, hii, hmem, _⟩ := cl_part hs hm hi h
  have hpb := row_mem hsi hb
  have hnb : b.Nodup := hpb.nodup_iff.2 hsi.nd
  have e1 : atI b bx = (x : Int) := atI_some hnb hx
  have e2 : atI b b_y = (y : Int) := atI_some hnb hy
  have hfind : ∀ z ∈ b, ∃ u v, u ∈ l ∧ s[u]? = some v ∧ v.id = z := fun z hz => by
    have := hpb.mem_iff.1 hz
    obtain ⟨v, hv, rfl⟩ := List.mem_map.1 this
    rw [h2] at hv
    obtain ⟨u, hu, rfl⟩ := List.mem_map.1 hv
    have hl := hsub.lt u hu
    rw [nds_len] at hl
    exact ⟨u, s[u], hu, List.getElem?_eq_getElem hl, by rw [List.getD, List.getElem?_eq_getElem hl]; rfl⟩
  obtain ⟨u, vu, hul, hvu, hiu⟩ := hfind bx (List.mem_of_getElem? hx)
  obtain ⟨v, vv, hvl, hvv, hiv⟩ := hfind b_y (List.mem_of_getElem? hy)
  have hbs : bx ∈ idsX s := List.mem_map.2 ⟨vu, List.mem_of_getElem? hvu, hiu⟩
  have hfb : (idsX s).idxOf bx = u := by
    have h3 := ids_get hvu
    rw [hiu] at h3
    have h4 := at_idx hbs
    exact (List.getElem?_inj (List.getElem?_eq_some_iff.1 h4).1 hs.nd).1 (h4.trans h3.symm)
  obtain ⟨l2, g1, g2, _⟩ := hle.yes hbs
  rw [hfb] at g1
  have hvl2 : v ∈ l2 := by
    obtain ⟨z, hz, hz2⟩ := List.mem_map.1 hin
    rw [g2] at hz
    obtain ⟨k, hk, rfl⟩ := List.mem_map.1 hz
    have hks := ((g1.mem k).1 hk).1
    have hkg : s[k]? = some (s.getD k default) := by rw [List.getD, List.getElem?_eq_getElem hks]; rfl
    have h5 := ids_get hkg
    rw [hz2] at h5
    have h6 := ids_get hvv
    rw [hiv] at h6
    have : k = v := (List.getElem?_inj (List.getElem?_eq_some_iff.1 h5).1 hs.nd).1 (h5.trans h6.symm)
    rw [← this]; exact hk
  obtain ⟨_, u2, hu2, _, hpath⟩ := (g1.mem v).1 hvl2
  obtain rfl : u = u2 := by omega
  obtain ⟨L, q, c1, rfl⟩ := ha.cmps
  obtain ⟨L2, q2, c2, rfl⟩ := hb.cmps
  rw [hn] at c2 e1 e2
  rw [← nds_len] at hpath
  have := part_order hsub hs.unl c1 c2 (nds_get hvu) (nds_get hvv) hul hvl hpath
  rw [show vu.nd.id = bx from hiu, show vv.nd.id = b_y from hiv, e1, e2] at this
  rw [this]
  omega
/-- who hangs on another one that doesn't hang on it comes behind it -/
theorem one_ok {s : List Rv} (hs : Sd s) {a : List Id} (ha : Row (nds s) a) {x : Rv} (hx : x ∈ s) {d : Id} (hd : d ∈ x.deps) (hds : d ∈ idsX s) {le : List Rv} {lo : List Id} (hle : ClO s d le lo) (hno : x.id ∉ idsX le) : ¬ atI a x.id < atI a d := by
  intro hlt
  obtain ⟨u, hu⟩ := List.mem_iff_getElem?.1 hx
  obtain ⟨v, vv, hv, hvi, hvx⟩ := mem_ids_get hds
  obtain ⟨L, q, c1, rfl⟩ := ha.cmps
  have hp := one_dep c1 hs.unl (nds_get hu) (nds_get hv) (by show vv.id ∈ x.deps; rw [hvi]; exact hd) (by show atI _ x.id < atI _ vv.id; rw [hvi]; exact hlt)
  obtain ⟨l2, g1, g2, _⟩ := hle.yes hds
  rw [hvx] at g1
  rw [nds_len] at hp
  have hul := (List.getElem?_eq_some_iff.1 hu).1
  have : u ∈ l2 := (g1.mem u).2 ⟨hul, v, rfl, (List.getElem?_eq_some_iff.1 hv).1, hp⟩
  refine hno (List.mem_map.2 ⟨x, ?_, rfl⟩)
  rw [g2]
  exact List.mem_map.2 ⟨u, this, by rw [List.getD, hu]; rfl⟩
end Go.Proofs.YtndfhejfhfhbdaaGreatDoor.O

/- Plain law of the engine: what is stuck, what is ready, what runs. -/
namespace Go.Proofs.YtndfhejfhfhbdaaGreatDoor.O
open Go.RowKit Go.Proofs.YtndfhejfhfhbdaaGreatDoor.M Go.BigFrame Go.Proofs.YtndfhejfhfhbdaaGreatDoor.K Go.Proofs.YtndfhejfhfhbdaaGreatDoor.T
set_option linter.unusedVariables false
set_option linter.unusedSimpArgs false

/-- is an id there? -/
def thereB (W : List Rv) (D : List Id) (d : Id) : Bool := decide (d ∈ idsX W) || decide (d ∈ D)
theorem thereB_iff {W : List Rv} {D : List Id} {d : Id} : thereB W D d = true ↔ d ∈ idsX W ∨ d ∈ D := by unfold thereB; simp
/-- is an id not there, or known to be stuck? -/
def lostB (W : List Rv) (D O : List Id) (d : Id) : Bool := !thereB W D d || decide (d ∈ O)
theorem lostB_iff {W : List Rv} {D O : List Id} {d : Id} : lostB W D O d = true ↔ (¬ (d ∈ idsX W ∨ d ∈ D)) ∨ d ∈ O := by
  unfold lostB
  rw [Bool.or_eq_true, Bool.not_eq_true', ← Bool.not_eq_true, thereB_iff, decide_eq_true_eq]
/-- records that lead to something that isn't there -/
inductive Stuck (W : List Rv) (D : List Id) : Id → Prop
  | miss {x : Rv} {d : Id} : x ∈ W → d ∈ x.deps → ¬ (d ∈ idsX W ∨ d ∈ D) → Stuck W D x.id
  | step {x : Rv} {d : Id} : x ∈ W → d ∈ x.deps → Stuck W D d → Stuck W D x.id
theorem Stuck.mem {W : List Rv} {D : List Id} {i : Id} (h : Stuck W D i) : i ∈ idsX W := by
  cases h with
  | miss hx _ _ => exact List.mem_map.2 ⟨_, hx, rfl⟩
  | step hx _ _ => exact List.mem_map.2 ⟨_, hx, rfl⟩
/-- what a pass over the records makes of the stuck ones: sound so far -/
def Sound (W : List Rv) (D O : List Id) : Prop := ∀ i ∈ O, Stuck W D i
theorem Sound.add {W : List Rv} {D O : List Id} (h : Sound W D O) {x : Rv} (hx : x ∈ W) (hl : x.deps.any (lostB W D O) = true) : Sound W D (O ++ [x.id]) := fun i hi => by
  rcases List.mem_append.1 hi with hi | hi
  · exact h i hi
  · rw [List.mem_singleton.1 hi]
    obtain ⟨d, hd, hl⟩ := List.any_eq_true.1 hl
    rcases lostB_iff.1 hl with h1 | h1
    · exact .miss hx hd h1
    · exact .step hx hd (h d h1)
/-- nothing more is found -/
def Shut (W : List Rv) (D O : List Id) : Prop := ∀ x ∈ W, x.id ∉ O → x.deps.any (lostB W D O) = false
theorem stuck_iff {W : List Rv} {D O : List Id} (hn : (idsX W).Nodup) (h : Sound W D O) (hs : Shut W D O) (i : Id) : i ∈ O ↔ Stuck W D i := by
  refine ⟨h i, fun hi => ?_⟩
  have key : ∀ {x : Rv} {d : Id}, x ∈ W → d ∈ x.deps → lostB W D O d = true → x.id ∈ O := fun {x d} hx hd hl => by
    by_cases ho : x.id ∈ O
    · exact ho
    · have := List.any_eq_false.1 (hs x hx ho) d hd
      exact absurd hl this
  induction hi with
  | miss hx hd hm => exact key hx hd (lostB_iff.2 (.inl hm))
  | step hx hd _ ih => exact key hx hd (lostB_iff.2 (.inr ih))
/-- a record, on what isn't done alone, wherever what it hangs on lies -/
def core (x : Rv) : Rv := { x with ao := none, cap := 0 }
def rest (D : List Id) (x : Rv) : Rv := { x with deps := x.deps.filter fun d => !decide (d ∈ D), ao := none, cap := 0 }
/-- those that may be executed -/
def readyL (W : List Rv) (D O : List Id) : List Rv := (W.filter fun x => !decide (x.id ∈ O)).map (rest D)
def stayL (W : List Rv) (O : List Id) : List Rv := W.filter fun x => decide (x.id ∈ O)
theorem core_nd (x : Rv) : (core x).nd = x.nd := rfl
theorem core_id (x : Rv) : (core x).id = x.id := rfl
theorem core_good (x : Rv) : goodR (core x) = goodR x := rfl
theorem nds_core (X : List Rv) : nds (X.map core) = nds X := by unfold nds; rw [List.map_map]; rfl
theorem ids_core (X : List Rv) : idsX (X.map core) = idsX X := by unfold idsX; rw [List.map_map]; rfl
theorem okR_core (X : List Rv) : okR (X.map core) = okR X := by unfold okR; rw [List.all_map]; rfl
theorem ready_ids (W : List Rv) (D O : List Id) : idsX (readyL W D O) = idsX (W.filter fun x => !decide (x.id ∈ O)) := by unfold readyL idsX; rw [List.map_map]; rfl
theorem stepB_pair {l : List Id} (h : ∀ k, k < l.length → stepB l k = true) : l.Pairwise (fun a b => ilt a b = true) ∧ ∀ x ∈ l, idOk x = true := by
  have h1 : ∀ k (hk : k + 1 < l.length), idOk l[k + 1] = true ∧ ilt l[k] l[k + 1] = true := fun k hk => by
    have := h (k + 1) hk
    rw [stepB_succ (List.getElem?_eq_getElem hk) (List.getElem?_eq_getElem (by omega)), Bool.and_eq_true] at this
    exact this
  constructor
  · rw [List.pairwise_iff_getElem]
    intro i j hi hj hij
    induction j with
    | zero => omega
    | succ j ih =>
      rcases Nat.lt_or_ge i j with h2 | h2
      · exact ilt_trans (ih (by omega) h2) (h1 j hj).2
      · obtain rfl : i = j := by omega
        exact (h1 i hj).2
  · intro x hx
    obtain ⟨k, hk, rfl⟩ := List.mem_iff_getElem.1 hx
    cases k with
    | zero =>
      have := h 0 hk
      rw [stepB_zero (List.getElem?_eq_getElem hk)] at this
      exact this
    | succ k => exact (h1 k hk).1
theorem setOk_iff {l : List Id} : setOk l = true ↔ l.Pairwise (fun a b => ilt a b = true) ∧ (∀ x ∈ l, idOk x = true) ∧ l.length ≤ 4096 := by
  unfold setOk
  rw [Bool.and_eq_true, List.all_eq_true, decide_eq_true_eq]
  constructor
  · rintro ⟨h1, h2⟩
    obtain ⟨h3, h4⟩ := stepB_pair (fun k hk => h1 k (List.mem_range.2 hk))
    exact ⟨h3, h4, h2⟩
  · rintro ⟨h1, h2, h3⟩
    refine ⟨fun k hk => ?_, h3⟩
    have hk := List.mem_range.1 hk
    cases k with
    | zero => rw [stepB_zero (List.getElem?_eq_getElem hk)]; exact h2 _ (List.getElem_mem hk)
    | succ k =>
      rw [stepB_succ (List.getElem?_eq_getElem hk) (List.getElem?_eq_getElem (by omega)), Bool.and_eq_true]
      exact ⟨h2 _ (List.getElem_mem hk), List.pairwise_iff_getElem.1 h1 k (k + 1) (by omega) hk (by omega)⟩
theorem setOk_sub {l : List Id} (p : Id → Bool) (h : setOk l = true) : setOk (l.filter p) = true := by
  rw [setOk_iff] at *
  exact ⟨h.1.sublist List.filter_sublist, fun x hx => h.2.1 x (List.mem_filter.1 hx).1, Nat.le_trans (List.length_filter_le _ _) h.2.2⟩
theorem good_rest {D : List Id} {x : Rv} (h : goodR x = true) : goodR (rest D x) = true := by
  unfold goodR recOk restOk at *
  simp only [Bool.and_eq_true, decide_eq_true_eq] at h
  obtain ⟨⟨h1, h2, h3⟩, h4⟩ := h
  have h5 : ¬ x.st = 0 := by omega
  rw [if_neg h5] at h3
  simp only [Bool.and_eq_true, beq_iff_eq, Bool.not_eq_true', decide_eq_false_iff_not] at h3
  have h6 := setOk_sub (fun d => !decide (d ∈ D)) (attrChk_ok h3.2.1)
  have h7 : attrChk (rest D x).deps x.seq x.tag = 0 := by
    have h8 := h3.2.1
    unfold attrChk at h8 ⊢
    rw [attrChk_ok h3.2.1] at h8
    rw [show setOk (rest D x).deps = true from h6]
    exact h8
  have h9 : x.id ∉ (rest D x).deps := fun h => h3.2.2 (List.mem_filter.1 h).1
  have e1 : headBad (rest D x) = headBad x := rfl
  have e2 : balBad (rest D x) = balBad x := rfl
  have e3 : (rest D x).st = x.st := rfl
  have e4 : (rest D x).cmd = x.cmd := rfl
  have e5 : (rest D x).seq = x.seq := rfl
  have e6 : (rest D x).tag = x.tag := rfl
  have e7 : (rest D x).id = x.id := rfl
  rw [e1, e2, e3, e4, e5, e6, e7, if_neg h5]
  simp [h1, h2, h3.1, h7, h9, h4]
section
variable {W : List Rv} {D O : List Id}
/-- what is ready is right, and closed -/
theorem ready_err (hn : (idsX W).Nodup) (hg : ∀ x ∈ W, goodR x = true) (hs : Shut W D O) {R : List Rv} (hp : (R.map core).Perm (readyL W D O)) : errO (okR R) (nds R) = 0 := by
  have hids : (idsX R).Perm (idsX (W.filter fun x => !decide (x.id ∈ O))) := by
    rw [← ids_core, ← ready_ids (D := D)]
    exact hp.map _
  refine errO_ok.2 ⟨?_, ?_, ?_⟩
  · rw [← okR_core, okR_perm hp]
    refine List.all_eq_true.2 fun x hx => ?_
    unfold readyL at hx
    obtain ⟨y, hy, rfl⟩ := List.mem_map.1 hx
    exact good_rest (hg y (List.mem_filter.1 hy).1)
  · rw [unl_nds]
    exact hids.nodup_iff.2 (hn.sublist (List.filter_sublist.map _))
  · have : missB (nds R) = missB (nds (readyL W D O)) := by rw [← nds_core R]; exact missB_perm (hp.map _)
    rw [this, missB_no]
    intro a ha d hd
    obtain ⟨x, hx, rfl⟩ := List.mem_map.1 ha
    unfold readyL at hx
    obtain ⟨y, hy, rfl⟩ := List.mem_map.1 hx
    obtain ⟨hyW, hyO⟩ := List.mem_filter.1 hy
    obtain ⟨hd1, hd2⟩ := List.mem_filter.1 (show d ∈ y.deps.filter _ from hd)
    have hyO' : y.id ∉ O := by simpa using hyO
    have hdD : d ∉ D := by simpa using hd2
    have := List.any_eq_false.1 (hs y hyW hyO') d hd1
    rw [lostB_iff] at this
    have h1 : d ∈ idsX W := Classical.byContradiction fun h => this (.inl fun h2 => h2.elim h hdD)
    have h2 : d ∉ O := fun h => this (.inr h)
    obtain ⟨z, hz, rfl⟩ := List.mem_map.1 h1
    rw [nds_ids, ready_ids]
    exact List.mem_map.2 ⟨z, List.mem_filter.2 ⟨hz, by simpa using h2⟩, rfl⟩
/-- what runs -/
theorem run_mem (hn : (idsX W).Nodup) {R : List Rv} (hp : (R.map core).Perm (readyL W D O)) {out : List Id} (hr : Row (byIds (nds R)) out) : out.Perm (idsX (W.filter fun x => !decide (x.id ∈ O))) := by
  have hids : (idsX R).Perm (idsX (W.filter fun x => !decide (x.id ∈ O))) := by
    rw [← ids_core, ← ready_ids (D := D)]
    exact hp.map _
  have hU : Unl (nds R) := unl_nds.2 (hids.nodup_iff.2 (hn.sublist (List.filter_sublist.map _)))
  obtain ⟨L, q, hc, rfl⟩ := hr.cmps
  refine (rowI_perm hc (hU.perm (byIds_perm _))).trans ?_
  refine ((byIds_perm (nds R)).map (·.id)).trans ?_
  have : (nds R).map (·.id) = idsX R := nds_ids R
  rw [this]
  exact hids
/-- what didn't run is stuck still -/
theorem stuck_still {out : List Id} (ho : ∀ i, i ∈ out → i ∈ idsX W) (hO : ∀ i, i ∈ O ↔ Stuck W D i) {i : Id} (h : Stuck W D i) : Stuck (stayL W O) (D ++ out) i := by
  have hsub : ∀ d, ¬ (d ∈ idsX W ∨ d ∈ D) → ¬ (d ∈ idsX (stayL W O) ∨ d ∈ D ++ out) := fun d hd h => by
    rcases h with h | h
    · obtain ⟨x, hx, rfl⟩ := List.mem_map.1 h
      exact hd (.inl (List.mem_map.2 ⟨x, (List.mem_filter.1 hx).1, rfl⟩))
    · rcases List.mem_append.1 h with h | h
      · exact hd (.inr h)
      · exact hd (.inl (ho d h))
  induction h with
  | miss hx hd hm =>
    rename_i x d
    exact .miss (List.mem_filter.2 ⟨hx, decide_eq_true ((hO _).2 (.miss hx hd hm))⟩) hd (hsub _ hm)
  | step hx hd hs ih =>
    rename_i x d
    exact .step (List.mem_filter.2 ⟨hx, decide_eq_true ((hO _).2 (.step hx hd hs))⟩) hd ih
theorem nothing_more {out O2 : List Id} (ho : ∀ i, i ∈ out → i ∈ idsX W) (hO : ∀ i, i ∈ O ↔ Stuck W D i) (hO2 : ∀ i, i ∈ O2 ↔ Stuck (stayL W O) (D ++ out) i) : readyL (stayL W O) (D ++ out) O2 = [] := by
  unfold readyL
  rw [List.map_eq_nil_iff, List.filter_eq_nil_iff]
  intro x hx
  obtain ⟨_, h2⟩ := List.mem_filter.1 hx
  have := (hO2 x.id).2 (stuck_still ho hO ((hO _).1 (by simpa using h2)))
  simp [this]
end
end Go.Proofs.YtndfhejfhfhbdaaGreatDoor.O
