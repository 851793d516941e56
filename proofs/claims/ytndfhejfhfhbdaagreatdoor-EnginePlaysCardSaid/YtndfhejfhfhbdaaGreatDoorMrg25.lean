/- Several texts in one. -/
import Derived.Test.YtndfhejfhfhbdaaGreatDoorMrg24

/- Plain law of the engine: what is stuck, what is ready, what runs. -/
namespace Go.Proofs.YtndfhejfhfhbdaaGreatDoor.O
open Go.RowKit Go.Proofs.YtndfhejfhfhbdaaGreatDoor.M Go.BigFrame Go.Proofs.YtndfhejfhfhbdaaGreatDoor.K Go.Proofs.YtndfhejfhfhbdaaGreatDoor.T
set_option linter.unusedVariables false
set_option linter.unusedSimpArgs false

/-- is an id there? -/
def thereB (W : List Rv) (D : List Id) (d : Id) : Bool := decide (d ∈ idsX W) || decide (d ∈ D)
theorem thereB_iff {W : List Rv} {D : List Id} {d : Id} : thereB W D d = true ↔ d ∈ idsX W ∨ d ∈ D := by unfold thereB; simp
/-- is an id not there, or known to be stuck? -/
def lostB (W : List Rv) (D O : List Id) (d : Id) : Bool := !thereB W D d || decide (d ∈ O)
theorem lostB_iff {W : List Rv} {D O : List Id} {d : Id} : lostB W D O d = true ↔ (¬ (d ∈ idsX W ∨ d ∈ D)) ∨ d ∈ O := by
  unfold lostB
  rw [Bool.or_eq_true, Bool.not_eq_true', ← Bool.not_eq_true, thereB_iff, decide_eq_true_eq]
/-- records that lead to something that isn't there -/
inductive Stuck (W : List Rv) (D : List Id) : Id → Prop
  | miss {x : Rv} {d : Id} : x ∈ W → d ∈ x.deps → ¬ (d ∈ idsX W ∨ d ∈ D) → Stuck W D x.id
  | step {x : Rv} {d : Id} : x ∈ W → d ∈ x.deps → Stuck W D d → Stuck W D x.id
theorem Stuck.mem {W : List Rv} {D : List Id} {i : Id} (h : Stuck W D i) : i ∈ idsX W := by
  cases h with
  | miss hx _ _ => exact List.mem_map.2 ⟨_, hx, rfl⟩
  | step hx _ _ => exact List.mem_map.2 ⟨_, hx, rfl⟩
/-- what a pass over the records makes of the stuck ones: sound so far -/
def Sound (W : List Rv) (D O : List Id) : Prop := ∀ i ∈ O, Stuck W D i
theorem Sound.add {W : List Rv} {D O : List Id} (h : Sound W D O) {x : Rv} (hx : x ∈ W) (hl : x.deps.any (lostB W D O) = true) : Sound W D (O ++ [x.id]) := fun i hi => by
  rcases List.mem_append.1 hi with hi | hi
  · exact h i hi
  · rw [List.mem_singleton.1 hi]
    obtain ⟨d, hd, hl⟩ := List.any_eq_true.1 hl
    rcases lostB_iff.1 hl with h1 | h1
    · exact .miss hx hd h1
    · exact .step hx hd (h d h1)
/-- nothing more is found -/
def Shut (W : List Rv) (D O : List Id) : Prop := ∀ x ∈ W, x.id ∉ O → x.deps.any (lostB W D O) = false
theorem stuck_iff {W : List Rv} {D O : List Id} (hn : (idsX W).Nodup) (h : Sound W D O) (hs : Shut W D O) (i : Id) : i ∈ O ↔ Stuck W D i := by
  refine ⟨h i, fun hi => ?_⟩
  have key : ∀ {x : Rv} {d : Id}, x ∈ W → d ∈ x.deps → lostB W D O d = true → x.id ∈ O := fun {x d} hx hd hl => by
    by_cases ho : x.id ∈ O
    · exact ho
    · have := List.any_eq_false.1 (hs x hx ho) d hd
      exact absurd hl this
  induction hi with
  | miss hx hd hm => exact key hx hd (lostB_iff.2 (.inl hm))
  | step hx hd _ ih => exact key hx hd (lostB_iff.2 (.inr ih))
/-- a record, on what isn't done alone, wherever what it hangs on lies -/
def core (x : Rv) : Rv := { x with ao := none, cap := 0 }
def rest (D : List Id) (x : Rv) : Rv := { x with deps := x.deps.filter fun d => !decide (d ∈ D), ao := none, cap := 0 }
/-- those that may be executed -/
def readyL (W : List Rv) (D O : List Id) : List Rv := (W.filter fun x => !decide (x.id ∈ O)).map (rest D)
def stayL (W : List Rv) (O : List Id) : List Rv := W.filter fun x => decide (x.id ∈ O)
theorem nds_core (X : List Rv) : nds (X.map core) = nds X := by unfold nds; rw [List.map_map]; rfl
theorem ids_core (X : List Rv) : idsX (X.map core) = idsX X := by unfold idsX; rw [List.map_map]; rfl
theorem okR_core (X : List Rv) : okR (X.map core) = okR X := by unfold okR; rw [List.all_map]; rfl
theorem ready_ids (W : List Rv) (D O : List Id) : idsX (readyL W D O) = idsX (W.filter fun x => !decide (x.id ∈ O)) := by unfold readyL idsX; rw [List.map_map]; rfl
theorem stepB_pair {l : List Id} (h : ∀ k, k < l.length → stepB l k = true) : l.Pairwise (fun a b => ilt a b = true) ∧ ∀ x ∈ l, idOk x = true := by
  have h1 : ∀ k (hk : k + 1 < l.length), idOk l[k + 1] = true ∧ ilt l[k] l[k + 1] = true := fun k hk => by
    have := h (k + 1) hk
    rw [stepB_succ (List.getElem?_eq_getElem hk) (List.getElem?_eq_getElem (by omega)), Bool.and_eq_true] at this
    exact this
  constructor
  · rw [List.pairwise_iff_getElem]
    intro i j hi hj hij
    induction j with
    | zero => omega
    | succ j ih =>
      rcases Nat.lt_or_ge i j with h2 | h2
      · exact ilt_trans (ih (by omega) h2) (h1 j hj).2
      · obtain rfl : i = j := by omega
        exact (h1 i hj).2
  · intro x hx
    obtain ⟨k, hk, rfl⟩ := List.mem_iff_getElem.1 hx
    cases k with
    | zero =>
      have := h 0 hk
      rw [stepB_zero (List.getElem?_eq_getElem hk)] at this
      exact this
    | succ k => exact (h1 k hk).1
theorem setOk_iff {l : List Id} : setOk l = true ↔ l.Pairwise (fun a b => ilt a b = true) ∧ (∀ x ∈ l, idOk x = true) ∧ l.length ≤ 4096 := by
  unfold setOk
  rw [Bool.and_eq_true, List.all_eq_true, decide_eq_true_eq]
  constructor
  · rintro ⟨h1, h2⟩
    obtain ⟨h3, h4⟩ := stepB_pair (fun k hk => h1 k (List.mem_range.2 hk))
    exact ⟨h3, h4, h2⟩
  · rintro ⟨h1, h2, h3⟩
    refine ⟨fun k hk => ?_, h3⟩
    have hk := List.mem_range.1 hk
    cases k with
    | zero => rw [stepB_zero (List.getElem?_eq_getElem hk)]; exact h2 _ (List.getElem_mem hk)
    | succ k =>
      rw [stepB_succ (List.getElem?_eq_getElem hk) (List.getElem?_eq_getElem (by omega)), Bool.and_eq_true]
      exact ⟨h2 _ (List.getElem_mem hk), List.pairwise_iff_getElem.1 h1 k (k + 1) (by omega) hk (by omega)⟩
theorem setOk_sub {l : List Id} (p : Id → Bool) (h : setOk l = true) : setOk (l.filter p) = true := by
  rw [setOk_iff] at *
  exact ⟨h.1.sublist List.filter_sublist, fun x hx => h.2.1 x (List.mem_filter.1 hx).1, Nat.le_trans (List.length_filter_le _ _) h.2.2⟩
theorem good_rest {D : List Id} {x : Rv} (h : goodR x = true) : goodR (rest D x) = true := by
  unfold goodR recOk restOk at *
  simp only [Bool.and_eq_true, decide_eq_true_eq] at h
  obtain ⟨⟨h1, h2, h3⟩, h4⟩ := h
  have h5 : ¬ x.st = 0 := by omega
  rw [if_neg h5] at h3
  simp only [Bool.and_eq_true, beq_iff_eq, Bool.not_eq_true', decide_eq_false_iff_not] at h3
  have h6 := setOk_sub (fun d => !decide (d ∈ D)) (attrChk_ok h3.2.1)
  have h7 : attrChk (rest D x).deps x.seq x.tag = 0 := by
    have h8 := h3.2.1
    unfold attrChk at h8 ⊢
    rw [attrChk_ok h3.2.1] at h8
    rw [show setOk (rest D x).deps = true from h6]
    exact h8
  have h9 : x.id ∉ (rest D x).deps := fun h => h3.2.2 (List.mem_filter.1 h).1
  have e1 : headBad (rest D x) = headBad x := rfl
  have e2 : balBad (rest D x) = balBad x := rfl
  have e3 : (rest D x).st = x.st := rfl
  have e4 : (rest D x).cmd = x.cmd := rfl
  have e5 : (rest D x).seq = x.seq := rfl
  have e6 : (rest D x).tag = x.tag := rfl
  have e7 : (rest D x).id = x.id := rfl
  rw [e1, e2, e3, e4, e5, e6, e7, if_neg h5]
  simp [h1, h2, h3.1, h7, h9, h4]
section
variable {W : List Rv} {D O : List Id}
/-- what is ready is right, and closed -/
theorem ready_err (hn : (idsX W).Nodup) (hg : ∀ x ∈ W, goodR x = true) (hs : Shut W D O) {R : List Rv} (hp : (R.map core).Perm (readyL W D O)) : errO (okR R) (nds R) = 0 := by
  have hids : (idsX R).Perm (idsX (W.filter fun x => !decide (x.id ∈ O))) := by
    rw [← ids_core, ← ready_ids (D := D)]
    exact hp.map _
  refine errO_ok.2 ⟨?_, ?_, ?_⟩
  · rw [← okR_core, okR_perm hp]
    refine List.all_eq_true.2 fun x hx => ?_
    unfold readyL at hx
    obtain ⟨y, hy, rfl⟩ := List.mem_map.1 hx
    exact good_rest (hg y (List.mem_filter.1 hy).1)
  · rw [unl_nds]
    exact hids.nodup_iff.2 (hn.sublist (List.filter_sublist.map _))
  · have : missB (nds R) = missB (nds (readyL W D O)) := by rw [← nds_core R]; exact missB_perm (hp.map _)
    rw [this, missB_no]
    intro a ha d hd
    obtain ⟨x, hx, rfl⟩ := List.mem_map.1 ha
    unfold readyL at hx
    obtain ⟨y, hy, rfl⟩ := List.mem_map.1 hx
    obtain ⟨hyW, hyO⟩ := List.mem_filter.1 hy
    obtain ⟨hd1, hd2⟩ := List.mem_filter.1 (show d ∈ y.deps.filter _ from hd)
    have hyO' : y.id ∉ O := by simpa using hyO
    have hdD : d ∉ D := by simpa using hd2
    have := List.any_eq_false.1 (hs y hyW hyO') d hd1
    rw [lostB_iff] at this
    have h1 : d ∈ idsX W := Classical.byContradiction fun h => this (.inl fun h2 => h2.elim h hdD)
    have h2 : d ∉ O := fun h => this (.inr h)
    obtain ⟨z, hz, rfl⟩ := List.mem_map.1 h1
    rw [nds_ids, ready_ids]
    exact List.mem_map.2 ⟨z, List.mem_filter.2 ⟨hz, by simpa using h2⟩, rfl⟩
/-- what runs -/
theorem run_mem (hn : (idsX W).Nodup) {R : List Rv} (hp : (R.map core).Perm (readyL W D O)) {out : List Id} (hr : Row (byIds (nds R)) out) : out.Perm (idsX (W.filter fun x => !decide (x.id ∈ O))) := by
  have hids : (idsX R).Perm (idsX (W.filter fun x => !decide (x.id ∈ O))) := by
    rw [← ids_core, ← ready_ids (D := D)]
    exact hp.map _
  have hU : Unl (nds R) := unl_nds.2 (hids.nodup_iff.2 (hn.sublist (List.filter_sublist.map _)))
  obtain ⟨L, q, hc, rfl⟩ := hr.cmps
  refine (rowI_perm hc (hU.perm (byIds_perm _))).trans ?_
  refine ((byIds_perm (nds R)).map (·.id)).trans ?_
  have : (nds R).map (·.id) = idsX R := nds_ids R
  rw [this]
  exact hids
end
end Go.Proofs.YtndfhejfhfhbdaaGreatDoor.O

/- Plain law of EngineAgree: two engines that have some of one closed list's records. -/
namespace Go.Proofs.YtndfhejfhfhbdaaGreatDoor.O
open Go.RowKit Go.Proofs.YtndfhejfhfhbdaaGreatDoor.M Go.BigFrame Go.Proofs.YtndfhejfhfhbdaaGreatDoor.K Go.Proofs.YtndfhejfhfhbdaaGreatDoor.T
set_option linter.unusedVariables false
set_option linter.unusedSimpArgs false

/-- one leads to another one, among records -/
inductive Lds (X : List Rv) : Id → Id → Prop
  | refl (i : Id) : Lds X i i
  | step {x : Rv} {d j : Id} : x ∈ X → d ∈ x.deps → d ∈ idsX X → Lds X d j → Lds X x.id j
theorem Lds.mono {X Y : List Rv} (h : ∀ x ∈ X, x ∈ Y) {i j : Id} (hl : Lds X i j) : Lds Y i j := by
  induction hl with
  | refl i => exact .refl i
  | step hx hd hi _ ih =>
    obtain ⟨z, hz, rfl⟩ := List.mem_map.1 hi
    exact .step (h _ hx) hd (List.mem_map.2 ⟨z, h z hz, rfl⟩) ih
/-- what holds of one, and goes over to what it hangs on, holds of all that it leads to -/
theorem Lds.stays {X : List Rv} (hn : (idsX X).Nodup) {S : List Id} (hcl : ∀ x ∈ X, x.id ∈ S → ∀ d ∈ x.deps, d ∈ S) {i j : Id} (hl : Lds X i j) : i ∈ S → j ∈ S := by
  induction hl with
  | refl i => exact id
  | step hx hd hi _ ih => exact fun h => ih (hcl _ hx h _ hd)
theorem lds_path {s : List Rv} (hn : (idsX s).Nodup) {u v : Nat} {x y : Rv} (hx : s[u]? = some x) (hy : s[v]? = some y) : Path (edR (nds s)) s.length u v ↔ Lds s x.id y.id := by
  have hU : Unl (nds s) := unl_nds.2 hn
  constructor
  · intro hp
    induction hp generalizing x with
    | refl u =>
      rw [hx] at hy
      cases hy
      exact .refl _
    | step e _ ih =>
      rw [← nds_len] at e
      obtain ⟨a, b, h1, h2, h3⟩ := (edgeR hU).1 e
      have hw := (List.getElem?_eq_some_iff.1 h2).1
      rw [nds_len] at hw
      have hz := List.getElem?_eq_getElem hw
      rw [nds_get hx] at h1
      rw [nds_get hz] at h2
      cases h1
      cases h2
      exact .step (List.mem_of_getElem? hx) h3 (List.mem_map.2 ⟨_, List.mem_of_getElem? hz, rfl⟩) (ih hz hy)
  · have key : ∀ {i j : Id}, Lds s i j → ∀ {u v : Nat} {x y : Rv}, s[u]? = some x → s[v]? = some y → x.id = i → y.id = j → Path (edR (nds s)) s.length u v := by
      intro i j hl
      induction hl with
      | refl i =>
        intro u v x y hx hy h1 h2
        have e1 := ids_get hx
        have e2 := ids_get hy
        rw [h1] at e1
        rw [h2] at e2
        have := (List.getElem?_inj (List.getElem?_eq_some_iff.1 e1).1 hn).1 (e1.trans e2.symm)
        subst this
        exact .refl _
      | step hx0 hd hi _ ih =>
        rename_i x0 d j _
        intro u v x y hx hy h1 h2
        have hxm := nodup_inj Rv.id hn (List.mem_of_getElem? hx) hx0 h1
        subst hxm
        obtain ⟨w, z, hw, hz, _⟩ := mem_ids_get hi
        refine .step ?_ (ih hw hy hz h2)
        rw [← nds_len]
        exact (edgeR hU).2 ⟨x.nd, z.nd, nds_get hx, nds_get hw, by show z.id ∈ x.deps; rw [hz]; exact hd⟩
    intro hl
    exact key hl hx hy rfl rfl
/-- of two, one of which leads to the other: which is ahead -/
theorem pair_law {X : List Rv} (hn : (idsX X).Nodup) {a : List Id} (ha : Row (byIds (nds X)) a) {x y : Rv} (hx : x ∈ X) (hy : y ∈ X) (hne : x.id ≠ y.id) (hl : Lds X x.id y.id) : atI a x.id < atI a y.id ↔ (Lds X y.id x.id ∧ wlt x.nd y.nd = true) := by
  have hs := Sd.of hn
  have hp := srtR_perm X
  rw [← srtR_nd] at ha
  obtain ⟨u, hu⟩ := List.mem_iff_getElem?.1 (hp.mem_iff.2 hx)
  obtain ⟨v, hv⟩ := List.mem_iff_getElem?.1 (hp.mem_iff.2 hy)
  have huv : u ≠ v := fun e => by subst e; rw [hu] at hv; cases hv; exact hne rfl
  obtain ⟨L, q, c1, rfl⟩ := ha.cmps
  have hto : ∀ {i j : Id}, Lds X i j ↔ Lds (srtR X) i j := fun {i j} => ⟨Lds.mono fun x hx => hp.mem_iff.2 hx, Lds.mono fun x hx => hp.mem_iff.1 hx⟩
  have h1 := (lds_path hs.nd hu hv).2 (hto.1 hl)
  rw [← nds_len] at h1
  have := rowI_lt c1 hs.unl (nds_get hu) (nds_get hv) huv h1
  rw [nds_len, lds_path hs.nd hv hu, ← hto] at this
  exact this
theorem atI_left {a b : List Id} (hn : (a ++ b).Nodup) {i : Id} (h : i ∈ a) : atI (a ++ b) i = atI a i := by
  obtain ⟨k, hk⟩ := List.mem_iff_getElem?.1 h
  have hl := (List.getElem?_eq_some_iff.1 hk).1
  rw [atI_some (List.nodup_append.1 hn).1 hk, atI_some hn (by rw [List.getElem?_append_left hl]; exact hk)]
theorem atI_right {a b : List Id} (hn : (a ++ b).Nodup) {i : Id} (h : i ∈ b) : atI (a ++ b) i = a.length + atI b i := by
  obtain ⟨k, hk⟩ := List.mem_iff_getElem?.1 h
  have h1 : (a ++ b)[a.length + k]? = some i := by rw [List.getElem?_append_right (by omega), Nat.add_sub_cancel_left]; exact hk
  rw [atI_some (List.nodup_append.1 hn).2.1 hk, atI_some hn h1]
  omega
theorem atI_here_le {a : List Id} {i : Id} (h : i ∈ a) : 0 ≤ atI a i ∧ atI a i < a.length := by
  have hl := List.idxOf_lt_length_iff.2 h
  unfold atI
  rw [if_pos h]
  omega
theorem atI_inj {a : List Id} {i j : Id} (hi : i ∈ a) (hj : j ∈ a) (h : atI a i = atI a j) : i = j := by
  unfold atI at h
  rw [if_pos hi, if_pos hj] at h
  have h1 := List.getElem_idxOf (List.idxOf_lt_length_iff.2 hi)
  have h2 := List.getElem_idxOf (List.idxOf_lt_length_iff.2 hj)
  rw [← h1, ← h2]
  congr 1
  omega
/-- an engine, whose records are some of X -/
structure EI (X L : List Rv) (D : List Id) : Prop where
  wt : ∀ x ∈ L, ∃ y ∈ X, core x = core y
  nd : D.Nodup
  dj : ∀ x ∈ L, x.id ∉ D
  sub : ∀ i ∈ D, i ∈ idsX X
  cl : ∀ x ∈ X, x.id ∈ D → ∀ d ∈ x.deps, d ∈ D
  ord : ∀ x ∈ X, ∀ y ∈ X, x.id ∈ D → x.id ≠ y.id → Lds X x.id y.id → (atI D x.id < atI D y.id ↔ (Lds X y.id x.id ∧ wlt x.nd y.nd = true))
theorem EI.new (X : List Rv) : EI X [] [] := ⟨fun x h => (by cases h), List.nodup_nil, fun x h => (by cases h), fun x h => (by cases h), fun _ _ h => (by cases h), fun _ _ _ _ h => (by cases h)⟩
theorem EI.more {X L : List Rv} {D : List Id} (h : EI X L D) {x y : Rv} (hy : y ∈ X) (e : core x = core y) (hd : y.id ∉ D) : EI X (L ++ [x]) D :=
  have he : x.id = y.id := by have h0 := congrArg Rv.id e; exact h0
  ⟨fun z hz => by
    rcases List.mem_append.1 hz with hz | hz
    · exact h.wt z hz
    · rw [List.mem_singleton.1 hz]; exact ⟨y, hy, e⟩, h.nd, fun z hz => by
    rcases List.mem_append.1 hz with hz | hz
    · exact h.dj z hz
    · rw [List.mem_singleton.1 hz, he]; exact hd, h.sub, h.cl, h.ord⟩
theorem wlt_core {a b c d : Nd} (h1 : a.id = b.id) (h2 : a.seq = b.seq) (h3 : a.tag = b.tag) (g1 : c.id = d.id) (g2 : c.seq = d.seq) (g3 : c.tag = d.tag) : wlt a c = wlt b d := by unfold wlt; rw [h1, h2, h3, g1, g2, g3]
theorem EI.run {X L : List Rv} {D O out : List Id} (h : EI X L D) (hn : (idsX X).Nodup) (hL : (idsX L).Nodup) (hO : ∀ i, i ∈ O ↔ Stuck L D i) {R : List Rv} (hr : Row (byIds (nds R)) out) (hp : (R.map core).Perm (readyL L D O))
    (ho : out.Perm (idsX (L.filter fun x => !decide (x.id ∈ O)))) : EI X (stayL L O) (D ++ out) := by
  have hnR : (idsX (L.filter fun x => !decide (x.id ∈ O))).Nodup := hL.sublist (List.filter_sublist.map _)
  have hno : out.Nodup := ho.nodup_iff.2 hnR
  have hof : ∀ i, i ∈ out ↔ ∃ z ∈ L, z.id = i ∧ i ∉ O := fun i => by
    rw [ho.mem_iff]
    constructor
    · intro hi
      obtain ⟨z, hz, rfl⟩ := List.mem_map.1 hi
      obtain ⟨h1, h2⟩ := List.mem_filter.1 hz
      exact ⟨z, h1, rfl, by simpa using h2⟩
    · rintro ⟨z, hz, rfl, h2⟩
      exact List.mem_map.2 ⟨z, List.mem_filter.2 ⟨hz, by simpa using h2⟩, rfl⟩
  have hdj : ∀ i ∈ out, i ∉ D := fun i hi hd => by
    obtain ⟨z, hz, rfl, _⟩ := (hof i).1 hi
    exact h.dj z hz hd
  have hdn : (D ++ out).Nodup := List.nodup_append.2 ⟨h.nd, hno, fun a ha b hb e => by subst e; exact hdj a hb ha⟩
  -- a record that runs: as it is in X
  have hrec : ∀ z ∈ L, ∀ x ∈ X, x.id = z.id → core z = core x := fun z hz x hx e => by
    obtain ⟨y, hy, hc⟩ := h.wt z hz
    have : z.id = y.id := by have h0 := congrArg Rv.id hc; exact h0
    have := nodup_inj Rv.id hn hx hy (e.trans this)
    rw [this]
    exact hc
  have hcl : ∀ x ∈ X, x.id ∈ D ++ out → ∀ d ∈ x.deps, d ∈ D ++ out := fun x hx hm d hd => by
    rcases List.mem_append.1 hm with hm | hm
    · exact List.mem_append_left _ (h.cl x hx hm d hd)
    · obtain ⟨z, hz, e, hzo⟩ := (hof _).1 hm
      have hdeps : z.deps = x.deps := by have := congrArg Rv.deps (hrec z hz x hx e.symm); exact this
      have hns : ¬ Stuck L D z.id := fun hs => hzo (by rw [← e]; exact (hO _).2 hs)
      by_cases hdD : d ∈ D
      · exact List.mem_append_left _ hdD
      · by_cases hdL : d ∈ idsX L
        · obtain ⟨y, hy, rfl⟩ := List.mem_map.1 hdL
          refine List.mem_append_right _ ((hof _).2 ⟨y, hy, rfl, fun hyo => ?_⟩)
          exact hns (.step hz (by rw [hdeps]; exact hd) ((hO _).1 hyo))
        · exact absurd (Stuck.miss hz (by rw [hdeps]; exact hd) (by rintro (h1 | h1); exact hdL h1; exact hdD h1)) hns
  -- what runs, with what isn't done alone
  have hidR : (idsX R).Perm out := by
    refine List.Perm.trans ?_ ho.symm
    rw [← ids_core, ← ready_ids (D := D)]
    exact hp.map _
  have hnR2 : (idsX R).Nodup := hidR.nodup_iff.2 hno
  have hRX : ∀ r ∈ R, ∃ x ∈ X, x.id = r.id ∧ r.deps = (x.deps.filter fun d => !decide (d ∈ D)) ∧ r.seq = x.seq ∧ r.tag = x.tag := fun r hr => by
    have h1 := hp.mem_iff.1 (List.mem_map.2 ⟨r, hr, rfl⟩)
    unfold readyL at h1
    obtain ⟨z, hz, e⟩ := List.mem_map.1 h1
    obtain ⟨x, hx, hc⟩ := h.wt z (List.mem_filter.1 hz).1
    have e1 : z.id = r.id := by have := congrArg Rv.id e; exact this
    have e2 : (z.deps.filter fun d => !decide (d ∈ D)) = r.deps := by have := congrArg Rv.deps e; exact this
    have e3 : z.seq = r.seq := by have := congrArg Rv.seq e; exact this
    have e4 : z.tag = r.tag := by have := congrArg Rv.tag e; exact this
    have f1 : z.id = x.id := by have := congrArg Rv.id hc; exact this
    have f2 : z.deps = x.deps := by have := congrArg Rv.deps hc; exact this
    have f3 : z.seq = x.seq := by have := congrArg Rv.seq hc; exact this
    have f4 : z.tag = x.tag := by have := congrArg Rv.tag hc; exact this
    exact ⟨x, hx, f1.symm.trans e1, by rw [← e2, f2], e3.symm.trans f3, e4.symm.trans f4⟩
  have hXR : ∀ x ∈ X, x.id ∈ out → ∃ r ∈ R, r.id = x.id ∧ r.deps = (x.deps.filter fun d => !decide (d ∈ D)) ∧ r.seq = x.seq ∧ r.tag = x.tag := fun x hx hm => by
    obtain ⟨r, hr, e⟩ := List.mem_map.1 (hidR.mem_iff.2 hm)
    obtain ⟨y, hy, e1, e2, e3, e4⟩ := hRX r hr
    have := nodup_inj Rv.id hn hy hx (e1.trans e)
    subst this
    exact ⟨r, hr, e, e2, e3, e4⟩
  have hup : ∀ {i j : Id}, Lds R i j → Lds X i j := fun {i j} hl => by
    induction hl with
    | refl i => exact .refl i
    | step hx hd hi _ ih =>
      obtain ⟨x, hx1, e1, e2, _⟩ := hRX _ hx
      obtain ⟨z, hz, rfl⟩ := List.mem_map.1 hi
      obtain ⟨y, hy1, g1, _⟩ := hRX z hz
      rw [← e1]
      exact .step hx1 (by rw [e2] at hd; exact (List.mem_filter.1 hd).1) (List.mem_map.2 ⟨y, hy1, g1⟩) ih
  have hdown : ∀ {i j : Id}, Lds X i j → i ∈ out → j ∉ D → Lds R i j := fun {i j} hl => by
    induction hl with
    | refl i => exact fun _ _ => .refl i
    | step hx hd hi hl2 ih =>
      intro hm hj
      have hd2 := hcl _ hx (List.mem_append_right _ hm) _ hd
      have hdD : _ ∉ D := fun hD => hj (hl2.stays hn h.cl hD)
      have hdo := (List.mem_append.1 hd2).resolve_left hdD
      obtain ⟨r, hr, e1, e2, _⟩ := hXR _ hx hm
      rw [← e1]
      exact .step hr (by rw [e2]; exact List.mem_filter.2 ⟨hd, by simpa using hdD⟩) (hidR.mem_iff.2 hdo) (ih hdo hj)
  refine ⟨fun x hx => h.wt x (List.mem_filter.1 hx).1, hdn, fun x hx hm => ?_, fun i hi => ?_, hcl, fun x hx y hy hxm hne hl => ?_⟩
  · obtain ⟨hx1, hx2⟩ := List.mem_filter.1 hx
    rcases List.mem_append.1 hm with hm | hm
    · exact h.dj x hx1 hm
    · obtain ⟨_, _, _, h2⟩ := (hof _).1 hm
      exact h2 (by simpa using hx2)
  · rcases List.mem_append.1 hi with hi | hi
    · exact h.sub i hi
    · obtain ⟨z, hz, rfl, _⟩ := (hof _).1 hi
      obtain ⟨y, hy, hc⟩ := h.wt z hz
      exact List.mem_map.2 ⟨y, hy, (congrArg Rv.id hc).symm⟩
  · by_cases hxD : x.id ∈ D
    · have hyD := hl.stays hn h.cl hxD
      rw [atI_left hdn hxD, atI_left hdn hyD]
      exact h.ord x hx y hy hxD hne hl
    · have hxo := (List.mem_append.1 hxm).resolve_left hxD
      have hym := hl.stays hn hcl hxm
      rw [atI_right hdn hxo]
      by_cases hyD : y.id ∈ D
      · rw [atI_left hdn hyD]
        have h1 := atI_here_le hyD
        have h2 := atI_here_le hxo
        constructor
        · intro h3; omega
        · rintro ⟨h3, _⟩
          exact absurd (h3.stays hn h.cl hyD) hxD
      · have hyo := (List.mem_append.1 hym).resolve_left hyD
        rw [atI_right hdn hyo]
        obtain ⟨rx, hrx, a1, a2, a3, a4⟩ := hXR x hx hxo
        obtain ⟨ry, hry, b1, b2, b3, b4⟩ := hXR y hy hyo
        have hpl := pair_law hnR2 hr hrx hry (by rw [a1, b1]; exact hne) (by rw [a1, b1]; exact hdown hl hxo hyD)
        rw [a1, b1] at hpl
        have hw : wlt rx.nd ry.nd = wlt x.nd y.nd := wlt_core (by exact a1) (by exact a3) (by exact a4) (by exact b1) (by exact b3) (by exact b4)
        rw [hw] at hpl
        rw [show ((D.length : Int) + atI out x.id < D.length + atI out y.id) ↔ atI out x.id < atI out y.id by omega, hpl]
        exact ⟨fun ⟨g1, g2⟩ => ⟨hup g1, g2⟩, fun ⟨g1, g2⟩ => ⟨hdown g1 hyo hxD, g2⟩⟩
/-- where all are there nothing is stuck -/
theorem EI.all {X L : List Rv} {D O out : List Id} (h : EI X L D) (hm : ∀ x ∈ X, ∀ d ∈ x.deps, d ∈ idsX X) (hall : ∀ i ∈ idsX X, i ∈ idsX L ∨ i ∈ D) (hO : ∀ i, i ∈ O ↔ Stuck L D i) (ho : out.Perm (idsX (L.filter fun x => !decide (x.id ∈ O)))) : ∀ i ∈ idsX X, i ∈ D ++ out := by
  have hns : ∀ i, ¬ Stuck L D i := fun i hs => by
    induction hs with
    | miss hx hd hno =>
      obtain ⟨y, hy, hc⟩ := h.wt _ hx
      have e := congrArg Rv.deps hc
      exact hno (hall _ (hm y hy _ (by rw [show y.deps = _ from e.symm]; exact hd)))
    | step _ _ _ ih => exact ih
  intro i hi
  rcases hall i hi with h1 | h1
  · obtain ⟨z, hz, rfl⟩ := List.mem_map.1 h1
    refine List.mem_append_right _ (ho.mem_iff.2 (List.mem_map.2 ⟨z, List.mem_filter.2 ⟨hz, ?_⟩, rfl⟩))
    have : z.id ∉ O := fun hh => hns _ ((hO _).1 hh)
    simpa using this
  · exact List.mem_append_left _ h1
theorem EI.len {X L : List Rv} {D : List Id} (h : EI X L D) (hn : (idsX X).Nodup) (hall : ∀ i ∈ idsX X, i ∈ D) : D.Perm (idsX X) :=
  (List.perm_ext_iff_of_nodup h.nd hn).2 fun i => ⟨h.sub i, hall i⟩
/-- the order in an engine is that of the list -/
theorem EI.same {X L : List Rv} {D want : List Id} (h : EI X L D) (hn : (idsX X).Nodup) (hw : Row (byIds (nds X)) want) {x y : Rv} (hx : x ∈ X) (hy : y ∈ X) (hD : x.id ∈ D) (hne : x.id ≠ y.id) (hl : Lds X x.id y.id) :
    y.id ∈ D ∧ (atI D y.id < atI D x.id ↔ atI want y.id < atI want x.id) := by
  have hyD := hl.stays hn h.cl hD
  have hpw : want.Perm (idsX X) := by
    have := row_mem (Sd.of hn) (by rw [srtR_nd]; exact hw)
    exact this.trans ((srtR_perm X).map _)
  have hxw : x.id ∈ want := hpw.mem_iff.2 (List.mem_map.2 ⟨x, hx, rfl⟩)
  have hyw : y.id ∈ want := hpw.mem_iff.2 (List.mem_map.2 ⟨y, hy, rfl⟩)
  have h1 := h.ord x hx y hy hD hne hl
  have h2 := pair_law hn hw hx hy hne hl
  have n1 : atI D x.id ≠ atI D y.id := fun e => hne (atI_inj hD hyD e)
  have n2 : atI want x.id ≠ atI want y.id := fun e => hne (atI_inj hxw hyw e)
  refine ⟨hyD, ?_⟩
  have h3 : atI D x.id < atI D y.id ↔ atI want x.id < atI want y.id := h1.trans h2.symm
  omega
/-- what Closed tells -/
theorem clo_lds {s : List Rv} (hs : Sd s) {i : Id} (hi : i ∈ idsX s) {inn : List Rv} {out : List Id} (h : ClO s i inn out) {y : Rv} (hy : y ∈ inn) : y ∈ s ∧ Lds s i y.id := by
  obtain ⟨l, h1, h2, _⟩ := h.yes hi
  obtain ⟨u, x, hu, hx, he⟩ := mem_ids_get hi
  rw [h2] at hy
  obtain ⟨k, hk, rfl⟩ := List.mem_map.1 hy
  obtain ⟨hks, v, hv, hvl, hpath⟩ := (h1.mem k).1 hk
  have hkg : s[k]? = some (s.getD k default) := by rw [List.getD, List.getElem?_eq_getElem hks]; rfl
  obtain rfl : u = v := by omega
  have := (lds_path hs.nd hu hkg).1 hpath
  rw [hx] at this
  exact ⟨List.mem_of_getElem? hkg, this⟩
end Go.Proofs.YtndfhejfhfhbdaaGreatDoor.O
