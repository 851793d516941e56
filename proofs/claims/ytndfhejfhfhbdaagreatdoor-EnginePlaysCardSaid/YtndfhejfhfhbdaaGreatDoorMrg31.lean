/- Several texts in one. -/
import Derived.Test.YtndfhejfhfhbdaaGreatDoorMrg25
import Derived.Test.YtndfhejfhfhbdaaGreatDoorMrg30
import Derived.Test.YtndfhejfhfhbdaaGreatDoorMrg4

/- Plain law of EnginePlays: the document's engine, held against the program's. -/
namespace Go.Proofs.YtndfhejfhfhbdaaGreatDoor.O
open Go.RowKit Go.Proofs.YtndfhejfhfhbdaaGreatDoor.M Go.BigFrame Go.Proofs.YtndfhejfhfhbdaaGreatDoor.K Go.Proofs.YtndfhejfhfhbdaaGreatDoor.T
set_option linter.unusedVariables false
set_option linter.unusedSimpArgs false

theorem lds_clo {s : List Rv} (hs : Sd s) {i : Id} (hi : i ∈ idsX s) {inn : List Rv} {out : List Id} (h : ClO s i inn out) {y : Rv} (hy : y ∈ s) (hl : Lds s i y.id) : y ∈ inn := by
  obtain ⟨l, h1, h2, _⟩ := h.yes hi
  obtain ⟨u, x, hu, hx, he⟩ := mem_ids_get hi
  obtain ⟨v, hv⟩ := List.mem_iff_getElem?.1 hy
  have hul := (List.getElem?_eq_some_iff.1 hu).1
  have hvl := (List.getElem?_eq_some_iff.1 hv).1
  have hp := (lds_path hs.nd hu hv).2 (by rw [hx]; exact hl)
  have hm : v ∈ l := (h1.mem v).2 ⟨hvl, u, by rw [he], hul, hp⟩
  rw [h2]
  exact List.mem_map.2 ⟨v, hm, by rw [List.getD, hv]; rfl⟩
/-- all that one leads to is there -/
theorem clo_none {s : List Rv} (hs : Sd s) {i : Id} (hi : i ∈ idsX s) {inn : List Rv} {out : List Id} (h : ClO s i inn out) : out = [] ↔ ∀ y ∈ s, Lds s i y.id → ∀ d ∈ y.deps, d ∈ idsX s := by
  have hin : ∀ y, y ∈ inn ↔ y ∈ s ∧ Lds s i y.id := fun y => ⟨fun hy => clo_lds hs hi h hy, fun hy => lds_clo hs hi h hy.1 hy.2⟩
  obtain ⟨l, h1, h2, h3⟩ := h.yes hi
  have e : out = [] ↔ missO s l = [] := by
    rw [h3]
    constructor
    · intro h
      cases hm : missO s l with
      | nil => rfl
      | cons a t =>
        have : a ∈ setI (missO s l) := (setI_mem _ _).2 (by rw [hm]; exact List.mem_cons_self)
        rw [h] at this
        cases this
    · intro h; rw [h]; rfl
  rw [e]
  unfold missO
  rw [List.flatMap_eq_nil_iff, ← h2]
  constructor
  · intro hh y hy hl d hd
    have := List.filter_eq_nil_iff.1 (hh y ((hin y).2 ⟨hy, hl⟩)) d hd
    simpa using this
  · intro hh y hy
    refine List.filter_eq_nil_iff.2 fun d hd => ?_
    have := hh y ((hin y).1 hy).1 ((hin y).1 hy).2 d hd
    simp [this]
/-- the document's engine has Y, of which D are done; the program's has L -/
structure EP (Y L : List Rv) (D : List Id) : Prop where
  nd : (idsX Y).Nodup
  wt : (L.map core).Perm ((Y.filter fun x => !decide (x.id ∈ D)).map core)
  sub : ∀ i ∈ D, i ∈ idsX Y
  cl : ∀ x ∈ Y, x.id ∈ D → ∀ d ∈ x.deps, d ∈ D
  dn : D.Nodup
theorem EP.new : EP [] [] [] := ⟨List.nodup_nil, List.Perm.refl _, fun i h => (by cases h), fun _ h => (by cases h), List.nodup_nil⟩
section
variable {Y L : List Rv} {D : List Id}
theorem EP.ids (h : EP Y L D) : (idsX L).Perm (idsX (Y.filter fun x => !decide (x.id ∈ D))) := by
  rw [← ids_core, ← ids_core (Y.filter _)]
  exact h.wt.map _
theorem EP.lnd (h : EP Y L D) : (idsX L).Nodup := h.ids.nodup_iff.2 (h.nd.sublist (List.filter_sublist.map _))
theorem EP.has (h : EP Y L D) (i : Id) : i ∈ idsX L ↔ i ∈ idsX Y ∧ i ∉ D := by
  rw [h.ids.mem_iff]
  constructor
  · intro hi
    obtain ⟨x, hx, rfl⟩ := List.mem_map.1 hi
    obtain ⟨h1, h2⟩ := List.mem_filter.1 hx
    exact ⟨List.mem_map.2 ⟨x, h1, rfl⟩, by simpa using h2⟩
  · rintro ⟨hi, hd⟩
    obtain ⟨x, hx, rfl⟩ := List.mem_map.1 hi
    exact List.mem_map.2 ⟨x, List.mem_filter.2 ⟨hx, by simpa using hd⟩, rfl⟩
theorem EP.there (h : EP Y L D) (i : Id) : thereB L D i = decide (i ∈ idsX Y) := by
  rw [Bool.eq_iff_iff, thereB_iff, decide_eq_true_eq, h.has]
  constructor
  · rintro (h1 | h1)
    · exact h1.1
    · exact h.sub i h1
  · intro h1
    by_cases hd : i ∈ D
    · exact .inr hd
    · exact .inl ⟨h1, hd⟩
theorem EP.toL (h : EP Y L D) {y : Rv} (hy : y ∈ Y) (hd : y.id ∉ D) : ∃ x ∈ L, core x = core y := by
  have : core y ∈ (Y.filter fun x => !decide (x.id ∈ D)).map core := List.mem_map.2 ⟨y, List.mem_filter.2 ⟨hy, by simpa using hd⟩, rfl⟩
  obtain ⟨x, hx, e⟩ := List.mem_map.1 (h.wt.mem_iff.2 this)
  exact ⟨x, hx, e⟩
theorem EP.toY (h : EP Y L D) {x : Rv} (hx : x ∈ L) : ∃ y ∈ Y, core x = core y ∧ y.id ∉ D := by
  obtain ⟨y, hy, e⟩ := List.mem_map.1 (h.wt.mem_iff.1 (List.mem_map.2 ⟨x, hx, rfl⟩))
  obtain ⟨h1, h2⟩ := List.mem_filter.1 hy
  exact ⟨y, h1, e.symm, by simpa using h2⟩
theorem core_i {x y : Rv} (h : core x = core y) : x.id = y.id := by have h0 := congrArg Rv.id h; exact h0
theorem core_d {x y : Rv} (h : core x = core y) : x.deps = y.deps := by have h0 := congrArg Rv.deps h; exact h0
theorem EP.more (h : EP Y L D) {x y : Rv} (e : core x = core y) (hn : y.id ∉ idsX Y) : EP (Y ++ [y]) (L ++ [x]) D := by
  have hd : y.id ∉ D := fun hd => hn (h.sub _ hd)
  refine ⟨?_, ?_, fun i hi => ?_, fun z hz hzd => ?_, h.dn⟩
  · unfold idsX
    rw [List.map_append, List.nodup_append]
    exact ⟨h.nd, by simp, fun a ha b hb e2 => hn (by rw [List.mem_singleton.1 hb] at e2; rw [e2] at ha; exact ha)⟩
  · rw [List.filter_append, List.map_append, List.map_append]
    have : ([y].filter fun x => !decide (x.id ∈ D)) = [y] := by simp [hd]
    rw [this]
    exact h.wt.append (by rw [List.map_cons, List.map_cons, e])
  · unfold idsX
    rw [List.map_append]
    exact List.mem_append_left _ (h.sub i hi)
  · rcases List.mem_append.1 hz with hz | hz
    · exact h.cl z hz hzd
    · rw [List.mem_singleton.1 hz] at hzd
      exact absurd hzd hd
/-- what is stuck leads to something that isn't there -/
theorem EP.stuck (h : EP Y L D) {i : Id} (hi : i ∈ idsX Y) (hiD : i ∉ D) : Stuck L D i ↔ ¬ ∀ y ∈ Y, Lds Y i y.id → ∀ d ∈ y.deps, d ∈ idsX Y := by
  constructor
  · intro hs hall
    have key : ∀ {i : Id}, Stuck L D i → ∃ y ∈ Y, Lds Y i y.id ∧ ∃ d ∈ y.deps, d ∉ idsX Y := by
      intro i hs
      induction hs with
      | miss hx hd hno =>
        rename_i x d
        obtain ⟨y, hy, hc, hyD⟩ := h.toY hx
        refine ⟨y, hy, by rw [core_i hc]; exact .refl _, d, by rw [← core_d hc]; exact hd, fun hm => hno ?_⟩
        have := h.there d
        rw [decide_eq_true hm] at this
        exact thereB_iff.1 this
      | step hx hd hst ih =>
        rename_i x d
        obtain ⟨y, hy, hc, hyD⟩ := h.toY hx
        obtain ⟨z, hz, hl, hm⟩ := ih
        refine ⟨z, hz, ?_, hm⟩
        rw [core_i hc]
        exact .step hy (by rw [← core_d hc]; exact hd) ((h.has d).1 hst.mem).1 hl
    obtain ⟨y, hy, hl, d, hd, hno⟩ := key hs
    exact hno (hall y hy hl d hd)
  · intro hno
    have hno2 : ∃ y ∈ Y, Lds Y i y.id ∧ ∃ d ∈ y.deps, d ∉ idsX Y := Classical.byContradiction fun hc => hno fun y hy hl d hd => Classical.byContradiction fun hm => hc ⟨y, hy, hl, d, hd, hm⟩
    obtain ⟨y, hy, hl, d, hd, hm⟩ := hno2
    have key : ∀ {i j : Id}, Lds Y i j → j = y.id → i ∉ D → Stuck L D i := by
      intro i j hl
      induction hl with
      | refl i =>
        intro e hiD
        rw [e] at hiD ⊢
        obtain ⟨x, hx, hc⟩ := h.toL hy hiD
        rw [← core_i hc]
        refine .miss hx (by rw [core_d hc]; exact hd) fun hh => hm ?_
        have := h.there d
        rw [thereB_iff.2 hh] at this
        exact of_decide_eq_true this.symm
      | step hx0 hd0 hi0 hl0 ih =>
        rename_i x d1 j
        intro e hiD
        obtain ⟨z, hz, hc⟩ := h.toL hx0 hiD
        by_cases hdD : d1 ∈ D
        · have h2 := hl0.stays h.nd h.cl hdD
          rw [e] at h2
          exact absurd (h.sub _ (h.cl y hy h2 d hd)) hm
        · rw [← core_i hc]
          exact .step hz (by rw [core_d hc]; exact hd0) (ih e hdD)
    exact key hl rfl hiD
theorem EP.free (h : EP Y L D) {O : List Id} (hO : ∀ i, i ∈ O ↔ Stuck L D i) {i : Id} (hi : i ∈ idsX Y) (hiD : i ∉ D) {inn : List Rv} {out : List Id} (hc : ClO (srtR Y) i inn out) : out = [] ↔ i ∉ O := by
  have hp := srtR_perm Y
  rw [clo_none (Sd.of h.nd) ((hp.map Rv.id).mem_iff.2 hi) hc, hO, h.stuck hi hiD, Classical.not_not]
  constructor
  · exact fun hh y hy hl d hd => (hp.map Rv.id).mem_iff.1 (hh y (hp.mem_iff.2 hy) (hl.mono fun z hz => hp.mem_iff.2 hz) d hd)
  · exact fun hh y hy hl d hd => (hp.map Rv.id).mem_iff.2 (hh y (hp.mem_iff.1 hy) (hl.mono fun z hz => hp.mem_iff.1 hz) d hd)
/-- those that may run -/
def mayL (Y : List Rv) (D O : List Id) : List Rv := (Y.filter fun x => !decide (x.id ∈ D) && !decide (x.id ∈ O)).map (rest D)
theorem fil_core (p : Id → Bool) (X : List Rv) : (X.filter fun x => p x.id).map core = (X.map core).filter fun x => p x.id := by
  rw [List.filter_map]
  rfl
theorem EP.ready (h : EP Y L D) (O : List Id) : (readyL L D O).Perm (mayL Y D O) := by
  have e1 : readyL L D O = ((L.map core).filter fun x => !decide (x.id ∈ O)).map (rest D) := by
    rw [← fil_core (fun i => !decide (i ∈ O)), List.map_map]
    rfl
  have e2 : mayL Y D O = (((Y.filter fun x => !decide (x.id ∈ D)).map core).filter fun x => !decide (x.id ∈ O)).map (rest D) := by
    rw [← fil_core (fun i => !decide (i ∈ O)), List.map_map, List.filter_filter]
    unfold mayL
    congr 1
    refine List.filter_congr fun x _ => ?_
    rw [Bool.and_comm]
  rw [e1, e2]
  exact (h.wt.filter _).map _
theorem EP.run (h : EP Y L D) {O out : List Id} (hO : ∀ i, i ∈ O ↔ Stuck L D i) (ho : out.Perm (idsX (L.filter fun x => !decide (x.id ∈ O)))) : EP Y (stayL L O) (D ++ out) := by
  have hno : out.Nodup := ho.nodup_iff.2 (h.lnd.sublist (List.filter_sublist.map _))
  have hof : ∀ i, i ∈ out ↔ i ∈ idsX L ∧ i ∉ O := fun i => by
    rw [ho.mem_iff]
    constructor
    · intro hi
      obtain ⟨z, hz, rfl⟩ := List.mem_map.1 hi
      obtain ⟨h1, h2⟩ := List.mem_filter.1 hz
      exact ⟨List.mem_map.2 ⟨z, h1, rfl⟩, by simpa using h2⟩
    · rintro ⟨hi, h2⟩
      obtain ⟨z, hz, rfl⟩ := List.mem_map.1 hi
      exact List.mem_map.2 ⟨z, List.mem_filter.2 ⟨hz, by simpa using h2⟩, rfl⟩
  refine ⟨h.nd, ?_, fun i hi => ?_, fun x hx hxd d hd => ?_, ?_⟩
  · have e1 : (stayL L O).map core = (L.map core).filter fun x => decide (x.id ∈ O) := fil_core (fun i => decide (i ∈ O)) L
    have e2 : (Y.filter fun x => !decide (x.id ∈ D ++ out)).map core = ((Y.filter fun x => !decide (x.id ∈ D)).map core).filter fun x => decide (x.id ∈ O) := by
      rw [← fil_core (fun i => decide (i ∈ O)), List.filter_filter]
      congr 1
      refine List.filter_congr fun x hx => ?_
      have hxY : x.id ∈ idsX Y := List.mem_map.2 ⟨x, hx, rfl⟩
      rw [Bool.eq_iff_iff]
      simp only [Bool.not_eq_true', decide_eq_false_iff_not, Bool.and_eq_true, decide_eq_true_eq, List.mem_append, not_or]
      constructor
      · rintro ⟨h1, h2⟩
        exact ⟨Classical.byContradiction fun h3 => h2 ((hof _).2 ⟨(h.has _).2 ⟨hxY, h1⟩, h3⟩), h1⟩
      · rintro ⟨h1, h2⟩
        exact ⟨h2, fun h3 => ((hof _).1 h3).2 h1⟩
    rw [e1, e2]
    exact h.wt.filter _
  · rcases List.mem_append.1 hi with hi | hi
    · exact h.sub i hi
    · exact ((h.has i).1 ((hof i).1 hi).1).1
  · rcases List.mem_append.1 hxd with hxd | hxd
    · exact List.mem_append_left _ (h.cl x hx hxd d hd)
    · obtain ⟨h1, h2⟩ := (hof _).1 hxd
      have hxD := ((h.has _).1 h1).2
      have hns : ¬ Stuck L D x.id := fun hs => h2 ((hO _).2 hs)
      have hxY : x.id ∈ idsX Y := List.mem_map.2 ⟨x, hx, rfl⟩
      have hall := Classical.byContradiction fun hc => hns ((h.stuck hxY hxD).2 hc)
      have hdY := hall x hx (.refl _) d hd
      by_cases hdD : d ∈ D
      · exact List.mem_append_left _ hdD
      · refine List.mem_append_right _ ((hof d).2 ⟨(h.has d).2 ⟨hdY, hdD⟩, fun hdO => ?_⟩)
        obtain ⟨z, hz, hc⟩ := h.toL hx hxD
        exact hns (by rw [← core_i hc]; exact .step hz (by rw [core_d hc]; exact hd) ((hO d).1 hdO))
  · refine List.nodup_append.2 ⟨h.dn, hno, fun a ha b hb e => ?_⟩
    subst e
    exact ((h.has a).1 ((hof a).1 hb).1).2 ha
/-- what is needed -/
theorem EP.needs (h : EP Y L D) : setI (needsL L D L) = setI ((Y.filter fun x => !decide (x.id ∈ D)).flatMap fun x => x.deps.filter fun d => !decide (d ∈ idsX Y)) := by
  refine setI_same fun d => ?_
  constructor
  · intro hd
    obtain ⟨x, hx, h1⟩ := List.mem_flatMap.1 hd
    obtain ⟨h2, h3⟩ := List.mem_filter.1 h1
    obtain ⟨y, hy, hc, hyD⟩ := h.toY hx
    rw [h.there] at h3
    exact List.mem_flatMap.2 ⟨y, List.mem_filter.2 ⟨hy, by simpa using hyD⟩, List.mem_filter.2 ⟨by rw [← core_d hc]; exact h2, h3⟩⟩
  · intro hd
    obtain ⟨y, hy, h1⟩ := List.mem_flatMap.1 hd
    obtain ⟨h2, h3⟩ := List.mem_filter.1 h1
    obtain ⟨hy1, hy2⟩ := List.mem_filter.1 hy
    obtain ⟨x, hx, hc⟩ := h.toL hy1 (by simpa using hy2)
    refine List.mem_flatMap.2 ⟨x, hx, List.mem_filter.2 ⟨by rw [core_d hc]; exact h2, ?_⟩⟩
    rw [h.there]
    exact h3
end
end Go.Proofs.YtndfhejfhfhbdaaGreatDoor.O

/- Two engines side by side: what each call makes of the two. -/
namespace Go.Proofs.YtndfhejfhfhbdaaGreatDoor.O
open Go.RowKit Go.Proofs.YtndfhejfhfhbdaaGreatDoor.M Go.BigFrame Go.Proofs.YtndfhejfhfhbdaaGreatDoor.K
set_option linter.unusedVariables false
set_option linter.unusedSimpArgs false

/-- an engine, and the blocks that are its own -/
structure Eng (w : World) (p n : Nat) (L : List Rv) (D : List Id) (F : Nat → Prop) : Prop where
  ex : ∃ b1 b2 ro rc, EngAt w p b1 b2 n D.length ro rc L D ∧ ∀ j, EngF p b1 b2 ro j → F j
  dp : ∀ x ∈ L, ∀ a, x.ao = some a → x.deps ≠ [] → F a.block
  lt : ∀ j, F j → j < w.heap.size
def FGrow (F : Nat → Prop) (w w' : World) : Nat → Prop := fun j => F j ∨ (w.heap.size ≤ j ∧ j < w'.heap.size)
theorem Eng.keep {w w1 : World} {p n : Nat} {L : List Rv} {D : List Id} {F S : Nat → Prop} (h : Eng w p n L D F) (hm : Mods S w w1) (hn : ∀ j, F j → ¬ S j) : Eng w1 p n L D F := by
  obtain ⟨b1, b2, ro, rc, h1, h2⟩ := h.ex
  exact ⟨⟨b1, b2, ro, rc, h1.keep hm (fun j hj => hn j (h2 j hj)) (fun x hx a e hne => hn _ (h.dp x hx a e hne)), h2⟩, h.dp, fun j hj => Nat.lt_of_lt_of_le (h.lt j hj) hm.size⟩
theorem Eng.below {w w1 : World} {p n : Nat} {L : List Rv} {D : List Id} {F : Nat → Prop} (h : Eng w p n L D F) (hb : Below w.heap.size w w1) : Eng w1 p n L D F :=
  h.keep (S := fun _ => False) (M.Mods.of_below hb) (fun _ _ h => h)
theorem Eng.nd {w : World} {p n : Nat} {L : List Rv} {D : List Id} {F : Nat → Prop} (h : Eng w p n L D F) : (idsX L).Nodup := by
  obtain ⟨_, _, _, _, h1, _⟩ := h.ex
  exact h1.wt.nd
theorem eng_new (w : World) :
    Calls Tryz.prog 28 #[] w fun e w' => ∃ p F, e = .returned (.pointer (some ⟨p, 0, none⟩)) ∧ (Eng w' p 0 [] [] F ∧ (∀ j, F j → w.heap.size ≤ j) ∧ Below w.heap.size w w') := by
  refine (engnew_any w).mono ?_
  rintro e w' ⟨p, b1, b2, rfl, h1, h2, h3⟩
  exact ⟨p, EngF p b1 b2 none, rfl, ⟨⟨b1, b2, none, 0, h1, fun _ h => h⟩, fun x hx => (by cases hx), h1.lts⟩, h2, h3⟩
theorem eng_commit (p n : Nat) (L : List Rv) (D : List Id) (F : Nat → Prop) (x : Rv) (w : World) (h : Eng w p n L D F) (h0 : RvOk w x) (hT : Go.Proofs.YtndfhejfhfhbdaaGreatDoor.R.Tabs w) (hl : x.deps.length ≤ 1000000) (hk : x.cmd.key.size ≤ 1000000) (hn : n ≤ 1000000) (hg : goodR x = true) (hth : thereB L D x.id = false) :
    Calls Tryz.prog 29 #[.pointer (some ⟨p, 0, none⟩), recV x] w fun e w' => e = .returned (.bool true) ∧ ∃ y, core y = core x ∧ Eng w' p (n + 1) (L ++ [y]) D (FGrow F w w') ∧ Mods F w w' := by
  obtain ⟨b1, b2, ro, rc, h1, h2⟩ := h.ex
  refine (engcommit_yes p b1 b2 n D.length ro rc L D x w h1 h0 hT hl hk hn hg hth).mono ?_
  rintro e w' ⟨ao, cap, rfl, g1, g2, g3⟩
  refine ⟨rfl, { x with ao := ao, cap := cap }, rfl, ⟨⟨b1, b2, ro, rc, g1, fun j hj => .inl (h2 j hj)⟩, fun z hz a e hne => ?_, fun j hj => ?_⟩, g2.mono fun k _ e => by rw [e]; exact h2 _ (.inr (.inl rfl))⟩
  · rcases List.mem_append.1 hz with hz | hz
    · exact .inl (h.dp z hz a e hne)
    · have := (g1.ok z (List.mem_append_right _ hz)).1.deps.blt a e hne
      rw [List.mem_singleton.1 hz] at e
      exact .inr ⟨g3 a e, this⟩
  · rcases hj with hj | hj
    · exact Nat.lt_of_lt_of_le (h.lt j hj) g2.size
    · exact hj.2
theorem eng_done (p n : Nat) (L : List Rv) (D : List Id) (F : Nat → Prop) (i : Id) (w : World) (h : Eng w p n L D F) (hi : IdI i) (v : Bool) (hv : decide (i ∈ D) = v) :
    Calls Tryz.prog 37 #[.pointer (some ⟨p, 0, none⟩), idV i] w fun e w' => e = .returned (.bool v) ∧ Below w.heap.size w w' := by
  obtain ⟨b1, b2, ro, rc, h1, _⟩ := h.ex
  exact engdone_any p b1 b2 n D.length ro rc L D i w h1 hi v hv
theorem eng_exec (p n : Nat) (L : List Rv) (D : List Id) (F : Nat → Prop) (w : World) (h : Eng w p n L D F) (hD : D.length ≤ 1000000) :
    Calls Tryz.prog 33 #[.pointer (some ⟨p, 0, none⟩)] w fun e w' => ∃ oo oc, e = .returned (.slice oo D.length oc) ∧ (IdsV w' oo oc D ∧ Below w.heap.size w w') := by
  obtain ⟨b1, b2, ro, rc, h1, _⟩ := h.ex
  refine (engexec_any p b1 b2 n D.length ro rc L D w h1 hD).mono ?_
  rintro e w' ⟨oo, oc, rfl, g1, g2⟩
  exact ⟨oo, oc, rfl, IdsV.of_own g1 h1.di, g2⟩
/-- an engine that has had A's records committed, of X's; D are executed -/
structure ESt (w : World) (p : Nat) (X : List Rv) (A D : List Id) (F : Nat → Prop) : Prop where
  ex : ∃ n L, Eng w p n L D F ∧ EI X L D ∧ n ≤ A.length ∧ (idsX L ++ D).Perm A
section
variable {w : World} {p : Nat} {X : List Rv} {A D : List Id} {F : Nat → Prop}
theorem ESt.keep {w1 : World} {S : Nat → Prop} (h : ESt w p X A D F) (hm : Mods S w w1) (hn : ∀ j, F j → ¬ S j) : ESt w1 p X A D F := by
  obtain ⟨n, L, h1, h2⟩ := h.ex
  exact ⟨n, L, h1.keep hm hn, h2⟩
theorem ESt.lt (h : ESt w p X A D F) : ∀ j, F j → j < w.heap.size := by
  obtain ⟨n, L, h1, h2⟩ := h.ex
  exact h1.lt
theorem ESt.len (h : ESt w p X A D F) : D.length ≤ A.length := by
  obtain ⟨n, L, _, _, _, h1⟩ := h.ex
  have := h1.length_eq
  rw [List.length_append] at this
  omega
end
/-- where the records of a row lie -/
def TAt (w : World) (ta : Option Addr) (T : List Rv) : Prop := ∀ i x, T[i]? = some x → ∃ b off, ta = some ⟨b, off, none⟩ ∧ b < w.heap.size ∧ RecAt w b (off + i * 16) x
theorem TAt.keep {w w1 : World} {ta : Option Addr} {T : List Rv} {S : Nat → Prop} (h : TAt w ta T) (hm : Mods S w w1) (hn : ∀ a, ta = some a → ¬ S a.block) : TAt w1 ta T := fun i x hi => by
  obtain ⟨b, off, e, hl, hr⟩ := h i x hi
  exact ⟨b, off, e, Nat.lt_of_lt_of_le hl hm.size, .of fun j hj => (hm.cell (p := ⟨b, off + i * 16 + j, none⟩) hl (hn ⟨b, off, none⟩ e)).trans (hr.get j hj)⟩
/-- two engines, and the other row -/
structure AgSt (w0 w : World) (px py : Nat) (X T : List Rv) (ta : Option Addr) (A B Dx Dy : List Id) : Prop where
  ex : ∃ F G, ESt w px X A Dx F ∧ ESt w py X B Dy G ∧ (∀ j, F j → ¬ G j) ∧ (∀ j, F j → w0.heap.size ≤ j) ∧ (∀ j, G j → w0.heap.size ≤ j) ∧ (∀ a, ta = some a → ¬ F a.block ∧ ¬ G a.block ∧ a.block < w.heap.size)
  tt : TAt w ta T
  bl : Below w0.heap.size w0 w
section
variable {w0 w : World} {px py : Nat} {X T : List Rv} {ta : Option Addr} {A B Dx Dy : List Id}
theorem AgSt.below {w1 : World} (h : AgSt w0 w px py X T ta A B Dx Dy) (hb : Below w.heap.size w w1) : AgSt w0 w1 px py X T ta A B Dx Dy := by
  obtain ⟨F, G, h1, h2, h3, h4, h5, h6⟩ := h.ex
  have hm : Mods (fun _ => False) w w1 := M.Mods.of_below hb
  exact ⟨⟨F, G, h1.keep hm (fun _ _ h => h), h2.keep hm (fun _ _ h => h), h3, h4, h5, fun a e => ⟨(h6 a e).1, (h6 a e).2.1, Nat.lt_of_lt_of_le (h6 a e).2.2 hb.size⟩⟩, h.tt.keep hm (fun _ _ h => h), h.bl.trans (hb.mono h.bl.size)⟩
end
end Go.Proofs.YtndfhejfhfhbdaaGreatDoor.O

/- A region that draws its order, by an invariant over what is done: each operation shown once. -/
namespace Go.Proofs.YtndfhejfhfhbdaaGreatDoor.M
open Go.RowKit
set_option linter.unusedVariables false
section
variable {P : Program} {ops : Array Oper} {Q : Exit → Act → World → Prop}
/-- each operation waits for earlier ones alone -/
def fwdB (ops : Array Oper) : Bool := (List.range ops.size).all fun i => ((ops[i]?).map fun o => o.after.all fun e => !Region.binds .any e || decide (e.on < i)).getD true
theorem fwd_of (h : fwdB ops = true) {i : Nat} {o : Oper} (hi : ops[i]? = some o) : ∀ e ∈ o.after, Region.binds .any e = true → e.on < i := by
  intro e he hb
  have hil : i < ops.size := (Array.getElem?_eq_some_iff.1 hi).1
  have h1 := List.all_eq_true.1 h i (List.mem_range.2 hil)
  rw [hi] at h1
  simp only [Option.map_some, Option.getD_some] at h1
  have h2 := Array.all_eq_true_iff_forall_mem.1 h1 e he
  rw [hb] at h2
  simpa using h2
theorem getD_true_false {l : Array Bool} {i : Nat} (hi : i < l.size) : l.getD i true = l.getD i false := by
  simp [Array.getD, hi]
theorem ready_some (hf : fwdB ops = true) {listed : Array Bool} (hs : listed.size = ops.size) : ∀ i, i < ops.size → listed.getD i true = false → Region.ready .any ops listed ≠ [] := by
  intro i
  induction i using Nat.strongRecOn with
  | _ i ih =>
    intro hi hn hr
    have ho : ops[i]? = some (ops[i]'hi) := Array.getElem?_eq_getElem hi
    by_cases hall : ∀ e ∈ (ops[i]'hi).after, Region.binds .any e = true → listed.getD e.on false = true
    · have : i ∈ Region.ready .any ops listed := mem_ready.2 ⟨hn, _, ho, hall⟩
      rw [hr] at this
      cases this
    · have : ∃ e, e ∈ (ops[i]'hi).after ∧ Region.binds .any e = true ∧ listed.getD e.on false = false := by
        refine Classical.byContradiction fun hc => hall fun e he hb => ?_
        cases hl : listed.getD e.on false with
        | true => rfl
        | false => exact absurd ⟨e, he, hb, hl⟩ hc
      obtain ⟨e, he, hb, hl⟩ := this
      have hlt := fwd_of hf ho e he hb
      exact ih e.on hlt (by omega) (by rw [getD_true_false (by omega)]; exact hl) hr
def openN (l : Array Bool) : Nat := l.toList.count false
theorem openN_set {l : Array Bool} {i : Nat} (hi : i < l.size) (hn : l.getD i true = false) : openN l = openN (l.setIfInBounds i true) + 1 := by
  unfold openN
  rw [Array.toList_setIfInBounds]
  have hil : i < l.toList.length := by simpa using hi
  have hg : l.toList[i]'hil = false := by
    have : l.getD i true = l[i] := by simp [Array.getD, hi]
    rw [this] at hn
    simpa using hn
  have hpos : 0 < l.toList.count false := List.count_pos_iff.2 (by rw [← hg]; exact List.getElem_mem hil)
  rw [List.count_set hil, hg]
  simp only [BEq.rfl, if_true, show (true == false) = false from rfl, Bool.false_eq_true, if_false]
  omega
theorem openN_zero {l : Array Bool} (h : openN l = 0) {i : Nat} (hi : i < l.size) : l.getD i true = true := by
  unfold openN at h
  have hg : l.getD i true = l[i] := by simp [Array.getD, hi]
  rw [hg]
  cases hl : l[i] with
  | true => rfl
  | false =>
    have := List.count_eq_zero.1 h
    exact absurd (by rw [← hl]; exact Array.mem_toList_iff.2 (Array.getElem_mem hi)) this
/-- A REGION that draws its order: what holds is kept by each operation that may come up. -/
theorem wp_region_inv {id : Nat} {arr : Array Value} {w : World} (I : Array Value → Array Bool → Act → World → Prop) (hm : P.follows .mixedOrders = true) (hf : fwdB ops = true)
    (h0 : I arr (Array.replicate ops.size false) ⟨arr, []⟩ { w with drawn := w.drawn + 1 })
    (hstep : ∀ (listed : Array Bool) (a : Act) (w : World) (i : Nat) (o : Oper), I arr listed a w → i < ops.size → ops[i]? = some o → listed.getD i true = false → (∀ e ∈ o.after, Region.binds .any e = true → listed.getD e.on false = true) →
      wpOp P ops Q i (I arr (listed.setIfInBounds i true)) a w)
    (hdone : ∀ (listed : Array Bool) (a : Act) (w : World), I arr listed a w → (∀ i, i < ops.size → listed.getD i true = true) → Q .normal a w) : (Code.region id ops true).wp P Q ⟨arr, []⟩ w := by
  refine wp_region_any hm ?_
  have key : ∀ (f : Nat) (listed : Array Bool) (a : Act) (w : World), listed.size = ops.size → openN listed = f → I arr listed a w → wpAny P .any ops Q f listed a w := by
    intro f
    induction f with
    | zero =>
      intro listed a w hs hc hI
      have hall : ∀ i, i < ops.size → listed.getD i true = true := fun i hi => openN_zero hc (by omega)
      refine ⟨List.eq_nil_iff_forall_not_mem.2 fun i hi => ?_, hdone listed a w hI hall⟩
      obtain ⟨hn, o, ho, _⟩ := mem_ready.1 hi
      rw [hall i (Array.getElem?_eq_some_iff.1 ho).1] at hn
      cases hn
    | succ f ih =>
      intro listed a w hs hc hI
      refine ⟨fun hr => ?_, fun i hi => ?_⟩
      · have : ∃ i, i < ops.size ∧ listed.getD i true = false := by
          have hpos : 0 < listed.toList.count false := by unfold openN at hc; omega
          obtain ⟨i, hi, he⟩ := List.mem_iff_getElem.1 (List.count_pos_iff.1 hpos)
          have hi2 : i < listed.size := by simpa using hi
          refine ⟨i, by omega, ?_⟩
          have hg : listed.getD i true = listed[i] := by simp [Array.getD, hi2]
          rw [hg]
          simpa using he
        obtain ⟨i, hi, hn⟩ := this
        exact absurd hr (ready_some hf hs i hi hn)
      · obtain ⟨hn, o, ho, hall⟩ := mem_ready.1 hi
        have hil := (Array.getElem?_eq_some_iff.1 ho).1
        have hcc := openN_set (l := listed) (i := i) (by omega) hn
        exact wpOp_mono (fun a' w' h => ih _ a' w' (by simpa using hs) (by omega) h) (hstep listed a w i o hI hil ho hn hall)
  refine key _ _ _ _ (by simp) ?_ h0
  unfold openN
  simp
/-- one operation, what follows behind a variable -/
theorem wpOp_hid {K : Act → World → Prop} {i : Nat} {o : Oper} {a : Act} {w : World} (hi : ops[i]? = some o)
    (h : ∀ K' : Act → World → Prop, Hid (∀ a w, K a w → K' a w) → if Region.wanted o (yielded ops a.tmps) = true then Oper.wp P o a w K' Q else K' (a.put o.dst undef) w) : wpOp P ops Q i K a w := by
  unfold wpOp
  rw [hi]
  simp only
  have := h K (Lib.hid fun _ _ h => h)
  split
  · rename_i hw
    rw [if_pos hw] at this
    exact .inl this
  · rename_i hw
    rw [if_neg hw] at this
    exact this
end
end Go.Proofs.YtndfhejfhfhbdaaGreatDoor.M
