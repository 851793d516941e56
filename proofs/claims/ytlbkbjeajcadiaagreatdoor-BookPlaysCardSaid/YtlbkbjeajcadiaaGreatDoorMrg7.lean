/- Several texts in one. -/
import Derived.Test.YtlbkbjeajcadiaaGreatDoorMrg1
import Derived.Test.YtlbkbjeajcadiaaGreatDoorMrg6
import Derived.Test.YtlbkbjeajcadiaaGreatDoorMpl

/- Plain law of the index (no program in sight): which instances a command meets. -/
namespace Go.Proofs.YtlbkbjeajcadiaaGreatDoor.B
open Go.Proofs.YtlbkbjeajcadiaaGreatDoor.O Go.Proofs.YtlbkbjeajcadiaaGreatDoor.P Go.Proofs.YtlbkbjeajcadiaaGreatDoor.Mp
set_option linter.unusedVariables false
set_option linter.unusedSimpArgs false

/-- what an id has -/
structure En where
  c : Cmd
  seq : Int
def wideB (c : Cmd) : Bool := decide (c.kind = 5) || decide (c.kind = 6)
/-- who meets has a key, or a client, or looks at many keys -/
theorem meet_near {c d : Cmd} (h : meet c d = true) : wideB c = true ∨ wideB d = true ∨ d.key = c.key ∨ d.client = c.client := by
  unfold meet at h
  unfold wideB
  split at h
  · cases h
  · split at h
    · rename_i h2
      simp only [Bool.or_eq_true, decide_eq_true_eq] at h2 ⊢
      rcases h2 with (h2 | h2) | h2
      · exact .inl (.inr h2)
      · exact .inr (.inl (.inr h2))
      · exact .inr (.inr (.inr h2.symm))
    · rw [Bool.and_eq_true] at h
      have h3 := h.2
      unfold keysMeet at h3
      simp only [Bool.or_eq_true, Bool.and_eq_true, decide_eq_true_eq] at h3 ⊢
      rcases h3 with (h3 | h3) | h3
      · exact .inr (.inr (.inl h3.symm))
      · exact .inl (.inl h3.1)
      · exact .inr (.inl (.inl h3.1))
/-- a group's ids -/
def gids (g : List (O.Id × Bool)) : List O.Id := g.map Prod.fst
theorem gids_del {g : List (O.Id × Bool)} {i j : O.Id} : j ∈ gids (delD g i) ↔ j ∈ gids g ∧ j ≠ i := by
  unfold gids delD
  constructor
  · intro h
    obtain ⟨p, hp, rfl⟩ := List.mem_map.1 h
    rw [List.mem_filter] at hp
    exact ⟨List.mem_map.2 ⟨p, hp.1, rfl⟩, by simpa using hp.2⟩
  · rintro ⟨h, hn⟩
    obtain ⟨p, hp, rfl⟩ := List.mem_map.1 h
    exact List.mem_map.2 ⟨p, List.mem_filter.2 ⟨hp, by simpa using hn⟩, rfl⟩
theorem gids_put {g : List (O.Id × Bool)} {i j : O.Id} {v : Bool} : j ∈ gids (putD g i v) ↔ j ∈ gids g ∨ j = i := by
  have h : gids (putD g i v) = gids (delD g i) ++ [i] := by unfold gids putD; rw [List.map_append]; rfl
  rw [h, List.mem_append, gids_del, List.mem_singleton]
  constructor
  · rintro (h | h)
    · exact .inl h.1
    · exact .inr h
  · rintro (h | h)
    · by_cases e : j = i
      · exact .inr e
      · exact .inl ⟨h, e⟩
    · exact .inr h
theorem mem_delD {κ ν : Type} [DecidableEq κ] {L : List (κ × ν)} {k : κ} {p : κ × ν} : p ∈ delD L k ↔ p ∈ L ∧ p.1 ≠ k := by
  unfold delD
  rw [List.mem_filter]
  simp
/-- the index: what each id has; the keys' and the clients' groups by their blocks; those of many keys -/
structure IxP (A : List (O.Id × En)) (KM : List (ByteArray × Nat)) (CM : List (Int × Nat)) (G : Nat → List (O.Id × Bool)) (GW : List (O.Id × Bool)) : Prop where
  na : (A.map Prod.fst).Nodup
  nk : (KM.map Prod.fst).Nodup
  nc : (CM.map Prod.fst).Nodup
  nb : (KM.map Prod.snd ++ CM.map Prod.snd).Nodup
  key : ∀ i e, (i, e) ∈ A → ∃ b, (e.c.key, b) ∈ KM ∧ i ∈ gids (G b)
  cli : ∀ i e, (i, e) ∈ A → ∃ b, (e.c.client, b) ∈ CM ∧ i ∈ gids (G b)
  wid : ∀ i e, (i, e) ∈ A → wideB e.c = true → i ∈ gids GW
  keyR : ∀ k b i, (k, b) ∈ KM → i ∈ gids (G b) → ∃ e, (i, e) ∈ A ∧ e.c.key = k
  cliR : ∀ k b i, (k, b) ∈ CM → i ∈ gids (G b) → ∃ e, (i, e) ∈ A ∧ e.c.client = k
  widR : ∀ i, i ∈ gids GW → ∃ e, (i, e) ∈ A ∧ wideB e.c = true
theorem IxP.nil : IxP [] [] [] (fun _ => []) [] := ⟨.nil, .nil, .nil, .nil, fun _ _ h => (by cases h), fun _ _ h => (by cases h), fun _ _ h => (by cases h), fun _ _ _ h => (by cases h), fun _ _ _ h => (by cases h), fun _ h => (by cases h)⟩
section
variable {A : List (O.Id × En)} {KM : List (ByteArray × Nat)} {CM : List (Int × Nat)} {G : Nat → List (O.Id × Bool)} {GW : List (O.Id × Bool)}
theorem IxP.one (h : IxP A KM CM G GW) {i : O.Id} {e f : En} (he : (i, e) ∈ A) (hf : (i, f) ∈ A) : e = f := by
  have h1 := findD_of h.na he
  have h2 := findD_of h.na hf
  rw [h1] at h2
  exact Option.some.inj h2
/-- an id is taken out of its groups -/
def dropG (G : Nat → List (O.Id × Bool)) (bk bc : Nat) (i : O.Id) : Nat → List (O.Id × Bool) := fun b => if b = bk ∨ b = bc then delD (G b) i else G b
theorem IxP.drop (h : IxP A KM CM G GW) {i : O.Id} {e : En} {bk bc : Nat} (he : (i, e) ∈ A) (hk : (e.c.key, bk) ∈ KM) (hc : (e.c.client, bc) ∈ CM) : IxP (delD A i) KM CM (dropG G bk bc i) (delD GW i) := by
  have hsub : ∀ {j : O.Id} {b : Nat}, j ≠ i → (j ∈ gids (dropG G bk bc i b) ↔ j ∈ gids (G b)) := fun {j b} hj => by
    unfold dropG
    split
    · rw [gids_del]; exact ⟨fun h => h.1, fun h => ⟨h, hj⟩⟩
    · exact Iff.rfl
  have hno : ∀ {k : ByteArray} {b : Nat}, (k, b) ∈ KM → i ∉ gids (dropG G bk bc i b) := fun {k b} hb hi => by
    unfold dropG at hi
    split at hi
    · rw [gids_del] at hi; exact hi.2 rfl
    · rename_i hne
      obtain ⟨f, hf, e1⟩ := h.keyR k b i hb hi
      obtain rfl := h.one he hf
      have h1 := findD_of h.nk hb
      have h2 := findD_of h.nk hk
      rw [← e1, h2] at h1
      exact hne (.inl (Option.some.inj h1).symm)
  have hno2 : ∀ {k : Int} {b : Nat}, (k, b) ∈ CM → i ∉ gids (dropG G bk bc i b) := fun {k b} hb hi => by
    unfold dropG at hi
    split at hi
    · rw [gids_del] at hi; exact hi.2 rfl
    · rename_i hne
      obtain ⟨f, hf, e1⟩ := h.cliR k b i hb hi
      obtain rfl := h.one he hf
      have h1 := findD_of h.nc hb
      have h2 := findD_of h.nc hc
      rw [← e1, h2] at h1
      exact hne (.inr (Option.some.inj h1).symm)
  refine ⟨delD_nodup h.na i, h.nk, h.nc, h.nb, fun j f hf => ?_, fun j f hf => ?_, fun j f hf hw => ?_, fun k b j hb hj => ?_, fun k b j hb hj => ?_, fun j hj => ?_⟩
  · rw [mem_delD] at hf
    obtain ⟨b, hb, hg⟩ := h.key j f hf.1
    exact ⟨b, hb, (hsub hf.2).2 hg⟩
  · rw [mem_delD] at hf
    obtain ⟨b, hb, hg⟩ := h.cli j f hf.1
    exact ⟨b, hb, (hsub hf.2).2 hg⟩
  · rw [mem_delD] at hf
    exact gids_del.2 ⟨h.wid j f hf.1 hw, hf.2⟩
  · have hji : j ≠ i := fun e => hno hb (e ▸ hj)
    obtain ⟨f, hf, e1⟩ := h.keyR k b j hb ((hsub hji).1 hj)
    exact ⟨f, mem_delD.2 ⟨hf, hji⟩, e1⟩
  · have hji : j ≠ i := fun e => hno2 hb (e ▸ hj)
    obtain ⟨f, hf, e1⟩ := h.cliR k b j hb ((hsub hji).1 hj)
    exact ⟨f, mem_delD.2 ⟨hf, hji⟩, e1⟩
  · rw [gids_del] at hj
    obtain ⟨f, hf, e1⟩ := h.widR j hj.1
    exact ⟨f, mem_delD.2 ⟨hf, hj.2⟩, e1⟩
/-- blocks tell the keys apart -/
theorem snd_inj {κ : Type} {L : List (κ × Nat)} (h : (L.map Prod.snd).Nodup) {k k2 : κ} {b : Nat} (h1 : (k, b) ∈ L) (h2 : (k2, b) ∈ L) : k = k2 := by
  induction L with
  | nil => cases h1
  | cons a t ih =>
    rw [List.map_cons, List.nodup_cons] at h
    rcases List.mem_cons.1 h1 with e1 | m1
    · rcases List.mem_cons.1 h2 with e2 | m2
      · rw [← e1] at e2
        exact (congrArg Prod.fst e2).symm
      · exact absurd (List.mem_map.2 ⟨_, m2, (congrArg Prod.snd e1 : b = a.2)⟩) h.1
    · rcases List.mem_cons.1 h2 with e2 | m2
      · exact absurd (List.mem_map.2 ⟨_, m1, (congrArg Prod.snd e2 : b = a.2)⟩) h.1
      · exact ih h.2 m1 m2
/-- the groups of a key: the old ones, or one more that is empty -/
def Grew2 {κ : Type} (L L2 : List (κ × Nat)) (k : κ) (b : Nat) (G : Nat → List (O.Id × Bool)) : Prop :=
  (L2 = L ∧ (k, b) ∈ L) ∨ (L2 = L ++ [(k, b)] ∧ k ∉ L.map Prod.fst ∧ G b = [])
theorem Grew2.mem {κ : Type} {L L2 : List (κ × Nat)} {k : κ} {b : Nat} {G : Nat → List (O.Id × Bool)} (h : Grew2 L L2 k b G) : (k, b) ∈ L2 ∧ (∀ p ∈ L, p ∈ L2) ∧ ∀ p ∈ L2, p ∈ L ∨ (p = (k, b) ∧ G b = []) := by
  rcases h with ⟨rfl, h⟩ | ⟨rfl, _, h3⟩
  · exact ⟨h, fun _ h => h, fun _ h => .inl h⟩
  · refine ⟨by simp, fun p hp => List.mem_append_left _ hp, fun p hp => ?_⟩
    rcases List.mem_append.1 hp with hp | hp
    · exact .inl hp
    · exact .inr ⟨List.mem_singleton.1 hp, h3⟩
theorem Grew2.nd {κ : Type} {L L2 : List (κ × Nat)} {k : κ} {b : Nat} {G : Nat → List (O.Id × Bool)} (h : Grew2 L L2 k b G) (hn : (L.map Prod.fst).Nodup) : (L2.map Prod.fst).Nodup := by
  rcases h with ⟨rfl, _⟩ | ⟨rfl, h2, _⟩
  · exact hn
  · rw [List.map_append]
    refine List.nodup_append.2 ⟨hn, by simp, fun a ha c hc => ?_⟩
    simp at hc
    subst hc
    exact fun e => h2 (e ▸ ha)
def putG (G : Nat → List (O.Id × Bool)) (bk bc : Nat) (i : O.Id) : Nat → List (O.Id × Bool) := fun b => if b = bk ∨ b = bc then putD (G b) i true else G b
theorem putG_mem {bk bc b : Nat} {i j : O.Id} : j ∈ gids (putG G bk bc i b) ↔ j ∈ gids (G b) ∨ (j = i ∧ (b = bk ∨ b = bc)) := by
  unfold putG
  split
  · rename_i hb
    rw [gids_put]
    exact or_congr_right ⟨fun e => ⟨e, hb⟩, fun e => e.1⟩
  · rename_i hb
    exact ⟨.inl, fun h => h.elim id fun h => absurd h.2 hb⟩
/-- an id comes in, that wasn't there -/
theorem IxP.put (h : IxP A KM CM G GW) {i : O.Id} (hi : i ∉ A.map Prod.fst) (e : En) {KM2 : List (ByteArray × Nat)} {CM2 : List (Int × Nat)} {bk bc : Nat} (hk : Grew2 KM KM2 e.c.key bk G) (hc : Grew2 CM CM2 e.c.client bc G) (hb : (KM2.map Prod.snd ++ CM2.map Prod.snd).Nodup) :
    IxP (A ++ [(i, e)]) KM2 CM2 (putG G bk bc i) (if wideB e.c = true then putD GW i true else GW) := by
  obtain ⟨hb1, hb2, hb3⟩ := List.nodup_append.1 hb
  obtain ⟨k1, k2, k3⟩ := hk.mem
  obtain ⟨c1, c2, c3⟩ := hc.mem
  refine ⟨?_, hk.nd h.nk, hc.nd h.nc, hb, fun j f hf => ?_, fun j f hf => ?_, fun j f hf hw => ?_, fun k b j hm hj => ?_, fun k b j hm hj => ?_, fun j hj => ?_⟩
  · rw [List.map_append]
    refine List.nodup_append.2 ⟨h.na, by simp, fun a ha c hc => ?_⟩
    simp at hc
    subst hc
    exact fun e => hi (e ▸ ha)
  · rcases List.mem_append.1 hf with hf | hf
    · obtain ⟨b, g1, g2⟩ := h.key j f hf
      exact ⟨b, k2 _ g1, putG_mem.2 (.inl g2)⟩
    · obtain ⟨rfl, rfl⟩ := Prod.mk.inj (List.mem_singleton.1 hf)
      exact ⟨bk, k1, putG_mem.2 (.inr ⟨rfl, .inl rfl⟩)⟩
  · rcases List.mem_append.1 hf with hf | hf
    · obtain ⟨b, g1, g2⟩ := h.cli j f hf
      exact ⟨b, c2 _ g1, putG_mem.2 (.inl g2)⟩
    · obtain ⟨rfl, rfl⟩ := Prod.mk.inj (List.mem_singleton.1 hf)
      exact ⟨bc, c1, putG_mem.2 (.inr ⟨rfl, .inr rfl⟩)⟩
  · rcases List.mem_append.1 hf with hf | hf
    · have h1 := h.wid j f hf hw
      split
      · exact gids_put.2 (.inl h1)
      · exact h1
    · obtain ⟨rfl, rfl⟩ := Prod.mk.inj (List.mem_singleton.1 hf)
      rw [if_pos hw]
      exact gids_put.2 (.inr rfl)
  · rcases putG_mem.1 hj with hj2 | ⟨rfl, hbb⟩
    · rcases k3 _ hm with hm | ⟨e1, e2⟩
      · obtain ⟨f, hf, e1⟩ := h.keyR k b j hm hj2
        exact ⟨f, List.mem_append_left _ hf, e1⟩
      · obtain ⟨rfl, rfl⟩ := Prod.mk.inj e1
        rw [e2] at hj2
        cases hj2
    · refine ⟨e, by simp, ?_⟩
      rcases hbb with rfl | rfl
      · exact (snd_inj hb1 hm k1).symm
      · exact absurd rfl (hb3 _ (List.mem_map.2 ⟨_, hm, rfl⟩) _ (List.mem_map.2 ⟨_, c1, rfl⟩))
  · rcases putG_mem.1 hj with hj2 | ⟨rfl, hbb⟩
    · rcases c3 _ hm with hm | ⟨e1, e2⟩
      · obtain ⟨f, hf, e1⟩ := h.cliR k b j hm hj2
        exact ⟨f, List.mem_append_left _ hf, e1⟩
      · obtain ⟨rfl, rfl⟩ := Prod.mk.inj e1
        rw [e2] at hj2
        cases hj2
    · refine ⟨e, by simp, ?_⟩
      rcases hbb with rfl | rfl
      · exact absurd rfl (hb3 _ (List.mem_map.2 ⟨_, k1, rfl⟩) _ (List.mem_map.2 ⟨_, hm, rfl⟩))
      · exact (snd_inj hb2 hm c1).symm
  · have key : j ∈ gids GW → ∃ f, (j, f) ∈ A ++ [(i, e)] ∧ wideB f.c = true := fun h1 => by
      obtain ⟨f, hf, e1⟩ := h.widR j h1
      exact ⟨f, List.mem_append_left _ hf, e1⟩
    split at hj
    · rename_i hw
      rcases gids_put.1 hj with hj | rfl
      · exact key hj
      · exact ⟨e, by simp, hw⟩
    · exact key hj
/-- the groups that a command looks at: ids that meet it are there -/
theorem IxP.near (h : IxP A KM CM G GW) {c : Cmd} {i : O.Id} {e : En} (he : (i, e) ∈ A) (hm : meet c e.c = true) :
    (wideB c = true ∧ ∃ k b, (k, b) ∈ KM ∧ i ∈ gids (G b)) ∨ (∃ b, (c.key, b) ∈ KM ∧ i ∈ gids (G b)) ∨ (∃ b, (c.client, b) ∈ CM ∧ i ∈ gids (G b)) ∨ i ∈ gids GW := by
  rcases meet_near hm with h1 | h1 | h1 | h1
  · obtain ⟨b, g1, g2⟩ := h.key i e he
    exact .inl ⟨h1, _, b, g1, g2⟩
  · exact .inr (.inr (.inr (h.wid i e he h1)))
  · obtain ⟨b, g1, g2⟩ := h.key i e he
    rw [h1] at g1
    exact .inr (.inl ⟨b, g1, g2⟩)
  · obtain ⟨b, g1, g2⟩ := h.cli i e he
    rw [h1] at g1
    exact .inr (.inr (.inl ⟨b, g1, g2⟩))
end
/-- those that a command meets -/
noncomputable def metL (A : List (O.Id × En)) (c : Cmd) (but : O.Id) : List (O.Id × En) := A.filter fun p => decide (p.1 ≠ but) && meet c p.2.c
end Go.Proofs.YtlbkbjeajcadiaaGreatDoor.B

/- Plain law of the order: components in their order, each sorted within; where each node stands. -/
namespace Go.Proofs.YtlbkbjeajcadiaaGreatDoor.O
open T
set_option linter.unusedVariables false

/-- components, and which one each node is in -/
structure Cmps (E : Nat → List Int) (n : Nat) (L : List (List Nat)) (q : Nat → Nat) : Prop where
  d1 : ∀ v, v < n → ∃ c, L[q v]? = some c ∧ v ∈ c
  d2 : ∀ i c v, L[i]? = some c → v ∈ c → v < n ∧ q v = i
  d3 : ∀ c ∈ L, c.Pairwise (· < ·) ∧ c ≠ []
  d4 : ∀ u w, T.Edge E n u w → q w ≤ q u
  d5 : ∀ u w, u < n → w < n → q u = q w → Path E n u w
/-- the nodes in their order -/
def rowN (wl : Nat → Nat → Bool) (L : List (List Nat)) : List Nat := L.flatMap (srt wl)
/-- one node ahead of another one -/
def Ahd (q : Nat → Nat) (wl : Nat → Nat → Bool) (u v : Nat) : Prop := q u < q v ∨ (q u = q v ∧ wl u v = true)
section
variable {E : Nat → List Int} {n : Nat} {L : List (List Nat)} {q : Nat → Nat} {wl : Nat → Nat → Bool}
theorem Cmps.path (h : Cmps E n L q) {u v : Nat} (hp : Path E n u v) : q v ≤ q u := by
  induction hp with
  | refl => exact Nat.le_refl _
  | step e _ ih => have := h.d4 _ _ e; omega
theorem rowN_mem (h : Cmps E n L q) {v : Nat} : v ∈ rowN wl L ↔ v < n := by
  unfold rowN
  rw [List.mem_flatMap]
  refine ⟨fun ⟨c, hc, hv⟩ => ?_, fun hv => ?_⟩
  · obtain ⟨i, hi⟩ := List.mem_iff_getElem?.1 hc
    exact (h.d2 i c v hi ((srt_perm c).mem_iff.1 hv)).1
  · obtain ⟨c, hc, hvc⟩ := h.d1 v hv
    exact ⟨c, List.mem_of_getElem? hc, (srt_perm c).mem_iff.2 hvc⟩
theorem rowN_pw (h : Cmps E n L q) (hT : Tot wl (List.range n)) : (rowN wl L).Pairwise (Ahd q wl) := by
  unfold rowN
  rw [List.pairwise_flatMap]
  refine ⟨fun c hc => ?_, ?_⟩
  · obtain ⟨i, hi⟩ := List.mem_iff_getElem?.1 hc
    have hT2 : Tot wl c := hT.sub fun x hx => List.mem_range.2 (h.d2 i c x hi hx).1
    refine (srt_sorted hT2 ((h.d3 c hc).1.imp fun h => Nat.ne_of_lt h)).imp_of_mem fun {a b} ha hb hab => .inr ⟨?_, hab⟩
    rw [(h.d2 i c a hi ((srt_perm c).mem_iff.1 ha)).2, (h.d2 i c b hi ((srt_perm c).mem_iff.1 hb)).2]
  · rw [List.pairwise_iff_getElem]
    intro i j hi hj hij x hx y hy
    left
    rw [(h.d2 i _ x (List.getElem?_eq_getElem hi) ((srt_perm _).mem_iff.1 hx)).2, (h.d2 j _ y (List.getElem?_eq_getElem hj) ((srt_perm _).mem_iff.1 hy)).2]
    exact hij
theorem ahd_irr (hT : Tot wl (List.range n)) (u : Nat) : ¬ Ahd q wl u u := by
  rintro (h | ⟨_, h⟩)
  · omega
  · rw [hT.irr] at h; cases h
theorem ahd_asymm (hT : Tot wl (List.range n)) {u v : Nat} (h1 : Ahd q wl u v) (h2 : Ahd q wl v u) : False := by
  rcases h1 with h1 | ⟨e1, h1⟩ <;> rcases h2 with h2 | ⟨e2, h2⟩
  · omega
  · omega
  · omega
  · have := hT.tr _ _ _ h1 h2
    rw [hT.irr] at this; cases this
theorem rowN_nodup (h : Cmps E n L q) (hT : Tot wl (List.range n)) : (rowN wl L).Nodup :=
  (rowN_pw h hT).imp fun {a b} hab e => by subst e; exact ahd_irr hT a hab
theorem rowN_perm (h : Cmps E n L q) (hT : Tot wl (List.range n)) : (rowN wl L).Perm (List.range n) :=
  (List.perm_ext_iff_of_nodup (rowN_nodup h hT) List.nodup_range).2 fun v => (rowN_mem h).trans List.mem_range.symm
theorem rowN_len (h : Cmps E n L q) (hT : Tot wl (List.range n)) : (rowN wl L).length = n := by
  rw [(rowN_perm h hT).length_eq, List.length_range]
theorem idx_pw {R : Nat → Nat → Prop} (hi : ∀ u, ¬ R u u) (ha : ∀ u v, R u v → R v u → False) {l : List Nat} (hp : l.Pairwise R) {u v : Nat} (hu : u ∈ l) (hv : v ∈ l) (h : R u v) : l.idxOf u < l.idxOf v := by
  have l1 := List.idxOf_lt_length_of_mem hu
  have l2 := List.idxOf_lt_length_of_mem hv
  rcases Nat.lt_trichotomy (l.idxOf u) (l.idxOf v) with e | e | e
  · exact e
  · have h1 := List.getElem_idxOf l1
    have h2 := List.getElem_idxOf l2
    have : u = v := by rw [← h1, ← h2]; congr 1
    subst this
    exact absurd h (hi _)
  · have := List.pairwise_iff_getElem.1 hp _ _ l2 l1 e
    rw [List.getElem_idxOf, List.getElem_idxOf] at this
    exact (ha _ _ h this).elim
theorem rowN_place (h : Cmps E n L q) (hT : Tot wl (List.range n)) {u v : Nat} (hu : u < n) (hv : v < n) (hne : u ≠ v) : (rowN wl L).idxOf u < (rowN wl L).idxOf v ↔ Ahd q wl u v := by
  refine ⟨fun h1 => ?_, fun h1 => idx_pw (ahd_irr hT) (fun _ _ => ahd_asymm hT) (rowN_pw h hT) ((rowN_mem h).2 hu) ((rowN_mem h).2 hv) h1⟩
  have back : Ahd q wl v u → False := fun h2 => by
    have := idx_pw (ahd_irr hT) (fun _ _ => ahd_asymm hT) (rowN_pw h hT) ((rowN_mem h).2 hv) ((rowN_mem h).2 hu) h2
    omega
  rcases Nat.lt_trichotomy (q u) (q v) with e | e | e
  · exact .inl e
  · rcases hT.tri u (List.mem_range.2 hu) v (List.mem_range.2 hv) hne with e2 | e2
    · exact .inr ⟨e, e2⟩
    · exact (back (.inr ⟨e.symm, e2⟩)).elim
  · exact (back (.inl e)).elim
/-- of two, one of which leads to the other -/
theorem place_path (h : Cmps E n L q) (hT : Tot wl (List.range n)) {u v : Nat} (hu : u < n) (hv : v < n) (hne : u ≠ v) (hp : Path E n u v) : (rowN wl L).idxOf u < (rowN wl L).idxOf v ↔ (Path E n v u ∧ wl u v = true) := by
  rw [rowN_place h hT hu hv hne]
  have h1 := h.path hp
  refine ⟨fun h2 => ?_, fun h2 => .inr ⟨?_, h2.2⟩⟩
  · rcases h2 with h2 | ⟨h2, h3⟩
    · omega
    · exact ⟨h.d5 v u hv hu h2.symm, h3⟩
  · have := h.path h2.1
    omega
end
end Go.Proofs.YtlbkbjeajcadiaaGreatDoor.O

/- Plain law of the order: nodes with ids, what they hang on, and tags; their graph; the row of their ids. -/
namespace Go.Proofs.YtlbkbjeajcadiaaGreatDoor.O
open T
set_option linter.unusedVariables false

structure Nd where
  id : Id
  deps : List Id
  seq : Int
  tag : Int
instance : Inhabited Nd := ⟨⟨default, [], 0, 0⟩⟩
/-- is one ahead of another one within a component? -/
def wlt (a b : Nd) : Bool := decide (a.tag < b.tag) || (decide (a.tag = b.tag) && ((decide (a.tag = 1) && decide (a.seq < b.seq)) || ((!decide (a.tag = 1) || decide (a.seq = b.seq)) && ilt a.id b.id)))
theorem wlt_iff {a b : Nd} : wlt a b = true ↔ a.tag < b.tag ∨ (a.tag = b.tag ∧ ((a.tag = 1 ∧ a.seq < b.seq) ∨ ((a.tag ≠ 1 ∨ a.seq = b.seq) ∧ ilt a.id b.id = true))) := by
  unfold wlt
  simp only [Bool.or_eq_true, Bool.and_eq_true, decide_eq_true_eq, Bool.not_eq_true', decide_eq_false_iff_not]
theorem wlt_irr (a : Nd) : wlt a a = false := by
  rw [← Bool.not_eq_true, wlt_iff, ilt_irr]
  rintro (h | ⟨_, ⟨_, h⟩ | ⟨_, h⟩⟩)
  · omega
  · omega
  · cases h
theorem wlt_trans {a b c : Nd} (h1 : wlt a b = true) (h2 : wlt b c = true) : wlt a c = true := by
  rw [wlt_iff] at *
  rcases h1 with h1 | ⟨e1, h1⟩
  · rcases h2 with h2 | ⟨e2, h2⟩
    · left; omega
    · left; omega
  · rcases h2 with h2 | ⟨e2, h2⟩
    · left; omega
    · right
      refine ⟨e1.trans e2, ?_⟩
      rcases h1 with ⟨t1, h1⟩ | ⟨t1, h1⟩ <;> rcases h2 with ⟨t2, h2⟩ | ⟨t2, h2⟩
      · left; exact ⟨t1, by omega⟩
      · left; exact ⟨t1, by rcases t2 with t2 | t2; exact absurd (e1 ▸ t1) t2; omega⟩
      · left; exact ⟨by omega, by rcases t1 with t1 | t1; exact absurd (e1.trans t2) t1; omega⟩
      · right
        refine ⟨?_, ilt_trans h1 h2⟩
        rcases t1 with t1 | t1
        · exact .inl t1
        · rcases t2 with t2 | t2
          · left; rw [e1]; exact t2
          · right; exact t1.trans t2
theorem wlt_tri {a b : Nd} (h : a.id ≠ b.id) : wlt a b = true ∨ wlt b a = true := by
  rw [wlt_iff, wlt_iff]
  rcases Int.lt_trichotomy a.tag b.tag with e | e | e
  · exact .inl (.inl e)
  · by_cases t : a.tag = 1
    · rcases Int.lt_trichotomy a.seq b.seq with f | f | f
      · exact .inl (.inr ⟨e, .inl ⟨t, f⟩⟩)
      · rcases ilt_tri h with g | g
        · exact .inl (.inr ⟨e, .inr ⟨.inr f, g⟩⟩)
        · exact .inr (.inr ⟨e.symm, .inr ⟨.inr f.symm, g⟩⟩)
      · exact .inr (.inr ⟨e.symm, .inl ⟨e ▸ t, f⟩⟩)
    · rcases ilt_tri h with g | g
      · exact .inl (.inr ⟨e, .inr ⟨.inl t, g⟩⟩)
      · exact .inr (.inr ⟨e.symm, .inr ⟨.inl (e ▸ t), g⟩⟩)
  · exact .inr (.inl e)
def iln (a b : Nd) : Bool := ilt a.id b.id
def idsOf (s : List Nd) : List Id := s.map (·.id)
/-- of other ids each -/
def Unl (s : List Nd) : Prop := (idsOf s).Nodup
theorem Unl.perm {s t : List Nd} (h : Unl s) (hp : t.Perm s) : Unl t := by
  unfold Unl idsOf at *
  exact (hp.map _).nodup_iff.2 h
theorem Unl.inj {s : List Nd} (h : Unl s) {a b : Nd} (ha : a ∈ s) (hb : b ∈ s) (e : a.id = b.id) : a = b := by
  obtain ⟨i, hi⟩ := List.mem_iff_getElem?.1 ha
  obtain ⟨j, hj⟩ := List.mem_iff_getElem?.1 hb
  have h1 : (idsOf s)[i]? = some a.id := by unfold idsOf; rw [List.getElem?_map, hi]; rfl
  have h2 : (idsOf s)[j]? = some a.id := by unfold idsOf; rw [List.getElem?_map, hj, e]; rfl
  have hl := (List.getElem?_eq_some_iff.1 h1).1
  have : i = j := (List.getElem?_inj hl h).1 (h1.trans h2.symm)
  subst this
  rw [hi] at hj
  exact Option.some.inj hj
theorem Unl.nodup {s : List Nd} (h : Unl s) : s.Nodup := by
  unfold Unl idsOf at h
  exact (List.pairwise_map.1 h).imp fun hab e => hab (by rw [e])
theorem Unl.iln {s : List Nd} (h : Unl s) : Tot iln s :=
  ⟨fun a => ilt_irr _, fun a b c => ilt_trans, fun a ha b hb hne => ilt_tri fun e => hne (h.inj ha hb e)⟩
theorem Unl.wlt {s : List Nd} (h : Unl s) : Tot wlt s :=
  ⟨wlt_irr, fun a b c => wlt_trans, fun a ha b hb hne => wlt_tri fun e => hne (h.inj ha hb e)⟩
/-- sorted by their ids -/
def byIds (s : List Nd) : List Nd := srt iln s
theorem byIds_perm (s : List Nd) : (byIds s).Perm s := srt_perm s
theorem byIds_same {s t : List Nd} (h : Unl s) (hp : t.Perm s) : byIds t = byIds s := srt_same h.iln h.nodup hp
theorem byIds_one {s t : List Nd} (h : Unl s) (hp : t.Perm s) (hs : t.Pairwise (fun a b => iln a b = true)) : t = byIds s := srt_one h.iln h.nodup hp hs
/-- the place of an id; -1: it isn't there -/
def atI (l : List Id) (i : Id) : Int := if i ∈ l then (l.idxOf i : Int) else -1
theorem atI_some {l : List Id} (hn : l.Nodup) {i : Id} {k : Nat} (h : l[k]? = some i) : atI l i = k := by
  unfold atI
  rw [if_pos (List.mem_of_getElem? h)]
  obtain ⟨h1, h2⟩ := List.getElem?_eq_some_iff.1 h
  rw [← h2, hn.idxOf_getElem k h1]
theorem atI_get {l : List Id} {i : Id} {k : Nat} (h : atI l i = k) : l[k]? = some i := by
  unfold atI at h
  by_cases hm : i ∈ l
  · rw [if_pos hm] at h
    have : l.idxOf i = k := by omega
    subst this
    rw [List.getElem?_eq_getElem (List.idxOf_lt_length_of_mem hm), List.getElem_idxOf]
  · rw [if_neg hm] at h; omega
theorem atI_neg {l : List Id} {i : Id} : atI l i < 0 ↔ i ∉ l := by
  unfold atI
  by_cases hm : i ∈ l
  · rw [if_pos hm]; simp [hm]
  · rw [if_neg hm]; simp [hm]
/-- the edges: the document's, and the program's -/
def edR (s : List Nd) (u : Nat) : List Int := match s[u]? with
  | some a => a.deps.map (atI (idsOf s))
  | none => []
def edP (s : List Nd) (u : Nat) : List Int := (edR s u).filter fun x => decide (0 ≤ x)
/-- one hangs on the other -/
def Dep (s : List Nd) (u w : Nat) : Prop := ∃ a b, s[u]? = some a ∧ s[w]? = some b ∧ b.id ∈ a.deps
theorem edgeR {s : List Nd} (h : Unl s) {u w : Nat} : T.Edge (edR s) s.length u w ↔ Dep s u w := by
  unfold T.Edge Dep edR
  constructor
  · rintro ⟨hu, hw, hm⟩
    rw [List.getElem?_eq_getElem hu] at hm
    obtain ⟨d, hd, he⟩ := List.mem_map.1 hm
    have := atI_get he
    refine ⟨_, s[w], List.getElem?_eq_getElem hu, List.getElem?_eq_getElem hw, ?_⟩
    unfold idsOf at this
    rw [List.getElem?_map, List.getElem?_eq_getElem hw] at this
    have e : s[w].id = d := Option.some.inj this
    rw [e]; exact hd
  · rintro ⟨a, b, ha, hb, hm⟩
    refine ⟨(List.getElem?_eq_some_iff.1 ha).1, (List.getElem?_eq_some_iff.1 hb).1, ?_⟩
    rw [ha]
    refine List.mem_map.2 ⟨b.id, hm, ?_⟩
    exact atI_some h (by unfold idsOf; rw [List.getElem?_map, hb]; rfl)
theorem edgeP {s : List Nd} (h : Unl s) {u w : Nat} : T.Edge (edP s) s.length u w ↔ Dep s u w := by
  rw [← edgeR h]
  unfold T.Edge edP
  rw [List.mem_filter]
  refine ⟨fun ⟨a, b, c, _⟩ => ⟨a, b, c⟩, fun ⟨a, b, c⟩ => ⟨a, b, c, decide_eq_true (by omega)⟩⟩
theorem path_ext {E E2 : Nat → List Int} {n : Nat} (h : ∀ u w, T.Edge E n u w → T.Edge E2 n u w) {u w : Nat} (hp : Path E n u w) : Path E2 n u w := by
  induction hp with
  | refl => exact .refl _
  | step e _ ih => exact .step (h _ _ e) ih
theorem Cmps.ext {E E2 : Nat → List Int} {n : Nat} {L : List (List Nat)} {q : Nat → Nat} (h : Cmps E n L q) (he : ∀ u w, T.Edge E n u w ↔ T.Edge E2 n u w) : Cmps E2 n L q :=
  ⟨h.d1, h.d2, h.d3, fun u w e => h.d4 u w ((he u w).2 e), fun u w hu hw e => path_ext (fun u w => (he u w).1) (h.d5 u w hu hw e)⟩
/-- by nodes -/
def wln (s : List Nd) (u v : Nat) : Bool := wlt (s.getD u default) (s.getD v default)
theorem getD_at {s : List Nd} {u : Nat} {a : Nd} (h : s[u]? = some a) : s.getD u default = a := by
  rw [List.getD, h]; rfl
theorem wln_tot {s : List Nd} (h : Unl s) : Tot (wln s) (List.range s.length) := by
  refine ⟨fun a => wlt_irr _, fun a b c => wlt_trans, fun a ha b hb hne => ?_⟩
  have ha' := List.mem_range.1 ha
  have hb' := List.mem_range.1 hb
  unfold wln
  rw [getD_at (List.getElem?_eq_getElem ha'), getD_at (List.getElem?_eq_getElem hb')]
  refine wlt_tri fun e => hne ?_
  have h1 := h.inj (List.getElem_mem ha') (List.getElem_mem hb') e
  exact (List.getElem?_inj ha' h.nodup).1 (by rw [List.getElem?_eq_getElem ha', List.getElem?_eq_getElem hb', h1])
section
variable {α β : Type}
theorem insE_map (lt : β → β → Bool) (f : α → β) (x : α) : ∀ l : List α, insE lt (f x) (l.map f) = (insE (fun a b => lt (f a) (f b)) x l).map f
  | [] => rfl
  | a :: l => by
    simp only [List.map_cons, insE]
    by_cases e : lt (f x) (f a) = true
    · rw [if_pos e, if_pos e]; rfl
    · rw [if_neg e, if_neg e, insE_map lt f x l]; rfl
theorem srt_map_gen (lt : β → β → Bool) (f : α → β) : ∀ (l o : List α), (l.map f).foldl (fun o x => insE lt x o) (o.map f) = (l.foldl (fun o x => insE (fun a b => lt (f a) (f b)) x o) o).map f
  | [], o => rfl
  | a :: l, o => by
    simp only [List.map_cons, List.foldl_cons]
    rw [insE_map, srt_map_gen]
theorem srt_map (lt : β → β → Bool) (f : α → β) (l : List α) : srt lt (l.map f) = (srt (fun a b => lt (f a) (f b)) l).map f := srt_map_gen lt f l []
end
/-- the nodes of a component -/
def part (s : List Nd) (c : List Nat) : List Nd := c.map fun i => s.getD i default
/-- the ids of a component, in the order within it -/
def within (l : List Nd) : List Id := idsOf (srt wlt l)
/-- the row of ids -/
def rowI (s : List Nd) (L : List (List Nat)) : List Id := L.flatMap fun c => within (part s c)
theorem rowI_eq (s : List Nd) (L : List (List Nat)) : rowI s L = (rowN (wln s) L).map fun i => (s.getD i default).id := by
  unfold rowI rowN within part idsOf
  rw [List.map_flatMap]
  congr 1
  funext c
  rw [srt_map, List.map_map]
  rfl
theorem id_get {s : List Nd} {u : Nat} (h : u < s.length) : (s.getD u default).id = (idsOf s)[u]'(by unfold idsOf; simpa using h) := by
  rw [getD_at (List.getElem?_eq_getElem h)]
  simp [idsOf]
/-- the place of an id in the row -/
theorem place_row {s : List Nd} (h : Unl s) {l : List Nat} (hl : ∀ x ∈ l, x < s.length) {u : Nat} (hu : u < s.length) {a : Nd} (ha : s[u]? = some a) : atI (l.map fun i => (s.getD i default).id) a.id = if u ∈ l then (l.idxOf u : Int) else -1 := by
  have hinj : ∀ x ∈ l, (s.getD x default).id = a.id → x = u := fun x hx e => by
    have hxl := hl x hx
    rw [getD_at (List.getElem?_eq_getElem hxl)] at e
    have h1 := h.inj (List.getElem_mem hxl) (List.mem_of_getElem? ha) e
    exact (List.getElem?_inj hxl h.nodup).1 (by rw [List.getElem?_eq_getElem hxl, h1, ha])
  have hua : (s.getD u default).id = a.id := by rw [getD_at ha]
  unfold atI
  by_cases hm : u ∈ l
  · rw [if_pos hm, if_pos (List.mem_map.2 ⟨u, hm, hua⟩)]
    congr 1
    clear hl
    induction l with
    | nil => cases hm
    | cons x l ih =>
      rw [List.map_cons, List.idxOf_cons, List.idxOf_cons]
      by_cases e : x = u
      · subst e
        rw [hua]
        simp
      · have e2 : (s.getD x default).id ≠ a.id := fun e3 => e (hinj x List.mem_cons_self e3)
        have b1 : (x == u) = false := by simpa using e
        have b2 : ((s.getD x default).id == a.id) = false := by simpa using e2
        rw [b1, b2]
        simp only [cond_false]
        rw [ih (fun y hy => hinj y (List.mem_cons_of_mem _ hy)) (by rcases List.mem_cons.1 hm with e3 | e3; exact absurd e3.symm e; exact e3)]
  · rw [if_neg hm, if_neg]
    intro hx
    obtain ⟨x, hx, e⟩ := List.mem_map.1 hx
    exact hm (hinj x hx e ▸ hx)
end Go.Proofs.YtlbkbjeajcadiaaGreatDoor.O
