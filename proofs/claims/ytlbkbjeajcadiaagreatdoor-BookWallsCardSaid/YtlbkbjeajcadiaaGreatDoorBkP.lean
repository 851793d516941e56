/- Plain law of the index (no program in sight): which instances a command meets. -/
import Derived.Test.YtlbkbjeajcadiaaGreatDoorMrg1
import Derived.Test.YtlbkbjeajcadiaaGreatDoorMrg3
import Derived.Test.YtlbkbjeajcadiaaGreatDoorMpl
namespace Go.Proofs.YtlbkbjeajcadiaaGreatDoor.B
open Go.Proofs.YtlbkbjeajcadiaaGreatDoor.O Go.Proofs.YtlbkbjeajcadiaaGreatDoor.P Go.Proofs.YtlbkbjeajcadiaaGreatDoor.Mp
set_option linter.unusedVariables false
set_option linter.unusedSimpArgs false

/-- what an id has -/
structure En where
  c : Cmd
  seq : Int
def wideB (c : Cmd) : Bool := decide (c.kind = 5) || decide (c.kind = 6)
/-- who meets has a key, or a client, or looks at many keys -/
theorem meet_near {c d : Cmd} (h : meet c d = true) : wideB c = true ∨ wideB d = true ∨ d.key = c.key ∨ d.client = c.client := by
  unfold meet at h
  unfold wideB
  split at h
  · cases h
  · split at h
    · rename_i h2
      simp only [Bool.or_eq_true, decide_eq_true_eq] at h2 ⊢
      rcases h2 with (h2 | h2) | h2
      · exact .inl (.inr h2)
      · exact .inr (.inl (.inr h2))
      · exact .inr (.inr (.inr h2.symm))
    · rw [Bool.and_eq_true] at h
      have h3 := h.2
      unfold keysMeet at h3
      simp only [Bool.or_eq_true, Bool.and_eq_true, decide_eq_true_eq] at h3 ⊢
      rcases h3 with (h3 | h3) | h3
      · exact .inr (.inr (.inl h3.symm))
      · exact .inl (.inl h3.1)
      · exact .inr (.inl (.inl h3.1))
/-- a group's ids -/
def gids (g : List (O.Id × Bool)) : List O.Id := g.map Prod.fst
theorem gids_del {g : List (O.Id × Bool)} {i j : O.Id} : j ∈ gids (delD g i) ↔ j ∈ gids g ∧ j ≠ i := by
  unfold gids delD
  constructor
  · intro h
    obtain ⟨p, hp, rfl⟩ := List.mem_map.1 h
    rw [List.mem_filter] at hp
    exact ⟨List.mem_map.2 ⟨p, hp.1, rfl⟩, by simpa using hp.2⟩
  · rintro ⟨h, hn⟩
    obtain ⟨p, hp, rfl⟩ := List.mem_map.1 h
    exact List.mem_map.2 ⟨p, List.mem_filter.2 ⟨hp, by simpa using hn⟩, rfl⟩
theorem gids_put {g : List (O.Id × Bool)} {i j : O.Id} {v : Bool} : j ∈ gids (putD g i v) ↔ j ∈ gids g ∨ j = i := by
  have h : gids (putD g i v) = gids (delD g i) ++ [i] := by unfold gids putD; rw [List.map_append]; rfl
  rw [h, List.mem_append, gids_del, List.mem_singleton]
  constructor
  · rintro (h | h)
    · exact .inl h.1
    · exact .inr h
  · rintro (h | h)
    · by_cases e : j = i
      · exact .inr e
      · exact .inl ⟨h, e⟩
    · exact .inr h
theorem mem_delD {κ ν : Type} [DecidableEq κ] {L : List (κ × ν)} {k : κ} {p : κ × ν} : p ∈ delD L k ↔ p ∈ L ∧ p.1 ≠ k := by
  unfold delD
  rw [List.mem_filter]
  simp
/-- the index: what each id has; the keys' and the clients' groups by their blocks; those of many keys -/
structure IxP (A : List (O.Id × En)) (KM : List (ByteArray × Nat)) (CM : List (Int × Nat)) (G : Nat → List (O.Id × Bool)) (GW : List (O.Id × Bool)) : Prop where
  na : (A.map Prod.fst).Nodup
  nk : (KM.map Prod.fst).Nodup
  nc : (CM.map Prod.fst).Nodup
  nb : (KM.map Prod.snd ++ CM.map Prod.snd).Nodup
  key : ∀ i e, (i, e) ∈ A → ∃ b, (e.c.key, b) ∈ KM ∧ i ∈ gids (G b)
  cli : ∀ i e, (i, e) ∈ A → ∃ b, (e.c.client, b) ∈ CM ∧ i ∈ gids (G b)
  wid : ∀ i e, (i, e) ∈ A → wideB e.c = true → i ∈ gids GW
  keyR : ∀ k b i, (k, b) ∈ KM → i ∈ gids (G b) → ∃ e, (i, e) ∈ A ∧ e.c.key = k
  cliR : ∀ k b i, (k, b) ∈ CM → i ∈ gids (G b) → ∃ e, (i, e) ∈ A ∧ e.c.client = k
  widR : ∀ i, i ∈ gids GW → ∃ e, (i, e) ∈ A ∧ wideB e.c = true
theorem IxP.nil : IxP [] [] [] (fun _ => []) [] := ⟨.nil, .nil, .nil, .nil, fun _ _ h => (by cases h), fun _ _ h => (by cases h), fun _ _ h => (by cases h), fun _ _ _ h => (by cases h), fun _ _ _ h => (by cases h), fun _ h => (by cases h)⟩
section
variable {A : List (O.Id × En)} {KM : List (ByteArray × Nat)} {CM : List (Int × Nat)} {G : Nat → List (O.Id × Bool)} {GW : List (O.Id × Bool)}
theorem IxP.one (h : IxP A KM CM G GW) {i : O.Id} {e f : En} (he : (i, e) ∈ A) (hf : (i, f) ∈ A) : e = f := by
  have h1 := findD_of h.na he
  have h2 := findD_of h.na hf
  rw [h1] at h2
  exact Option.some.inj h2
/-- an id is taken out of its groups -/
def dropG (G : Nat → List (O.Id × Bool)) (bk bc : Nat) (i : O.Id) : Nat → List (O.Id × Bool) := fun b => if b = bk ∨ b = bc then delD (G b) i else G b
theorem IxP.drop (h : IxP A KM CM G GW) {i : O.Id} {e : En} {bk bc : Nat} (he : (i, e) ∈ A) (hk : (e.c.key, bk) ∈ KM) (hc : (e.c.client, bc) ∈ CM) : IxP (delD A i) KM CM (dropG G bk bc i) (delD GW i) := by
  have hsub : ∀ {j : O.Id} {b : Nat}, j ≠ i → (j ∈ gids (dropG G bk bc i b) ↔ j ∈ gids (G b)) := fun {j b} hj => by
    unfold dropG
    split
    · rw [gids_del]; exact ⟨fun h => h.1, fun h => ⟨h, hj⟩⟩
    · exact Iff.rfl
  have hno : ∀ {k : ByteArray} {b : Nat}, (k, b) ∈ KM → i ∉ gids (dropG G bk bc i b) := fun {k b} hb hi => by
    unfold dropG at hi
    split at hi
    · rw [gids_del] at hi; exact hi.2 rfl
    · rename_i hne
      obtain ⟨f, hf, e1⟩ := h.keyR k b i hb hi
      obtain rfl := h.one he hf
      have h1 := findD_of h.nk hb
      have h2 := findD_of h.nk hk
      rw [← e1, h2] at h1
      exact hne (.inl (Option.some.inj h1).symm)
  have hno2 : ∀ {k : Int} {b : Nat}, (k, b) ∈ CM → i ∉ gids (dropG G bk bc i b) := fun {k b} hb hi => by
    unfold dropG at hi
    split at hi
    · rw [gids_del] at hi; exact hi.2 rfl
    · rename_i hne
      obtain ⟨f, hf, e1⟩ := h.cliR k b i hb hi
      obtain rfl := h.one he hf
      have h1 := findD_of h.nc hb
      have h2 := findD_of h.nc hc
      rw [← e1, h2] at h1
      exact hne (.inr (Option.some.inj h1).symm)
  refine ⟨delD_nodup h.na i, h.nk, h.nc, h.nb, fun j f hf => ?_, fun j f hf => ?_, fun j f hf hw => ?_, fun k b j hb hj => ?_, fun k b j hb hj => ?_, fun j hj => ?_⟩
  · rw [mem_delD] at hf
    obtain ⟨b, hb, hg⟩ := h.key j f hf.1
    exact ⟨b, hb, (hsub hf.2).2 hg⟩
  · rw [mem_delD] at hf
    obtain ⟨b, hb, hg⟩ := h.cli j f hf.1
    exact ⟨b, hb, (hsub hf.2).2 hg⟩
  · rw [mem_delD] at hf
    exact gids_del.2 ⟨h.wid j f hf.1 hw, hf.2⟩
  · have hji : j ≠ i := fun e => hno hb (e ▸ hj)
    obtain ⟨f, hf, e1⟩ := h.keyR k b j hb ((hsub hji).1 hj)
    exact ⟨f, mem_delD.2 ⟨hf, hji⟩, e1⟩
  · have hji : j ≠ i := fun e => hno2 hb (e ▸ hj)
    obtain ⟨f, hf, e1⟩ := h.cliR k b j hb ((hsub hji).1 hj)
    exact ⟨f, mem_delD.2 ⟨hf, hji⟩, e1⟩
  · rw [gids_del] at hj
    obtain ⟨f, hf, e1⟩ := h.widR j hj.1
    exact ⟨f, mem_delD.2 ⟨hf, hj.2⟩, e1⟩
/-- blocks tell the keys apart -/
theorem snd_inj {κ : Type} {L : List (κ × Nat)} (h : (L.map Prod.snd).Nodup) {k k2 : κ} {b : Nat} (h1 : (k, b) ∈ L) (h2 : (k2, b) ∈ L) : k = k2 := by
  induction L with
  | nil => cases h1
  | cons a t ih =>
    rw [List.map_cons, List.nodup_cons] at h
    rcases List.mem_cons.1 h1 with e1 | m1
    · rcases List.mem_cons.1 h2 with e2 | m2
      · rw [← e1] at e2
        exact (congrArg Prod.fst e2).symm
      · exact absurd (List.mem_map.2 ⟨_, m2, (congrArg Prod.snd e1 : b = a.2)⟩) h.1
    · rcases List.mem_cons.1 h2 with e2 | m2
      · exact absurd (List.mem_map.2 ⟨_, m1, (congrArg Prod.snd e2 : b = a.2)⟩) h.1
      · exact ih h.2 m1 m2
/-- the groups of a key: the old ones, or one more that is empty -/
def Grew2 {κ : Type} (L L2 : List (κ × Nat)) (k : κ) (b : Nat) (G : Nat → List (O.Id × Bool)) : Prop :=
  (L2 = L ∧ (k, b) ∈ L) ∨ (L2 = L ++ [(k, b)] ∧ k ∉ L.map Prod.fst ∧ G b = [])
theorem Grew2.mem {κ : Type} {L L2 : List (κ × Nat)} {k : κ} {b : Nat} {G : Nat → List (O.Id × Bool)} (h : Grew2 L L2 k b G) : (k, b) ∈ L2 ∧ (∀ p ∈ L, p ∈ L2) ∧ ∀ p ∈ L2, p ∈ L ∨ (p = (k, b) ∧ G b = []) := by
  rcases h with ⟨rfl, h⟩ | ⟨rfl, _, h3⟩
  · exact ⟨h, fun _ h => h, fun _ h => .inl h⟩
  · refine ⟨by simp, fun p hp => List.mem_append_left _ hp, fun p hp => ?_⟩
    rcases List.mem_append.1 hp with hp | hp
    · exact .inl hp
    · exact .inr ⟨List.mem_singleton.1 hp, h3⟩
theorem Grew2.nd {κ : Type} {L L2 : List (κ × Nat)} {k : κ} {b : Nat} {G : Nat → List (O.Id × Bool)} (h : Grew2 L L2 k b G) (hn : (L.map Prod.fst).Nodup) : (L2.map Prod.fst).Nodup := by
  rcases h with ⟨rfl, _⟩ | ⟨rfl, h2, _⟩
  · exact hn
  · rw [List.map_append]
    refine List.nodup_append.2 ⟨hn, by simp, fun a ha c hc => ?_⟩
    simp at hc
    subst hc
    exact fun e => h2 (e ▸ ha)
def putG (G : Nat → List (O.Id × Bool)) (bk bc : Nat) (i : O.Id) : Nat → List (O.Id × Bool) := fun b => if b = bk ∨ b = bc then putD (G b) i true else G b
theorem putG_mem {bk bc b : Nat} {i j : O.Id} : j ∈ gids (putG G bk bc i b) ↔ j ∈ gids (G b) ∨ (j = i ∧ (b = bk ∨ b = bc)) := by
  unfold putG
  split
  · rename_i hb
    rw [gids_put]
    exact or_congr_right ⟨fun e => ⟨e, hb⟩, fun e => e.1⟩
  · rename_i hb
    exact ⟨.inl, fun h => h.elim id fun h => absurd h.2 hb⟩
/-- an id comes in, that wasn't there -/
theorem IxP.put (h : IxP A KM CM G GW) {i : O.Id} (hi : i ∉ A.map Prod.fst) (e : En) {KM2 : List (ByteArray × Nat)} {CM2 : List (Int × Nat)} {bk bc : Nat} (hk : Grew2 KM KM2 e.c.key bk G) (hc : Grew2 CM CM2 e.c.client bc G) (hb : (KM2.map Prod.snd ++ CM2.map Prod.snd).Nodup) :
    IxP (A ++ [(i, e)]) KM2 CM2 (putG G bk bc i) (if wideB e.c = true then putD GW i true else GW) := by
  obtain ⟨hb1, hb2, hb3⟩ := List.nodup_append.1 hb
  obtain ⟨k1, k2, k3⟩ := hk.mem
  obtain ⟨c1, c2, c3⟩ := hc.mem
  refine ⟨?_, hk.nd h.nk, hc.nd h.nc, hb, fun j f hf => ?_, fun j f hf => ?_, fun j f hf hw => ?_, fun k b j hm hj => ?_, fun k b j hm hj => ?_, fun j hj => ?_⟩
  · rw [List.map_append]
    refine List.nodup_append.2 ⟨h.na, by simp, fun a ha c hc => ?_⟩
    simp at hc
    subst hc
    exact fun e => hi (e ▸ ha)
  · rcases List.mem_append.1 hf with hf | hf
    · obtain ⟨b, g1, g2⟩ := h.key j f hf
      exact ⟨b, k2 _ g1, putG_mem.2 (.inl g2)⟩
    · obtain ⟨rfl, rfl⟩ := Prod.mk.inj (List.mem_singleton.1 hf)
      exact ⟨bk, k1, putG_mem.2 (.inr ⟨rfl, .inl rfl⟩)⟩
  · rcases List.mem_append.1 hf with hf | hf
    · obtain ⟨b, g1, g2⟩ := h.cli j f hf
      exact ⟨b, c2 _ g1, putG_mem.2 (.inl g2)⟩
    · obtain ⟨rfl, rfl⟩ := Prod.mk.inj (List.mem_singleton.1 hf)
      exact ⟨bc, c1, putG_mem.2 (.inr ⟨rfl, .inr rfl⟩)⟩
  · rcases List.mem_append.1 hf with hf | hf
    · have h1 := h.wid j f hf hw
      split
      · exact gids_put.2 (.inl h1)
      · exact h1
    · obtain ⟨rfl, rfl⟩ := Prod.mk.inj (List.mem_singleton.1 hf)
      rw [if_pos hw]
      exact gids_put.2 (.inr rfl)
  · rcases putG_mem.1 hj with hj2 | ⟨rfl, hbb⟩
    · rcases k3 _ hm with hm | ⟨e1, e2⟩
      · obtain ⟨f, hf, e1⟩ := h.keyR k b j hm hj2
        exact ⟨f, List.mem_append_left _ hf, e1⟩
      · obtain ⟨rfl, rfl⟩ := Prod.mk.inj e1
        rw [e2] at hj2
        cases hj2
    · refine ⟨e, by simp, ?_⟩
      rcases hbb with rfl | rfl
      · exact (snd_inj hb1 hm k1).symm
      · exact absurd rfl (hb3 _ (List.mem_map.2 ⟨_, hm, rfl⟩) _ (List.mem_map.2 ⟨_, c1, rfl⟩))
  · rcases putG_mem.1 hj with hj2 | ⟨rfl, hbb⟩
    · rcases c3 _ hm with hm | ⟨e1, e2⟩
      · obtain ⟨f, hf, e1⟩ := h.cliR k b j hm hj2
        exact ⟨f, List.mem_append_left _ hf, e1⟩
      · obtain ⟨rfl, rfl⟩ := Prod.mk.inj e1
        rw [e2] at hj2
        cases hj2
    · refine ⟨e, by simp, ?_⟩
      rcases hbb with rfl | rfl
      · exact absurd rfl (hb3 _ (List.mem_map.2 ⟨_, k1, rfl⟩) _ (List.mem_map.2 ⟨_, hm, rfl⟩))
      · exact (snd_inj hb2 hm c1).symm
  · have key : j ∈ gids GW → ∃ f, (j, f) ∈ A ++ [(i, e)] ∧ wideB f.c = true := fun h1 => by
      obtain ⟨f, hf, e1⟩ := h.widR j h1
      exact ⟨f, List.mem_append_left _ hf, e1⟩
    split at hj
    · rename_i hw
      rcases gids_put.1 hj with hj | rfl
      · exact key hj
      · exact ⟨e, by simp, hw⟩
    · exact key hj
end
/-- those that a command meets -/
noncomputable def metL (A : List (O.Id × En)) (c : Cmd) (but : O.Id) : List (O.Id × En) := A.filter fun p => decide (p.1 ≠ but) && meet c p.2.c
end Go.Proofs.YtlbkbjeajcadiaaGreatDoor.B
