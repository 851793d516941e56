/- Several texts in one. -/
import Derived.Test.YtkgjfagejnppbaaGreatDoorMrg19
import Derived.Test.YtkgjfagejnppbaaGreatDoorMrg3

/- Plain law of EngineAgree: two engines that have some of one closed list's records. -/
namespace Go.Proofs.YtkgjfagejnppbaaGreatDoor.O
open Go.RowKit Go.Proofs.YtkgjfagejnppbaaGreatDoor.M Go.BigFrame Go.Proofs.YtkgjfagejnppbaaGreatDoor.K Go.Proofs.YtkgjfagejnppbaaGreatDoor.T
set_option linter.unusedVariables false
set_option linter.unusedSimpArgs false

/-- one leads to another one, among records -/
inductive Lds (X : List Rv) : Id → Id → Prop
  | refl (i : Id) : Lds X i i
  | step {x : Rv} {d j : Id} : x ∈ X → d ∈ x.deps → d ∈ idsX X → Lds X d j → Lds X x.id j
theorem Lds.mono {X Y : List Rv} (h : ∀ x ∈ X, x ∈ Y) {i j : Id} (hl : Lds X i j) : Lds Y i j := by
  induction hl with
  | refl i => exact .refl i
  | step hx hd hi _ ih =>
    obtain ⟨z, hz, rfl⟩ := List.mem_map.1 hi
    exact .step (h _ hx) hd (List.mem_map.2 ⟨z, h z hz, rfl⟩) ih
/-- what holds of one, and goes over to what it hangs on, holds of all that it leads to -/
theorem Lds.stays {X : List Rv} (hn : (idsX X).Nodup) {S : List Id} (hcl : ∀ x ∈ X, x.id ∈ S → ∀ d ∈ x.deps, d ∈ S) {i j : Id} (hl : Lds X i j) : i ∈ S → j ∈ S := by
  induction hl with
  | refl i => exact id
  | step hx hd hi _ ih => exact fun h => ih (hcl _ hx h _ hd)
theorem lds_path {s : List Rv} (hn : (idsX s).Nodup) {u v : Nat} {x y : Rv} (hx : s[u]? = some x) (hy : s[v]? = some y) : Path (edR (nds s)) s.length u v ↔ Lds s x.id y.id := by
  have hU : Unl (nds s) := unl_nds.2 hn
  constructor
  · intro hp
    induction hp generalizing x with
    | refl u =>
      rw [hx] at hy
      cases hy
      exact .refl _
    | step e _ ih =>
      rw [← nds_len] at e
      obtain ⟨a, b, h1, h2, h3⟩ := (edgeR hU).1 e
      have hw := (List.getElem?_eq_some_iff.1 h2).1
      rw [nds_len] at hw
      have hz := List.getElem?_eq_getElem hw
      rw [nds_get hx] at h1
      rw [nds_get hz] at h2
      cases h1
      cases h2
      exact .step (List.mem_of_getElem? hx) h3 (List.mem_map.2 ⟨_, List.mem_of_getElem? hz, rfl⟩) (ih hz hy)
  · have key : ∀ {i j : Id}, Lds s i j → ∀ {u v : Nat} {x y : Rv}, s[u]? = some x → s[v]? = some y → x.id = i → y.id = j → Path (edR (nds s)) s.length u v := by
      intro i j hl
      induction hl with
      | refl i =>
        intro u v x y hx hy h1 h2
        have e1 := ids_get hx
        have e2 := ids_get hy
        rw [h1] at e1
        rw [h2] at e2
        have := (List.getElem?_inj (List.getElem?_eq_some_iff.1 e1).1 hn).1 (e1.trans e2.symm)
        subst this
        exact .refl _
      | step hx0 hd hi _ ih =>
        rename_i x0 d j _
        intro u v x y hx hy h1 h2
        have hxm := nodup_inj Rv.id hn (List.mem_of_getElem? hx) hx0 h1
        subst hxm
        obtain ⟨w, z, hw, hz, _⟩ := mem_ids_get hi
        refine .step ?_ (ih hw hy hz h2)
        rw [← nds_len]
        exact (edgeR hU).2 ⟨x.nd, z.nd, nds_get hx, nds_get hw, by show z.id ∈ x.deps; rw [hz]; exact hd⟩
    intro hl
    exact key hl hx hy rfl rfl
/-- of two, one of which leads to the other: which is ahead -/
theorem pair_law {X : List Rv} (hn : (idsX X).Nodup) {a : List Id} (ha : Row (byIds (nds X)) a) {x y : Rv} (hx : x ∈ X) (hy : y ∈ X) (hne : x.id ≠ y.id) (hl : Lds X x.id y.id) : atI a x.id < atI a y.id ↔ (Lds X y.id x.id ∧ wlt x.nd y.nd = true) := by
  have hs := Sd.of hn
  have hp := srtR_perm X
  rw [← srtR_nd] at ha
  obtain ⟨u, hu⟩ := List.mem_iff_getElem?.1 (hp.mem_iff.2 hx)
  obtain ⟨v, hv⟩ := List.mem_iff_getElem?.1 (hp.mem_iff.2 hy)
  have huv : u ≠ v := fun e => by subst e; rw [hu] at hv; cases hv; exact hne rfl
  obtain ⟨L, q, c1, rfl⟩ := ha.cmps
  have hto : ∀ {i j : Id}, Lds X i j ↔ Lds (srtR X) i j := fun {i j} => ⟨Lds.mono fun x hx => hp.mem_iff.2 hx, Lds.mono fun x hx => hp.mem_iff.1 hx⟩
  have h1 := (lds_path hs.nd hu hv).2 (hto.1 hl)
  rw [← nds_len] at h1
  have := rowI_lt c1 hs.unl (nds_get hu) (nds_get hv) huv h1
  rw [nds_len, lds_path hs.nd hv hu, ← hto] at this
  exact this
theorem atI_left {a b : List Id} (hn : (a ++ b).Nodup) {i : Id} (h : i ∈ a) : atI (a ++ b) i = atI a i := by
  obtain ⟨k, hk⟩ := List.mem_iff_getElem?.1 h
  have hl := (List.getElem?_eq_some_iff.1 hk).1
  rw [atI_some (List.nodup_append.1 hn).1 hk, atI_some hn (by rw [List.getElem?_append_left hl]; exact hk)]
theorem atI_right {a b : List Id} (hn : (a ++ b).Nodup) {i : Id} (h : i ∈ b) : atI (a ++ b) i = a.length + atI b i := by
  obtain ⟨k, hk⟩ := List.mem_iff_getElem?.1 h
  have h1 : (a ++ b)[a.length + k]? = some i := by rw [List.getElem?_append_right (by omega), Nat.add_sub_cancel_left]; exact hk
  rw [atI_some (List.nodup_append.1 hn).2.1 hk, atI_some hn h1]
  omega
theorem atI_here_le {a : List Id} {i : Id} (h : i ∈ a) : 0 ≤ atI a i ∧ atI a i < a.length := by
  have hl := List.idxOf_lt_length_iff.2 h
  unfold atI
  rw [if_pos h]
  omega
theorem atI_inj {a : List Id} {i j : Id} (hi : i ∈ a) (hj : j ∈ a) (h : atI a i = atI a j) : i = j := by
  unfold atI at h
  rw [if_pos hi, if_pos hj] at h
  have h1 := List.getElem_idxOf (List.idxOf_lt_length_iff.2 hi)
  have h2 := List.getElem_idxOf (List.idxOf_lt_length_iff.2 hj)
  rw [← h1, ← h2]
  congr 1
  omega
/-- an engine, whose records are some of X -/
structure EI (X L : List Rv) (D : List Id) : Prop where
  wt : ∀ x ∈ L, ∃ y ∈ X, core x = core y
  nd : D.Nodup
  dj : ∀ x ∈ L, x.id ∉ D
  sub : ∀ i ∈ D, i ∈ idsX X
  cl : ∀ x ∈ X, x.id ∈ D → ∀ d ∈ x.deps, d ∈ D
  ord : ∀ x ∈ X, ∀ y ∈ X, x.id ∈ D → x.id ≠ y.id → Lds X x.id y.id → (atI D x.id < atI D y.id ↔ (Lds X y.id x.id ∧ wlt x.nd y.nd = true))
theorem EI.new (X : List Rv) : EI X [] [] := ⟨fun x h => (by cases h), List.nodup_nil, fun x h => (by cases h), fun x h => (by cases h), fun _ _ h => (by cases h), fun _ _ _ _ h => (by cases h)⟩
theorem EI.more {X L : List Rv} {D : List Id} (h : EI X L D) {x y : Rv} (hy : y ∈ X) (e : core x = core y) (hd : y.id ∉ D) : EI X (L ++ [x]) D :=
  have he : x.id = y.id := by have h0 := congrArg Rv.id e; exact h0
  ⟨fun z hz => by
    rcases List.mem_append.1 hz with hz | hz
    · exact h.wt z hz
    · rw [List.mem_singleton.1 hz]; exact ⟨y, hy, e⟩, h.nd, fun z hz => by
    rcases List.mem_append.1 hz with hz | hz
    · exact h.dj z hz
    · rw [List.mem_singleton.1 hz, he]; exact hd, h.sub, h.cl, h.ord⟩
theorem wlt_core {a b c d : Nd} (h1 : a.id = b.id) (h2 : a.seq = b.seq) (h3 : a.tag = b.tag) (g1 : c.id = d.id) (g2 : c.seq = d.seq) (g3 : c.tag = d.tag) : wlt a c = wlt b d := by unfold wlt; rw [h1, h2, h3, g1, g2, g3]
theorem EI.run {X L : List Rv} {D O out : List Id} (h : EI X L D) (hn : (idsX X).Nodup) (hL : (idsX L).Nodup) (hO : ∀ i, i ∈ O ↔ Stuck L D i) {R : List Rv} (hr : Row (byIds (nds R)) out) (hp : (R.map core).Perm (readyL L D O))
    (ho : out.Perm (idsX (L.filter fun x => !decide (x.id ∈ O)))) : EI X (stayL L O) (D ++ out) := by
  have hnR : (idsX (L.filter fun x => !decide (x.id ∈ O))).Nodup := hL.sublist (List.filter_sublist.map _)
  have hno : out.Nodup := ho.nodup_iff.2 hnR
  have hof : ∀ i, i ∈ out ↔ ∃ z ∈ L, z.id = i ∧ i ∉ O := fun i => by
    rw [ho.mem_iff]
    constructor
    · intro hi
      obtain ⟨z, hz, rfl⟩ := List.mem_map.1 hi
      obtain ⟨h1, h2⟩ := List.mem_filter.1 hz
      exact ⟨z, h1, rfl, by simpa using h2⟩
    · rintro ⟨z, hz, rfl, h2⟩
      exact List.mem_map.2 ⟨z, List.mem_filter.2 ⟨hz, by simpa using h2⟩, rfl⟩
  have hdj : ∀ i ∈ out, i ∉ D := fun i hi hd => by
    obtain ⟨z, hz, rfl, _⟩ := (hof i).1 hi
    exact h.dj z hz hd
  have hdn : (D ++ out).Nodup := List.nodup_append.2 ⟨h.nd, hno, fun a ha b hb e => by subst e; exact hdj a hb ha⟩
  -- a record that runs: as it is in X
  have hrec : ∀ z ∈ L, ∀ x ∈ X, x.id = z.id → core z = core x := fun z hz x hx e => by
    obtain ⟨y, hy, hc⟩ := h.wt z hz
    have : z.id = y.id := by have h0 := congrArg Rv.id hc; exact h0
    have := nodup_inj Rv.id hn hx hy (e.trans this)
    rw [this]
    exact hc
  have hcl : ∀ x ∈ X, x.id ∈ D ++ out → ∀ d ∈ x.deps, d ∈ D ++ out := fun x hx hm d hd => by
    rcases List.mem_append.1 hm with hm | hm
    · exact List.mem_append_left _ (h.cl x hx hm d hd)
    · obtain ⟨z, hz, e, hzo⟩ := (hof _).1 hm
      have hdeps : z.deps = x.deps := by have := congrArg Rv.deps (hrec z hz x hx e.symm); exact this
      have hns : ¬ Stuck L D z.id := fun hs => hzo (by rw [← e]; exact (hO _).2 hs)
      by_cases hdD : d ∈ D
      · exact List.mem_append_left _ hdD
      · by_cases hdL : d ∈ idsX L
        · obtain ⟨y, hy, rfl⟩ := List.mem_map.1 hdL
          refine List.mem_append_right _ ((hof _).2 ⟨y, hy, rfl, fun hyo => ?_⟩)
          exact hns (.step hz (by rw [hdeps]; exact hd) ((hO _).1 hyo))
        · exact absurd (Stuck.miss hz (by rw [hdeps]; exact hd) (by rintro (h1 | h1); exact hdL h1; exact hdD h1)) hns
  -- what runs, with what isn't done alone
  have hidR : (idsX R).Perm out := by
    refine List.Perm.trans ?_ ho.symm
    rw [← ids_core, ← ready_ids (D := D)]
    exact hp.map _
  have hnR2 : (idsX R).Nodup := hidR.nodup_iff.2 hno
  have hRX : ∀ r ∈ R, ∃ x ∈ X, x.id = r.id ∧ r.deps = (x.deps.filter fun d => !decide (d ∈ D)) ∧ r.seq = x.seq ∧ r.tag = x.tag := fun r hr => by
    have h1 := hp.mem_iff.1 (List.mem_map.2 ⟨r, hr, rfl⟩)
    unfold readyL at h1
    obtain ⟨z, hz, e⟩ := List.mem_map.1 h1
    obtain ⟨x, hx, hc⟩ := h.wt z (List.mem_filter.1 hz).1
    have e1 : z.id = r.id := by have := congrArg Rv.id e; exact this
    have e2 : (z.deps.filter fun d => !decide (d ∈ D)) = r.deps := by have := congrArg Rv.deps e; exact this
    have e3 : z.seq = r.seq := by have := congrArg Rv.seq e; exact this
    have e4 : z.tag = r.tag := by have := congrArg Rv.tag e; exact this
    have f1 : z.id = x.id := by have := congrArg Rv.id hc; exact this
    have f2 : z.deps = x.deps := by have := congrArg Rv.deps hc; exact this
    have f3 : z.seq = x.seq := by have := congrArg Rv.seq hc; exact this
    have f4 : z.tag = x.tag := by have := congrArg Rv.tag hc; exact this
    exact ⟨x, hx, f1.symm.trans e1, by rw [← e2, f2], e3.symm.trans f3, e4.symm.trans f4⟩
  have hXR : ∀ x ∈ X, x.id ∈ out → ∃ r ∈ R, r.id = x.id ∧ r.deps = (x.deps.filter fun d => !decide (d ∈ D)) ∧ r.seq = x.seq ∧ r.tag = x.tag := fun x hx hm => by
    obtain ⟨r, hr, e⟩ := List.mem_map.1 (hidR.mem_iff.2 hm)
    obtain ⟨y, hy, e1, e2, e3, e4⟩ := hRX r hr
    have := nodup_inj Rv.id hn hy hx (e1.trans e)
    subst this
    exact ⟨r, hr, e, e2, e3, e4⟩
  have hup : ∀ {i j : Id}, Lds R i j → Lds X i j := fun {i j} hl => by
    induction hl with
    | refl i => exact .refl i
    | step hx hd hi _ ih =>
      obtain ⟨x, hx1, e1, e2, _⟩ := hRX _ hx
      obtain ⟨z, hz, rfl⟩ := List.mem_map.1 hi
      obtain ⟨y, hy1, g1, _⟩ := hRX z hz
      rw [← e1]
      exact .step hx1 (by rw [e2] at hd; exact (List.mem_filter.1 hd).1) (List.mem_map.2 ⟨y, hy1, g1⟩) ih
  have hdown : ∀ {i j : Id}, Lds X i j → i ∈ out → j ∉ D → Lds R i j := fun {i j} hl => by
    induction hl with
    | refl i => exact fun _ _ => .refl i
    | step hx hd hi hl2 ih =>
      intro hm hj
      have hd2 := hcl _ hx (List.mem_append_right _ hm) _ hd
      have hdD : _ ∉ D := fun hD => hj (hl2.stays hn h.cl hD)
      have hdo := (List.mem_append.1 hd2).resolve_left hdD
      obtain ⟨r, hr, e1, e2, _⟩ := hXR _ hx hm
      rw [← e1]
      exact .step hr (by rw [e2]; exact List.mem_filter.2 ⟨hd, by simpa using hdD⟩) (hidR.mem_iff.2 hdo) (ih hdo hj)
  refine ⟨fun x hx => h.wt x (List.mem_filter.1 hx).1, hdn, fun x hx hm => ?_, fun i hi => ?_, hcl, fun x hx y hy hxm hne hl => ?_⟩
  · obtain ⟨hx1, hx2⟩ := List.mem_filter.1 hx
    rcases List.mem_append.1 hm with hm | hm
    · exact h.dj x hx1 hm
    · obtain ⟨_, _, _, h2⟩ := (hof _).1 hm
      exact h2 (by simpa using hx2)
  · rcases List.mem_append.1 hi with hi | hi
    · exact h.sub i hi
    · obtain ⟨z, hz, rfl, _⟩ := (hof _).1 hi
      obtain ⟨y, hy, hc⟩ := h.wt z hz
      exact List.mem_map.2 ⟨y, hy, (congrArg Rv.id hc).symm⟩
  · by_cases hxD : x.id ∈ D
    · have hyD := hl.stays hn h.cl hxD
      rw [atI_left hdn hxD, atI_left hdn hyD]
      exact h.ord x hx y hy hxD hne hl
    · have hxo := (List.mem_append.1 hxm).resolve_left hxD
      have hym := hl.stays hn hcl hxm
      rw [atI_right hdn hxo]
      by_cases hyD : y.id ∈ D
      · rw [atI_left hdn hyD]
        have h1 := atI_here_le hyD
        have h2 := atI_here_le hxo
        constructor
        · intro h3; omega
        · rintro ⟨h3, _⟩
          exact absurd (h3.stays hn h.cl hyD) hxD
      · have hyo := (List.mem_append.1 hym).resolve_left hyD
        rw [atI_right hdn hyo]
        obtain ⟨rx, hrx, a1, a2, a3, a4⟩ := hXR x hx hxo
        obtain ⟨ry, hry, b1, b2, b3, b4⟩ := hXR y hy hyo
        have hpl := pair_law hnR2 hr hrx hry (by rw [a1, b1]; exact hne) (by rw [a1, b1]; exact hdown hl hxo hyD)
        rw [a1, b1] at hpl
        have hw : wlt rx.nd ry.nd = wlt x.nd y.nd := wlt_core (by exact a1) (by exact a3) (by exact a4) (by exact b1) (by exact b3) (by exact b4)
        rw [hw] at hpl
        rw [show ((D.length : Int) + atI out x.id < D.length + atI out y.id) ↔ atI out x.id < atI out y.id by omega, hpl]
        exact ⟨fun ⟨g1, g2⟩ => ⟨hup g1, g2⟩, fun ⟨g1, g2⟩ => ⟨hdown g1 hyo hxD, g2⟩⟩
/-- where all are there nothing is stuck -/
theorem EI.all {X L : List Rv} {D O out : List Id} (h : EI X L D) (hm : ∀ x ∈ X, ∀ d ∈ x.deps, d ∈ idsX X) (hall : ∀ i ∈ idsX X, i ∈ idsX L ∨ i ∈ D) (hO : ∀ i, i ∈ O ↔ Stuck L D i) (ho : out.Perm (idsX (L.filter fun x => !decide (x.id ∈ O)))) : ∀ i ∈ idsX X, i ∈ D ++ out := by
  have hns : ∀ i, ¬ Stuck L D i := fun i hs => by
    induction hs with
    | miss hx hd hno =>
      obtain ⟨y, hy, hc⟩ := h.wt _ hx
      have e := congrArg Rv.deps hc
      exact hno (hall _ (hm y hy _ (by rw [show y.deps = _ from e.symm]; exact hd)))
    | step _ _ _ ih => exact ih
  intro i hi
  rcases hall i hi with h1 | h1
  · obtain ⟨z, hz, rfl⟩ := List.mem_map.1 h1
    refine List.mem_append_right _ (ho.mem_iff.2 (List.mem_map.2 ⟨z, List.mem_filter.2 ⟨hz, ?_⟩, rfl⟩))
    have : z.id ∉ O := fun hh => hns _ ((hO _).1 hh)
    simpa using this
  · exact List.mem_append_left _ h1
theorem EI.len {X L : List Rv} {D : List Id} (h : EI X L D) (hn : (idsX X).Nodup) (hall : ∀ i ∈ idsX X, i ∈ D) : D.Perm (idsX X) :=
  (List.perm_ext_iff_of_nodup h.nd hn).2 fun i => ⟨h.sub i, hall i⟩
/-- the order in an engine is that of the list -/
theorem EI.same {X L : List Rv} {D want : List Id} (h : EI X L D) (hn : (idsX X).Nodup) (hw : Row (byIds (nds X)) want) {x y : Rv} (hx : x ∈ X) (hy : y ∈ X) (hD : x.id ∈ D) (hne : x.id ≠ y.id) (hl : Lds X x.id y.id) :
    y.id ∈ D ∧ (atI D y.id < atI D x.id ↔ atI want y.id < atI want x.id) := by
  have hyD := hl.stays hn h.cl hD
  have hpw : want.Perm (idsX X) := by
    have := row_mem (Sd.of hn) (by rw [srtR_nd]; exact hw)
    exact this.trans ((srtR_perm X).map _)
  have hxw : x.id ∈ want := hpw.mem_iff.2 (List.mem_map.2 ⟨x, hx, rfl⟩)
  have hyw : y.id ∈ want := hpw.mem_iff.2 (List.mem_map.2 ⟨y, hy, rfl⟩)
  have h1 := h.ord x hx y hy hD hne hl
  have h2 := pair_law hn hw hx hy hne hl
  have n1 : atI D x.id ≠ atI D y.id := fun e => hne (atI_inj hD hyD e)
  have n2 : atI want x.id ≠ atI want y.id := fun e => hne (atI_inj hxw hyw e)
  refine ⟨hyD, ?_⟩
  have h3 : atI D x.id < atI D y.id ↔ atI want x.id < atI want y.id := h1.trans h2.symm
  omega
end Go.Proofs.YtkgjfagejnppbaaGreatDoor.O

/- Plain law of the settings: what the five statements ask. -/
namespace Go.Proofs.YtkgjfagejnppbaaGreatDoor.P
open Go.Proofs.YtkgjfagejnppbaaGreatDoor.R
set_option linter.unusedVariables false

/-- what becomes of the setting at the command's own key -/
def nw (c : Cmd) (o : Option Ent) : Option Ent :=
  if chk c = 0 then
    if c.kind = 3 then none
    else if c.kind = 2 then some ⟨c.key, c.val, revO o + 1⟩
    else if c.kind = 4 then (if revO o = c.rev then some ⟨c.key, c.val, revO o + 1⟩ else o)
    else o
  else o
def keysMeet (a b : Cmd) : Bool := decide (a.key = b.key) || (decide (a.kind = 5) && begs b.key a.key) || (decide (b.kind = 5) && begs a.key b.key)
def meet (a b : Cmd) : Bool :=
  if decide (a.kind = 0) || decide (b.kind = 0) then false
  else if decide (a.kind = 6) || decide (b.kind = 6) || decide (a.client = b.client) then true
  else (writes a || writes b) && keysMeet a b
/-- all settings are asked for -/
def allC : Cmd := ⟨5, 1, 1, nul, nul, 0⟩
theorem do_code {A : List Ent} {c : Cmd} (h : (appDo A c).2.code ≠ 0) : (appDo A c).1 = A := by
  unfold appDo at h ⊢
  split
  · rw [if_pos ‹_›] at h
    unfold act at h ⊢
    split
    · rfl
    · rw [if_neg ‹_›] at h
      split
      · rw [if_pos ‹_›] at h
        cases h2 : look A c.key with
        | none => rfl
        | some e => rw [h2] at h; simp at h
      · rw [if_neg ‹_›] at h
        split
        · rw [if_pos ‹_›] at h; simp at h
        · rw [if_neg ‹_›] at h
          split
          · rw [if_pos ‹_›] at h
            split
            · rw [if_pos ‹_›] at h; simp at h
            · rfl
          · split <;> rfl
  · rfl
end Go.Proofs.YtkgjfagejnppbaaGreatDoor.P

/- Plain law of the sessions (no program in sight). -/
namespace Go.Proofs.YtkgjfagejnppbaaGreatDoor.P
open Go.Proofs.YtkgjfagejnppbaaGreatDoor.R
set_option linter.unusedVariables false

/-- a client's greatest number, and what that answered -/
structure Lst where
  client : Int
  seq : Int
  rep : Rep
structure Ses where
  A : List Ent
  C : List Lst
def lookC (C : List Lst) (k : Int) : Option Lst := C.find? fun e => decide (e.client = k)
def dropC (C : List Lst) (k : Int) : List Lst := C.filter fun e => decide (e.client ≠ k)
def seqL : Option Lst → Int
  | none => 0
  | some l => l.seq
def repL : Option Lst → Rep
  | none => Rep.zero
  | some l => l.rep
def sesNew (s : Ses) (c : Cmd) : Ses := ⟨(appDo s.A c).1, dropC s.C c.client ++ [⟨c.client, c.seq, (appDo s.A c).2⟩]⟩
def sesDo (s : Ses) (c : Cmd) : Ses × Rep × Bool :=
  if chk c ≠ 0 then (s, ⟨chk c, nul, 0⟩, false)
  else if c.client = 0 then (s, Rep.zero, false)
  else if c.seq = seqL (lookC s.C c.client) then (s, repL (lookC s.C c.client), false)
  else if c.seq < seqL (lookC s.C c.client) then (s, ⟨14, nul, 0⟩, false)
  else (sesNew s c, (appDo s.A c).2, true)
def sesRun (s : Ses) : List Cmd → Ses
  | [] => s
  | c :: t => sesRun (sesDo s c).1 t
theorem sesRun_snoc (s : Ses) (l : List Cmd) (c : Cmd) : sesRun s (l ++ [c]) = (sesDo (sesRun s l) c).1 := by
  induction l generalizing s with
  | nil => rfl
  | cons a t ih => exact ih _
theorem sesRun_take (s : Ses) (l : List Cmd) (i : Nat) (c : Cmd) (h : l[i]? = some c) : sesRun s (l.take (i + 1)) = (sesDo (sesRun s (l.take i)) c).1 := by
  rw [List.take_add_one, h, Option.toList_some, sesRun_snoc]
theorem lookC_drop (C : List Lst) (j k : Int) : lookC (dropC C j) k = if j = k then none else lookC C k := by
  unfold lookC dropC
  rw [List.find?_filter]
  by_cases h : j = k
  · rw [if_pos h, List.find?_eq_none]
    intro e _
    simp
    intro h1 h2
    exact h1 (h2.trans h.symm)
  · rw [if_neg h]
    congr 1
    funext e
    by_cases h2 : e.client = k
    · have h3 : ¬ k = j := fun e2 => h e2.symm
      simp [h2, h3]
    · simp [h2]
theorem lookC_app (C D : List Lst) (k : Int) : lookC (C ++ D) k = (lookC C k).or (lookC D k) := by unfold lookC; rw [List.find?_append]
structure SGood (N : Nat) (s : Ses) : Prop where
  app : Good N s.A
  nd : (s.C.map Lst.client).Nodup
  len : s.C.length ≤ N
theorem SGood.nil : SGood 0 ⟨[], []⟩ := ⟨Good.nil, List.nodup_nil, Nat.le_refl _⟩
theorem SGood.mono {N M : Nat} {s : Ses} (h : SGood N s) (hm : N ≤ M) : SGood M s := ⟨h.app.mono hm, h.nd, Nat.le_trans h.len hm⟩
theorem dropC_len (C : List Lst) (k : Int) : (dropC C k).length ≤ C.length := List.length_filter_le _ _
theorem SGood.new {N : Nat} {s : Ses} (h : SGood N s) (c : Cmd) : SGood (N + 1) (sesNew s c) := by
  refine ⟨h.app.step c, ?_, ?_⟩
  · show ((dropC s.C c.client ++ [(⟨c.client, c.seq, (appDo s.A c).2⟩ : Lst)]).map Lst.client).Nodup
    rw [List.map_append, List.nodup_append]
    refine ⟨List.Nodup.sublist (List.Sublist.map _ (List.filter_sublist)) h.nd, by simp, ?_⟩
    intro a ha b hb
    obtain ⟨e, he, rfl⟩ := List.mem_map.1 ha
    obtain rfl : b = c.client := by simpa using hb
    unfold dropC at he
    rw [List.mem_filter, decide_eq_true_eq] at he
    exact he.2
  · show (dropC s.C c.client ++ [(⟨c.client, c.seq, (appDo s.A c).2⟩ : Lst)]).length ≤ _
    have := dropC_len s.C c.client
    have := h.len
    rw [List.length_append, List.length_singleton]
    omega
theorem SGood.step {N : Nat} {s : Ses} (h : SGood N s) (c : Cmd) : SGood (N + 1) (sesDo s c).1 := by
  unfold sesDo
  split
  · exact h.mono (Nat.le_succ N)
  · split
    · exact h.mono (Nat.le_succ N)
    · split
      · exact h.mono (Nat.le_succ N)
      · split
        · exact h.mono (Nat.le_succ N)
        · exact h.new c
theorem SGood.run {N : Nat} {s : Ses} (h : SGood N s) (l : List Cmd) : SGood (N + l.length) (sesRun s l) := by
  induction l generalizing s N with
  | nil => exact h
  | cons a t ih =>
    have := ih (h.step a)
    rw [List.length_cons]
    exact this.mono (by omega)
theorem ses_fresh {s : Ses} {c : Cmd} (h : (sesDo s c).2.2 = true) : sesDo s c = (sesNew s c, (appDo s.A c).2, true) ∧ chk c = 0 ∧ c.client ≠ 0 ∧ seqL (lookC s.C c.client) < c.seq := by
  unfold sesDo at h ⊢
  split
  · rw [if_pos ‹_›] at h; cases h
  · rw [if_neg ‹_›] at h
    split
    · rw [if_pos ‹_›] at h; cases h
    · rw [if_neg ‹_›] at h
      split
      · rw [if_pos ‹_›] at h; cases h
      · rw [if_neg ‹_›] at h
        split
        · rw [if_pos ‹_›] at h; cases h
        · rename_i h1 h2 h3 h4
          exact ⟨rfl, by simpa using h1, h2, by omega⟩
/-- as the document says it: where there is one, and what becomes of the clients -/
def atC (C : List Lst) (k : Int) : Int := match C.findIdx? fun e => decide (e.client = k) with
  | none => -1
  | some i => (i : Int)
end Go.Proofs.YtkgjfagejnppbaaGreatDoor.P
