/- Several texts in one. -/
import Derived.Test.YtkgjfagejnppbaaGreatDoorMrg19
import Derived.Test.YtkgjfagejnppbaaGreatDoorMrg3
import Derived.Maps.Keyed
import Derived.Maps.Own
import Derived.Maps.OwnSet
import Derived.Maps.Views
import Derived.Maps.RangeWalk
import Derived.DeepKeys4

/- Plain law of EngineAgree: two engines that have some of one closed list's records. -/
namespace Go.Proofs.YtkgjfagejnppbaaGreatDoor.O
open Go.RowKit Go.Proofs.YtkgjfagejnppbaaGreatDoor.M Go.BigFrame Go.Proofs.YtkgjfagejnppbaaGreatDoor.K Go.Proofs.YtkgjfagejnppbaaGreatDoor.T
set_option linter.unusedVariables false
set_option linter.unusedSimpArgs false

/-- one leads to another one, among records -/
inductive Lds (X : List Rv) : Id → Id → Prop
  | refl (i : Id) : Lds X i i
  | step {x : Rv} {d j : Id} : x ∈ X → d ∈ x.deps → d ∈ idsX X → Lds X d j → Lds X x.id j
theorem Lds.mono {X Y : List Rv} (h : ∀ x ∈ X, x ∈ Y) {i j : Id} (hl : Lds X i j) : Lds Y i j := by
  induction hl with
  | refl i => exact .refl i
  | step hx hd hi _ ih =>
    obtain ⟨z, hz, rfl⟩ := List.mem_map.1 hi
    exact .step (h _ hx) hd (List.mem_map.2 ⟨z, h z hz, rfl⟩) ih
/-- what holds of one, and goes over to what it hangs on, holds of all that it leads to -/
theorem Lds.stays {X : List Rv} (hn : (idsX X).Nodup) {S : List Id} (hcl : ∀ x ∈ X, x.id ∈ S → ∀ d ∈ x.deps, d ∈ S) {i j : Id} (hl : Lds X i j) : i ∈ S → j ∈ S := by
  induction hl with
  | refl i => exact id
  | step hx hd hi _ ih => exact fun h => ih (hcl _ hx h _ hd)
theorem lds_path {s : List Rv} (hn : (idsX s).Nodup) {u v : Nat} {x y : Rv} (hx : s[u]? = some x) (hy : s[v]? = some y) : Path (edR (nds s)) s.length u v ↔ Lds s x.id y.id := by
  have hU : Unl (nds s) := unl_nds.2 hn
  constructor
  · intro hp
    induction hp generalizing x with
    | refl u =>
      rw [hx] at hy
      cases hy
      exact .refl _
    | step e _ ih =>
      rw [← nds_len] at e
      obtain ⟨a, b, h1, h2, h3⟩ := (edgeR hU).1 e
      have hw := (List.getElem?_eq_some_iff.1 h2).1
      rw [nds_len] at hw
      have hz := List.getElem?_eq_getElem hw
      rw [nds_get hx] at h1
      rw [nds_get hz] at h2
      cases h1
      cases h2
      exact .step (List.mem_of_getElem? hx) h3 (List.mem_map.2 ⟨_, List.mem_of_getElem? hz, rfl⟩) (ih hz hy)
  · have key : ∀ {i j : Id}, Lds s i j → ∀ {u v : Nat} {x y : Rv}, s[u]? = some x → s[v]? = some y → x.id = i → y.id = j → Path (edR (nds s)) s.length u v := by
      intro i j hl
      induction hl with
      | refl i =>
        intro u v x y hx hy h1 h2
        have e1 := ids_get hx
        have e2 := ids_get hy
        rw [h1] at e1
        rw [h2] at e2
        have := (List.getElem?_inj (List.getElem?_eq_some_iff.1 e1).1 hn).1 (e1.trans e2.symm)
        subst this
        exact .refl _
      | step hx0 hd hi _ ih =>
        rename_i x0 d j _
        intro u v x y hx hy h1 h2
        have hxm := nodup_inj Rv.id hn (List.mem_of_getElem? hx) hx0 h1
        subst hxm
        obtain ⟨w, z, hw, hz, _⟩ := mem_ids_get hi
        refine .step ?_ (ih hw hy hz h2)
        rw [← nds_len]
        exact (edgeR hU).2 ⟨x.nd, z.nd, nds_get hx, nds_get hw, by show z.id ∈ x.deps; rw [hz]; exact hd⟩
    intro hl
    exact key hl hx hy rfl rfl
/-- of two, one of which leads to the other: which is ahead -/
theorem pair_law {X : List Rv} (hn : (idsX X).Nodup) {a : List Id} (ha : Row (byIds (nds X)) a) {x y : Rv} (hx : x ∈ X) (hy : y ∈ X) (hne : x.id ≠ y.id) (hl : Lds X x.id y.id) : atI a x.id < atI a y.id ↔ (Lds X y.id x.id ∧ wlt x.nd y.nd = true) := by
  have hs := Sd.of hn
  have hp := srtR_perm X
  rw [← srtR_nd] at ha
  obtain ⟨u, hu⟩ := List.mem_iff_getElem?.1 (hp.mem_iff.2 hx)
  obtain ⟨v, hv⟩ := List.mem_iff_getElem?.1 (hp.mem_iff.2 hy)
  have huv : u ≠ v := fun e => by subst e; rw [hu] at hv; cases hv; exact hne rfl
  obtain ⟨L, q, c1, rfl⟩ := ha.cmps
  have hto : ∀ {i j : Id}, Lds X i j ↔ Lds (srtR X) i j := fun {i j} => ⟨Lds.mono fun x hx => hp.mem_iff.2 hx, Lds.mono fun x hx => hp.mem_iff.1 hx⟩
  have h1 := (lds_path hs.nd hu hv).2 (hto.1 hl)
  rw [← nds_len] at h1
  have := rowI_lt c1 hs.unl (nds_get hu) (nds_get hv) huv h1
  rw [nds_len, lds_path hs.nd hv hu, ← hto] at this
  exact this
theorem atI_left {a b : List Id} (hn : (a ++ b).Nodup) {i : Id} (h : i ∈ a) : atI (a ++ b) i = atI a i := by
  obtain ⟨k, hk⟩ := List.mem_iff_getElem?.1 h
  have hl := (List.getElem?_eq_some_iff.1 hk).1
  rw [atI_some (List.nodup_append.1 hn).1 hk, atI_some hn (by rw [List.getElem?_append_left hl]; exact hk)]
theorem atI_right {a b : List Id} (hn : (a ++ b).Nodup) {i : Id} (h : i ∈ b) : atI (a ++ b) i = a.length + atI b i := by
  obtain ⟨k, hk⟩ := List.mem_iff_getElem?.1 h
  have h1 : (a ++ b)[a.length + k]? = some i := by rw [List.getElem?_append_right (by omega), Nat.add_sub_cancel_left]; exact hk
  rw [atI_some (List.nodup_append.1 hn).2.1 hk, atI_some hn h1]
  omega
theorem atI_here_le {a : List Id} {i : Id} (h : i ∈ a) : 0 ≤ atI a i ∧ atI a i < a.length := by
  have hl := List.idxOf_lt_length_iff.2 h
  unfold atI
  rw [if_pos h]
  omega
theorem atI_inj {a : List Id} {i j : Id} (hi : i ∈ a) (hj : j ∈ a) (h : atI a i = atI a j) : i = j := by
  unfold atI at h
  rw [if_pos hi, if_pos hj] at h
  have h1 := List.getElem_idxOf (List.idxOf_lt_length_iff.2 hi)
  have h2 := List.getElem_idxOf (List.idxOf_lt_length_iff.2 hj)
  rw [← h1, ← h2]
  congr 1
  omega
/-- an engine, whose records are some of X -/
structure EI (X L : List Rv) (D : List Id) : Prop where
  wt : ∀ x ∈ L, ∃ y ∈ X, core x = core y
  nd : D.Nodup
  dj : ∀ x ∈ L, x.id ∉ D
  sub : ∀ i ∈ D, i ∈ idsX X
  cl : ∀ x ∈ X, x.id ∈ D → ∀ d ∈ x.deps, d ∈ D
  ord : ∀ x ∈ X, ∀ y ∈ X, x.id ∈ D → x.id ≠ y.id → Lds X x.id y.id → (atI D x.id < atI D y.id ↔ (Lds X y.id x.id ∧ wlt x.nd y.nd = true))
theorem EI.new (X : List Rv) : EI X [] [] := ⟨fun x h => (by cases h), List.nodup_nil, fun x h => (by cases h), fun x h => (by cases h), fun _ _ h => (by cases h), fun _ _ _ _ h => (by cases h)⟩
theorem EI.more {X L : List Rv} {D : List Id} (h : EI X L D) {x y : Rv} (hy : y ∈ X) (e : core x = core y) (hd : y.id ∉ D) : EI X (L ++ [x]) D :=
  have he : x.id = y.id := by have h0 := congrArg Rv.id e; exact h0
  ⟨fun z hz => by
    rcases List.mem_append.1 hz with hz | hz
    · exact h.wt z hz
    · rw [List.mem_singleton.1 hz]; exact ⟨y, hy, e⟩, h.nd, fun z hz => by
    rcases List.mem_append.1 hz with hz | hz
    · exact h.dj z hz
    · rw [List.mem_singleton.1 hz, he]; exact hd, h.sub, h.cl, h.ord⟩
theorem wlt_core {a b c d : Nd} (h1 : a.id = b.id) (h2 : a.seq = b.seq) (h3 : a.tag = b.tag) (g1 : c.id = d.id) (g2 : c.seq = d.seq) (g3 : c.tag = d.tag) : wlt a c = wlt b d := by unfold wlt; rw [h1, h2, h3, g1, g2, g3]
theorem EI.run {X L : List Rv} {D O out : List Id} (h : EI X L D) (hn : (idsX X).Nodup) (hL : (idsX L).Nodup) (hO : ∀ i, i ∈ O ↔ Stuck L D i) {R : List Rv} (hr : Row (byIds (nds R)) out) (hp : (R.map core).Perm (readyL L D O))
    (ho : out.Perm (idsX (L.filter fun x => !decide (x.id ∈ O)))) : EI X (stayL L O) (D ++ out) := by
  have hnR : (idsX (L.filter fun x => !decide (x.id ∈ O))).Nodup := hL.sublist (List.filter_sublist.map _)
  have hno : out.Nodup := ho.nodup_iff.2 hnR
  have hof : ∀ i, i ∈ out ↔ ∃ z ∈ L, z.id = i ∧ i ∉ O := fun i => by
    rw [ho.mem_iff]
    constructor
    · intro hi
      obtain ⟨z, hz, rfl⟩ := List.mem_map.1 hi
      obtain ⟨h1, h2⟩ := List.mem_filter.1 hz
      exact ⟨z, h1, rfl, by simpa using h2⟩
    · rintro ⟨z, hz, rfl, h2⟩
      exact List.mem_map.2 ⟨z, List.mem_filter.2 ⟨hz, by simpa using h2⟩, rfl⟩
  have hdj : ∀ i ∈ out, i ∉ D := fun i hi hd => by
    obtain ⟨z, hz, rfl, _⟩ := (hof i).1 hi
    exact h.dj z hz hd
  have hdn : (D ++ out).Nodup := List.nodup_append.2 ⟨h.nd, hno, fun a ha b hb e => by subst e; exact hdj a hb ha⟩
  -- a record that runs: as it is in X
  have hrec : ∀ z ∈ L, ∀ x ∈ X, x.id = z.id → core z = core x := fun z hz x hx e => by
    obtain ⟨y, hy, hc⟩ := h.wt z hz
    have : z.id = y.id := by have h0 := congrArg Rv.id hc; exact h0
    have := nodup_inj Rv.id hn hx hy (e.trans this)
    rw [this]
    exact hc
  have hcl : ∀ x ∈ X, x.id ∈ D ++ out → ∀ d ∈ x.deps, d ∈ D ++ out := fun x hx hm d hd => by
    rcases List.mem_append.1 hm with hm | hm
    · exact List.mem_append_left _ (h.cl x hx hm d hd)
    · obtain ⟨z, hz, e, hzo⟩ := (hof _).1 hm
      have hdeps : z.deps = x.deps := by have := congrArg Rv.deps (hrec z hz x hx e.symm); exact this
      have hns : ¬ Stuck L D z.id := fun hs => hzo (by rw [← e]; exact (hO _).2 hs)
      by_cases hdD : d ∈ D
      · exact List.mem_append_left _ hdD
      · by_cases hdL : d ∈ idsX L
        · obtain ⟨y, hy, rfl⟩ := List.mem_map.1 hdL
          refine List.mem_append_right _ ((hof _).2 ⟨y, hy, rfl, fun hyo => ?_⟩)
          exact hns (.step hz (by rw [hdeps]; exact hd) ((hO _).1 hyo))
        · exact absurd (Stuck.miss hz (by rw [hdeps]; exact hd) (by rintro (h1 | h1); exact hdL h1; exact hdD h1)) hns
  -- what runs, with what isn't done alone
  have hidR : (idsX R).Perm out := by
    refine List.Perm.trans ?_ ho.symm
    rw [← ids_core, ← ready_ids (D := D)]
    exact hp.map _
  have hnR2 : (idsX R).Nodup := hidR.nodup_iff.2 hno
  have hRX : ∀ r ∈ R, ∃ x ∈ X, x.id = r.id ∧ r.deps = (x.deps.filter fun d => !decide (d ∈ D)) ∧ r.seq = x.seq ∧ r.tag = x.tag := fun r hr => by
    have h1 := hp.mem_iff.1 (List.mem_map.2 ⟨r, hr, rfl⟩)
    unfold readyL at h1
    obtain ⟨z, hz, e⟩ := List.mem_map.1 h1
    obtain ⟨x, hx, hc⟩ := h.wt z (List.mem_filter.1 hz).1
    have e1 : z.id = r.id := by have := congrArg Rv.id e; exact this
    have e2 : (z.deps.filter fun d => !decide (d ∈ D)) = r.deps := by have := congrArg Rv.deps e; exact this
    have e3 : z.seq = r.seq := by have := congrArg Rv.seq e; exact this
    have e4 : z.tag = r.tag := by have := congrArg Rv.tag e; exact this
    have f1 : z.id = x.id := by have := congrArg Rv.id hc; exact this
    have f2 : z.deps = x.deps := by have := congrArg Rv.deps hc; exact this
    have f3 : z.seq = x.seq := by have := congrArg Rv.seq hc; exact this
    have f4 : z.tag = x.tag := by have := congrArg Rv.tag hc; exact this
    exact ⟨x, hx, f1.symm.trans e1, by rw [← e2, f2], e3.symm.trans f3, e4.symm.trans f4⟩
  have hXR : ∀ x ∈ X, x.id ∈ out → ∃ r ∈ R, r.id = x.id ∧ r.deps = (x.deps.filter fun d => !decide (d ∈ D)) ∧ r.seq = x.seq ∧ r.tag = x.tag := fun x hx hm => by
    obtain ⟨r, hr, e⟩ := List.mem_map.1 (hidR.mem_iff.2 hm)
    obtain ⟨y, hy, e1, e2, e3, e4⟩ := hRX r hr
    have := nodup_inj Rv.id hn hy hx (e1.trans e)
    subst this
    exact ⟨r, hr, e, e2, e3, e4⟩
  have hup : ∀ {i j : Id}, Lds R i j → Lds X i j := fun {i j} hl => by
    induction hl with
    | refl i => exact .refl i
    | step hx hd hi _ ih =>
      obtain ⟨x, hx1, e1, e2, _⟩ := hRX _ hx
      obtain ⟨z, hz, rfl⟩ := List.mem_map.1 hi
      obtain ⟨y, hy1, g1, _⟩ := hRX z hz
      rw [← e1]
      exact .step hx1 (by rw [e2] at hd; exact (List.mem_filter.1 hd).1) (List.mem_map.2 ⟨y, hy1, g1⟩) ih
  have hdown : ∀ {i j : Id}, Lds X i j → i ∈ out → j ∉ D → Lds R i j := fun {i j} hl => by
    induction hl with
    | refl i => exact fun _ _ => .refl i
    | step hx hd hi hl2 ih =>
      intro hm hj
      have hd2 := hcl _ hx (List.mem_append_right _ hm) _ hd
      have hdD : _ ∉ D := fun hD => hj (hl2.stays hn h.cl hD)
      have hdo := (List.mem_append.1 hd2).resolve_left hdD
      obtain ⟨r, hr, e1, e2, _⟩ := hXR _ hx hm
      rw [← e1]
      exact .step hr (by rw [e2]; exact List.mem_filter.2 ⟨hd, by simpa using hdD⟩) (hidR.mem_iff.2 hdo) (ih hdo hj)
  refine ⟨fun x hx => h.wt x (List.mem_filter.1 hx).1, hdn, fun x hx hm => ?_, fun i hi => ?_, hcl, fun x hx y hy hxm hne hl => ?_⟩
  · obtain ⟨hx1, hx2⟩ := List.mem_filter.1 hx
    rcases List.mem_append.1 hm with hm | hm
    · exact h.dj x hx1 hm
    · obtain ⟨_, _, _, h2⟩ := (hof _).1 hm
      exact h2 (by simpa using hx2)
  · rcases List.mem_append.1 hi with hi | hi
    · exact h.sub i hi
    · obtain ⟨z, hz, rfl, _⟩ := (hof _).1 hi
      obtain ⟨y, hy, hc⟩ := h.wt z hz
      exact List.mem_map.2 ⟨y, hy, (congrArg Rv.id hc).symm⟩
  · by_cases hxD : x.id ∈ D
    · have hyD := hl.stays hn h.cl hxD
      rw [atI_left hdn hxD, atI_left hdn hyD]
      exact h.ord x hx y hy hxD hne hl
    · have hxo := (List.mem_append.1 hxm).resolve_left hxD
      have hym := hl.stays hn hcl hxm
      rw [atI_right hdn hxo]
      by_cases hyD : y.id ∈ D
      · rw [atI_left hdn hyD]
        have h1 := atI_here_le hyD
        have h2 := atI_here_le hxo
        constructor
        · intro h3; omega
        · rintro ⟨h3, _⟩
          exact absurd (h3.stays hn h.cl hyD) hxD
      · have hyo := (List.mem_append.1 hym).resolve_left hyD
        rw [atI_right hdn hyo]
        obtain ⟨rx, hrx, a1, a2, a3, a4⟩ := hXR x hx hxo
        obtain ⟨ry, hry, b1, b2, b3, b4⟩ := hXR y hy hyo
        have hpl := pair_law hnR2 hr hrx hry (by rw [a1, b1]; exact hne) (by rw [a1, b1]; exact hdown hl hxo hyD)
        rw [a1, b1] at hpl
        have hw : wlt rx.nd ry.nd = wlt x.nd y.nd := wlt_core (by exact a1) (by exact a3) (by exact a4) (by exact b1) (by exact b3) (by exact b4)
        rw [hw] at hpl
        rw [show ((D.length : Int) + atI out x.id < D.length + atI out y.id) ↔ atI out x.id < atI out y.id by omega, hpl]
        exact ⟨fun ⟨g1, g2⟩ => ⟨hup g1, g2⟩, fun ⟨g1, g2⟩ => ⟨hdown g1 hyo hxD, g2⟩⟩
/-- where all are there nothing is stuck -/
theorem EI.all {X L : List Rv} {D O out : List Id} (h : EI X L D) (hm : ∀ x ∈ X, ∀ d ∈ x.deps, d ∈ idsX X) (hall : ∀ i ∈ idsX X, i ∈ idsX L ∨ i ∈ D) (hO : ∀ i, i ∈ O ↔ Stuck L D i) (ho : out.Perm (idsX (L.filter fun x => !decide (x.id ∈ O)))) : ∀ i ∈ idsX X, i ∈ D ++ out := by
  have hns : ∀ i, ¬ Stuck L D i := fun i hs => by
    induction hs with
    | miss hx hd hno =>
      obtain ⟨y, hy, hc⟩ := h.wt _ hx
      have e := congrArg Rv.deps hc
      exact hno (hall _ (hm y hy _ (by rw [show y.deps = _ from e.symm]; exact hd)))
    | step _ _ _ ih => exact ih
  intro i hi
  rcases hall i hi with h1 | h1
  · obtain ⟨z, hz, rfl⟩ := List.mem_map.1 h1
    refine List.mem_append_right _ (ho.mem_iff.2 (List.mem_map.2 ⟨z, List.mem_filter.2 ⟨hz, ?_⟩, rfl⟩))
    have : z.id ∉ O := fun hh => hns _ ((hO _).1 hh)
    simpa using this
  · exact List.mem_append_left _ h1
theorem EI.len {X L : List Rv} {D : List Id} (h : EI X L D) (hn : (idsX X).Nodup) (hall : ∀ i ∈ idsX X, i ∈ D) : D.Perm (idsX X) :=
  (List.perm_ext_iff_of_nodup h.nd hn).2 fun i => ⟨h.sub i, hall i⟩
/-- the order in an engine is that of the list -/
theorem EI.same {X L : List Rv} {D want : List Id} (h : EI X L D) (hn : (idsX X).Nodup) (hw : Row (byIds (nds X)) want) {x y : Rv} (hx : x ∈ X) (hy : y ∈ X) (hD : x.id ∈ D) (hne : x.id ≠ y.id) (hl : Lds X x.id y.id) :
    y.id ∈ D ∧ (atI D y.id < atI D x.id ↔ atI want y.id < atI want x.id) := by
  have hyD := hl.stays hn h.cl hD
  have hpw : want.Perm (idsX X) := by
    have := row_mem (Sd.of hn) (by rw [srtR_nd]; exact hw)
    exact this.trans ((srtR_perm X).map _)
  have hxw : x.id ∈ want := hpw.mem_iff.2 (List.mem_map.2 ⟨x, hx, rfl⟩)
  have hyw : y.id ∈ want := hpw.mem_iff.2 (List.mem_map.2 ⟨y, hy, rfl⟩)
  have h1 := h.ord x hx y hy hD hne hl
  have h2 := pair_law hn hw hx hy hne hl
  have n1 : atI D x.id ≠ atI D y.id := fun e => hne (atI_inj hD hyD e)
  have n2 : atI want x.id ≠ atI want y.id := fun e => hne (atI_inj hxw hyw e)
  refine ⟨hyD, ?_⟩
  have h3 : atI D x.id < atI D y.id ↔ atI want x.id < atI want y.id := h1.trans h2.symm
  omega
end Go.Proofs.YtkgjfagejnppbaaGreatDoor.O

/- Plain law of the settings: what the five statements ask. -/
namespace Go.Proofs.YtkgjfagejnppbaaGreatDoor.P
open Go.Proofs.YtkgjfagejnppbaaGreatDoor.R
set_option linter.unusedVariables false

/-- what becomes of the setting at the command's own key -/
def nw (c : Cmd) (o : Option Ent) : Option Ent :=
  if chk c = 0 then
    if c.kind = 3 then none
    else if c.kind = 2 then some ⟨c.key, c.val, revO o + 1⟩
    else if c.kind = 4 then (if revO o = c.rev then some ⟨c.key, c.val, revO o + 1⟩ else o)
    else o
  else o
def keysMeet (a b : Cmd) : Bool := decide (a.key = b.key) || (decide (a.kind = 5) && begs b.key a.key) || (decide (b.kind = 5) && begs a.key b.key)
def meet (a b : Cmd) : Bool :=
  if decide (a.kind = 0) || decide (b.kind = 0) then false
  else if decide (a.kind = 6) || decide (b.kind = 6) || decide (a.client = b.client) then true
  else (writes a || writes b) && keysMeet a b
/-- all settings are asked for -/
def allC : Cmd := ⟨5, 1, 1, nul, nul, 0⟩
theorem do_code {A : List Ent} {c : Cmd} (h : (appDo A c).2.code ≠ 0) : (appDo A c).1 = A := by
  unfold appDo at h ⊢
  split
  · rw [if_pos ‹_›] at h
    unfold act at h ⊢
    split
    · rfl
    · rw [if_neg ‹_›] at h
      split
      · rw [if_pos ‹_›] at h
        cases h2 : look A c.key with
        | none => rfl
        | some e => rw [h2] at h; simp at h
      · rw [if_neg ‹_›] at h
        split
        · rw [if_pos ‹_›] at h; simp at h
        · rw [if_neg ‹_›] at h
          split
          · rw [if_pos ‹_›] at h
            split
            · rw [if_pos ‹_›] at h; simp at h
            · rfl
          · split <;> rfl
  · rfl
end Go.Proofs.YtkgjfagejnppbaaGreatDoor.P

/- Plain law of the sessions (no program in sight). -/
namespace Go.Proofs.YtkgjfagejnppbaaGreatDoor.P
open Go.Proofs.YtkgjfagejnppbaaGreatDoor.R
set_option linter.unusedVariables false

/-- a client's greatest number, and what that answered -/
structure Lst where
  client : Int
  seq : Int
  rep : Rep
structure Ses where
  A : List Ent
  C : List Lst
def lookC (C : List Lst) (k : Int) : Option Lst := C.find? fun e => decide (e.client = k)
def dropC (C : List Lst) (k : Int) : List Lst := C.filter fun e => decide (e.client ≠ k)
def seqL : Option Lst → Int
  | none => 0
  | some l => l.seq
def repL : Option Lst → Rep
  | none => Rep.zero
  | some l => l.rep
def sesNew (s : Ses) (c : Cmd) : Ses := ⟨(appDo s.A c).1, dropC s.C c.client ++ [⟨c.client, c.seq, (appDo s.A c).2⟩]⟩
def sesDo (s : Ses) (c : Cmd) : Ses × Rep × Bool :=
  if chk c ≠ 0 then (s, ⟨chk c, nul, 0⟩, false)
  else if c.client = 0 then (s, Rep.zero, false)
  else if c.seq = seqL (lookC s.C c.client) then (s, repL (lookC s.C c.client), false)
  else if c.seq < seqL (lookC s.C c.client) then (s, ⟨14, nul, 0⟩, false)
  else (sesNew s c, (appDo s.A c).2, true)
def sesRun (s : Ses) : List Cmd → Ses
  | [] => s
  | c :: t => sesRun (sesDo s c).1 t
theorem sesRun_snoc (s : Ses) (l : List Cmd) (c : Cmd) : sesRun s (l ++ [c]) = (sesDo (sesRun s l) c).1 := by
  induction l generalizing s with
  | nil => rfl
  | cons a t ih => exact ih _
theorem sesRun_take (s : Ses) (l : List Cmd) (i : Nat) (c : Cmd) (h : l[i]? = some c) : sesRun s (l.take (i + 1)) = (sesDo (sesRun s (l.take i)) c).1 := by
  rw [List.take_add_one, h, Option.toList_some, sesRun_snoc]
theorem lookC_drop (C : List Lst) (j k : Int) : lookC (dropC C j) k = if j = k then none else lookC C k := by
  unfold lookC dropC
  rw [List.find?_filter]
  by_cases h : j = k
  · rw [if_pos h, List.find?_eq_none]
    intro e _
    simp
    intro h1 h2
    exact h1 (h2.trans h.symm)
  · rw [if_neg h]
    congr 1
    funext e
    by_cases h2 : e.client = k
    · have h3 : ¬ k = j := fun e2 => h e2.symm
      simp [h2, h3]
    · simp [h2]
theorem lookC_app (C D : List Lst) (k : Int) : lookC (C ++ D) k = (lookC C k).or (lookC D k) := by unfold lookC; rw [List.find?_append]
structure SGood (N : Nat) (s : Ses) : Prop where
  app : Good N s.A
  nd : (s.C.map Lst.client).Nodup
  len : s.C.length ≤ N
theorem SGood.nil : SGood 0 ⟨[], []⟩ := ⟨Good.nil, List.nodup_nil, Nat.le_refl _⟩
theorem SGood.mono {N M : Nat} {s : Ses} (h : SGood N s) (hm : N ≤ M) : SGood M s := ⟨h.app.mono hm, h.nd, Nat.le_trans h.len hm⟩
theorem dropC_len (C : List Lst) (k : Int) : (dropC C k).length ≤ C.length := List.length_filter_le _ _
theorem SGood.new {N : Nat} {s : Ses} (h : SGood N s) (c : Cmd) : SGood (N + 1) (sesNew s c) := by
  refine ⟨h.app.step c, ?_, ?_⟩
  · show ((dropC s.C c.client ++ [(⟨c.client, c.seq, (appDo s.A c).2⟩ : Lst)]).map Lst.client).Nodup
    rw [List.map_append, List.nodup_append]
    refine ⟨List.Nodup.sublist (List.Sublist.map _ (List.filter_sublist)) h.nd, by simp, ?_⟩
    intro a ha b hb
    obtain ⟨e, he, rfl⟩ := List.mem_map.1 ha
    obtain rfl : b = c.client := by simpa using hb
    unfold dropC at he
    rw [List.mem_filter, decide_eq_true_eq] at he
    exact he.2
  · show (dropC s.C c.client ++ [(⟨c.client, c.seq, (appDo s.A c).2⟩ : Lst)]).length ≤ _
    have := dropC_len s.C c.client
    have := h.len
    rw [List.length_append, List.length_singleton]
    omega
theorem SGood.step {N : Nat} {s : Ses} (h : SGood N s) (c : Cmd) : SGood (N + 1) (sesDo s c).1 := by
  unfold sesDo
  split
  · exact h.mono (Nat.le_succ N)
  · split
    · exact h.mono (Nat.le_succ N)
    · split
      · exact h.mono (Nat.le_succ N)
      · split
        · exact h.mono (Nat.le_succ N)
        · exact h.new c
theorem SGood.run {N : Nat} {s : Ses} (h : SGood N s) (l : List Cmd) : SGood (N + l.length) (sesRun s l) := by
  induction l generalizing s N with
  | nil => exact h
  | cons a t ih =>
    have := ih (h.step a)
    rw [List.length_cons]
    exact this.mono (by omega)
/-- the four ways of a command -/
theorem ses_still {s : Ses} {c : Cmd} (h : (sesDo s c).2.2 = false) : (sesDo s c).1 = s := by
  unfold sesDo at h ⊢
  split
  · rfl
  · rw [if_neg ‹_›] at h
    split
    · rfl
    · rw [if_neg ‹_›] at h
      split
      · rfl
      · rw [if_neg ‹_›] at h
        split
        · rfl
        · rw [if_neg ‹_›] at h; cases h
theorem ses_fresh {s : Ses} {c : Cmd} (h : (sesDo s c).2.2 = true) : sesDo s c = (sesNew s c, (appDo s.A c).2, true) ∧ chk c = 0 ∧ c.client ≠ 0 ∧ seqL (lookC s.C c.client) < c.seq := by
  unfold sesDo at h ⊢
  split
  · rw [if_pos ‹_›] at h; cases h
  · rw [if_neg ‹_›] at h
    split
    · rw [if_pos ‹_›] at h; cases h
    · rw [if_neg ‹_›] at h
      split
      · rw [if_pos ‹_›] at h; cases h
      · rw [if_neg ‹_›] at h
        split
        · rw [if_pos ‹_›] at h; cases h
        · rename_i h1 h2 h3 h4
          exact ⟨rfl, by simpa using h1, h2, by omega⟩
/-- as the document says it: where there is one, and what becomes of the clients -/
def atC (C : List Lst) (k : Int) : Int := match C.findIdx? fun e => decide (e.client = k) with
  | none => -1
  | some i => (i : Int)
end Go.Proofs.YtkgjfagejnppbaaGreatDoor.P

/- Maps in memory, whatever their keys and values: a list of pairs whose keys are all apart. -/
namespace Go.Proofs.YtkgjfagejnppbaaGreatDoor.Mp
open Go.RowKit Go.Proofs.YtkgjfagejnppbaaGreatDoor.M Go.Maps
set_option linter.unusedVariables false
set_option linter.unusedSimpArgs false

/-- a kind of maps: its type, its values' type, its keys' type; keys and values as Go has them, keys as they are compared; the zero -/
structure MapS (κ ν : Type) where
  t : TypeId
  e : TypeId
  kt : TypeId
  key : κ → Value
  lit : κ → Lit
  ok : κ → Prop
  enc : ν → Value
  z : ν
structure MapS.Law {κ ν : Type} (S : MapS κ ν) : Prop where
  keyed : Maps.Keyed Tryz.prog S.kt
  und : Tryz.prog.underlying S.t = some (.map S.kt S.e)
  zero : ∀ w, (zeroValue S.e).run Tryz.prog w = .ok (S.enc S.z) w
  mkk : ∀ k, S.ok k → keyOf Tryz.prog S.kt (S.key k) = some (S.lit k)
  isk : ∀ k, WideAt.IsKeyLit (S.lit k)
  inj : ∀ a b, S.key a = S.key b → a = b
/-- what reads as a key is one: what a range asks -/
def MapS.Inv {κ ν : Type} (S : MapS κ ν) : Prop := ∀ x kl, keyOf Tryz.prog S.kt x = some kl → ∃ k, x = S.key k ∧ kl = S.lit k ∧ S.ok k
section
variable {κ ν : Type} {S : MapS κ ν}
theorem MapS.Law.linj (h : S.Law) {a b : κ} (ha : S.ok a) (hb : S.ok b) (e : S.lit a = S.lit b) : a = b := h.inj a b (h.keyed.inj (h.mkk a ha) (e ▸ h.mkk b hb))
open Classical in
noncomputable def heldE (enc : ν → Value) (v : Value) : Option (DataW Value × List MemPlace) := if ∃ x, v = enc x then some (.held v, []) else none
theorem heldE_mk (enc : ν → Value) (x : ν) : heldE enc (enc x) = some (.held (enc x), []) := if_pos ⟨x, rfl⟩
theorem heldE_inv {enc : ν → Value} {v : Value} {y : DataW Value × List MemPlace} (h : heldE enc v = some y) : ∃ x, v = enc x ∧ y = (.held (enc x), []) := by
  unfold heldE at h
  split at h
  · rename_i hx
    obtain ⟨x, rfl⟩ := hx
    exact ⟨x, rfl, (Option.some.inj h).symm⟩
  · cases h
theorem turned_mods {w w1 : World} {b : Nat} (h : w.mapTurned w1 b) : M.Mods (fun k => k = b) w w1 :=
  ⟨h.grown.os, h.grown.tape, h.grown.output, h.grown.size, fun k hk hn => h.grown.block k hk (fun e => hn (Option.some.inj e))⟩
variable [DecidableEq κ]
def hasD (L : List (κ × ν)) (k : κ) : Bool := decide (k ∈ L.map Prod.fst)
def findD (L : List (κ × ν)) (k : κ) : Option ν := (L.find? fun p => decide (p.1 = k)).map Prod.snd
def lookD (L : List (κ × ν)) (k : κ) (z : ν) : ν := (findD L k).getD z
def delD (L : List (κ × ν)) (k : κ) : List (κ × ν) := L.filter fun p => !decide (p.1 = k)
def putD (L : List (κ × ν)) (k : κ) (v : ν) : List (κ × ν) := delD L k ++ [(k, v)]
theorem findD_none {L : List (κ × ν)} {k : κ} : findD L k = none ↔ k ∉ L.map Prod.fst := by
  unfold findD
  rw [Option.map_eq_none_iff, List.find?_eq_none]
  simp only [decide_eq_true_eq, List.mem_map, not_exists, not_and]
theorem findD_has {L : List (κ × ν)} {k : κ} : hasD L k = (findD L k).isSome := by
  unfold hasD
  cases h : findD L k with
  | none => simpa using findD_none.1 h
  | some v =>
    have : ¬ findD L k = none := by rw [h]; simp
    rw [findD_none, Classical.not_not] at this
    simpa using this
theorem findD_some {L : List (κ × ν)} {k : κ} {v : ν} (h : findD L k = some v) : (k, v) ∈ L := by
  unfold findD at h
  obtain ⟨p, hp, rfl⟩ := Option.map_eq_some_iff.1 h
  have h1 := List.mem_of_find?_eq_some hp
  have h2 := List.find?_some hp
  simp only [decide_eq_true_eq] at h2
  subst h2
  exact h1
theorem findD_of {L : List (κ × ν)} (hn : (L.map Prod.fst).Nodup) {k : κ} {v : ν} (h : (k, v) ∈ L) : findD L k = some v := by
  induction L with
  | nil => cases h
  | cons p L ih =>
    rw [List.map_cons, List.nodup_cons] at hn
    unfold findD
    rw [List.find?_cons]
    by_cases e : p.1 = k
    · simp only [e, decide_true]
      rcases List.mem_cons.1 h with h | h
      · rw [← h]; rfl
      · exact absurd (List.mem_map.2 ⟨_, h, rfl⟩) (by rw [← e]; exact hn.1)
    · simp only [e, decide_false]
      rcases List.mem_cons.1 h with h | h
      · rw [← h] at e; exact absurd rfl e
      · exact ih hn.2 h
theorem findD_del {L : List (κ × ν)} {k j : κ} : findD (delD L k) j = if j = k then none else findD L j := by
  split
  · rename_i e
    subst e
    rw [findD_none]
    intro h
    obtain ⟨p, hp, e⟩ := List.mem_map.1 h
    have := (List.mem_filter.1 hp).2
    simp [e] at this
  · rename_i e
    unfold findD delD
    rw [List.find?_filter]
    congr 1
    apply congrArg (fun f => List.find? f L)
    funext p
    by_cases h : p.1 = j
    · simp [h, e]
    · simp [h]
theorem findD_app {L L2 : List (κ × ν)} {j : κ} : findD (L ++ L2) j = (findD L j).or (findD L2 j) := by
  unfold findD
  rw [List.find?_append]
  cases List.find? (fun p => decide (p.1 = j)) L <;> simp
theorem findD_put {L : List (κ × ν)} {k j : κ} {v : ν} : findD (putD L k v) j = if j = k then some v else findD L j := by
  unfold putD
  rw [findD_app, findD_del]
  by_cases e : j = k
  · subst e
    simp [findD]
  · rw [if_neg e, if_neg e]
    have : findD [(k, v)] j = none := by rw [findD_none]; simpa using e
    rw [this, Option.or_none]
theorem hasD_put {L : List (κ × ν)} {k j : κ} {v : ν} : hasD (putD L k v) j = (decide (j = k) || hasD L j) := by
  rw [findD_has, findD_put, findD_has]
  by_cases e : j = k <;> simp [e]
theorem hasD_del {L : List (κ × ν)} {k j : κ} : hasD (delD L k) j = (!decide (j = k) && hasD L j) := by
  rw [findD_has, findD_del, findD_has]
  by_cases e : j = k <;> simp [e]
theorem delD_nodup {L : List (κ × ν)} (h : (L.map Prod.fst).Nodup) (k : κ) : ((delD L k).map Prod.fst).Nodup := h.sublist (List.filter_sublist.map _)
theorem putD_nodup {L : List (κ × ν)} (h : (L.map Prod.fst).Nodup) (k : κ) (v : ν) : ((putD L k v).map Prod.fst).Nodup := by
  unfold putD
  rw [List.map_append]
  refine List.nodup_append.2 ⟨delD_nodup h k, by simp, fun a ha b hb => ?_⟩
  simp at hb
  subst hb
  obtain ⟨p, hp, rfl⟩ := List.mem_map.1 ha
  have := (List.mem_filter.1 hp).2
  simpa using this
theorem delD_len {L : List (κ × ν)} (hn : (L.map Prod.fst).Nodup) (k : κ) : (delD L k).length + (if hasD L k = true then 1 else 0) = L.length := by
  induction L with
  | nil => simp [delD, hasD]
  | cons p L ih =>
    rw [List.map_cons, List.nodup_cons] at hn
    have ih := ih hn.2
    unfold delD hasD at ih ⊢
    rw [List.filter_cons]
    by_cases e : p.1 = k
    · subst e
      have h0 : decide (p.1 ∈ L.map Prod.fst) = false := by simpa using hn.1
      rw [h0] at ih
      simp at ih ⊢
      omega
    · have : decide (k ∈ List.map Prod.fst (p :: L)) = decide (k ∈ List.map Prod.fst L) := by
        rw [List.map_cons]
        simp [Ne.symm e]
      rw [this]
      simp only [e, decide_false, Bool.not_false, if_true, List.length_cons]
      omega
structure Rel (S : MapS κ ν) (D : DataW Value) (L : List (κ × ν)) : Prop where
  has : ∀ i, S.ok i → Maps.has D (S.lit i) = hasD L i
  at_ : ∀ p ∈ L, ∀ z, D.atKey (S.lit p.1) z = .held (S.enc p.2)
  sz : Maps.size D = L.length
theorem Rel.nil : Rel S (.map []) ([] : List (κ × ν)) := ⟨fun i _ => by simp [Maps.has, hasD], fun x hx => (by cases hx), rfl⟩
theorem Rel.look {D : DataW Value} {L : List (κ × ν)} (h : Rel S D L) {i : κ} (hi : S.ok i) : D.atKey (S.lit i) (.held (S.enc S.z)) = .held (S.enc (lookD L i S.z)) := by
  unfold lookD
  cases hf : findD L i with
  | none => exact Maps.atKey_of_not_has (by rw [h.has i hi, findD_has, hf]; rfl) _
  | some v => exact h.at_ _ (findD_some hf) _
theorem Rel.put (hS : S.Law) {D : DataW Value} {L : List (κ × ν)} (h : Rel S D L) (hm : Tidy D) (hn : (L.map Prod.fst).Nodup) (hok : ∀ p ∈ L, S.ok p.1) {k : κ} (hi : S.ok k) (v : ν) : Rel S (D.put (S.lit k) (.held (S.enc v))) (putD L k v) := by
  refine ⟨fun j hj => ?_, fun p hp z => ?_, ?_⟩
  · rw [hasD_put]
    by_cases e : j = k
    · subst e
      rw [has_put_same hm.isMap (hS.isk _)]; simp
    · rw [has_put_other (fun e2 => e (hS.linj hj hi e2)), h.has j hj]
      simp [e]
  · rcases List.mem_append.1 hp with hp | hp
    · obtain ⟨hp, hne⟩ := List.mem_filter.1 hp
      have hne : p.1 ≠ k := by simpa using hne
      rw [atKey_put_other (fun e2 => hne (hS.linj (hok p hp) hi e2))]
      exact h.at_ p hp z
    · rw [List.mem_singleton.1 hp, atKey_put_same hm.isMap (hS.isk _)]
  · rw [Maps.size_put hm, h.has k hi, h.sz]
    have := delD_len hn k
    unfold putD
    rw [List.length_append, List.length_singleton]
    split at this <;> rename_i hh <;> simp only [hh] <;> simp <;> omega
theorem Rel.del (hS : S.Law) {D : DataW Value} {L : List (κ × ν)} (h : Rel S D L) (hm : Tidy D) (hn : (L.map Prod.fst).Nodup) (hok : ∀ p ∈ L, S.ok p.1) {k : κ} (hi : S.ok k) : Rel S (D.del (S.lit k)) (delD L k) := by
  refine ⟨fun j hj => ?_, fun p hp z => ?_, ?_⟩
  · rw [hasD_del]
    by_cases e : j = k
    · subst e
      rw [has_del_same]; simp
    · rw [has_del_other (fun e2 => e (hS.linj hj hi e2)), h.has j hj]
      simp [e]
  · obtain ⟨hp, hne⟩ := List.mem_filter.1 hp
    have hne : p.1 ≠ k := by simpa using hne
    rw [atKey_del_other (fun e2 => hne (hS.linj (hok p hp) hi e2))]
    exact h.at_ p hp z
  · have h1 := Maps.size_del (k := S.lit k) hm
    have h2 := delD_len hn k
    rw [h.has k hi, h.sz] at h1
    split at h1 <;> rename_i hh <;> simp only [hh] at h2 <;> simp at h2 <;> omega
/-- block b is a map of at most n entries: these pairs -/
structure MapL (S : MapS κ ν) (w : World) (b n : Nat) (L : List (κ × ν)) : Prop where
  own : ∃ D, w.ownsMap Tryz.prog S.kt (heldE S.enc) b n D ∧ Rel S D L
  nd : (L.map Prod.fst).Nodup
  ok : ∀ p ∈ L, S.ok p.1
theorem MapL.lt {w : World} {b n : Nat} {L : List (κ × ν)} (h : MapL S w b n L) : b < w.heap.size := by
  obtain ⟨D, h1, _⟩ := h.own
  exact h1.lt
theorem MapL.mono {w : World} {b n m : Nat} {L : List (κ × ν)} (h : MapL S w b n L) (hm : n ≤ m) : MapL S w b m L := by
  obtain ⟨D, h1, h2⟩ := h.own
  exact ⟨⟨D, h1.mono hm, h2⟩, h.nd, h.ok⟩
theorem MapL.keep {w w1 : World} {b n : Nat} {L : List (κ × ν)} {F : Nat → Prop} (h : MapL S w b n L) (hm : M.Mods F w w1) (hn : ¬ F b) : MapL S w1 b n L := by
  have hlt := h.lt
  obtain ⟨D, ⟨es, clock, hb, r⟩, h2⟩ := h.own
  exact ⟨⟨D, ⟨es, clock, (hm.block b hlt hn).trans hb, r⟩, h2⟩, h.nd, h.ok⟩
theorem MapL.below {w w1 : World} {b n : Nat} {L : List (κ × ν)} (h : MapL S w b n L) (hm : Below w.heap.size w w1) : MapL S w1 b n L :=
  h.keep (F := fun _ => False) (M.Mods.of_below hm) (fun h => h)
theorem MapL.made (w : World) : MapL S (w.alloc (.map #[] 0)) w.heap.size 0 [] := ⟨⟨.map [], World.ownsMap_made _ _ _ _, Rel.nil⟩, .nil, fun x h => by cases h⟩
theorem MapL.nocells {w : World} {b n : Nat} {L : List (κ × ν)} (h : MapL S w b n L) {cs : Array Value} {t : TypeId} {fr : Nat × Nat} (hc : w.heap[b]? = some (.cells cs t fr)) : False := by
  obtain ⟨D, ⟨es, clock, hb, _⟩, _⟩ := h.own
  rw [hb] at hc; cases hc
theorem MapL.look (hS : S.Law) {w : World} {b n : Nat} {L : List (κ × ν)} (h : MapL S w b n L) {i : κ} (hi : S.ok i) {v : ν} (hv : lookD L i S.z = v) :
    (Instr.lookup S.t (.map (some b)) (S.key i) false).run Tryz.prog w = .ok (S.enc v) w := by
  obtain ⟨D, h1, h2⟩ := h.own
  obtain ⟨x, ps, hrun, hx⟩ := h1.lookup hS.keyed hS.und (hS.zero w) (heldE_mk S.enc S.z) (hS.mkk i hi)
  rw [h2.look hi, hv] at hx
  obtain ⟨y, rfl, hy⟩ := heldE_inv hx
  have e : S.enc v = S.enc y := by simpa using congrArg Prod.fst hy
  rw [hrun, e]
theorem MapL.look_ok (hS : S.Law) {w : World} {b n : Nat} {L : List (κ × ν)} (h : MapL S w b n L) {i : κ} (hi : S.ok i) {v : ν} (hv : lookD L i S.z = v) {is : Bool} (hb : hasD L i = is) :
    (Instr.lookup S.t (.map (some b)) (S.key i) true).run Tryz.prog w = .ok (.tuple #[S.enc v, .bool is]) w := by
  obtain ⟨D, h1, h2⟩ := h.own
  obtain ⟨x, ps, hrun, hx⟩ := h1.look_ok hS.keyed hS.und (hS.zero w) (heldE_mk S.enc S.z) (hS.mkk i hi)
  rw [h2.look hi, hv] at hx
  obtain ⟨y, rfl, hy⟩ := heldE_inv hx
  have e : S.enc v = S.enc y := by simpa using congrArg Prod.fst hy
  rw [h2.has i hi, hb] at hrun
  rw [hrun, e]
theorem MapL.len (hS : S.Law) {w : World} {b n : Nat} {L : List (κ × ν)} (h : MapL S w b n L) (ty : TypeId) : (Builtin.len_ #[S.t] ty #[.map (some b)]).run Tryz.prog w = .ok (.int .i64 L.length) w := by
  obtain ⟨D, h1, h2⟩ := h.own
  have := h1.len hS.und ty
  rw [h2.sz] at this
  exact this
theorem MapL.put (hS : S.Law) {w : World} {b n : Nat} {L : List (κ × ν)} (h : MapL S w b n L) (hn : n < maxLen) {k : κ} (hi : S.ok k) (v : ν) :
    ∃ w1, (Instr.mapUpdate S.t (.map (some b)) (S.key k) (S.enc v)).run Tryz.prog w = .ok () w1 ∧ MapL S w1 b (n + 1) (putD L k v) ∧ M.Mods (fun k => k = b) w w1 := by
  obtain ⟨D, h1, h2⟩ := h.own
  obtain ⟨w1, hrun, r1, r2⟩ := h1.store hS.keyed hS.und hn (hS.mkk k hi) (heldE_mk S.enc v)
  refine ⟨w1, hrun, ⟨⟨_, r1, h2.put hS (h1.tidy hS.keyed) h.nd h.ok hi v⟩, putD_nodup h.nd k v, fun p hp => ?_⟩, turned_mods r2⟩
  rcases List.mem_append.1 hp with hp | hp
  · exact h.ok p (List.mem_filter.1 hp).1
  · rw [List.mem_singleton.1 hp]; exact hi
theorem MapL.del (hS : S.Law) {w : World} {b n : Nat} {L : List (κ × ν)} (h : MapL S w b n L) {k : κ} (hi : S.ok k) (ty : TypeId) :
    ∃ w1, (Builtin.delete_ #[S.t, S.kt] ty #[.map (some b), S.key k]).run Tryz.prog w = .ok (.tuple #[]) w1 ∧ MapL S w1 b n (delD L k) ∧ M.Mods (fun k => k = b) w w1 := by
  obtain ⟨D, h1, h2⟩ := h.own
  obtain ⟨w1, hrun, r1, r2⟩ := h1.drop hS.keyed hS.und (hS.mkk k hi) ty
  exact ⟨w1, hrun, ⟨⟨_, r1, h2.del hS (h1.tidy hS.keyed) h.nd h.ok hi⟩, delD_nodup h.nd k, fun p hp => h.ok p (List.mem_filter.1 hp).1⟩, turned_mods r2⟩
/-- 'for k, v := range m' under way: left: which pairs are still to come -/
structure RngL (S : MapS κ ν) (w : World) (b r n : Nat) (L left : List (κ × ν)) (cnt : Nat) : Prop where
  own : ∃ D lf, w.ranges Tryz.prog S.kt (heldE S.enc) b r n D lf cnt ∧ Rel S D L ∧ ∀ p ∈ L, (lf (S.lit p.1) = true ↔ p ∈ left)
  nd : (L.map Prod.fst).Nodup
  ok : ∀ p ∈ L, S.ok p.1
  sub : left.Sublist L
theorem RngL.lt {w : World} {b r n : Nat} {L left : List (κ × ν)} {cnt : Nat} (h : RngL S w b r n L left cnt) : r < w.heap.size ∧ b < w.heap.size := by
  obtain ⟨D, lf, h1, _⟩ := h.own
  exact ⟨h1.lt, h1.owns.lt⟩
theorem RngL.left_eq {w : World} {b r n : Nat} {L left : List (κ × ν)} {cnt : Nat} (h : RngL S w b r n L left cnt) : w.rangeLeft b r = cnt := by
  obtain ⟨D, lf, h1, _⟩ := h.own
  exact h1.left_eq
theorem RngL.map {w : World} {b r n : Nat} {L left : List (κ × ν)} {cnt : Nat} (h : RngL S w b r n L left cnt) : MapL S w b n L := by
  obtain ⟨D, lf, h1, h2, _⟩ := h.own
  exact ⟨⟨D, h1.owns, h2⟩, h.nd, h.ok⟩
theorem RngL.keep {w w1 : World} {b r n : Nat} {L left : List (κ × ν)} {cnt : Nat} {F : Nat → Prop} (h : RngL S w b r n L left cnt) (hm : M.Mods F w w1) (hb : ¬ F b) (hr : ¬ F r) : RngL S w1 b r n L left cnt := by
  obtain ⟨h0, h00⟩ := h.lt
  obtain ⟨D, lf, h1, h2⟩ := h.own
  obtain ⟨es, clock, since, seen, c0, e1, F, hs, hD, e2, rest⟩ := h1
  exact ⟨⟨D, lf, ⟨es, clock, since, seen, c0, (hm.block b h00 hb).trans e1, F, hs, hD, (hm.block r h0 hr).trans e2, rest⟩, h2⟩, h.nd, h.ok, h.sub⟩
theorem RngL.below {w w1 : World} {b r n : Nat} {L left : List (κ × ν)} {cnt : Nat} (h : RngL S w b r n L left cnt) (hm : Below w.heap.size w w1) : RngL S w1 b r n L left cnt :=
  h.keep (F := fun _ => False) (M.Mods.of_below hm) (fun h => h) (fun h => h)
/-- what comes next -/
theorem RngL.next (hS : S.Law) (hI : S.Inv) {w : World} {b r n : Nat} {L left : List (κ × ν)} {cnt : Nat} (h : RngL S w b r n L left cnt) (ty : TypeId) :
    (cnt = 0 ∧ left = [] ∧ (Instr.next (.pointer (some ⟨r, 0, none⟩)) false ty).run Tryz.prog w = .ok (.tuple #[.bool false]) w) ∨
    ∃ p w' cnt', p ∈ left ∧ (Instr.next (.pointer (some ⟨r, 0, none⟩)) false ty).run Tryz.prog w = .ok (.tuple #[.bool true, S.key p.1, S.enc p.2]) w' ∧ RngL S w' b r n L (delD left p.1) cnt' ∧ cnt' < cnt ∧ M.Mods (fun k => k = r) w w' ∧
      (Instr.entry (.pointer (some ⟨r, 0, none⟩))).run Tryz.prog w' = .ok (.tuple #[S.key p.1, S.enc p.2]) w' := by
  obtain ⟨D, lf, h1, h2, h3⟩ := h.own
  rcases h1.next hS.keyed ty with ⟨h0, hl, hrun⟩ | ⟨key, v, kl, y, w', cnt', hkey, hlk, hv, hat, hrun, hrg, hlt, hgr, hsz, hen⟩
  · refine .inl ⟨h0, ?_, hrun⟩
    refine List.eq_nil_iff_forall_not_mem.2 fun x hx => ?_
    have := (h3 x (h.sub.subset hx)).2 hx
    rw [hl] at this; cases this
  · obtain ⟨i, rfl, rfl, hi⟩ := hI _ _ hkey
    have hh : Maps.has D (S.lit i) = true := Maps.has_true_of_atKey hat
    rw [h2.has i hi] at hh
    unfold hasD at hh
    rw [decide_eq_true_eq] at hh
    obtain ⟨x, hx, rfl⟩ := List.mem_map.1 hh
    obtain ⟨x2, rfl, rfl⟩ := heldE_inv hv
    have e1 : S.enc x.2 = S.enc x2 := by
      have := (h2.at_ x hx (.lit (.bool false))).symm.trans (hat (.lit (.bool false)))
      simpa using this
    rw [← e1] at hrun hen
    refine .inr ⟨x, w', cnt', (h3 x hx).1 hlk, hrun, ⟨⟨D, _, hrg, h2, fun y hy => ?_⟩, h.nd, h.ok, List.filter_sublist.trans h.sub⟩, hlt, ⟨hgr.os, hgr.tape, hgr.output, hgr.size, fun k hk hn => hgr.block k hk (fun e => hn (Option.some.inj e))⟩, hen⟩
    unfold delD
    rw [List.mem_filter, ← h3 y hy, Bool.and_eq_true]
    refine and_congr_right fun _ => ?_
    have key : (S.lit y.1).sameKey (S.lit x.1) = true ↔ y.1 = x.1 := by
     constructor
     · intro e; exact hS.linj (h.ok y hy) (h.ok x hx) (WideAt.sameKey_eq e)
     · intro e; rw [e]; exact WideAt.sameKey_self (hS.isk _)
    cases hs : (S.lit y.1).sameKey (S.lit x.1) with
    | true => simp [key.1 hs]
    | false =>
      have : ¬ y.1 = x.1 := fun e => by rw [key.2 e] at hs; cases hs
      simp [this]
theorem MapL.range (hS : S.Law) {w : World} {b n : Nat} {L : List (κ × ν)} (h : MapL S w b n L) : ∃ w' cnt, (Instr.range S.t (.map (some b))).run Tryz.prog w = .ok (.pointer (some ⟨w.heap.size, 0, none⟩)) w' ∧ RngL S w' b w.heap.size n L L cnt ∧ Below w.heap.size w w' := by
  obtain ⟨D, h1, h2⟩ := h.own
  obtain ⟨w', hrun, hrg, hgr, hsz⟩ := h1.range hS.keyed hS.und
  refine ⟨w', _, hrun, ⟨⟨D, _, hrg, h2, fun x hx => ?_⟩, h.nd, h.ok, List.Sublist.refl _⟩, ?_⟩
  · rw [h2.has x.1 (h.ok x hx)]
    unfold hasD
    rw [decide_eq_true_eq]
    exact ⟨fun _ => hx, fun _ => List.mem_map.2 ⟨x, hx, rfl⟩⟩
  · exact (Below.refl _ _).grown hgr (Nat.le_refl _) (fun j e => by cases e)
/-! The same, at the operation. -/
theorem wpList_putL (hS : S.Law) {ops : Array Oper} {rest : List Oper} {o : Oper} {a : Act} {Q : Exit → Act → World → Prop} {w : World} {b n : Nat} {L : List (κ × ν)} (h : MapL S w b n L) (hn : n < maxLen) (k : κ) (hi : S.ok k) (v : ν)
    (hg : o.guard = none) (m x y : Operand) (hop : o.op = Op.mapUpdate S.t m x y) (hm : a.eval m = .map (some b)) (hk : a.eval x = S.key k) (hv : a.eval y = S.enc v)
    (hK : ∀ w', MapL S w' b (n + 1) (putD L k v) → M.Mods (fun k => k = b) w w' → wpList Tryz.prog ops Q rest (a.put o.dst undef) w') : wpList Tryz.prog ops Q (o :: rest) a w := by
  refine wpList_plain hg fun K' hK' => ?_
  obtain ⟨w', hrun, r1, r2⟩ := h.put hS hn hi v
  unfold Oper.wp
  simp [execOp, hop, hm, hk, hv, hrun, Result.andThen]
  exact hK' _ _ (hK w' r1 r2)
end
end Go.Proofs.YtkgjfagejnppbaaGreatDoor.Mp
