/- Plain law: what a search that keeps numbers and least numbers knows about components (no program in sight). -/
namespace Go.Proofs.YtlbkbjeajcadiaaGreatDoor.T
set_option linter.unusedVariables false

/-- an edge of a graph of n nodes; E: each node's numbers -/
def Edge (E : Nat → List Int) (n : Nat) (u w : Nat) : Prop := u < n ∧ w < n ∧ (w : Int) ∈ E u
inductive Path (E : Nat → List Int) (n : Nat) : Nat → Nat → Prop
  | refl (u : Nat) : Path E n u u
  | step {u v w : Nat} : Edge E n u v → Path E n v w → Path E n u w
theorem Path.trans {E : Nat → List Int} {n u v w : Nat} (h : Path E n u v) (h2 : Path E n v w) : Path E n u w := by
  induction h with
  | refl => exact h2
  | step e _ ih => exact .step e (ih h2)
theorem Path.one {E : Nat → List Int} {n u v : Nat} (h : Edge E n u v) : Path E n u v := .step h (.refl v)

def upd {α : Type} (f : Nat → α) (i : Nat) (x : α) : Nat → α := fun j => if j = i then x else f j
theorem upd_same {α : Type} (f : Nat → α) (i : Nat) (x : α) : upd f i x i = x := by simp [upd]
theorem upd_other {α : Type} (f : Nat → α) {i j : Nat} (x : α) (h : j ≠ i) : upd f i x j = f j := by simp [upd, h]

structure St where
  num : Nat → Nat
  low : Nat → Nat
  ofc : Nat → Option Nat
  stack : List Nat
  next : Nat
  comps : List (List Nat)
def St.enter (s : St) (w : Nat) : St := { s with num := upd s.num w (s.next + 1), low := upd s.low w (s.next + 1), stack := s.stack ++ [w], next := s.next + 1 }
def St.lower (s : St) (v x : Nat) : St := { s with low := upd s.low v (min (s.low v) x) }
def St.pop (s : St) (v : Nat) (c : List Nat) (st : List Nat) : St :=
  { s with ofc := fun y => if y ∈ c then some s.comps.length else s.ofc y, stack := st, comps := s.comps ++ [c] }

/-- what is known; gr: the nodes that are gone through, the last one first -/
structure I0 (E : Nat → List Int) (n : Nat) (s : St) (gr : List Nat) : Prop where
  num : ∀ v, s.num v ≠ 0 → v < n ∧ s.num v ≤ s.next
  inj : ∀ u v, s.num u ≠ 0 → s.num u = s.num v → u = v
  stk : ∀ v, v ∈ s.stack ↔ s.num v ≠ 0 ∧ s.ofc v = none
  pw : s.stack.Pairwise fun a b => s.num a < s.num b
  ofs : ∀ v i, s.ofc v = some i → ∃ c, s.comps[i]? = some c ∧ v ∈ c
  cm : ∀ i c v, s.comps[i]? = some c → v ∈ c → s.ofc v = some i ∧ s.num v ≠ 0
  cs : ∀ c ∈ s.comps, c.Pairwise (· < ·) ∧ c ≠ []
  cl : ∀ u w i, s.ofc u = some i → Edge E n u w → ∃ j, s.ofc w = some j ∧ j ≤ i
  sc : ∀ u w i, s.ofc u = some i → s.ofc w = some i → Path E n u w
  fr : gr.Pairwise fun a b => s.num b < s.num a
  gs : ∀ g ∈ gr, g ∈ s.stack
  gp : ∀ g ∈ gr, ∀ y ∈ s.stack, s.num g ≤ s.num y → Path E n g y
  bl : ∀ y ∈ s.stack, y ∉ gr → ∃ u ∈ s.stack, s.num u < s.num y ∧ Path E n y u
  lw : ∀ y ∈ s.stack, s.low y ≤ s.num y ∧ ∃ u ∈ s.stack, s.num u = s.low y ∧ Path E n y u
  vis : ∀ y, s.num y ≠ 0 → y ∉ gr → ∀ w, Edge E n y w → s.num w ≠ 0
  seg : ∀ g ∈ gr, ∀ y ∈ s.stack, s.num g < s.num y → (∀ g' ∈ gr, s.num g < s.num g' → s.num y < s.num g') → ∀ w ∈ s.stack, Edge E n y w → s.low g ≤ s.num w

section
variable {E : Nat → List Int} {n : Nat} {s : St} {gr : List Nat}

/-- below each that waits there is one that is gone through -/
theorem I0.bot (h : I0 E n s gr) : ∀ y ∈ s.stack, ∃ g ∈ gr, s.num g ≤ s.num y ∧ Path E n y g := by
  have key : ∀ k, ∀ y ∈ s.stack, s.num y = k → ∃ g ∈ gr, s.num g ≤ s.num y ∧ Path E n y g := by
    intro k
    induction k using Nat.strongRecOn with
    | _ k ih =>
      intro y hy hk
      by_cases hg : y ∈ gr
      · exact ⟨y, hg, Nat.le_refl _, .refl y⟩
      · obtain ⟨u, hu, hlt, hp⟩ := h.bl y hy hg
        obtain ⟨g, h1, h2, h3⟩ := ih _ (by omega) u hu rfl
        exact ⟨g, h1, by omega, hp.trans h3⟩
  exact fun y hy => key _ y hy rfl
theorem I0.empty (h : I0 E n s []) : s.stack = [] := by
  cases hs : s.stack with
  | nil => rfl
  | cons y l =>
    obtain ⟨g, hg, _⟩ := h.bot y (by rw [hs]; exact List.mem_cons_self)
    cases hg
theorem I0.gnum (h : I0 E n s gr) {g : Nat} (hg : g ∈ gr) : s.num g ≠ 0 := ((h.stk g).1 (h.gs g hg)).1

/-- a new node -/
theorem I0.enter (h : I0 E n s gr) {w : Nat} (hw : w < n) (h0 : s.num w = 0) (hp : ∀ g ∈ gr, Path E n g w) : I0 E n (s.enter w) (w :: gr) := by
  have hne : ∀ y, s.num y ≠ 0 → y ≠ w := fun y hy e => hy (by rw [e, h0])
  have hn : ∀ y, s.num y ≠ 0 → (s.enter w).num y = s.num y := fun y hy => upd_other _ _ (hne y hy)
  have hnw : (s.enter w).num w = s.next + 1 := upd_same _ _ _
  have hlo : ∀ y, s.num y ≠ 0 → (s.enter w).low y = s.low y := fun y hy => upd_other _ _ (hne y hy)
  have hlw : (s.enter w).low w = s.next + 1 := upd_same _ _ _
  have hst : ∀ y, y ∈ (s.enter w).stack ↔ y ∈ s.stack ∨ y = w := fun y => by simp [St.enter]
  have hsn : ∀ y ∈ s.stack, s.num y ≠ 0 := fun y hy => ((h.stk y).1 hy).1
  have how : s.ofc w = none := by
    cases ho : s.ofc w with
    | none => rfl
    | some i => obtain ⟨c, hc, hm⟩ := h.ofs w i ho; exact absurd h0 (h.cm i c w hc hm).2
  have hz : ∀ y, (s.enter w).num y ≠ 0 → s.num y ≠ 0 ∨ y = w := fun y hy => by
    by_cases e : y = w
    · exact .inr e
    · left; rwa [show (s.enter w).num y = s.num y from upd_other _ _ e] at hy
  have hle : ∀ y, s.num y ≠ 0 → s.num y ≤ s.next := fun y hy => (h.num y hy).2
  have hwg : w ∉ gr := fun hg => h.gnum hg h0
  refine ⟨?_, ?_, ?_, ?_, h.ofs, ?_, h.cs, h.cl, h.sc, ?_, ?_, ?_, ?_, ?_, ?_, ?_⟩
  · intro v hv
    show v < n ∧ _ ≤ s.next + 1
    rcases hz v hv with h1 | rfl
    · rw [hn v h1]; have := h.num v h1; omega
    · rw [hnw]; exact ⟨hw, Nat.le_refl _⟩
  · intro u v hu he
    rcases hz u hu with h1 | rfl
    · rw [hn u h1] at he
      by_cases e : v = w
      · subst e; rw [hnw] at he; have := hle u h1; omega
      · rw [show (s.enter w).num v = s.num v from upd_other _ _ e] at he
        exact h.inj u v h1 he
    · rw [hnw] at he
      by_cases e : v = u
      · exact e.symm
      · rw [show (s.enter u).num v = s.num v from upd_other _ _ e] at he
        have := hle v (by omega)
        omega
  · intro v
    rw [hst]
    constructor
    · rintro (h1 | rfl)
      · have := (h.stk v).1 h1
        exact ⟨by rw [hn v this.1]; exact this.1, this.2⟩
      · exact ⟨by rw [hnw]; omega, how⟩
    · rintro ⟨h1, h2⟩
      rcases hz v h1 with h3 | rfl
      · exact .inl ((h.stk v).2 ⟨h3, h2⟩)
      · exact .inr rfl
  · show (s.stack ++ [w]).Pairwise _
    rw [List.pairwise_append]
    refine ⟨h.pw.imp_of_mem fun {a b} ha hb hab => by rw [hn a (hsn a ha), hn b (hsn b hb)]; exact hab, List.pairwise_singleton _ _, fun a ha b hb => ?_⟩
    obtain rfl := List.mem_singleton.1 hb
    rw [hn a (hsn a ha), hnw]
    have := hle a (hsn a ha)
    omega
  · intro i c v hc hv
    have := h.cm i c v hc hv
    exact ⟨this.1, by rw [hn v this.2]; exact this.2⟩
  · rw [List.pairwise_cons]
    refine ⟨fun g hg => ?_, h.fr.imp_of_mem fun {a b} ha hb hab => by rw [hn a (h.gnum ha), hn b (h.gnum hb)]; exact hab⟩
    rw [hn g (h.gnum hg), hnw]
    have := hle g (h.gnum hg)
    omega
  · intro g hg
    rw [hst]
    rcases List.mem_cons.1 hg with rfl | hg
    · exact .inr rfl
    · exact .inl (h.gs g hg)
  · intro g hg y hy hle2
    rcases List.mem_cons.1 hg with rfl | hg2
    · rcases (hst y).1 hy with h1 | rfl
      · rw [hnw, hn y (hsn y h1)] at hle2
        have := hle y (hsn y h1)
        omega
      · exact .refl y
    · rcases (hst y).1 hy with h1 | rfl
      · rw [hn g (h.gnum hg2), hn y (hsn y h1)] at hle2
        exact h.gp g hg2 y h1 hle2
      · exact hp g hg2
  · intro y hy hng
    rcases (hst y).1 hy with h1 | rfl
    · obtain ⟨u, hu, h2, h3⟩ := h.bl y h1 (fun hg => hng (List.mem_cons_of_mem _ hg))
      exact ⟨u, (hst u).2 (.inl hu), by rw [hn u (hsn u hu), hn y (hsn y h1)]; exact h2, h3⟩
    · exact absurd List.mem_cons_self hng
  · intro y hy
    rcases (hst y).1 hy with h1 | rfl
    · obtain ⟨h2, u, hu, h3, h4⟩ := h.lw y h1
      rw [hlo y (hsn y h1), hn y (hsn y h1)]
      exact ⟨h2, u, (hst u).2 (.inl hu), by rw [hn u (hsn u hu)]; exact h3, h4⟩
    · rw [hlw, hnw]
      exact ⟨Nat.le_refl _, y, hy, hnw, .refl y⟩
  · intro y hy hng x hx
    have h1 : y ≠ w := fun e => hng (by rw [e]; exact List.mem_cons_self)
    rcases hz y hy with h2 | h2
    · have h3 := h.vis y h2 (fun hg => hng (List.mem_cons_of_mem _ hg)) x hx
      rw [hn x h3]; exact h3
    · exact absurd h2 h1
  · intro g hg y hy hlt hseg x hx he
    rcases List.mem_cons.1 hg with rfl | hg
    · rcases (hst y).1 hy with h1 | rfl
      · rw [hnw, hn y (hsn y h1)] at hlt
        have := hle y (hsn y h1)
        omega
      · omega
    · have hgn := h.gnum hg
      rw [hlo g hgn]
      rcases (hst y).1 hy with h1 | rfl
      · have hyn := hsn y h1
        have hyg : y ∉ gr := fun hyg => by
          have := hseg y (List.mem_cons_of_mem _ hyg) hlt
          omega
        have hxn := h.vis y hyn hyg x he
        rcases (hst x).1 hx with h2 | rfl
        · rw [hn x hxn]
          refine h.seg g hg y h1 (by rw [hn g hgn, hn y hyn] at hlt; exact hlt) (fun g' hg' hl => ?_) x h2 he
          have := hseg g' (List.mem_cons_of_mem _ hg') (by rw [hn g hgn, hn g' (h.gnum hg')]; exact hl)
          rw [hn y hyn, hn g' (h.gnum hg')] at this
          exact this
        · exact absurd h0 hxn
      · have := hseg y List.mem_cons_self hlt
        omega

/-- a least number falls -/
theorem I0.lower (h : I0 E n s gr) {v x : Nat} (hv : v ∈ s.stack) (hx : ∃ u ∈ s.stack, s.num u = x ∧ Path E n v u) : I0 E n (s.lower v x) gr := by
  have hle : ∀ y, (s.lower v x).low y ≤ s.low y := fun y => by
    by_cases e : y = v
    · subst e; rw [show (s.lower y x).low y = _ from upd_same _ _ _]; exact Nat.min_le_left _ _
    · rw [show (s.lower v x).low y = _ from upd_other _ _ e]; exact Nat.le_refl _
  refine ⟨h.num, h.inj, h.stk, h.pw, h.ofs, h.cm, h.cs, h.cl, h.sc, h.fr, h.gs, h.gp, h.bl, fun y hy => ?_, h.vis, fun g hg y hy h1 h2 w hw he => Nat.le_trans (hle g) (h.seg g hg y hy h1 h2 w hw he)⟩
  obtain ⟨h1, u, hu, h2, h3⟩ := h.lw y hy
  refine ⟨Nat.le_trans (hle y) h1, ?_⟩
  by_cases e : y = v
  · subst e
    rw [show (s.lower y x).low y = _ from upd_same _ _ _]
    by_cases hm : s.low y ≤ x
    · rw [Nat.min_eq_left hm]; exact ⟨u, hu, h2, h3⟩
    · rw [Nat.min_eq_right (by omega)]; exact hx
  · rw [show (s.lower v x).low y = _ from upd_other _ _ e]
    exact ⟨u, hu, h2, h3⟩

/-- all edges of v are gone through -/
def Gone (E : Nat → List Int) (n : Nat) (s : St) (v : Nat) : Prop := ∀ w, Edge E n v w → s.num w ≠ 0 ∧ (w ∈ s.stack → s.low v ≤ s.num w)

/-- a node ends that leads to one before it -/
theorem I0.leave {v up : Nat} (h : I0 E n s (v :: up :: gr)) (hg : Gone E n s v) (hl : s.low v < s.num v) : I0 E n (s.lower up (s.low v)) (up :: gr) := by
  have hvs := h.gs v List.mem_cons_self
  have hus := h.gs up (List.mem_cons_of_mem _ List.mem_cons_self)
  have hfr := List.pairwise_cons.1 h.fr
  have huv : s.num up < s.num v := hfr.1 up List.mem_cons_self
  obtain ⟨_, u, hu, hnu, hpu⟩ := h.lw v hvs
  have hpv : Path E n up v := h.gp up (List.mem_cons_of_mem _ List.mem_cons_self) v hvs (by omega)
  have h2 := h.lower hus ⟨u, hu, hnu, hpv.trans hpu⟩
  have hfr2 := List.pairwise_cons.1 hfr.2
  refine ⟨h2.num, h2.inj, h2.stk, h2.pw, h2.ofs, h2.cm, h2.cs, h2.cl, h2.sc, hfr.2, fun g hg => h2.gs g (List.mem_cons_of_mem _ hg), fun g hg => h2.gp g (List.mem_cons_of_mem _ hg), fun y hy hny => ?_, h2.lw, fun y hy hny w hw => ?_, fun g hgg y hy hlt hsg w hw he => ?_⟩
  · by_cases e : y = v
    · subst e; exact ⟨u, hu, (show s.num u < s.num y by omega), hpu⟩
    · exact h2.bl y hy (fun hm => (List.mem_cons.1 hm).elim (fun h3 => e h3) (fun h3 => hny h3))
  · by_cases e : y = v
    · subst e; exact (hg w hw).1
    · exact h2.vis y hy (fun hm => (List.mem_cons.1 hm).elim (fun h3 => e h3) (fun h3 => hny h3)) w hw
  · have hw' : w ∈ s.stack := hw
    have hy' : y ∈ s.stack := hy
    have hlt' : s.num g < s.num y := hlt
    have hsg' : ∀ g' ∈ up :: gr, s.num g < s.num g' → s.num y < s.num g' := hsg
    show (s.lower up (s.low v)).low g ≤ s.num w
    rcases List.mem_cons.1 hgg with rfl | hgg2
    · -- up's segment takes v's in
      have hlow : (s.lower g (s.low v)).low g = min (s.low g) (s.low v) := upd_same _ _ _
      rw [hlow]
      by_cases e : y = v
      · subst e
        exact Nat.le_trans (Nat.min_le_right _ _) ((hg w he).2 hw')
      · rcases Nat.lt_or_ge (s.num y) (s.num v) with h3 | h3
        · refine Nat.le_trans (Nat.min_le_left _ _) (h.seg g (List.mem_cons_of_mem _ List.mem_cons_self) y hy' hlt' (fun g' hg' hl' => ?_) w hw' he)
          rcases List.mem_cons.1 hg' with rfl | hg'
          · exact h3
          · exact hsg' g' hg' hl'
        · have hvy : s.num v < s.num y := by
            rcases Nat.lt_or_eq_of_le h3 with h4 | h4
            · exact h4
            · exact absurd (h.inj v y (h.gnum List.mem_cons_self) h4) (fun e2 => e e2.symm)
          refine Nat.le_trans (Nat.min_le_right _ _) (h.seg v List.mem_cons_self y hy' hvy (fun g' hg' hl' => ?_) w hw' he)
          rcases List.mem_cons.1 hg' with rfl | hg'
          · omega
          · have := hfr.1 g' hg'; omega
    · have hgu : s.num g < s.num up := hfr2.1 g hgg2
      have hne : g ≠ up := fun e => by rw [e] at hgu; omega
      have hlow : (s.lower up (s.low v)).low g = s.low g := upd_other _ _ hne
      rw [hlow]
      refine h.seg g (List.mem_cons_of_mem _ (List.mem_cons_of_mem _ hgg2)) y hy' hlt' (fun g' hg' hl' => ?_) w hw' he
      rcases List.mem_cons.1 hg' with rfl | hg'
      · have := hsg' up List.mem_cons_self hgu; omega
      · exact hsg' g' hg' hl'
/-- the first of all leads to none before it -/
theorem I0.root {v : Nat} (h : I0 E n s [v]) : ¬ s.low v < s.num v := fun hl => by
  obtain ⟨_, u, hu, hnu, _⟩ := h.lw v (h.gs v List.mem_cons_self)
  obtain ⟨g, hg, hle, _⟩ := h.bot u hu
  obtain rfl := List.mem_singleton.1 hg
  omega

/-- a component is taken off -/
theorem I0.pop {v : Nat} {c st : List Nat} (h : I0 E n s (v :: gr)) (hg : Gone E n s v) (hl : s.low v = s.num v) (hc : ∀ y, y ∈ c ↔ y ∈ s.stack ∧ s.num v ≤ s.num y) (hcs : c.Pairwise (· < ·))
    (hst : ∀ y, y ∈ st ↔ y ∈ s.stack ∧ s.num y < s.num v) (hpw : st.Pairwise fun a b => s.num a < s.num b) : I0 E n (s.pop v c st) gr := by
  have hvs := h.gs v List.mem_cons_self
  have hfr := List.pairwise_cons.1 h.fr
  have hvc : v ∈ c := (hc v).2 ⟨hvs, Nat.le_refl _⟩
  have hnone : ∀ y ∈ c, s.ofc y = none := fun y hy => ((h.stk y).1 ((hc y).1 hy).1).2
  have hof : ∀ y, (s.pop v c st).ofc y = if y ∈ c then some s.comps.length else s.ofc y := fun _ => rfl
  have hlt : ∀ y i, s.ofc y = some i → i < s.comps.length := fun y i hy => by
    obtain ⟨c', hc', _⟩ := h.ofs y i hy
    exact (List.getElem?_eq_some_iff.1 hc').1
  have hold : ∀ y i, s.ofc y = some i → y ∉ c := fun y i hy hm => by rw [hnone y hm] at hy; cases hy
  -- edges of the component's nodes
  have hedge : ∀ y ∈ c, ∀ w, Edge E n y w → s.num w ≠ 0 ∧ (w ∈ s.stack → w ∈ c) := fun y hy w he => by
    obtain ⟨hys, hyv⟩ := (hc y).1 hy
    by_cases e : y = v
    · subst e
      obtain ⟨h1, h2⟩ := hg w he
      exact ⟨h1, fun hw => (hc w).2 ⟨hw, by have := h2 hw; omega⟩⟩
    · have hvy : s.num v < s.num y := by
        rcases Nat.lt_or_eq_of_le hyv with h4 | h4
        · exact h4
        · exact absurd (h.inj v y (h.gnum List.mem_cons_self) h4) (fun e2 => e e2.symm)
      have hny : y ∉ v :: gr := fun hm => by
        rcases List.mem_cons.1 hm with h3 | h3
        · exact e h3
        · have := hfr.1 y h3; omega
      refine ⟨h.vis y ((h.stk y).1 hys).1 hny w he, fun hw => (hc w).2 ⟨hw, ?_⟩⟩
      have := h.seg v List.mem_cons_self y hys hvy (fun g' hg' hl' => by
        rcases List.mem_cons.1 hg' with rfl | hg'
        · omega
        · have := hfr.1 g' hg'; omega) w hw he
      omega
  have hcl : ∀ y w, Path E n y w → (y ∈ c ∨ ∃ i, s.ofc y = some i) → (w ∈ c ∨ ∃ i, s.ofc w = some i) := by
    intro y w hp
    induction hp with
    | refl => exact id
    | @step a b d he _ ih =>
      intro hy
      refine ih ?_
      rcases hy with hy | ⟨i, hy⟩
      · obtain ⟨h1, h2⟩ := hedge _ hy _ he
        cases ho : s.ofc b with
        | none => exact .inl (h2 ((h.stk b).2 ⟨h1, ho⟩))
        | some j => exact .inr ⟨j, rfl⟩
      · obtain ⟨j, hj, _⟩ := h.cl _ _ i hy he
        exact .inr ⟨j, hj⟩
  -- each leads to v
  have hto : ∀ k, ∀ y ∈ c, s.num y = k → Path E n y v := by
    intro k
    induction k using Nat.strongRecOn with
    | _ k ih =>
      intro y hy hk
      obtain ⟨hys, hyv⟩ := (hc y).1 hy
      by_cases e : y = v
      · subst e; exact .refl y
      · have hny : y ∉ v :: gr := fun hm => by
          rcases List.mem_cons.1 hm with h3 | h3
          · exact e h3
          · have := hfr.1 y h3; omega
        obtain ⟨u, hu, hlt2, hp⟩ := h.bl y hys hny
        rcases hcl y u hp (.inl hy) with h5 | ⟨i, h5⟩
        · exact hp.trans (ih _ (by omega) u h5 rfl)
        · rw [((h.stk u).1 hu).2] at h5; cases h5
  have hfrom : ∀ y ∈ c, Path E n v y := fun y hy => h.gp v List.mem_cons_self y ((hc y).1 hy).1 ((hc y).1 hy).2
  have hgr : ∀ g ∈ gr, g ∈ st := fun g hg2 => (hst g).2 ⟨h.gs g (List.mem_cons_of_mem _ hg2), hfr.1 g hg2⟩
  have hsub : ∀ y ∈ st, y ∈ s.stack := fun y hy => ((hst y).1 hy).1
  have hsx : ∀ y ∈ s.stack, y ∉ c → y ∈ st := fun y hy hn => (hst y).2 ⟨hy, by
    rcases Nat.lt_or_ge (s.num y) (s.num v) with h3 | h3
    · exact h3
    · exact absurd ((hc y).2 ⟨hy, h3⟩) hn⟩
  have hsc : ∀ y ∈ st, y ∉ c := fun y hy hm => by have h1 := ((hst y).1 hy).2; have h2 := ((hc y).1 hm).2; omega
  -- who waits further down leads to what is further down
  have hdown : ∀ y ∈ st, ∀ u ∈ s.stack, s.num u ≤ s.num y → u ∈ st := fun y hy u hu hle => (hst u).2 ⟨hu, by have := ((hst y).1 hy).2; omega⟩
  refine ⟨h.num, h.inj, fun y => ?_, hpw, fun y i hy => ?_, fun i c' y hi hy => ?_, fun c' hc' => ?_, fun u w i hu he => ?_, fun u w i hu hw => ?_, hfr.2, hgr, fun g hg2 y hy hle => h.gp g (List.mem_cons_of_mem _ hg2) y (hsub y hy) hle, fun y hy hny => ?_, fun y hy => ?_, fun y hy hny w he => ?_, fun g hg2 y hy hlt2 hsg w hw he => ?_⟩
  · rw [hof]
    show y ∈ st ↔ s.num y ≠ 0 ∧ _
    constructor
    · intro hy
      rw [if_neg (hsc y hy)]
      exact (h.stk y).1 (hsub y hy)
    · rintro ⟨h1, h2⟩
      split at h2
      · cases h2
      · rename_i hn
        exact hsx y ((h.stk y).2 ⟨h1, h2⟩) hn
  · rw [hof] at hy
    split at hy
    · rename_i hm
      obtain rfl := Option.some.inj hy
      exact ⟨c, by simp [St.pop], hm⟩
    · obtain ⟨c', hc', hm⟩ := h.ofs y i hy
      have := hlt y i hy
      exact ⟨c', by simp only [St.pop]; rw [List.getElem?_append_left this]; exact hc', hm⟩
  · have hi' : (s.comps ++ [c])[i]? = some c' := hi
    rw [hof]
    rcases Nat.lt_or_ge i s.comps.length with h1 | h1
    · rw [List.getElem?_append_left h1] at hi'
      obtain ⟨h2, h3⟩ := h.cm i c' y hi' hy
      rw [if_neg (hold y i h2)]
      exact ⟨h2, h3⟩
    · rw [List.getElem?_append_right h1] at hi'
      have hi0 : i - s.comps.length = 0 := by have := (List.getElem?_eq_some_iff.1 hi').1; simp at this; omega
      rw [hi0] at hi'
      obtain rfl : c = c' := by simpa using hi'
      rw [if_pos hy, show i = s.comps.length by omega]
      exact ⟨rfl, ((h.stk y).1 ((hc y).1 hy).1).1⟩
  · rcases List.mem_append.1 (show c' ∈ s.comps ++ [c] from hc') with h1 | h1
    · exact h.cs c' h1
    · obtain rfl := List.mem_singleton.1 h1
      exact ⟨hcs, fun e => by rw [e] at hvc; cases hvc⟩
  · rw [hof] at hu ⊢
    split at hu
    · rename_i hm
      obtain rfl := Option.some.inj hu
      obtain ⟨h1, h2⟩ := hedge u hm w he
      by_cases hw : w ∈ c
      · exact ⟨_, by rw [if_pos hw], Nat.le_refl _⟩
      · cases ho : s.ofc w with
        | none => exact absurd (h2 ((h.stk w).2 ⟨h1, ho⟩)) hw
        | some j => exact ⟨j, by rw [if_neg hw], by have := hlt w j ho; omega⟩
    · obtain ⟨j, hj, hle⟩ := h.cl u w i hu he
      exact ⟨j, by rw [if_neg (hold w j hj)]; exact hj, hle⟩
  · rw [hof] at hu hw
    split at hu
    · rename_i hm
      obtain rfl := Option.some.inj hu
      split at hw
      · rename_i hm2
        exact (hto _ u hm rfl).trans (hfrom w hm2)
      · have := hlt w _ hw; omega
    · split at hw
      · have := hlt u _ hu; have := Option.some.inj hw; omega
      · exact h.sc u w i hu hw
  · have hny2 : y ∉ v :: gr := fun hm => by
      rcases List.mem_cons.1 hm with h3 | h3
      · have := ((hst y).1 hy).2; rw [h3] at this; omega
      · exact hny h3
    obtain ⟨u, hu, h1, h2⟩ := h.bl y (hsub y hy) hny2
    exact ⟨u, hdown y hy u hu (by omega), h1, h2⟩
  · obtain ⟨h1, u, hu, h2, h3⟩ := h.lw y (hsub y hy)
    exact ⟨h1, u, hdown y hy u hu (by omega), h2, h3⟩
  · by_cases e : y = v
    · subst e; exact (hg w he).1
    · exact h.vis y hy (fun hm => (List.mem_cons.1 hm).elim (fun h3 => e h3) (fun h3 => hny h3)) w he
  · refine h.seg g (List.mem_cons_of_mem _ hg2) y (hsub y hy) hlt2 (fun g' hg' hl' => ?_) w (hsub w hw) he
    rcases List.mem_cons.1 hg' with rfl | hg'
    · exact ((hst y).1 hy).2
    · exact hsg g' hg' hl'

/-- what is known of the edges that are gone through: of each node that is gone through, so many -/
def Pro (E : Nat → List Int) (n : Nat) (s : St) (fr : List (Nat × Nat)) : Prop :=
  ∀ f ∈ fr, f.2 ≤ (E f.1).length ∧ ∀ j, j < f.2 → ∀ w : Nat, w < n → (E f.1)[j]? = some (w : Int) → s.num w ≠ 0 ∧ (w ∈ s.stack → s.low f.1 ≤ s.num w)
theorem Pro.gone {v a : Nat} {fr : List (Nat × Nat)} (h : Pro E n s ((v, a) :: fr)) (ha : (E v).length ≤ a) : Gone E n s v := fun w he => by
  obtain ⟨_, hw, hm⟩ := he
  obtain ⟨j, hj⟩ := List.mem_iff_getElem?.1 hm
  exact (h (v, a) List.mem_cons_self).2 j (Nat.lt_of_lt_of_le (List.getElem?_eq_some_iff.1 hj).1 ha) w hw hj
/-- all of it -/
structure Inv (E : Nat → List Int) (n : Nat) (s : St) (fr : List (Nat × Nat)) : Prop where
  i0 : I0 E n s (fr.map (·.1))
  pro : Pro E n s fr

/-- a search begins -/
theorem Inv.start (h : Inv E n s []) {v : Nat} (hv : v < n) (h0 : s.num v = 0) : Inv E n (s.enter v) [(v, 0)] :=
  ⟨h.i0.enter hv h0 (fun g hg => by cases hg), fun f hf => by
    obtain rfl := List.mem_singleton.1 hf
    exact ⟨Nat.zero_le _, fun j hj => absurd hj (Nat.not_lt_zero j)⟩⟩
theorem Inv.step_pro {v a : Nat} {fr : List (Nat × Nat)} (h : Pro E n s ((v, a) :: fr)) (ha : a < (E v).length) (hn : ∀ w : Nat, w < n → (E v)[a]? = some (w : Int) → s.num w ≠ 0 ∧ (w ∈ s.stack → s.low v ≤ s.num w)) : Pro E n s ((v, a + 1) :: fr) := fun f hf => by
  rcases List.mem_cons.1 hf with rfl | hf
  · refine ⟨ha, fun j hj w hw hj2 => ?_⟩
    by_cases e : j = a
    · subst e; exact hn w hw hj2
    · exact (h (v, a) List.mem_cons_self).2 j (show j < a by have : j < a + 1 := hj; omega) w hw hj2
  · exact h f (List.mem_cons_of_mem _ hf)
/-- an edge that leads nowhere, or to what has its component -/
theorem Inv.pass {v a : Nat} {fr : List (Nat × Nat)} (h : Inv E n s ((v, a) :: fr)) (ha : a < (E v).length) (hn : ∀ w : Nat, w < n → (E v)[a]? = some (w : Int) → s.num w ≠ 0 ∧ w ∉ s.stack) : Inv E n s ((v, a + 1) :: fr) :=
  ⟨h.i0, Inv.step_pro h.pro ha fun w hw he => ⟨(hn w hw he).1, fun hm => absurd hm (hn w hw he).2⟩⟩
/-- an edge to what waits -/
theorem Inv.back {v a w : Nat} {fr : List (Nat × Nat)} (h : Inv E n s ((v, a) :: fr)) (he : (E v)[a]? = some (w : Int)) (hv : v < n) (hw : w < n) (hm : w ∈ s.stack) : Inv E n (s.lower v (s.num w)) ((v, a + 1) :: fr) := by
  have ha := (List.getElem?_eq_some_iff.1 he).1
  refine ⟨h.i0.lower (h.i0.gs v List.mem_cons_self) ⟨w, hm, rfl, .one ⟨hv, hw, List.mem_of_getElem? he⟩⟩, Inv.step_pro (s := s.lower v (s.num w)) (fun f hf => ⟨(h.pro f hf).1, fun j hj x hx hj2 => ?_⟩) ha fun x hx he2 => ?_⟩
  · obtain ⟨h1, h2⟩ := (h.pro f hf).2 j hj x hx hj2
    refine ⟨h1, fun hm2 => ?_⟩
    by_cases e : f.1 = v
    · rw [show (s.lower v (s.num w)).low f.1 = min (s.low v) (s.num w) by rw [e]; exact upd_same _ _ _]
      exact Nat.le_trans (Nat.min_le_left _ _) (by rw [← e]; exact h2 hm2)
    · rw [show (s.lower v (s.num w)).low f.1 = s.low f.1 from upd_other _ _ e]
      exact h2 hm2
  · rw [he] at he2
    obtain rfl : w = x := by have := Option.some.inj he2; omega
    refine ⟨((h.i0.stk w).1 hm).1, fun _ => ?_⟩
    rw [show (s.lower v (s.num w)).low v = min (s.low v) (s.num w) from upd_same _ _ _]
    exact Nat.min_le_right _ _
/-- an edge to a new node -/
theorem Inv.go {v a w : Nat} {fr : List (Nat × Nat)} (h : Inv E n s ((v, a) :: fr)) (he : (E v)[a]? = some (w : Int)) (hv : v < n) (hw : w < n) (h0 : s.num w = 0) : Inv E n (s.enter w) ((w, 0) :: (v, a + 1) :: fr) := by
  have ha := (List.getElem?_eq_some_iff.1 he).1
  have hvs := h.i0.gs v List.mem_cons_self
  have hed : Edge E n v w := ⟨hv, hw, List.mem_of_getElem? he⟩
  have hfr := List.pairwise_cons.1 h.i0.fr
  have hpa : ∀ g ∈ v :: fr.map (·.1), Path E n g w := fun g hg => by
    refine Path.trans (h.i0.gp g hg v hvs ?_) (.one hed)
    rcases List.mem_cons.1 hg with rfl | hg
    · exact Nat.le_refl _
    · exact Nat.le_of_lt (hfr.1 g hg)
  refine ⟨h.i0.enter hw h0 hpa, fun f hf => ?_⟩
  have hnum : ∀ x, s.num x ≠ 0 → (s.enter w).num x = s.num x := fun x hx => upd_other _ _ (fun e => hx (by rw [e]; exact h0))
  have hstk : ∀ x, x ∈ (s.enter w).stack → x ∈ s.stack ∨ x = w := fun x hx => by simpa [St.enter] using hx
  have hlow : ∀ g ∈ v :: fr.map (·.1), (s.enter w).low g = s.low g ∧ s.low g ≤ s.next := fun g hg => by
    have h1 := h.i0.gnum hg
    have h2 := (h.i0.lw g (h.i0.gs g hg)).1
    have h3 := (h.i0.num g h1).2
    exact ⟨upd_other _ _ (fun e => h1 (by rw [e]; exact h0)), by omega⟩
  have hwn : (s.enter w).num w = s.next + 1 := upd_same _ _ _
  have key : ∀ f ∈ (v, a) :: fr, ∀ x : Nat, (s.num x ≠ 0 ∧ (x ∈ s.stack → s.low f.1 ≤ s.num x)) → (s.enter w).num x ≠ 0 ∧ (x ∈ (s.enter w).stack → (s.enter w).low f.1 ≤ (s.enter w).num x) := fun f hf x hx => by
    obtain ⟨hl, hl2⟩ := hlow f.1 (by rcases List.mem_cons.1 hf with rfl | hf; exact List.mem_cons_self; exact List.mem_cons_of_mem _ (List.mem_map.2 ⟨f, hf, rfl⟩))
    rw [hnum x hx.1, hl]
    refine ⟨hx.1, fun hm => ?_⟩
    rcases hstk x hm with h1 | rfl
    · exact hx.2 h1
    · exact absurd h0 hx.1
  rcases List.mem_cons.1 hf with rfl | hf
  · exact ⟨Nat.zero_le _, fun j hj => absurd hj (Nat.not_lt_zero j)⟩
  rcases List.mem_cons.1 hf with rfl | hf
  · refine ⟨ha, fun j hj x hx hj2 => ?_⟩
    by_cases e : j = a
    · subst e
      have he2 : (E v)[j]? = some (x : Int) := hj2
      rw [he] at he2
      obtain rfl : w = x := by have := Option.some.inj he2; omega
      obtain ⟨hl, hl2⟩ := hlow v List.mem_cons_self
      refine ⟨by rw [hwn]; omega, fun _ => ?_⟩
      show (s.enter w).low v ≤ _
      rw [hwn, hl]; omega
    · exact key (v, a) List.mem_cons_self x ((h.pro (v, a) List.mem_cons_self).2 j (show j < a by have : j < a + 1 := hj; omega) x hx hj2)
  · exact ⟨(h.pro f (List.mem_cons_of_mem _ hf)).1, fun j hj x hx hj2 => key f (List.mem_cons_of_mem _ hf) x ((h.pro f (List.mem_cons_of_mem _ hf)).2 j hj x hx hj2)⟩
/-- a node ends: it leads to one before it -/
theorem Inv.leave {v a up b : Nat} {fr : List (Nat × Nat)} (h : Inv E n s ((v, a) :: (up, b) :: fr)) (ha : (E v).length ≤ a) (hl : s.low v < s.num v) : Inv E n (s.lower up (s.low v)) ((up, b) :: fr) := by
  refine ⟨h.i0.leave (h.pro.gone ha) hl, fun f hf => ⟨(h.pro f (List.mem_cons_of_mem _ hf)).1, fun j hj x hx hj2 => ?_⟩⟩
  obtain ⟨h1, h2⟩ := (h.pro f (List.mem_cons_of_mem _ hf)).2 j hj x hx hj2
  refine ⟨h1, fun hm2 => ?_⟩
  by_cases e : f.1 = up
  · rw [show (s.lower up (s.low v)).low f.1 = min (s.low up) (s.low v) by rw [e]; exact upd_same _ _ _]
    exact Nat.le_trans (Nat.min_le_left _ _) (by rw [← e]; exact h2 hm2)
  · rw [show (s.lower up (s.low v)).low f.1 = s.low f.1 from upd_other _ _ e]
    exact h2 hm2
theorem Inv.root {v a : Nat} (h : Inv E n s [(v, a)]) : s.low v = s.num v := by
  have h1 := (h.i0.lw v (h.i0.gs v List.mem_cons_self)).1
  have h2 : ¬ s.low v < s.num v := I0.root h.i0
  omega
/-- a node ends: a component is taken off -/
theorem Inv.pop {v a : Nat} {fr : List (Nat × Nat)} {c st : List Nat} (h : Inv E n s ((v, a) :: fr)) (ha : (E v).length ≤ a) (hl : s.low v = s.num v) (hc : ∀ y, y ∈ c ↔ y ∈ s.stack ∧ s.num v ≤ s.num y) (hcs : c.Pairwise (· < ·))
    (hst : ∀ y, y ∈ st ↔ y ∈ s.stack ∧ s.num y < s.num v) (hpw : st.Pairwise fun a b => s.num a < s.num b) : Inv E n (s.pop v c st) fr :=
  ⟨h.i0.pop (h.pro.gone ha) hl hc hcs hst hpw, fun f hf => ⟨(h.pro f (List.mem_cons_of_mem _ hf)).1, fun j hj x hx hj2 => by
    obtain ⟨h1, h2⟩ := (h.pro f (List.mem_cons_of_mem _ hf)).2 j hj x hx hj2
    exact ⟨h1, fun hm => h2 ((hst x).1 hm).1⟩⟩⟩
/-- behind that the one before has no lesser number -/
theorem Inv.pop_up {v a up b : Nat} {fr : List (Nat × Nat)} (h : Inv E n s ((v, a) :: (up, b) :: fr)) (hl : s.low v = s.num v) : s.low up ≤ s.low v := by
  have h1 := (h.i0.lw up (h.i0.gs up (List.mem_cons_of_mem _ List.mem_cons_self))).1
  have h2 : s.num up < s.num v := (List.pairwise_cons.1 h.i0.fr).1 up List.mem_cons_self
  omega
/-- at the start -/
theorem Inv.zero (E : Nat → List Int) (n : Nat) (low : Nat → Nat) : Inv E n ⟨fun _ => 0, low, fun _ => none, [], 0, []⟩ [] := by
  refine ⟨⟨?_, ?_, ?_, ?_, ?_, ?_, ?_, ?_, ?_, ?_, ?_, ?_, ?_, ?_, ?_, ?_⟩, fun f h => by cases h⟩
  · intro v h; exact absurd rfl h
  · intro u v h; exact absurd rfl h
  · intro v; exact ⟨fun h => (by cases h), fun h => absurd rfl h.1⟩
  · exact List.Pairwise.nil
  · intro v i h; cases h
  · intro i c v h; simp at h
  · intro c h; cases h
  · intro u w i h; cases h
  · intro u w i h; cases h
  · exact List.Pairwise.nil
  · intro g h; cases h
  · intro g h; cases h
  · intro y h; cases h
  · intro y h; cases h
  · intro y h; exact absurd rfl h
  · intro g h; cases h
/-- where nothing is gone through, all that has a number has its component -/
theorem Inv.all (h : Inv E n s []) {v : Nat} (hv : s.num v ≠ 0) : ∃ i, s.ofc v = some i := by
  cases ho : s.ofc v with
  | some i => exact ⟨i, rfl⟩
  | none =>
    have := (h.i0.stk v).2 ⟨hv, ho⟩
    rw [I0.empty h.i0] at this
    cases this
end
end Go.Proofs.YtlbkbjeajcadiaaGreatDoor.T
