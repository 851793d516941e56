/- Several texts in one. -/
import Derived.Test.YtkgjfagejnppbaaGreatDoorMrg20
import Derived.Test.YtkgjfagejnppbaaGreatDoorMrg15
import Derived.Maps.RangeWalk

/- Plain law of check: what a history comes to (no program in sight). -/
namespace Go.Proofs.YtkgjfagejnppbaaGreatDoor.X
open Go.Proofs.YtkgjfagejnppbaaGreatDoor.O Go.Proofs.YtkgjfagejnppbaaGreatDoor.P Go.Proofs.YtkgjfagejnppbaaGreatDoor.Mp Go.Proofs.YtkgjfagejnppbaaGreatDoor.K Go.Proofs.YtkgjfagejnppbaaGreatDoor.T
set_option linter.unusedVariables false
set_option linter.unusedSimpArgs false

noncomputable instance : DecidableEq Cmd := fun _ _ => Classical.propDecidable _
noncomputable instance : DecidableEq Rep := fun _ _ => Classical.propDecidable _
/-- an event -/
structure Ev where
  kind : Int
  at_ : Int
  cmd : Cmd
  client : Int
  seq : Int
  rep : Rep
abbrev Who := Int × Int
def whoC (c : Cmd) : Who := (c.client, c.seq)
def Ev.who (e : Ev) : Who := (e.client, e.seq)
theorem foldl_take {α β : Type} (f : β → α → β) (z : β) {l : List α} {k : Nat} {x : α} (h : l[k]? = some x) : (l.take (k + 1)).foldl f z = f ((l.take k).foldl f z) x := by
  rw [List.take_add_one, h, Option.toList_some, List.foldl_append]
  rfl

/-! called -/
noncomputable def stepCall (m : List (Cmd × Bool)) (e : Ev) : List (Cmd × Bool) := if e.kind = 1 then putD m e.cmd true else m
noncomputable def callsL (H : List Ev) : List (Cmd × Bool) := H.foldl stepCall []
noncomputable def isCall (c : Cmd) (e : Ev) : Bool := decide (e.kind = 1) && decide (e.cmd = c)
theorem calls_gen (c : Cmd) : ∀ (H : List Ev) (m : List (Cmd × Bool)), lookD (H.foldl stepCall m) c false = (lookD m c false || H.any (isCall c))
  | [], m => by simp
  | e :: H, m => by
    rw [List.foldl_cons, calls_gen c H, List.any_cons]
    unfold stepCall isCall
    by_cases h : e.kind = 1
    · rw [if_pos h]
      unfold lookD
      rw [findD_put]
      by_cases h2 : c = e.cmd
      · subst h2; simp [h]
      · rw [if_neg h2]; simp [h, Ne.symm h2]
    · rw [if_neg h]; simp [h]
theorem calls_at (c : Cmd) (H : List Ev) : lookD (callsL H) c false = H.any (isCall c) := by
  unfold callsL
  rw [calls_gen]
  simp [lookD, findD]
noncomputable def calledB (R : List Cmd) (H : List Ev) : Bool := R.all fun c => H.any (isCall c)

/-! answered -/
def atL (R : List Cmd) : Nat → List (Who × Int)
  | 0 => []
  | k + 1 => match R[k]? with
    | some c => putD (atL R k) (whoC c) (k : Int)
    | none => atL R k
theorem atL_succ {R : List Cmd} {k : Nat} {c : Cmd} (h : R[k]? = some c) : atL R (k + 1) = putD (atL R k) (whoC c) (k : Int) := by
  rw [atL]; simp only [h]
def lastL (R : List Cmd) : Nat → List (Int × Int)
  | 0 => []
  | k + 1 => match R[k]? with
    | some c => putD (lastL R k) c.client (max (lookD (lastL R k) c.client 0) c.seq)
    | none => lastL R k
theorem lastL_succ {R : List Cmd} {k : Nat} {c : Cmd} (h : R[k]? = some c) : lastL R (k + 1) = putD (lastL R k) c.client (max (lookD (lastL R k) c.client 0) c.seq) := by
  rw [lastL]; simp only [h]
theorem at_of {R : List Cmd} {w : Who} {v : Int} : ∀ {k : Nat}, findD (atL R k) w = some v → ∃ (j : Nat) (c : Cmd), j < k ∧ R[j]? = some c ∧ whoC c = w ∧ v = j
  | 0, h => by simp [atL, findD] at h
  | k + 1, h => by
    cases hc : R[k]? with
    | none =>
      rw [atL] at h
      simp only [hc] at h
      obtain ⟨j, c, h1, h2⟩ := at_of h
      exact ⟨j, c, by omega, h2⟩
    | some c =>
      rw [atL_succ hc, findD_put] at h
      split at h
      · rename_i e
        exact ⟨k, c, by omega, hc, e.symm, (Option.some.inj h).symm⟩
      · obtain ⟨j, c, h1, h2⟩ := at_of h
        exact ⟨j, c, by omega, h2⟩
theorem at_hit {R : List Cmd} (hn : (R.map whoC).Nodup) {j : Nat} {c : Cmd} (hj : R[j]? = some c) : ∀ {k : Nat}, j < k → findD (atL R k) (whoC c) = some (j : Int)
  | 0, h => by omega
  | k + 1, h => by
    cases hc : R[k]? with
    | none =>
      rw [atL]
      simp only [hc]
      have h1 := List.getElem?_eq_none_iff.1 hc
      have h2 := (List.getElem?_eq_some_iff.1 hj).1
      exact at_hit hn hj (by omega)
    | some d =>
      rw [atL_succ hc, findD_put]
      split
      · rename_i e
        have h1 : (R.map whoC)[j]? = some (whoC c) := by rw [List.getElem?_map, hj]; rfl
        have h2 : (R.map whoC)[k]? = some (whoC c) := by rw [List.getElem?_map, hc, e]; rfl
        have := (List.getElem?_inj (List.getElem?_eq_some_iff.1 h1).1 hn).1 (h1.trans h2.symm)
        rw [this]
      · rename_i e
        have : j ≠ k := fun e2 => by subst e2; rw [hj] at hc; cases hc; exact e rfl
        exact at_hit hn hj (by omega)
theorem at_miss {R : List Cmd} {w : Who} (h : ∀ c ∈ R, whoC c ≠ w) (k : Nat) : findD (atL R k) w = none := by
  cases hf : findD (atL R k) w with
  | none => rfl
  | some v =>
    obtain ⟨j, c, _, h1, h2, _⟩ := at_of hf
    exact absurd h2 (h c (List.mem_of_getElem? h1))
/-- what is wrong with the answers that are still to come -/
noncomputable def ansF (R : List Cmd) (RP : List Rep) : List Ev → Int → Int
  | [], wr => wr
  | e :: t, wr =>
    if e.kind ≠ 2 then ansF R RP t wr
    else if e.rep.code = 14 ∧ e.seq < lookD (lastL R R.length) e.client 0 then ansF R RP t wr
    else if e.rep.code = 14 ∨ hasD (atL R R.length) e.who = false then 8
    else if RP[(lookD (atL R R.length) e.who 0).toNat]? ≠ some e.rep then ansF R RP t 10
    else ansF R RP t wr
/-- an event that is no answer, or the one that the command had -/
def EvOk (R : List Cmd) (RP : List Rep) (e : Ev) : Prop := e.kind ≠ 2 ∨ (e.rep.code ≠ 14 ∧ ∃ (j : Nat) (c : Cmd), R[j]? = some c ∧ whoC c = e.who ∧ RP[j]? = some e.rep)
theorem ansF_app {R : List Cmd} {RP : List Rep} (hn : (R.map whoC).Nodup) : ∀ {H H2 : List Ev} {wr : Int}, (∀ e ∈ H, EvOk R RP e) → ansF R RP (H ++ H2) wr = ansF R RP H2 wr
  | [], H2, wr, _ => rfl
  | e :: t, H2, wr, h => by
    have ih := ansF_app hn (H := t) (H2 := H2) (wr := wr) (fun x hx => h x (List.mem_cons_of_mem _ hx))
    rw [List.cons_append, ansF]
    rcases h e List.mem_cons_self with h1 | ⟨h1, j, c, h2, h3, h4⟩
    · rw [if_pos h1]; exact ih
    · split
      · exact ih
      · have hf := at_hit hn h2 (List.getElem?_eq_some_iff.1 h2).1
        rw [h3] at hf
        have hl : lookD (atL R R.length) e.who 0 = (j : Int) := by unfold lookD; rw [hf]; rfl
        rw [if_neg (fun h => h1 h.1), if_neg (by rw [findD_has, hf]; simp [h1]), hl, if_neg (by rw [Int.toNat_natCast, h4]; simp)]
        exact ih
theorem ansF_ok {R : List Cmd} {RP : List Rep} (hn : (R.map whoC).Nodup) {H : List Ev} (h : ∀ e ∈ H, EvOk R RP e) : ansF R RP H 0 = 0 := by
  have := ansF_app hn (H2 := []) (wr := 0) h
  rwa [List.append_nil] at this
/-- an answer of what isn't done -/
theorem ansF_none {R : List Cmd} {RP : List Rep} (hn : (R.map whoC).Nodup) {H : List Ev} {e : Ev} (h : ∀ e ∈ H, EvOk R RP e) (h2 : e.kind = 2) (h3 : e.rep.code ≠ 14) (h4 : ∀ c ∈ R, whoC c ≠ e.who) : ansF R RP (H ++ [e]) 0 = 8 := by
  rw [ansF_app hn h, ansF, if_neg (by simp [h2]), if_neg (fun h => h3 h.1), if_pos (.inr (by rw [findD_has, at_miss h4]; rfl))]
/-! first -/
def hitC (R : List Cmd) (e : Ev) (i : Nat) : Prop := e.kind = 1 ∧ findD (atL R R.length) (whoC e.cmd) = some (i : Int) ∧ R[i]? = some e.cmd
def hitA (R : List Cmd) (e : Ev) (i : Nat) : Prop := e.kind = 2 ∧ e.rep.code ≠ 14 ∧ findD (atL R R.length) e.who = some (i : Int)
open Classical in
noncomputable def firstF (q : Ev → Nat → Prop) (H : List Ev) : Nat → Nat → Nat
  | 0, _ => H.length
  | k + 1, i => match H[k]? with
    | some e => if q e i then min (firstF q H k i) k else firstF q H k i
    | none => firstF q H k i
open Classical in
theorem firstF_succ {q : Ev → Nat → Prop} {H : List Ev} {k i : Nat} {e : Ev} (h : H[k]? = some e) : firstF q H (k + 1) i = if q e i then min (firstF q H k i) k else firstF q H k i := by
  rw [firstF]; simp only [h]
theorem firstF_le {q : Ev → Nat → Prop} {H : List Ev} {i j : Nat} {e : Ev} (h : H[j]? = some e) (hq : q e i) : ∀ {k : Nat}, j < k → firstF q H k i ≤ j
  | 0, h => by omega
  | k + 1, hk => by
    cases hc : H[k]? with
    | none =>
      rw [firstF]; simp only [hc]
      have h1 := List.getElem?_eq_none_iff.1 hc
      have h2 := (List.getElem?_eq_some_iff.1 h).1
      exact firstF_le h hq (by omega)
    | some e2 =>
      rw [firstF_succ hc]
      by_cases e : j = k
      · subst e
        rw [h] at hc; cases hc
        rw [if_pos hq]; exact Nat.min_le_right _ _
      · have := firstF_le h hq (k := k) (by omega)
        split
        · exact Nat.le_trans (Nat.min_le_left _ _) this
        · exact this
theorem firstF_ge {q : Ev → Nat → Prop} {H : List Ev} {i m : Nat} (hm : m ≤ H.length) (h : ∀ j e, j < m → H[j]? = some e → ¬ q e i) : ∀ (k : Nat), m ≤ firstF q H k i
  | 0 => hm
  | k + 1 => by
    have ih := firstF_ge hm h k
    cases hc : H[k]? with
    | none => rw [firstF]; simp only [hc]; exact ih
    | some e =>
      rw [firstF_succ hc]
      split
      · rename_i hq
        have : ¬ k < m := fun hl => h k e hl hc hq
        rw [Nat.le_min]; omega
      · exact ih
noncomputable def caN (R : List Cmd) (H : List Ev) (i : Nat) : Nat := firstF (hitC R) H H.length i
noncomputable def anN (R : List Cmd) (H : List Ev) (i : Nat) : Nat := firstF (hitA R) H H.length i

/-! rounds -/
noncomputable def edgeB (R : List Cmd) (H : List Ev) (i k : Nat) : Bool :=
  (decide (i < k) && meet (R.getD i ⟨0, 0, 0, nul, nul, 0⟩) (R.getD k ⟨0, 0, 0, nul, nul, 0⟩)) || (decide (i ≠ k) && decide (anN R H i < caN R H k))
noncomputable def edgeE (R : List Cmd) (H : List Ev) (i : Nat) : List Int := ((List.range R.length).filter (edgeB R H i)).map fun (k : Nat) => (k : Int)
/-- is there a round? -/
def RoundV (R : List Cmd) (H : List Ev) (v : Bool) : Prop := ∀ L q, Comp (edgeE R H) R.length L q → decide (L.length < R.length) = v
theorem edge_iff {R : List Cmd} {H : List Ev} {u w : Nat} : T.Edge (edgeE R H) R.length u w ↔ u < R.length ∧ w < R.length ∧ edgeB R H u w = true := by
  unfold T.Edge edgeE
  refine and_congr_right fun hu => and_congr_right fun hw => ?_
  rw [List.mem_map]
  constructor
  · rintro ⟨k, hk, e⟩
    obtain rfl : k = w := by omega
    exact (List.mem_filter.1 hk).2
  · intro h
    exact ⟨w, List.mem_filter.2 ⟨List.mem_range.2 hw, h⟩, rfl⟩
theorem idx_ofId {l : List O.Id} (h : l.Nodup) {i : Nat} {x : O.Id} (hi : l[i]? = some x) : l.idxOf x = i := by
  obtain ⟨h1, h2⟩ := List.getElem?_eq_some_iff.1 hi
  rw [← h2]
  exact h.idxOf_getElem i h1
theorem nat_pigeon {l : List Nat} {m : Nat} (hn : l.Nodup) (h : ∀ x ∈ l, x < m) : l.length ≤ m := by
  induction m generalizing l with
  | zero =>
    cases l with
    | nil => simp
    | cons a t => have := h a List.mem_cons_self; omega
  | succ m ih =>
    have h1 := ih (l := l.erase m) (hn.erase m) (fun x hx => by
      have h2 := h x (List.mem_of_mem_erase hx)
      have h3 : x ≠ m := fun e => by subst e; exact (List.Nodup.not_mem_erase hn) hx
      omega)
    have := List.length_erase (a := m) (l := l)
    split at this <;> omega
theorem path_up {E : Nat → List Int} {n : Nat} (h : ∀ u w, T.Edge E n u w → u < w) {u w : Nat} (hp : Path E n u w) : u ≤ w := by
  induction hp with
  | refl => exact Nat.le_refl _
  | step e _ ih => have := h _ _ e; omega
theorem comp_all {E : Nat → List Int} {n : Nat} {L : List (List Nat)} {q : Nat → Nat} (h : Comp E n L q) (hu : ∀ u w, T.Edge E n u w → u < w) : n ≤ L.length := by
  have hq : ∀ u w, u < n → w < n → q u = q w → u = w := fun u w h1 h2 e => by
    have h3 := path_up hu (h.d5 u w h1 h2 e)
    have h4 := path_up hu (h.d5 w u h2 h1 e.symm)
    omega
  have hn : ((List.range n).map q).Nodup := by
    unfold List.Nodup
    rw [List.pairwise_map]
    exact (List.Pairwise.and_mem.1 List.nodup_range).imp fun {a b} ⟨h1, h2, h3⟩ e => h3 (hq a b (List.mem_range.1 h1) (List.mem_range.1 h2) e)
  have := nat_pigeon (m := L.length) hn (fun x hx => by
    obtain ⟨v, hv, rfl⟩ := List.mem_map.1 hx
    obtain ⟨c, hc, _⟩ := h.d1 v (List.mem_range.1 hv)
    exact (List.getElem?_eq_some_iff.1 hc).1)
  simpa using this
/-- who is answered ahead of another one's call is done ahead of it: there is no round -/
theorem round_no {R : List Cmd} {H : List Ev} (h : ∀ i k, i < R.length → k < R.length → anN R H i < caN R H k → i < k) : RoundV R H false := by
  intro L q hc
  rw [decide_eq_false_iff_not]
  have := comp_all hc (fun u w he => by
    obtain ⟨h1, h2, h3⟩ := edge_iff.1 he
    unfold edgeB at h3
    simp only [Bool.or_eq_true, Bool.and_eq_true, decide_eq_true_eq] at h3
    rcases h3 with h3 | h3
    · exact h3.1
    · exact h u w h1 h2 h3.2)
  omega
/-- what Linear says of what is done, and a history -/
inductive LinV (R : List Cmd) (RP : List Rep) (H : List Ev) : Int → Prop
  | form : calledB R H = false → LinV R RP H 4
  | ans {v : Int} : calledB R H = true → ansF R RP H 0 = v → v ≠ 0 → LinV R RP H v
  | round {b : Bool} : calledB R H = true → ansF R RP H 0 = 0 → RoundV R H b → LinV R RP H (if b then 9 else 0)
theorem called_of {R : List Cmd} {H : List Ev} (h : ∀ c ∈ R, ∃ e ∈ H, e.kind = 1 ∧ e.cmd = c) : calledB R H = true := by
  unfold calledB
  rw [List.all_eq_true]
  intro c hc
  rw [List.any_eq_true]
  obtain ⟨e, he, h1, h2⟩ := h c hc
  exact ⟨e, he, by unfold isCall; simp [h1, h2]⟩
theorem lin_ok {R : List Cmd} {RP : List Rep} {H : List Ev} (hn : (R.map whoC).Nodup) (h1 : ∀ c ∈ R, ∃ e ∈ H, e.kind = 1 ∧ e.cmd = c) (h2 : ∀ e ∈ H, EvOk R RP e) (h3 : ∀ i k, i < R.length → k < R.length → anN R H i < caN R H k → i < k) : LinV R RP H 0 :=
  .round (b := false) (called_of h1) (ansF_ok hn h2) (round_no h3)
theorem lin_none {R : List Cmd} {RP : List Rep} {H : List Ev} {e : Ev} (hn : (R.map whoC).Nodup) (h1 : ∀ c ∈ R, ∃ e ∈ H, e.kind = 1 ∧ e.cmd = c) (h : ∀ e ∈ H, EvOk R RP e) (h2 : e.kind = 2) (h3 : e.rep.code ≠ 14) (h4 : ∀ c ∈ R, whoC c ≠ e.who) : LinV R RP (H ++ [e]) 8 :=
  .ans (called_of fun c hc => by obtain ⟨x, hx, g⟩ := h1 c hc; exact ⟨x, List.mem_append_left _ hx, g⟩) (ansF_none hn h h2 h3 h4) (by decide)

/-! what is done -/
/-- each hangs on just those ahead of it -/
structure Chain (X : List Rv) : Prop where
  nd : (idsX X).Nodup
  good : ∀ x ∈ X, goodR x = true
  dep : ∀ (i : Nat) (x : Rv), X[i]? = some x → ∀ d : O.Id, d ∈ x.deps ↔ ∃ j, j < i ∧ (idsX X)[j]? = some d
theorem Chain.stuck {X : List Rv} (h : Chain X) {i : O.Id} (hs : Stuck X [] i) : False := by
  induction hs with
  | miss hx hd hno =>
    obtain ⟨k, hk⟩ := List.mem_iff_getElem?.1 hx
    obtain ⟨j, _, hj⟩ := (h.dep k _ hk _).1 hd
    exact hno (.inl (List.mem_of_getElem? hj))
  | step _ _ _ ih => exact ih
theorem Chain.lds {X : List Rv} (h : Chain X) {i j : O.Id} (hl : Lds X i j) : i ∈ idsX X → (idsX X).idxOf j ≤ (idsX X).idxOf i ∧ j ∈ idsX X := by
  induction hl with
  | refl i => exact fun h => ⟨Nat.le_refl _, h⟩
  | step hx hd hm _ ih =>
    rename_i x d j _
    intro _
    obtain ⟨h1, h2⟩ := ih hm
    refine ⟨?_, h2⟩
    obtain ⟨k, hk⟩ := List.mem_iff_getElem?.1 hx
    obtain ⟨l, hl, hlx⟩ := (h.dep k _ hk _).1 hd
    have e1 : (idsX X).idxOf d = l := idx_ofId h.nd hlx
    have e2 : (idsX X).idxOf x.id = k := idx_ofId h.nd (by rw [List.getElem?_map, hk]; rfl)
    omega
theorem Chain.row {X : List Rv} (h : Chain X) {S out : List O.Id} {R : List Rv} (hr : Row (byIds (nds R)) out) (hp : (R.map core).Perm (readyL X [] S)) (hO : ∀ i, i ∈ S ↔ Stuck X [] i) (ho : out.Perm (idsX (X.filter fun x => !decide (x.id ∈ S)))) : out = idsX X ∧ stayL X S = [] := by
  obtain rfl : S = [] := List.eq_nil_iff_forall_not_mem.2 fun i hi => h.stuck ((hO i).1 hi)
  have e1 : (X.filter fun x => !decide (x.id ∈ ([] : List O.Id))) = X := by simp
  have e2 : readyL X [] [] = X.map core := by
    unfold readyL
    rw [e1]
    refine List.map_congr_left fun x _ => ?_
    unfold rest core
    congr 1
    simp
  rw [e1] at ho
  rw [e2] at hp
  refine ⟨?_, by unfold stayL; simp⟩
  have hidp : (idsX R).Perm (idsX X) := by
    have := hp.map Rv.id
    rw [List.map_map, List.map_map] at this
    exact this
  have hnR : (idsX R).Nodup := hidp.nodup_iff.2 h.nd
  have hno : out.Nodup := ho.nodup_iff.2 h.nd
  -- R's records are X's, but for where they lie
  have hR : ∀ x ∈ X, ∃ y ∈ R, core y = core x := fun x hx => by
    have := hp.mem_iff.2 (List.mem_map.2 ⟨x, hx, rfl⟩)
    obtain ⟨y, hy, e⟩ := List.mem_map.1 this
    exact ⟨y, hy, e⟩
  have hR2 : ∀ y ∈ R, ∃ x ∈ X, core y = core x := fun y hy => by
    have := hp.mem_iff.1 (List.mem_map.2 ⟨y, hy, rfl⟩)
    obtain ⟨x, hx, e⟩ := List.mem_map.1 this
    exact ⟨x, hx, e.symm⟩
  have hl : ∀ {i j : O.Id}, Lds R i j → Lds X i j := fun {i j} hl => by
    induction hl with
    | refl i => exact .refl i
    | step hy hd hm _ ih =>
      rename_i y d j _
      obtain ⟨x, hx, e⟩ := hR2 y hy
      have h1 : y.id = x.id := by have h0 := congrArg Rv.id e; exact h0
      have h2 : y.deps = x.deps := by have h0 := congrArg Rv.deps e; exact h0
      rw [h1]
      exact .step hx (h2 ▸ hd) (hidp.mem_iff.1 hm) ih
  have hlt : ∀ {k l : Nat} {x y : Rv}, X[k]? = some x → X[l]? = some y → k < l → atI out x.id < atI out y.id := fun {k l x y} hk hl2 hkl => by
    obtain ⟨x2, hx2, ex⟩ := hR x (List.mem_of_getElem? hk)
    obtain ⟨y2, hy2, ey⟩ := hR y (List.mem_of_getElem? hl2)
    have exi : x2.id = x.id := by have h0 := congrArg Rv.id ex; exact h0
    have eyi : y2.id = y.id := by have h0 := congrArg Rv.id ey; exact h0
    have eyd : y2.deps = y.deps := by have h0 := congrArg Rv.deps ey; exact h0
    have gx : (idsX X)[k]? = some x.id := by rw [List.getElem?_map, hk]; rfl
    have gy : (idsX X)[l]? = some y.id := by rw [List.getElem?_map, hl2]; rfl
    have hne : y.id ≠ x.id := fun e => by
      have := (List.getElem?_inj (List.getElem?_eq_some_iff.1 gx).1 h.nd).1 (gx.trans (e ▸ gy.symm))
      omega
    have hd : x.id ∈ y2.deps := by rw [eyd]; exact (h.dep l y hl2 _).2 ⟨k, hkl, gx⟩
    have hlds : Lds R y2.id x2.id := by rw [exi]; exact .step hy2 hd (by rw [← exi]; exact List.mem_map.2 ⟨x2, hx2, rfl⟩) (.refl _)
    have hp2 := pair_law hnR hr hy2 hx2 (by rw [exi, eyi]; exact hne) hlds
    have hback : ¬ Lds R x2.id y2.id := fun hb => by
      have h3 := (h.lds (hl hb) (by rw [exi]; exact List.mem_of_getElem? gx)).1
      rw [exi, eyi, idx_ofId h.nd gx, idx_ofId h.nd gy] at h3
      omega
    have h4 : ¬ atI out y2.id < atI out x2.id := fun e => hback (hp2.1 e).1
    rw [exi, eyi] at h4
    have h5 : atI out x.id ≠ atI out y.id := fun e => hne (atI_inj (ho.mem_iff.2 (List.mem_of_getElem? gy)) (ho.mem_iff.2 (List.mem_of_getElem? gx)) e.symm)
    omega
  refine sorted_one (lt := fun a b => decide (atI out a < atI out b)) (fun a => by simp) (fun a b c h1 h2 => by simp only [decide_eq_true_eq] at *; omega) ?_ ?_ (fun x => ho.mem_iff)
  · rw [List.pairwise_iff_getElem]
    intro i j hi hj hij
    rw [atI_some hno (List.getElem?_eq_getElem hi), atI_some hno (List.getElem?_eq_getElem hj), decide_eq_true_eq]
    omega
  · rw [List.pairwise_iff_getElem]
    intro i j hi hj hij
    have hi' : i < X.length := by simpa using hi
    have hj' : j < X.length := by simpa using hj
    have := hlt (List.getElem?_eq_getElem hi') (List.getElem?_eq_getElem hj') hij
    simpa using this
/-- the sessions find all these commands fresh, and answer so -/
structure FreshAll (C : List Cmd) (RP : List Rep) : Prop where
  len : RP.length = C.length
  at_ : ∀ (i : Nat) (c : Cmd) (r : Rep), C[i]? = some c → RP[i]? = some r → (sesDo (sesRun ⟨[], []⟩ (C.take i)) c).2 = (r, true)
theorem FreshAll.nil : FreshAll [] [] := ⟨rfl, fun i c r h => by simp at h⟩
theorem FreshAll.snoc {C : List Cmd} {RP : List Rep} (h : FreshAll C RP) {c : Cmd} {r : Rep} (hd : (sesDo (sesRun ⟨[], []⟩ C) c).2 = (r, true)) : FreshAll (C ++ [c]) (RP ++ [r]) := by
  refine ⟨by simp [h.len], fun i c2 r2 h1 h2 => ?_⟩
  by_cases hi : i < C.length
  · rw [List.getElem?_append_left hi] at h1
    rw [List.getElem?_append_left (by rw [h.len]; exact hi)] at h2
    rw [List.take_append_of_le_length (by omega)]
    exact h.at_ i c2 r2 h1 h2
  · have hl := (List.getElem?_eq_some_iff.1 h1).1
    rw [List.length_append, List.length_singleton] at hl
    obtain rfl : i = C.length := by omega
    rw [List.getElem?_append_right (Nat.le_refl _)] at h1
    rw [List.getElem?_append_right (by rw [h.len]; exact Nat.le_refl _), h.len] at h2
    simp at h1 h2
    subst h1 h2
    rw [List.take_left]
    exact hd
theorem do_code {A : List Ent} {c : Cmd} (h : chk c = 0) : (appDo A c).2.code ≠ 14 := by
  have h0 : (0 : Int) ≠ 14 := by decide
  have h8 : (8 : Int) ≠ 14 := by decide
  have h10 : (10 : Int) ≠ 14 := by decide
  unfold appDo
  rw [if_pos h]
  unfold act
  split
  · cases P.look A c.key <;> first | exact h0 | exact h8
  · split
    · cases P.look A c.key <;> first | exact h0 | exact h8
    · split
      · exact h0
      · split
        · split <;> first | exact h0 | exact h10
        · split
          · exact h0
          · exact h0
theorem fresh_code {s : Ses} {c : Cmd} {r : Rep} (h : (sesDo s c).2 = (r, true)) : r.code ≠ 14 := by
  have h1 : (sesDo s c).2.2 = true := by rw [h]
  obtain ⟨e, hc, _⟩ := ses_fresh h1
  have h2 : (sesDo s c).2.1 = (appDo s.A c).2 := by rw [e]
  rw [h] at h2
  rw [show r = (appDo s.A c).2 from h2]
  exact do_code hc
end Go.Proofs.YtkgjfagejnppbaaGreatDoor.X

/- The engine's maps in memory. -/
namespace Go.Proofs.YtkgjfagejnppbaaGreatDoor.O
open Go.RowKit Go.Proofs.YtkgjfagejnppbaaGreatDoor.M Go.BigFrame Go.Maps
set_option linter.unusedVariables false
set_option linter.unusedSimpArgs false

abbrev tId : TypeId := 37
abbrev tMR : TypeId := 104
abbrev tMB : TypeId := 105
set_option maxRecDepth 100000 in
/-- what reads as an id is one -/
theorem key_id_inv {key : Value} {kl : Lit} (h : keyOf Tryz.prog tId key = some kl) : ∃ i, key = idV i ∧ kl = klI i ∧ IdI i := by
  have hc : Tryz.prog.cellsOf 37 = 2 := by kernel_rfl
  have hc3 : Tryz.prog.cellsOf 3 = 1 := by kernel_rfl
  have h0 : ∀ (d : Nat) (v : Value) (l : List Lit), Tryz.prog.keyLits (d + 1) 3 [v] = some l → ∃ x : Int, v = .int .i64 x ∧ (Lit.int .i64 x).wf = true ∧ l = [.int .i64 x] := fun d v l hv => by
    unfold Program.keyLits at hv
    rw [Tryz.underlying3] at hv
    cases v <;> simp at hv
    obtain ⟨⟨rfl, hw⟩, rfl⟩ := hv
    exact ⟨_, rfl, hw, rfl⟩
  cases key with
  | agg cs =>
    simp only [keyOf, Tryz.underlying37, Value.formed, hc] at h
    split at h
    · rename_i hk
      simp only [Bool.and_eq_true, beq_iff_eq] at hk
      obtain ⟨l⟩ := cs
      have hl : l.length = 2 := by simpa using hk.2
      match l, hl with
      | [a, b], _ =>
        obtain ⟨ls, hls, rfl⟩ := Option.map_eq_some_iff.1 h
        obtain ⟨d, hd⟩ := types_pos
        rw [hd] at hls
        have hls : Tryz.prog.keyLits (d + 1 + 1) 37 [a, b] = some ls := by simpa [Value.cells] using hls
        unfold Program.keyLits at hls
        rw [Tryz.underlying37] at hls
        simp [hc, hc3, Option.bind_eq_some_iff] at hls
        obtain ⟨la, ha, lb, ⟨lc, hb, rfl⟩, rfl⟩ := hls
        obtain ⟨x, rfl, hx, rfl⟩ := h0 d _ _ ha
        obtain ⟨y, rfl, hy, rfl⟩ := h0 d _ _ hb
        refine ⟨⟨x, y⟩, rfl, by simp [klI], ?_, ?_⟩
        · simp only [Lit.wf, Bool.and_eq_true, decide_eq_true_eq] at hx
          exact hx
        · simp only [Lit.wf, Bool.and_eq_true, decide_eq_true_eq] at hy
          exact hy
    · cases h
  | _ => simp [keyOf, Tryz.underlying37, Value.formed] at h
theorem mods_turned {w w1 : World} {b : Nat} (h : w.mapTurned w1 b) : M.Mods (fun k => k = b) w w1 :=
  ⟨h.grown.os, h.grown.tape, h.grown.output, h.grown.size, fun k hk hn => h.grown.block k hk (fun e => hn (Option.some.inj e))⟩

/-! A set of ids: a map to true. -/
noncomputable abbrev boolE : Value → Option (DataW Unit × List MemPlace) := plainElem Tryz.prog 4
theorem boolE_mk (x : Bool) : boolE (.bool x) = some (.lit (.bool x), []) := plainElem_bool Tryz.underlying4 x
set_option maxRecDepth 100000 in
theorem boolE_inv {v : Value} {x : Bool} {ps : List MemPlace} (h : boolE v = some (.lit (.bool x), ps)) : v = .bool x := by
  unfold boolE plainElem at h
  rw [Tryz.underlying4] at h
  cases v <;> simp at h
  rw [h.1]
structure BRel (D : DataW Unit) (O : List Id) : Prop where
  has : ∀ i, IdI i → Maps.has D (klI i) = decide (i ∈ O)
  at_ : ∀ i, IdI i → D.atKey (klI i) (.lit (.bool false)) = .lit (.bool (decide (i ∈ O)))
  sz : Maps.size D = O.length
theorem BRel.nil : BRel (.map []) [] := ⟨fun i _ => by simp [Maps.has], fun i _ => by simp; rfl, rfl⟩
theorem BRel.put {D : DataW Unit} {O : List Id} {i : Id} (h : BRel D O) (hm : Maps.Tidy D) (hi : IdI i) (hn : i ∉ O) : BRel (D.put (klI i) (.lit (.bool true))) (O ++ [i]) := by
  refine ⟨?_, ?_, ?_⟩
  · intro k hk
    by_cases e : k = i
    · subst e
      rw [has_put_same hm.isMap (klI_key _)]; simp
    · rw [has_put_other (fun e2 => e (klI_inj hk hi e2)), h.has k hk]
      simp [e]
  · intro k hk
    by_cases e : k = i
    · subst e
      rw [atKey_put_same hm.isMap (klI_key _)]; simp
    · rw [atKey_put_other (fun e2 => e (klI_inj hk hi e2)), h.at_ k hk]
      simp [e]
  · rw [Maps.size_put hm, h.has i hi, h.sz]
    simp [hn]
/-- how many entries a map has -/
def mapSz (w : World) (b : Nat) : Nat := match w.heap[b]? with
  | some (.map es _) => es.size
  | _ => 0
/-- block b is a set of at most n entries -/
def MapB (w : World) (b n : Nat) (O : List Id) : Prop := ∃ D, w.ownsMap Tryz.prog tId boolE b n D ∧ BRel D O
theorem MapB.lt {w : World} {b n : Nat} {O : List Id} (h : MapB w b n O) : b < w.heap.size := by
  obtain ⟨D, h1, _⟩ := h
  exact h1.lt
theorem MapB.mono {w : World} {b n m : Nat} {O : List Id} (h : MapB w b n O) (hm : n ≤ m) : MapB w b m O := by
  obtain ⟨D, h1, h2⟩ := h
  exact ⟨D, h1.mono hm, h2⟩
theorem MapB.keep {w w1 : World} {b n : Nat} {O : List Id} {S : Nat → Prop} (h : MapB w b n O) (hm : M.Mods S w w1) (hn : ¬ S b) : MapB w1 b n O := by
  have hlt := h.lt
  obtain ⟨D, ⟨es, clock, hb, r⟩, h2⟩ := h
  exact ⟨D, ⟨es, clock, (hm.block b hlt hn).trans hb, r⟩, h2⟩
theorem MapB.below {w w1 : World} {b n : Nat} {O : List Id} (h : MapB w b n O) (hm : Below w.heap.size w w1) : MapB w1 b n O :=
  h.keep (S := fun _ => False) (M.Mods.of_below hm) (fun h => h)
theorem MapB.made (w : World) : MapB (w.alloc (.map #[] 0)) w.heap.size 0 [] := ⟨.map [], World.ownsMap_made _ _ _ _, BRel.nil⟩
theorem MapB.sz {w : World} {b n : Nat} {O : List Id} (h : MapB w b n O) : mapSz w b = O.length := by
  obtain ⟨D, ⟨es, clock, hb, _, _, rfl⟩, h2⟩ := h
  rw [← h2.sz]
  unfold mapSz
  rw [hb]
  simp [Maps.size, length_sorted]
theorem MapB.look {w : World} {b n : Nat} {O : List Id} (h : MapB w b n O) {i : Id} (hi : IdI i) : (Instr.lookup tMB (.map (some b)) (idV i) false).run Tryz.prog w = .ok (.bool (decide (i ∈ O))) w := by
  obtain ⟨D, h1, h2⟩ := h
  obtain ⟨v, ps, hrun, hv⟩ := h1.lookup id_keyed Tryz.underlying105 (z := .bool false) (by kernel_rfl) (boolE_mk false) (key_id i hi)
  rw [h2.at_ i hi] at hv
  rw [hrun, boolE_inv hv]
theorem MapB.put {w : World} {b n : Nat} {O : List Id} (h : MapB w b n O) (hn : n < maxLen) {i : Id} (hi : IdI i) (hx : i ∉ O) :
    ∃ w1, (Instr.mapUpdate tMB (.map (some b)) (idV i) (.bool true)).run Tryz.prog w = .ok () w1 ∧ MapB w1 b (n + 1) (O ++ [i]) ∧ M.Mods (fun k => k = b) w w1 := by
  obtain ⟨D, h1, h2⟩ := h
  obtain ⟨w1, hrun, r1, r2⟩ := h1.store id_keyed Tryz.underlying105 hn (key_id i hi) (boolE_mk true)
  exact ⟨w1, hrun, ⟨_, r1, h2.put (h1.tidy id_keyed) hi hx⟩, mods_turned r2⟩

/-! Records by their ids. -/
def zeroR : Rv := ⟨⟨0, 0⟩, 0, ⟨0, 0⟩, ⟨0, 0⟩, ⟨0, 0, 0, P.nul, P.nul, 0⟩, [], 0, 0, none, 0⟩
open Classical in
noncomputable def recE (v : Value) : Option (DataW Value × List MemPlace) := if ∃ x : Rv, v = recV x then some (.held v, []) else none
theorem recE_mk (x : Rv) : recE (recV x) = some (.held (recV x), []) := if_pos ⟨x, rfl⟩
theorem recE_inv {v : Value} {y : DataW Value × List MemPlace} (h : recE v = some y) : ∃ x, v = recV x ∧ y = (.held (recV x), []) := by
  unfold recE at h
  split at h
  · rename_i hx
    obtain ⟨x, rfl⟩ := hx
    exact ⟨x, rfl, (Option.some.inj h).symm⟩
  · cases h
structure RRel (D : DataW Value) (W : List Rv) : Prop where
  has : ∀ i, IdI i → Maps.has D (klI i) = decide (i ∈ idsX W)
  at_ : ∀ x ∈ W, ∀ z, D.atKey (klI x.id) z = .held (recV x)
/-- what a look-up gives -/
def lookR (W : List Rv) (i : Id) : Rv := (W.find? fun x => decide (x.id = i)).getD zeroR
theorem RRel.look {D : DataW Value} {W : List Rv} (h : RRel D W) {i : Id} (hi : IdI i) : D.atKey (klI i) (.held (recV zeroR)) = .held (recV (lookR W i)) := by
  unfold lookR
  cases hf : W.find? (fun x => decide (x.id = i)) with
  | none =>
    have hn : i ∉ idsX W := fun hm => by
      obtain ⟨x, hx, e⟩ := List.mem_map.1 hm
      have := List.find?_eq_none.1 hf x hx
      simp [e] at this
    exact Maps.atKey_of_not_has (by rw [h.has i hi]; simpa using hn) _
  | some x =>
    have h1 := List.mem_of_find?_eq_some hf
    have h2 : x.id = i := by have := List.find?_some hf; simpa using this
    subst h2
    exact h.at_ x h1 _
theorem RRel.nil : RRel (.map []) [] := ⟨fun i _ => by simp [Maps.has], fun x hx => by cases hx⟩
theorem RRel.put {D : DataW Value} {W : List Rv} {x : Rv} (h : RRel D W) (hm : IsMap D) (hi : IdI x.id) (hok : ∀ y ∈ W, IdI y.id) (hn : x.id ∉ idsX W) : RRel (D.put (klI x.id) (.held (recV x))) (W ++ [x]) := by
  constructor
  · intro k hk
    by_cases e : k = x.id
    · subst e
      rw [has_put_same hm (klI_key _)]; simp
    · rw [has_put_other (fun e2 => e (klI_inj hk hi e2)), h.has k hk]
      simp [e]
  · intro y hy z
    rcases List.mem_append.1 hy with hy | hy
    · have hne : y.id ≠ x.id := fun e => hn (e ▸ List.mem_map.2 ⟨y, hy, rfl⟩)
      rw [atKey_put_other (fun e2 => hne (klI_inj (hok y hy) hi e2))]
      exact h.at_ y hy z
    · rw [List.mem_singleton.1 hy, atKey_put_same hm (klI_key _)]
theorem RRel.del {D : DataW Value} {W : List Rv} {j : Id} (h : RRel D W) (hj : IdI j) (hok : ∀ y ∈ W, IdI y.id) : RRel (D.del (klI j)) (W.filter fun x => !decide (x.id = j)) := by
  constructor
  · intro k hk
    by_cases e : k = j
    · subst e
      rw [has_del_same]
      symm
      rw [decide_eq_false_iff_not]
      intro hm
      obtain ⟨x, hx, e⟩ := List.mem_map.1 hm
      have := (List.mem_filter.1 hx).2
      simp [e] at this
    · rw [has_del_other (fun e2 => e (klI_inj hk hj e2)), h.has k hk]
      congr 1
      rw [eq_iff_iff]
      constructor
      · intro hm
        obtain ⟨x, hx, rfl⟩ := List.mem_map.1 hm
        exact List.mem_map.2 ⟨x, List.mem_filter.2 ⟨hx, by simpa using e⟩, rfl⟩
      · intro hm
        obtain ⟨x, hx, rfl⟩ := List.mem_map.1 hm
        exact List.mem_map.2 ⟨x, (List.mem_filter.1 hx).1, rfl⟩
  · intro y hy z
    obtain ⟨hy1, hy2⟩ := List.mem_filter.1 hy
    have hne : y.id ≠ j := by simpa using hy2
    rw [atKey_del_other (fun e2 => hne (klI_inj (hok y hy1) hj e2))]
    exact h.at_ y hy1 z
/-- block b is a map of at most n entries: these records by their ids -/
structure MapR (w : World) (b n : Nat) (W : List Rv) : Prop where
  own : ∃ D, w.ownsMap Tryz.prog tId recE b n D ∧ RRel D W
  nd : (idsX W).Nodup
  ok : ∀ x ∈ W, IdI x.id
theorem MapR.lt {w : World} {b n : Nat} {W : List Rv} (h : MapR w b n W) : b < w.heap.size := by
  obtain ⟨D, h1, _⟩ := h.own
  exact h1.lt
theorem MapR.mono {w : World} {b n m : Nat} {W : List Rv} (h : MapR w b n W) (hm : n ≤ m) : MapR w b m W := by
  obtain ⟨D, h1, h2⟩ := h.own
  exact ⟨⟨D, h1.mono hm, h2⟩, h.nd, h.ok⟩
theorem MapR.keep {w w1 : World} {b n : Nat} {W : List Rv} {S : Nat → Prop} (h : MapR w b n W) (hm : M.Mods S w w1) (hn : ¬ S b) : MapR w1 b n W := by
  have hlt := h.lt
  obtain ⟨D, ⟨es, clock, hb, r⟩, h2⟩ := h.own
  exact ⟨⟨D, ⟨es, clock, (hm.block b hlt hn).trans hb, r⟩, h2⟩, h.nd, h.ok⟩
theorem MapR.below {w w1 : World} {b n : Nat} {W : List Rv} (h : MapR w b n W) (hm : Below w.heap.size w w1) : MapR w1 b n W :=
  h.keep (S := fun _ => False) (M.Mods.of_below hm) (fun h => h)
theorem MapR.made (w : World) : MapR (w.alloc (.map #[] 0)) w.heap.size 0 [] := ⟨⟨.map [], World.ownsMap_made _ _ _ _, RRel.nil⟩, .nil, fun x h => by cases h⟩
theorem MapR.look_ok {w : World} {b n : Nat} {W : List Rv} (h : MapR w b n W) {i : Id} (hi : IdI i) : (Instr.lookup tMR (.map (some b)) (idV i) true).run Tryz.prog w = .ok (.tuple #[recV (lookR W i), .bool (decide (i ∈ idsX W))]) w := by
  obtain ⟨D, h1, h2⟩ := h.own
  obtain ⟨v, ps, hrun, hv⟩ := h1.look_ok id_keyed Tryz.underlying104 (z := recV zeroR) (by kernel_rfl) (recE_mk zeroR) (key_id i hi)
  rw [h2.look hi] at hv
  obtain ⟨x, rfl, hx⟩ := recE_inv hv
  have e : recV (lookR W i) = recV x := by simpa using congrArg Prod.fst hx
  rw [h2.has i hi] at hrun
  rw [hrun, e]
theorem MapR.put {w : World} {b n : Nat} {W : List Rv} (h : MapR w b n W) (hn : n < maxLen) {x : Rv} (hi : IdI x.id) (hx : x.id ∉ idsX W) :
    ∃ w1, (Instr.mapUpdate tMR (.map (some b)) (idV x.id) (recV x)).run Tryz.prog w = .ok () w1 ∧ MapR w1 b (n + 1) (W ++ [x]) ∧ M.Mods (fun k => k = b) w w1 := by
  obtain ⟨D, h1, h2⟩ := h.own
  obtain ⟨w1, hrun, r1, r2⟩ := h1.store id_keyed Tryz.underlying104 hn (key_id x.id hi) (recE_mk x)
  refine ⟨w1, hrun, ⟨⟨_, r1, h2.put h1.isMap hi h.ok hx⟩, ?_, fun y hy => ?_⟩, mods_turned r2⟩
  · unfold idsX
    rw [List.map_append]
    refine List.nodup_append.2 ⟨h.nd, by simp, fun a ha b hb => ?_⟩
    simp at hb
    subst hb
    exact fun e => hx (e ▸ ha)
  · rcases List.mem_append.1 hy with hy | hy
    · exact h.ok y hy
    · rw [List.mem_singleton.1 hy]; exact hi
theorem MapR.del {w : World} {b n : Nat} {W : List Rv} (h : MapR w b n W) {j : Id} (hj : IdI j) (ty : TypeId) :
    ∃ w1, (Builtin.delete_ #[tMR, tId] ty #[.map (some b), idV j]).run Tryz.prog w = .ok (.tuple #[]) w1 ∧ MapR w1 b n (W.filter fun x => !decide (x.id = j)) ∧ M.Mods (fun k => k = b) w w1 := by
  obtain ⟨D, h1, h2⟩ := h.own
  obtain ⟨w1, hrun, r1, r2⟩ := h1.drop id_keyed Tryz.underlying104 (key_id j hj) ty
  exact ⟨w1, hrun, ⟨⟨_, r1, h2.del hj h.ok⟩, h.nd.sublist (List.filter_sublist.map _), fun y hy => h.ok y (List.mem_filter.1 hy).1⟩, mods_turned r2⟩
/-- 'for i, r := range m' under way: left: which records are still to come -/
structure RngR (w : World) (b r n : Nat) (W : List Rv) (left : List Rv) (cnt : Nat) : Prop where
  own : ∃ D lf, w.ranges Tryz.prog tId recE b r n D lf cnt ∧ RRel D W ∧ ∀ x ∈ W, (lf (klI x.id) = true ↔ x ∈ left)
  nd : (idsX W).Nodup
  ok : ∀ x ∈ W, IdI x.id
  sub : left.Sublist W
theorem RngR.lt {w : World} {b r n : Nat} {W left : List Rv} {cnt : Nat} (h : RngR w b r n W left cnt) : r < w.heap.size ∧ b < w.heap.size := by
  obtain ⟨D, lf, h1, _⟩ := h.own
  exact ⟨h1.lt, h1.owns.lt⟩
theorem RngR.left_eq {w : World} {b r n : Nat} {W left : List Rv} {cnt : Nat} (h : RngR w b r n W left cnt) : w.rangeLeft b r = cnt := by
  obtain ⟨D, lf, h1, _⟩ := h.own
  exact h1.left_eq
theorem RngR.map {w : World} {b r n : Nat} {W left : List Rv} {cnt : Nat} (h : RngR w b r n W left cnt) : MapR w b n W := by
  obtain ⟨D, lf, h1, h2, _⟩ := h.own
  exact ⟨⟨D, h1.owns, h2⟩, h.nd, h.ok⟩
theorem RngR.keep {w w1 : World} {b r n : Nat} {W left : List Rv} {cnt : Nat} {S : Nat → Prop} (h : RngR w b r n W left cnt) (hm : M.Mods S w w1) (hb : ¬ S b) (hr : ¬ S r) : RngR w1 b r n W left cnt := by
  obtain ⟨h0, h00⟩ := h.lt
  obtain ⟨D, lf, h1, h2⟩ := h.own
  obtain ⟨es, clock, since, seen, c0, e1, F, hs, hD, e2, rest⟩ := h1
  exact ⟨⟨D, lf, ⟨es, clock, since, seen, c0, (hm.block b h00 hb).trans e1, F, hs, hD, (hm.block r h0 hr).trans e2, rest⟩, h2⟩, h.nd, h.ok, h.sub⟩
theorem RngR.below {w w1 : World} {b r n : Nat} {W left : List Rv} {cnt : Nat} (h : RngR w b r n W left cnt) (hm : Below w.heap.size w w1) : RngR w1 b r n W left cnt :=
  h.keep (S := fun _ => False) (M.Mods.of_below hm) (fun h => h) (fun h => h)
/-- what comes next -/
theorem RngR.next {w : World} {b r n : Nat} {W left : List Rv} {cnt : Nat} (h : RngR w b r n W left cnt) (ty : TypeId) :
    (cnt = 0 ∧ left = [] ∧ (Instr.next (.pointer (some ⟨r, 0, none⟩)) false ty).run Tryz.prog w = .ok (.tuple #[.bool false]) w) ∨
    ∃ x w' cnt', x ∈ left ∧ (Instr.next (.pointer (some ⟨r, 0, none⟩)) false ty).run Tryz.prog w = .ok (.tuple #[.bool true, idV x.id, recV x]) w' ∧ RngR w' b r n W (left.filter fun y => !decide (y.id = x.id)) cnt' ∧ cnt' < cnt ∧ M.Mods (fun k => k = r) w w' ∧
      (Instr.entry (.pointer (some ⟨r, 0, none⟩))).run Tryz.prog w' = .ok (.tuple #[idV x.id, recV x]) w' := by
  obtain ⟨D, lf, h1, h2, h3⟩ := h.own
  rcases h1.next id_keyed ty with ⟨h0, hl, hrun⟩ | ⟨key, v, kl, y, w', cnt', hkey, hlk, hv, hat, hrun, hrg, hlt, hgr, hsz, hen⟩
  · refine .inl ⟨h0, ?_, hrun⟩
    refine List.eq_nil_iff_forall_not_mem.2 fun x hx => ?_
    have := (h3 x (h.sub.subset hx)).2 hx
    rw [hl] at this; cases this
  · obtain ⟨i, rfl, rfl, hi⟩ := key_id_inv hkey
    have hh : Maps.has D (klI i) = true := Maps.has_true_of_atKey hat
    rw [h2.has i hi, decide_eq_true_eq] at hh
    obtain ⟨x, hx, rfl⟩ := List.mem_map.1 hh
    obtain ⟨x2, rfl, rfl⟩ := recE_inv hv
    have e1 : recV x = recV x2 := by
      have := (h2.at_ x hx (.lit (.bool false))).symm.trans (hat (.lit (.bool false)))
      simpa using this
    rw [← e1] at hrun hen
    refine .inr ⟨x, w', cnt', (h3 x hx).1 hlk, hrun, ⟨⟨D, _, hrg, h2, fun y hy => ?_⟩, h.nd, h.ok, List.filter_sublist.trans h.sub⟩, hlt, ⟨hgr.os, hgr.tape, hgr.output, hgr.size, fun k hk hn => hgr.block k hk (fun e => hn (Option.some.inj e))⟩, hen⟩
    rw [List.mem_filter, ← h3 y hy, Bool.and_eq_true]
    refine and_congr_right fun _ => ?_
    have key : (klI y.id).sameKey (klI x.id) = true ↔ y.id = x.id := by
     constructor
     · intro e; exact klI_inj (h.ok y hy) (h.ok x hx) (WideAt.sameKey_eq e)
     · intro e; rw [e]; exact WideAt.sameKey_self (klI_key _)
    cases hs : (klI y.id).sameKey (klI x.id) with
    | true => simp [key.1 hs]
    | false =>
      have : ¬ y.id = x.id := fun e => by rw [key.2 e] at hs; cases hs
      simp [this]
theorem MapR.range {w : World} {b n : Nat} {W : List Rv} (h : MapR w b n W) : ∃ w' cnt, (Instr.range tMR (.map (some b))).run Tryz.prog w = .ok (.pointer (some ⟨w.heap.size, 0, none⟩)) w' ∧ RngR w' b w.heap.size n W W cnt ∧ Below w.heap.size w w' := by
  obtain ⟨D, h1, h2⟩ := h.own
  obtain ⟨w', hrun, hrg, hgr, hsz⟩ := h1.range id_keyed Tryz.underlying104
  refine ⟨w', _, hrun, ⟨⟨D, _, hrg, h2, fun x hx => ?_⟩, h.nd, h.ok, List.Sublist.refl _⟩, ?_⟩
  · rw [h2.has x.id (h.ok x hx), decide_eq_true_eq]
    exact ⟨fun _ => hx, fun _ => List.mem_map.2 ⟨x, hx, rfl⟩⟩
  · exact (Below.refl _ _).grown hgr (Nat.le_refl _) (fun j e => by cases e)
end Go.Proofs.YtkgjfagejnppbaaGreatDoor.O
