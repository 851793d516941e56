/- Small lemmas that every seat's proofs share: the row's last step where only old memory is known to be kept. -/
import Derived.Test.YtlbkbjeajcadiaaGreatDoorRows
import Derived.ProofKit
import Derived.OpenShut
import Derived.Below
import Derived.ChangeSame
import Derived.SizedLaws
import Derived.WideKeyArgs
import Derived.Carry
import Derived.ChangeCalls
import Derived.Stop.Joined
import Derived.Deep.Slices
import Derived.Deep.Fields
namespace Go.Proofs.YtlbkbjeajcadiaaGreatDoor.C
open Go.RowKit Go.WideShapes Go.ChangeShapes
section
variable {H : Type} {enc : TypeId × Value → H} {P : Program}
theorem post_of_below {f : Func} {s : ChangeSpec} {apart fresh handsOn again : Bool} {W W' : World} {args : Array Value} {v : Value} {ds gs : List (DataW H)} {before pa pv : List MemPlace}
    (hW : DataW.Whole enc P f.params.toList s.vars apart W args.toList ds gs before)
    (hres : ∀ (b : Nat) (sp : Nat → Bool) (hd : Bool), DataW.TrodAll enc P W' b sp hd f.resultTypes.toList (v.resultList f.resultTypes.size) (s.fn H (ds ++ gs)).results [])
    (hargs : ∀ sp : Nat → Bool, (∀ p ∈ before, sp p.block = true) → DataW.TrodAll enc P W' 0 sp true f.params.toList args.toList (s.fn H (ds ++ gs)).args pa)
    (hvars : ∀ sp : Nat → Bool, (∀ p ∈ before, sp p.block = true) → DataW.TrodVars enc P W' sp s.vars (s.fn H (ds ++ gs)).vars pv)
    (hps : before = pa ++ pv) (hb : Below W.heap.size W W')
    (hok : ∀ (j : Nat) (t : TypeId) (r : Value), f.resultTypes[j]? = some t → (v.resultList f.resultTypes.size)[j]? = some r → Value.okWide P W' .any 0 t r) :
    s.post enc P f apart fresh handsOn again W args v W' := by
  have hlt : ∀ p ∈ before, p.block < W.heap.size := fun p hp => hW.lt p hp
  have hold : ∀ p ∈ before, (fun b => decide (b < W.heap.size)) p.block = true := fun p hp => by simpa using hlt p hp
  refine ⟨ds, gs, before, [], pa, pv, hW, hres _ _ _, hargs _ hold, hvars _ hold, World.keptBut_mono (fun p hp => ⟨hp, ?_⟩) (hb.frame (· ∈ before)), fun _ => ?_⟩
  · rw [hps, List.mem_append] at hp
    exact Or.inr hp
  · obtain ⟨_, _, _, _, _, hz, hn⟩ := hW
    refine ⟨hok, _, _, ([] ++ pa) ++ pv, ⟨[] ++ pa, pv, trodAll_append (hargs _ (fun _ _ => rfl)) (hres _ _ _), hvars _ (fun _ _ => rfl), rfl, ?_, ?_⟩, ?_⟩
    · intro b off hp
      have hin : MemPlace.cell b off ∈ before := by rw [hps]; simpa using hp
      rw [hb.frozen (hlt _ hin)]
      exact hz b off hin
    · intro ha
      have := hn ha
      rw [hps] at this
      simpa using this
    · intro p hp _
      rw [hps]
      simpa using hp
end

theorem trodAll_stays {H : Type} {enc : TypeId × Value → H} {P : Program} (hl : laidOutB P = true) {W W' : World} {sp : Nat → Bool} : ∀ {ts : List TypeId} {vs : List Value} {ds : List (DataW H)} {ps : List MemPlace},
    (∀ t ∈ ts, P.readableRec t = true ∧ t < P.types.size) → DataW.TrodAll enc P W 0 (fun _ => true) true ts vs ds ps → (∀ x ∈ ps, W.sameAt W' x) → (∀ x ∈ ps, sp x.block = true) → DataW.TrodAll enc P W' 0 sp true ts vs ds ps := by
  intro ts
  induction ts with
  | nil =>
    intro vs ds ps _ h _ _
    obtain ⟨rfl, rfl, rfl⟩ := trodAll_nil h
    exact trodAll_mk0
  | cons t ts ih =>
    intro vs ds ps hr h hsame hsp
    obtain ⟨v, vs', d, ds', p, p', rfl, rfl, rfl, h0, h1⟩ := trodAll_cons h
    exact trodAll_cons_mk (WideElems.Trod_stays hl (hr t (by simp)).1 (hr t (by simp)).2 h0 (fun x hx => hsame x (by simp [hx])) (fun x hx => hsp x (by simp [hx])))
      (ih (fun t' ht' => hr t' (by simp [ht'])) h1 (fun x hx => hsame x (by simp [hx])) (fun x hx => hsp x (by simp [hx])))

set_option maxRecDepth 100000 in
/-- A LAW's row, whatever its arguments: from the walk ('true, and old memory is kept') to what the row asks. -/
theorem law_lifted {os : Os} (started : os.Started) {H : Type} {enc : TypeId × Value → H} {k : FuncId} {F : Func} {s : ChangeSpec} (bt : TypeId) (own : ownKnob Tryz.checked.prog.godebug = none)
    (noInit : Tryz.checked.prog.inits.idxOf? k = none) (hF : Tryz.checked.prog.funcs[k]? = some F) (hv : s.vars = [])
    (hspec : ∀ ds : List (DataW H), ds.length = F.params.toList.length → s.fn H (ds ++ []) = { results := [.lit (.bool true)], args := ds, vars := [] })
    (hres : F.resultTypes = #[bt]) (hb : Tryz.checked.prog.underlying bt = some .bool) (hl : laidOutB Tryz.checked.prog = true)
    (hread : (F.params.toList.all fun t => Tryz.checked.prog.readableRec t && decide (t < Tryz.checked.prog.types.size)) = true)
    (witness : ∃ (w : World) (tape : Tape) (i : Input), w.os = os ∧ (w.forCall tape i).Shaped Tryz.checked.prog ∧ i.vars = [] ∧ Input.okWide Tryz.checked.prog (w.forCall tape i) .any w.heap.size k i ∧
      s.pre6 enc Tryz.checked.prog F [] false (w.forCall tape i).memory i.args ∧ (({} : Assume)).holds Tryz.checked.prog (lone (Frame.enter Tryz.checked.prog k i.args .normal) [] (w.forCall tape i)))
    (walk : ∀ (W : World) (base : Nat) (args : Array Value) (ds : List (DataW H)) (p : List MemPlace),
      (∀ (j : Nat) t v, F.params[j]? = some t → args[j]? = some v → Value.okWide Tryz.checked.prog W .any base t v) →
      DataW.TrodAll enc Tryz.checked.prog W 0 (fun _ => true) true F.params.toList args.toList ds p → (∀ x ∈ p, x.block < W.heap.size) →
      (DataW.weightsEach Tryz.checked.prog F.params.toList ds).all (· ≤ reachBytes) = true →
      Calls Tryz.checked.prog k args W fun e w' => e = .returned (.bool true) ∧ Below W.heap.size W w') :
    ReturnsInHanded {} Tryz.checked os k .any (s.pre6 enc Tryz.checked.prog F [] false) (s.post enc Tryz.checked.prog F false true false false) := by
  refine returnsInHanded_of_change_sized (C := Tryz.checked) own started noInit hF witness ?_
  intro W base args ds gs before hval hW _ hsz _
  have hW' := hW
  have hlt : ∀ x ∈ before, x.block < W.heap.size := fun x hx => hW.lt x hx
  obtain ⟨p, q, hA, hV, rfl, hfz, hnd⟩ := hW
  rw [hv] at hV
  obtain ⟨rfl, rfl⟩ := trodVars_none hV
  simp only [List.append_nil] at hW' hlt
  have hlen := (Go.trodAll_length hA).2
  have hsz' : (DataW.weightsEach Tryz.checked.prog F.params.toList ds).all (· ≤ reachBytes) = true := by
    have e : s.plain.varTypes Tryz.checked.prog = [] := by unfold ChangeSpec.plain; simp [DataSpec.varTypes, hv]
    rw [e, List.append_nil, List.append_nil] at hsz
    exact hsz
  refine (walk W base args ds p hval hA hlt hsz').mono fun e W' ⟨he, hg⟩ => ?_
  subst he
  have hr : ∀ t ∈ F.params.toList, Tryz.checked.prog.readableRec t = true ∧ t < Tryz.checked.prog.types.size := fun t ht => by
    have := List.all_eq_true.1 hread t ht
    simpa using this
  have hsz1 : F.resultTypes.size = 1 := by rw [hres]; rfl
  have hres' : F.resultTypes.toList = [bt] := by rw [hres]
  refine ⟨_, rfl, post_of_below (pa := p) (pv := []) hW' ?_ ?_ ?_ (by simp) hg ?_⟩
  · intro b sp hd
    rw [hres', hsz1, hspec ds hlen]
    exact trodAll_cons_mk (shut_bool hb _) trodAll_mk0
  · intro sp hsp
    rw [hspec ds hlen]
    exact trodAll_stays hl hr hA (fun x hx => hg.same (hlt x hx)) (fun x hx => hsp x hx)
  · intro sp hsp
    rw [hv, hspec ds hlen]
    rfl
  · exact ok_one hres rfl (okWide_bool_mk hb _)


set_option maxRecDepth 100000 in
/-- A LAW's row that lists variables: from the walk to what the row asks. -/
theorem law_lifted_laid {os : Os} (started : os.Started) {H : Type} {enc : TypeId × Value → H} {k : FuncId} {F : Func} {s : ChangeSpec} {laid : List (String × DataW Unit)} (bt : TypeId) (own : ownKnob Tryz.checked.prog.godebug = none)
    (noInit : Tryz.checked.prog.inits.idxOf? k = none) (hF : Tryz.checked.prog.funcs[k]? = some F) (hv : s.vars = [])
    (hspec : ∀ ds : List (DataW H), ds.length = F.params.toList.length → s.fn H (ds ++ []) = { results := [.lit (.bool true)], args := ds, vars := [] })
    (hres : F.resultTypes = #[bt]) (hb : Tryz.checked.prog.underlying bt = some .bool) (hl : laidOutB Tryz.checked.prog = true)
    (hread : (F.params.toList.all fun t => Tryz.checked.prog.readableRec t && decide (t < Tryz.checked.prog.types.size)) = true)
    (witness : ∃ (w : World) (tape : Tape) (i : Input), w.os = os ∧ (w.forCall tape i).Shaped Tryz.checked.prog ∧ i.vars = [] ∧ Input.okWide Tryz.checked.prog (w.forCall tape i) .any w.heap.size k i ∧
      ((s.pre enc Tryz.checked.prog F [] false (w.forCall tape i).memory i.args ∧ laidMetH Tryz.checked.prog laid (w.forCall tape i).memory) ∧ sizedMet enc Tryz.checked.prog F (OpenSpec.ofChange s) false (w.forCall tape i).memory i.args) ∧ (({} : Assume)).holds Tryz.checked.prog (lone (Frame.enter Tryz.checked.prog k i.args .normal) [] (w.forCall tape i)))
    (walk : ∀ (W : World) (base : Nat) (args : Array Value) (ds : List (DataW H)) (p : List MemPlace),
      (∀ (j : Nat) t v, F.params[j]? = some t → args[j]? = some v → Value.okWide Tryz.checked.prog W .any base t v) →
      DataW.TrodAll enc Tryz.checked.prog W 0 (fun _ => true) true F.params.toList args.toList ds p → (∀ x ∈ p, x.block < W.heap.size) →
      (DataW.weightsEach Tryz.checked.prog F.params.toList ds).all (· ≤ reachBytes) = true → laidMetH Tryz.checked.prog laid W →
      Calls Tryz.checked.prog k args W fun e w' => e = .returned (.bool true) ∧ Below W.heap.size W w') :
    ReturnsInHanded {} Tryz.checked os k .any (fun w args => (s.pre enc Tryz.checked.prog F [] false w args ∧ laidMetH Tryz.checked.prog laid w) ∧ sizedMet enc Tryz.checked.prog F (OpenSpec.ofChange s) false w args) (s.post enc Tryz.checked.prog F false true false false) := by
  refine returnsInHanded_of_change_and (C := Tryz.checked) (X := fun w _ => laidMetH Tryz.checked.prog laid w) (fun _ _ _ hh h => h.of_heap hh) own started noInit hF witness ?_
  intro W base args ds gs before hval hW _ hsz hL _
  have hW' := hW
  have hlt : ∀ x ∈ before, x.block < W.heap.size := fun x hx => hW.lt x hx
  obtain ⟨p, q, hA, hV, rfl, hfz, hnd⟩ := hW
  rw [hv] at hV
  obtain ⟨rfl, rfl⟩ := trodVars_none hV
  simp only [List.append_nil] at hW' hlt
  have hlen := (Go.trodAll_length hA).2
  have hsz' : (DataW.weightsEach Tryz.checked.prog F.params.toList ds).all (· ≤ reachBytes) = true := by
    have e : s.plain.varTypes Tryz.checked.prog = [] := by unfold ChangeSpec.plain; simp [DataSpec.varTypes, hv]
    rw [e, List.append_nil, List.append_nil] at hsz
    exact hsz
  refine (walk W base args ds p hval hA hlt hsz' hL).mono fun e W' ⟨he, hg⟩ => ?_
  subst he
  have hr : ∀ t ∈ F.params.toList, Tryz.checked.prog.readableRec t = true ∧ t < Tryz.checked.prog.types.size := fun t ht => by
    have := List.all_eq_true.1 hread t ht
    simpa using this
  have hsz1 : F.resultTypes.size = 1 := by rw [hres]; rfl
  have hres' : F.resultTypes.toList = [bt] := by rw [hres]
  refine ⟨_, rfl, post_of_below (pa := p) (pv := []) hW' ?_ ?_ ?_ (by simp) hg ?_⟩
  · intro b sp hd
    rw [hres', hsz1, hspec ds hlen]
    exact trodAll_cons_mk (shut_bool hb _) trodAll_mk0
  · intro sp hsp
    rw [hspec ds hlen]
    exact trodAll_stays hl hr hA (fun x hx => hg.same (hlt x hx)) (fun x hx => hsp x hx)
  · intro sp hsp
    rw [hv, hspec ds hlen]
    rfl
  · exact ok_one hres rfl (okWide_bool_mk hb _)

section
open Go.Deep
variable {H : Type} {enc : TypeId × Value → H} {P : Program} {w : World}
/-- A SLICE THAT CAME IN, opened: each element's cells, and its own reading. -/
theorem slice_view {t e k fuel : Nat} {cs : List Value} {x : DataW H × List MemPlace} (ht : P.underlying t = some (.slice e)) (hk : P.cellsOf e = k) (hk0 : 0 < k)
    (h : DataW.trod enc P w 0 (fun _ => true) true fuel t cs = some x) (hlt : ∀ y ∈ x.2, y.block < w.heap.size) :
    ∃ (ao : Option Addr) (b off len cap n : Nat) (C : Nat → List Value) (D : Nat → DataW H), cs = [.slice ao len cap] ∧ len ≤ cap ∧ cap ≤ maxLen ∧ (0 < len → ao = some ⟨b, off, none⟩ ∧ b < w.heap.size) ∧
      (x.1 = .nil ∧ len = 0 ∧ cap = 0 ∨ ∃ spare, x.1 = .slice ((List.range len).map D) spare ∧ len + spare.length = cap) ∧
      ∀ i, i < len → (C i).length = k ∧ (∀ j, j < k → w.cell? ⟨b, off + i * k + j, none⟩ = (C i)[j]?) ∧
        ∃ pi, DataW.trod enc P w 0 (fun _ => true) true n e (C i) = some (D i, pi) ∧ ∀ y ∈ pi, y.block < w.heap.size := by
  rcases open_slice ht h with ⟨rfl, rfl⟩ | ⟨a, len, cap, m, n, D, Pl, rfl, hb, hl, hm, hmm, rfl, hi⟩
  · exact ⟨none, 0, 0, 0, 0, 0, fun _ => [], fun _ => .nil, rfl, Nat.le_refl _, Nat.zero_le _, fun h => absurd h (by omega), .inl ⟨rfl, rfl, rfl⟩, fun i hi => absurd hi (by omega)⟩
  · simp only [if_true] at hmm
    subst hmm
    rw [hk] at hi hlt
    obtain ⟨b, off, spot⟩ := a
    have hcell : ∀ i, i < len → ∃ cs', cs'.length = k ∧ (∀ j, j < k → w.cell? ((⟨b, off, spot⟩ : Addr).add (i * k + j)) = cs'[j]?) ∧ DataW.trod enc P w 0 (fun _ => true) true n e cs' = some (D i, Pl i) := fun i hil => by
      obtain ⟨cs', hc, ht'⟩ := hi i (by omega)
      obtain ⟨_, hcl, hat⟩ := World.cells?_some hc
      exact ⟨cs', hcl, fun j hj => by rw [← Go.Deep.add_add]; exact hat j hj, ht'⟩
    have hspot : 0 < len → spot = none := fun h0 => by
      obtain ⟨cs', hcl, hat, _⟩ := hcell 0 h0
      have h1 := hat 0 hk0
      have h2 : cs'[0]? = some (cs'[0]'(by omega)) := List.getElem?_eq_getElem (by omega)
      rw [h2] at h1
      simpa [Addr.add] using World.cell?_spot h1
    have hbl : 0 < len → b < w.heap.size := fun h0 => by
      refine hlt (.cell b off) ?_
      simp only [List.mem_append, MemPlace.row]
      exact .inl (List.mem_map.2 ⟨0, List.mem_range.2 (Nat.mul_pos (by omega) hk0), by simp⟩)
    obtain ⟨C, hC⟩ := choose_lt (α := List Value) (n := len) hcell
    refine ⟨some ⟨b, off, spot⟩, b, off, len, m, n, C, D, rfl, hl, hm, fun h0 => ⟨by rw [hspot h0], hbl h0⟩, .inr ⟨_, rfl, by simp; omega⟩, fun i hil => ⟨(hC i hil).1, fun j hj => ?_, Pl i, (hC i hil).2.2, fun y hy => hlt y ?_⟩⟩
    · rw [← (hC i hil).2.1 j hj, hspot (by omega), Go.WideShapes.add_plain, Nat.add_assoc]
    · simp only [List.mem_append, List.mem_flatMap, List.mem_range]
      exact .inr ⟨i, by omega, hy⟩
/-- A SLICE THAT CAME IN, opened; nil has no room: each element's cells, and its own reading. -/
theorem slice_view2 {t e k fuel : Nat} {cs : List Value} {x : DataW H × List MemPlace} (ht : P.underlying t = some (.slice e)) (hk : P.cellsOf e = k) (hk0 : 0 < k)
    (h : DataW.trod enc P w 0 (fun _ => true) true fuel t cs = some x) (hlt : ∀ y ∈ x.2, y.block < w.heap.size) :
    ∃ (ao : Option Addr) (b off len cap n : Nat) (C : Nat → List Value) (D : Nat → DataW H), cs = [.slice ao len cap] ∧ len ≤ cap ∧ cap ≤ maxLen ∧ (ao = none → cap = 0) ∧ (0 < len → ao = some ⟨b, off, none⟩ ∧ b < w.heap.size) ∧
      (x.1 = .nil ∧ len = 0 ∧ cap = 0 ∨ ∃ spare, x.1 = .slice ((List.range len).map D) spare ∧ len + spare.length = cap) ∧
      ∀ i, i < len → (C i).length = k ∧ (∀ j, j < k → w.cell? ⟨b, off + i * k + j, none⟩ = (C i)[j]?) ∧
        ∃ pi, DataW.trod enc P w 0 (fun _ => true) true n e (C i) = some (D i, pi) ∧ ∀ y ∈ pi, y.block < w.heap.size := by
  rcases open_slice ht h with ⟨rfl, rfl⟩ | ⟨a, len, cap, m, n, D, Pl, rfl, hb, hl, hm, hmm, rfl, hi⟩
  · exact ⟨none, 0, 0, 0, 0, 0, fun _ => [], fun _ => .nil, rfl, Nat.le_refl _, Nat.zero_le _, fun _ => rfl, fun h => absurd h (by omega), .inl ⟨rfl, rfl, rfl⟩, fun i hi => absurd hi (by omega)⟩
  · simp only [if_true] at hmm
    subst hmm
    rw [hk] at hi hlt
    obtain ⟨b, off, spot⟩ := a
    have hcell : ∀ i, i < len → ∃ cs', cs'.length = k ∧ (∀ j, j < k → w.cell? ((⟨b, off, spot⟩ : Addr).add (i * k + j)) = cs'[j]?) ∧ DataW.trod enc P w 0 (fun _ => true) true n e cs' = some (D i, Pl i) := fun i hil => by
      obtain ⟨cs', hc, ht'⟩ := hi i (by omega)
      obtain ⟨_, hcl, hat⟩ := World.cells?_some hc
      exact ⟨cs', hcl, fun j hj => by rw [← Go.Deep.add_add]; exact hat j hj, ht'⟩
    have hspot : 0 < len → spot = none := fun h0 => by
      obtain ⟨cs', hcl, hat, _⟩ := hcell 0 h0
      have h1 := hat 0 hk0
      have h2 : cs'[0]? = some (cs'[0]'(by omega)) := List.getElem?_eq_getElem (by omega)
      rw [h2] at h1
      simpa [Addr.add] using World.cell?_spot h1
    have hbl : 0 < len → b < w.heap.size := fun h0 => by
      refine hlt (.cell b off) ?_
      simp only [List.mem_append, MemPlace.row]
      exact .inl (List.mem_map.2 ⟨0, List.mem_range.2 (Nat.mul_pos (by omega) hk0), by simp⟩)
    obtain ⟨C, hC⟩ := choose_lt (α := List Value) (n := len) hcell
    refine ⟨some ⟨b, off, spot⟩, b, off, len, m, n, C, D, rfl, hl, hm, (fun h => by cases h), fun h0 => ⟨by rw [hspot h0], hbl h0⟩, .inr ⟨_, rfl, by simp; omega⟩, fun i hil => ⟨(hC i hil).1, fun j hj => ?_, Pl i, (hC i hil).2.2, fun y hy => hlt y ?_⟩⟩
    · rw [← (hC i hil).2.1 j hj, hspot (by omega), Go.WideShapes.add_plain, Nat.add_assoc]
    · simp only [List.mem_append, List.mem_flatMap, List.mem_range]
      exact .inr ⟨i, by omega, hy⟩
end

section
variable {H : Type} {enc : TypeId × Value → H} {P : Program} {w : World}
/-- A STRUCT's FIELD: its cells, its own reading. -/
theorem field_view {t fuel : Nat} {cs : List Value} {x : DataW H × List MemPlace} {fs : Array Field} (ht : P.underlying t = some (.struct fs))
    (h : DataW.trod enc P w 0 (fun _ => true) true fuel t cs = some x) (hlt : ∀ y ∈ x.2, y.block < w.heap.size) :
    ∃ (xs : List (DataW H × List MemPlace)) (n : Nat), cs.length = P.cellsOf t ∧ xs.length = fs.size ∧ x.1 = .agg (xs.map (·.1)) ∧
      ∀ (i : Nat) (f : Field), fs[i]? = some f → ∃ y, xs[i]? = some y ∧ DataW.trod enc P w 0 (fun _ => true) true n f.type ((cs.drop f.offset).take (P.cellsOf f.type)) = some y ∧ ∀ z ∈ y.2, z.block < w.heap.size := by
  obtain ⟨xs, n, _, rfl, hl, hx, hf⟩ := DataW.trod_struct ht h
  refine ⟨xs, n, hl, hx, rfl, fun i f hi => ?_⟩
  have hil : i < xs.length := by rw [hx]; exact (Array.getElem?_eq_some_iff.1 hi).1
  have hy : xs[i]? = some (xs[i]'hil) := List.getElem?_eq_getElem hil
  exact ⟨_, hy, (hf i f hi).trans hy, fun z hz => hlt z (List.mem_flatMap.2 ⟨_, List.getElem_mem hil, hz⟩)⟩
end
end Go.Proofs.YtlbkbjeajcadiaaGreatDoor.C
