/- The row step of a law whose walk wants the shape of the world at hand besides. -/
import Derived.Test.YtojchifegifecaaDoorCom
import Derived.Handed
namespace Go.Proofs.YtojchifegifecaaDoor.C
open Go.RowKit Go.WideShapes Go.ChangeShapes
theorem law_lifted_shaped {os : Os} (started : os.Started) {H : Type} {enc : TypeId × Value → H} {k : FuncId} {F : Func} {s : ChangeSpec} {laid : List (String × DataW Unit)} (bt : TypeId) (own : ownKnob Tryd.checked.prog.godebug = none)
    (noInit : Tryd.checked.prog.inits.idxOf? k = none) (hF : Tryd.checked.prog.funcs[k]? = some F) (hv : s.vars = [])
    (hspec : ∀ ds : List (DataW H), ds.length = F.params.toList.length → s.fn H (ds ++ []) = { results := [.lit (.bool true)], args := ds, vars := [] })
    (hres : F.resultTypes = #[bt]) (hb : Tryd.checked.prog.underlying bt = some .bool) (hl : laidOutB Tryd.checked.prog = true)
    (hread : (F.params.toList.all fun t => Tryd.checked.prog.readableRec t && decide (t < Tryd.checked.prog.types.size)) = true)
    (witness : ∃ (w : World) (tape : Tape) (i : Input), w.os = os ∧ (w.forCall tape i).Shaped Tryd.checked.prog ∧ i.vars = [] ∧ Input.okWide Tryd.checked.prog (w.forCall tape i) .any w.heap.size k i ∧
      ((s.pre enc Tryd.checked.prog F [] false (w.forCall tape i).memory i.args ∧ laidMetH Tryd.checked.prog laid (w.forCall tape i).memory) ∧ sizedMet enc Tryd.checked.prog F (OpenSpec.ofChange s) false (w.forCall tape i).memory i.args) ∧ (({} : Assume)).holds Tryd.checked.prog (lone (Frame.enter Tryd.checked.prog k i.args .normal) [] (w.forCall tape i)))
    (walk : ∀ (W : World) (base : Nat) (args : Array Value) (ds : List (DataW H)) (p : List MemPlace),
      (∀ (j : Nat) t v, F.params[j]? = some t → args[j]? = some v → Value.okWide Tryd.checked.prog W .any base t v) →
      DataW.TrodAll enc Tryd.checked.prog W 0 (fun _ => true) true F.params.toList args.toList ds p → (∀ x ∈ p, x.block < W.heap.size) →
      (DataW.weightsEach Tryd.checked.prog F.params.toList ds).all (· ≤ reachBytes) = true → laidMetH Tryd.checked.prog laid W → W.ShapedOpen Tryd.checked.prog →
      Calls Tryd.checked.prog k args W fun e w' => e = .returned (.bool true) ∧ Below W.heap.size W w') :
    ReturnsInHanded {} Tryd.checked os k .any (fun w args => (s.pre enc Tryd.checked.prog F [] false w args ∧ laidMetH Tryd.checked.prog laid w) ∧ sizedMet enc Tryd.checked.prog F (OpenSpec.ofChange s) false w args) (s.post enc Tryd.checked.prog F false true false false) := by
  refine returnsInHanded_of_calls own started noInit witness ?_
  intro w tape i _ hshape _ hok hpre hholds
  obtain ⟨_, _, _, fn', hfn', _, _, _, _, hval⟩ := hok
  have e : fn' = F := Option.some.inj (hfn'.symm.trans hF)
  subst e
  obtain ⟨⟨⟨ds, gs, before, hw, hc⟩, hx⟩, hz⟩ := hpre
  have hW := DataW.Whole.of_heap (w' := w.forCall tape i) (by rfl) hw
  have hsz : (DataW.weightsEach Tryd.checked.prog (fn'.params.toList ++ s.plain.varTypes Tryd.checked.prog) (ds ++ gs)).all (· ≤ reachBytes) = true := hz.weights hw
  have hL : laidMetH Tryd.checked.prog laid (w.forCall tape i) := hx.of_heap (by rfl)
  suffices hcall : Calls Tryd.checked.prog k i.args (w.forCall tape i) fun e W' => ∃ v, e = .returned v ∧ s.post enc Tryd.checked.prog fn' false true false false (w.forCall tape i) i.args v W' from
    hcall.mono fun e W' ⟨v, he, hp⟩ => by subst he; exact ChangeSpec.post_blind hp
  generalize hbase : w.heap.size = base at hval
  generalize w.forCall tape i = W at *
  generalize hargs : i.args = args at *
  have hW' := hW
  have hlt : ∀ x ∈ before, x.block < W.heap.size := fun x hx => hW.lt x hx
  obtain ⟨p, q, hA, hV, rfl, hfz, hnd⟩ := hW
  rw [hv] at hV
  obtain ⟨rfl, rfl⟩ := trodVars_none hV
  simp only [List.append_nil] at hW' hlt
  have hlen := (Go.trodAll_length hA).2
  have hsz' : (DataW.weightsEach Tryd.checked.prog fn'.params.toList ds).all (· ≤ reachBytes) = true := by
    have e : s.plain.varTypes Tryd.checked.prog = [] := by unfold ChangeSpec.plain; simp [DataSpec.varTypes, hv]
    rw [e, List.append_nil, List.append_nil] at hsz
    exact hsz
  refine (walk W base args ds p hval hA hlt hsz' hL hshape).mono fun e W' ⟨he, hg⟩ => ?_
  subst he
  have hr : ∀ t ∈ fn'.params.toList, Tryd.checked.prog.readableRec t = true ∧ t < Tryd.checked.prog.types.size := fun t ht => by
    have := List.all_eq_true.1 hread t ht
    simpa using this
  have hsz1 : fn'.resultTypes.size = 1 := by rw [hres]; rfl
  have hres' : fn'.resultTypes.toList = [bt] := by rw [hres]
  refine ⟨_, rfl, post_of_below (pa := p) (pv := []) hW' ?_ ?_ ?_ (by simp) hg ?_⟩
  · intro b sp hd
    rw [hres', hsz1, hspec ds hlen]
    exact trodAll_cons_mk (shut_bool hb _) trodAll_mk0
  · intro sp hsp
    rw [hspec ds hlen]
    exact trodAll_stays hl hr hA (fun x hx => hg.same (hlt x hx)) (fun x hx => hsp x hx)
  · intro sp hsp
    rw [hv, hspec ds hlen]
    rfl
  · exact ok_one hres rfl (okWide_bool_mk hb _)
end Go.Proofs.YtojchifegifecaaDoor.C
