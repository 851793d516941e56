/- check.done: what is done, and what it answered. -/
import Derived.Test.YtkgjfagejnppbaaGreatDoorMrg25
import Derived.Test.YtkgjfagejnppbaaGreatDoorMrg30
namespace Go.Proofs.YtkgjfagejnppbaaGreatDoor.X
open Go.RowKit Go.Proofs.YtkgjfagejnppbaaGreatDoor.M Go.BigFrame Go.Proofs.YtkgjfagejnppbaaGreatDoor.O Go.Proofs.YtkgjfagejnppbaaGreatDoor.P Go.Proofs.YtkgjfagejnppbaaGreatDoor.Mp Go.Proofs.YtkgjfagejnppbaaGreatDoor.Rw
set_option linter.unusedVariables false
set_option linter.unusedSimpArgs false

set_option maxRecDepth 100000 in
set_option maxHeartbeats 4000000 in
theorem of_any (c : Cmd) (w : World) :
    Calls Tryz.prog 33 #[cmdV c] w fun e w' => e = .returned (.agg #[.int .i64 c.client, .int .i64 c.seq]) ∧ Below w.heap.size w w' := by
  go_enter Tryz.func33, Tryz.ntmps33
  go_upto_region 1 with fail
  obtain ⟨W, hW⟩ : ∃ W, W = (w.alloc (.cells (cmdA c) 30)).alloc (.cells #[.int .i64 0, .int .i64 0] 84) := ⟨_, rfl⟩
  rw [← hW]
  have HB : Hid (Below w.heap.size w W) := Lib.hid (by rw [hW]; exact ((Below.refl _ _).alloc (Nat.le_refl _) _).alloc (by simp) _)
  have hc : W.heap[w.heap.size]? = some (.cells (cmdA c) 30 (0, 0)) := by rw [hW, heap_al, if_neg (by simp)]; exact heap_alloc_new w _
  have hr : W.heap[w.heap.size + 1]? = some (.cells #[.int .i64 0, .int .i64 0] 84 (0, 0)) := by rw [hW, heap_al, if_pos (by simp)]
  have HR := Lib.hid hr
  clear hW
  obtain ⟨⟨c0, c1, c2, c3, c4, c5⟩, _⟩ := box6 hc
  obtain ⟨⟨d0, d1⟩, fd, sd⟩ := box2 hr
  clear hc hr
  go_wp2_with fail
  refine ret_box (w.heap.size + 1) #[.int .i64 c.client, .int .i64 c.seq] 84 (.agg #[.int .i64 c.client, .int .i64 c.seq]) ?_ (fun W' h => ?_) rfl ?_
  · have s1 := heap_set W (w.heap.size + 1) 0 (.int .i64 c.client) (w.heap.size + 1) _ _ _ HR.out
    rw [if_pos rfl] at s1
    have s2 := heap_set _ (w.heap.size + 1) 1 (.int .i64 c.seq) (w.heap.size + 1) _ _ _ s1
    rw [if_pos rfl] at s2
    exact s2
  · have hc : ∀ j, W'.cell? ⟨w.heap.size + 1, j, none⟩ = (#[.int .i64 c.client, .int .i64 c.seq] : Array Value)[j]? := fun j => cell_of_row W' _ j _ _ _ h
    have r0 := hc 0
    have r1 := hc 1
    simp [results, Tryz.results33, go_sem, r0, r1]
  · exact ⟨rfl, (HB.out.setCell (by simp) _).setCell (by simp) _⟩
/-- the commits under way -/
structure D1 (w wr : World) (p bm : Nat) (X : List Rv) (k : Nat) : Prop where
  bel : Below w.heap.size w wr
  eng : ∃ F L, Eng wr p k L [] F ∧ L.map core = (X.take k).map core ∧ (∀ j, F j → w.heap.size ≤ j) ∧ ¬ F bm
  map : MapL sIC wr bm k ((X.take k).map fun x => (x.id, x.cmd))
  bge : w.heap.size ≤ bm
/-- .. between the commit and the map -/
structure D1c (w wr : World) (p bm : Nat) (X : List Rv) (k : Nat) : Prop where
  bel : Below w.heap.size w wr
  eng : ∃ F L, Eng wr p (k + 1) L [] F ∧ L.map core = (X.take (k + 1)).map core ∧ (∀ j, F j → w.heap.size ≤ j) ∧ ¬ F bm
  map : MapL sIC wr bm k ((X.take k).map fun x => (x.id, x.cmd))
  bge : w.heap.size ≤ bm
theorem ids_core_eq {L M : List Rv} (h : L.map core = M.map core) : idsX L = idsX M := by
  rw [← ids_core L, ← ids_core M, h]
theorem D1.below {w wr w2 : World} {p bm k : Nat} {X : List Rv} (h : D1 w wr p bm X k) (hb : Below wr.heap.size wr w2) : D1 w w2 p bm X k := by
  obtain ⟨F, L, h1, h2, h3, h4⟩ := h.eng
  exact ⟨h.bel.trans (hb.mono h.bel.size), ⟨F, L, h1.below hb, h2, h3, h4⟩, h.map.below hb, h.bge⟩
theorem D1c.below {w wr w2 : World} {p bm k : Nat} {X : List Rv} (h : D1c w wr p bm X k) (hb : Below wr.heap.size wr w2) : D1c w w2 p bm X k := by
  obtain ⟨F, L, h1, h2, h3, h4⟩ := h.eng
  exact ⟨h.bel.trans (hb.mono h.bel.size), ⟨F, L, h1.below hb, h2, h3, h4⟩, h.map.below hb, h.bge⟩
theorem d1_commit {w wr w5 : World} {p bm k : Nat} {X : List Rv} {x : Rv} (h : D1 w wr p bm X k) (hb5 : Below wr.heap.size wr w5) (hn : (idsX X).Nodup) (hx : X[k]? = some x) (hg : goodR x = true) (h0 : RvOk w5 x) (hT : Go.Proofs.YtkgjfagejnppbaaGreatDoor.R.Tabs w5) (hl : x.deps.length ≤ 1000000) (hk : x.cmd.key.size ≤ 1000000) (hk2 : k ≤ 1000000) :
    Calls Tryz.prog 31 #[.pointer (some ⟨p, 0, none⟩), recV x] w5 fun e w' => e = .returned (.bool true) ∧ (D1c w w' p bm X k ∧ ∀ j, wr.heap.size ≤ j → j < w5.heap.size → w'.heap[j]? = w5.heap[j]?) := by
  obtain ⟨F, L, h1, h2, h3, h4⟩ := h.eng
  have hold := h1.lt
  have hbm := h.map.lt
  have h := h.below hb5
  have h1 := h1.below hb5
  refine (eng_commit p k L [] F x w5 h1 h0 hT hl hk hk2 hg ?_).mono ?_
  · rw [← Bool.not_eq_true, thereB_iff]
    rintro (hi | hi)
    · rw [ids_core_eq h2] at hi
      obtain ⟨j, hj⟩ := List.mem_iff_getElem?.1 hi
      have hjl := (List.getElem?_eq_some_iff.1 hj).1
      rw [List.length_map, List.length_take] at hjl
      have e1 : (idsX X)[j]? = some x.id := by
        rw [List.getElem?_map, List.getElem?_take_of_lt (by omega)] at hj
        rw [List.getElem?_map]; exact hj
      have e2 : (idsX X)[k]? = some x.id := by rw [List.getElem?_map, hx]; rfl
      have := (List.getElem?_inj (List.getElem?_eq_some_iff.1 e1).1 hn).1 (e1.trans e2.symm)
      omega
    · cases hi
  · rintro e w' ⟨rfl, y, g1, g2, g3⟩
    have hzz := hb5.size
    refine ⟨rfl, ⟨h.bel.trans (g3.below (fun j hj => h3 j hj) h.bel.size), ⟨_, L ++ [y], g2, ?_, ?_, ?_⟩, h.map.keep g3 h4, h.bge⟩, fun j hj1 hj2 => g3.block j hj2 (fun hF => by have := hold j hF; omega)⟩
    · rw [List.map_append, h2, List.take_add_one, hx, Option.toList_some, List.map_append]
      simp only [List.map_cons, List.map_nil, g1]
    · rintro j (hj | hj)
      · exact h3 j hj
      · have := h.bel.size; omega
    · rintro (hj | hj)
      · exact h4 hj
      · omega
theorem d1_put {w wr w2 : World} {p bm k : Nat} {X : List Rv} {x : Rv} (h : D1c w wr p bm X k) (hn : (idsX X).Nodup) (hx : X[k]? = some x) (hm : MapL sIC w2 bm (k + 1) (putD ((X.take k).map fun x => (x.id, x.cmd)) x.id x.cmd)) (hM : Mods (fun j => j = bm) wr w2) : D1 w w2 p bm X (k + 1) := by
  obtain ⟨F, L, h1, h2, h3, h4⟩ := h.eng
  refine ⟨h.bel.trans (hM.below (fun j e => by rw [e]; exact h.bge) h.bel.size), ⟨F, L, h1.keep hM (fun j hj e => h4 (e ▸ hj)), h2, h3, h4⟩, ?_, h.bge⟩
  have e1 : putD ((X.take k).map fun x => (x.id, x.cmd)) x.id x.cmd = ((X.take (k + 1)).map fun x => (x.id, x.cmd)) := by
    unfold putD delD
    rw [List.take_add_one, hx, Option.toList_some, List.map_append]
    congr 1
    rw [List.filter_eq_self]
    intro q hq
    obtain ⟨y, hy, rfl⟩ := List.mem_map.1 hq
    obtain ⟨j, hj⟩ := List.mem_iff_getElem?.1 hy
    have hjl := (List.getElem?_eq_some_iff.1 hj).1
    rw [List.length_take] at hjl
    rw [List.getElem?_take_of_lt (by omega)] at hj
    have e1 : (idsX X)[j]? = some y.id := by rw [List.getElem?_map, hj]; rfl
    have e2 : (idsX X)[k]? = some x.id := by rw [List.getElem?_map, hx]; rfl
    have hne : y.id ≠ x.id := fun e => by
      rw [e] at e1
      have := (List.getElem?_inj (List.getElem?_eq_some_iff.1 e1).1 hn).1 (e1.trans e2.symm)
      omega
    simpa using hne
  rw [← e1]
  exact hm
theorem Chain.core {X L : List Rv} (h : Chain X) (e : L.map core = X.map core) : Chain L := by
  have hid := ids_core_eq e
  have hat : ∀ {i : Nat} {y : Rv}, L[i]? = some y → ∃ x, X[i]? = some x ∧ O.core y = O.core x := fun {i y} hy => by
    have h1 : (L.map O.core)[i]? = some (O.core y) := by rw [List.getElem?_map, hy]; rfl
    rw [e, List.getElem?_map] at h1
    obtain ⟨x, hx, e2⟩ := Option.map_eq_some_iff.1 h1
    exact ⟨x, hx, e2.symm⟩
  refine ⟨hid ▸ h.nd, fun y hy => ?_, fun i y hy d => ?_⟩
  · obtain ⟨i, hi⟩ := List.mem_iff_getElem?.1 hy
    obtain ⟨x, hx, e2⟩ := hat hi
    rw [← core_good, e2, core_good]
    exact h.good x (List.mem_of_getElem? hx)
  · obtain ⟨x, hx, e2⟩ := hat hy
    have : y.deps = x.deps := by have h0 := congrArg Rv.deps e2; exact h0
    rw [this, hid]
    exact h.dep i x hx d
/-- Run: what it gives, of one's own -/
theorem d1_run {w wr w2 : World} {p bm : Nat} {X : List Rv} (h : D1 w wr p bm X X.length) (hb2 : Below wr.heap.size wr w2) (hC : Chain X) (hT : Go.Proofs.YtkgjfagejnppbaaGreatDoor.R.Tabs w2) (hL : X.length ≤ 20) (hdl : ∀ x ∈ X, x.deps.length ≤ 10000) (hkl : ∀ x ∈ X, x.cmd.key.size ≤ 1000000) :
    Calls Tryz.prog 32 #[.pointer (some ⟨p, 0, none⟩)] w2 fun e w' => ∃ oo oc, e = .returned (.slice oo X.length oc) ∧ (OwnG sRI w' w2.heap.size oo oc (idsX X) ∧ MapL sIC w' bm X.length (X.map fun x => (x.id, x.cmd)) ∧ Below w.heap.size w w' ∧ Mods (fun j => j < wr.heap.size) w2 w') := by
  obtain ⟨F, L, h1, h2, h3, h4⟩ := h.eng
  have hold := h1.lt
  have h := h.below hb2
  have h1 := h1.below hb2
  rw [List.take_length] at h2
  obtain ⟨b1, b2, ro, rc, g1, g2⟩ := h1.ex
  have hof : ∀ y ∈ L, ∃ x ∈ X, O.core y = O.core x := fun y hy => by
    have : O.core y ∈ L.map O.core := List.mem_map.2 ⟨y, hy, rfl⟩
    rw [h2] at this
    obtain ⟨x, hx, e⟩ := List.mem_map.1 this
    exact ⟨x, hx, e.symm⟩
  have hll : L.length = X.length := by have := congrArg List.length h2; simpa using this
  refine (engrun_any p b1 b2 X.length _ ro rc L [] w2 g1 hT (by omega) (fun y hy => ?_) (fun y hy => ?_) (by simp) (by simp) (fun _ _ h => by cases h)).mono ?_
  · obtain ⟨x, hx, e⟩ := hof y hy
    rw [show y.deps = x.deps from by have h0 := congrArg Rv.deps e; exact h0]; exact hdl x hx
  · obtain ⟨x, hx, e⟩ := hof y hy
    rw [show y.cmd = x.cmd from by have h0 := congrArg Rv.cmd e; exact h0]; exact hkl x hx
  · rintro e w' ⟨oo, oc, out, rfl, O, R, ro', rc', k1, k2, k3, k4, k5, k6, k7, k8, _⟩
    have ho := ((hC.core h2).row k1 k2 k3 k4).1
    rw [ids_core_eq h2] at ho
    subst ho
    have hmp := h.map.keep k7 (fun hj => h4 (g2 _ hj))
    rw [List.take_length] at hmp
    refine ⟨oo, oc, ?_, k6, hmp, h.bel.trans (k7.below (fun j hj => h3 j (g2 j hj)) h.bel.size), k7.mono fun j _ hj => hold j (g2 j hj)⟩
    rw [show (idsX X).length = X.length by simp]
/-- the sessions under way -/
structure D2 (w w3 wr : World) (bm s p b q n i j : Nat) (oo : Option Addr) (oc : Nat) (X : List Rv) (RP : List Rep) (ro po : Option Addr) (rc pc : Nat) : Prop where
  ses : SRun w wr s p b q n (sesRun ⟨[], []⟩ ((X.map Rv.cmd).take n))
  map : MapL sIC wr bm X.length (X.map fun x => (x.id, x.cmd))
  ids : OwnG sRI wr w.heap.size oo oc (idsX X)
  row : OwnG sRC wr w3.heap.size ro rc ((X.map Rv.cmd).take i)
  rep : OwnG sRP wr w3.heap.size po pc (RP.take j)
  lt : bm < w3.heap.size ∧ s < w3.heap.size ∧ p < w3.heap.size ∧ b < w3.heap.size ∧ q < w3.heap.size
  idl : ∀ a, oo = some a → a.block < w3.heap.size ∧ a.block ≠ b ∧ a.block ≠ q
  ne : bm ≠ b ∧ bm ≠ q
  le3 : w3.heap.size ≤ wr.heap.size
  w03 : w.heap.size ≤ w3.heap.size
section
variable {w w3 wr wn : World} {bm s p b q n i j oc rc pc : Nat} {oo ro po : Option Addr} {X : List Rv} {RP : List Rep}
theorem D2.below (h : D2 w w3 wr bm s p b q n i j oo oc X RP ro po rc pc) (hb : Below wr.heap.size wr wn) : D2 w w3 wn bm s p b q n i j oo oc X RP ro po rc pc :=
  ⟨h.ses.next hb, h.map.below hb, h.ids.below hb, h.row.below hb, h.rep.below hb, h.lt, h.idl, h.ne, Nat.le_trans h.le3 hb.size, h.w03⟩
theorem D2.do_ (h : D2 w w3 wr bm s p b q n i j oo oc X RP ro po rc pc) {S2 : Ses} (hs : SRun w wn s p b q (n + 1) S2) (he : S2 = sesRun ⟨[], []⟩ ((X.map Rv.cmd).take (n + 1))) (hm : Mods (fun k => k = b ∨ k = q) wr wn) : D2 w w3 wn bm s p b q (n + 1) i j oo oc X RP ro po rc pc := by
  obtain ⟨l1, l2, l3, l4, l5⟩ := h.lt
  refine ⟨he ▸ hs, h.map.keep hm (by have := h.ne; omega), h.ids.keep hm (fun a e => by have := h.idl a e; omega), h.row.keep hm (fun a e => ?_), h.rep.keep hm (fun a e => ?_), h.lt, h.idl, h.ne, Nat.le_trans h.le3 hm.size, h.w03⟩
  · obtain ⟨_, _, h5, _⟩ := h.row.cells a e
    omega
  · obtain ⟨_, _, h5, _⟩ := h.rep.cells a e
    omega
/-- what a row's growth leaves -/
theorem D2.frame {F : Nat → Prop} (h : D2 w w3 wr bm s p b q n i j oo oc X RP ro po rc pc) (hF : ∀ k, F k → w3.heap.size ≤ k) (hm : Mods F wr wn) :
    SRun w wn s p b q n (sesRun ⟨[], []⟩ ((X.map Rv.cmd).take n)) ∧ MapL sIC wn bm X.length (X.map fun x => (x.id, x.cmd)) ∧ OwnG sRI wn w.heap.size oo oc (idsX X) := by
  obtain ⟨l1, l2, l3, l4, l5⟩ := h.lt
  have l6 := h.w03
  exact ⟨⟨h.ses.bel.trans (hm.below (B := w.heap.size) (fun k e => by have := hF k e; omega) h.ses.bel.size), h.ses.ses.keep hm (fun e => by have := hF _ e; omega) (fun e => by have := hF _ e; omega) (fun e => by have := hF _ e; omega) (fun e => by have := hF _ e; omega), h.ses.sge, h.ses.pge, h.ses.bge, h.ses.qge⟩,
    h.map.keep hm (fun e => by have := hF _ e; omega), h.ids.keep hm (fun a ea e => by have := hF _ e; have := h.idl a ea; omega)⟩
theorem D2.row_ {ro' : Option Addr} {rc' i' : Nat} (h : D2 w w3 wr bm s p b q n i j oo oc X RP ro po rc pc) (ho : OwnG sRC wn w3.heap.size ro' rc' ((X.map Rv.cmd).take i')) (hm : Mods (fun j => ∃ a, ro = some a ∧ j = a.block) wr wn) : D2 w w3 wn bm s p b q n i' j oo oc X RP ro' po rc' pc := by
  obtain ⟨g1, g2, g3⟩ := h.frame (fun k ⟨a, e, ek⟩ => by obtain ⟨_, _, h5, _⟩ := h.row.cells a e; omega) hm
  exact ⟨g1, g2, g3, ho, h.rep.beside h.row (by decide) hm, h.lt, h.idl, h.ne, Nat.le_trans h.le3 hm.size, h.w03⟩
theorem D2.rep_ {po' : Option Addr} {pc' j' : Nat} (h : D2 w w3 wr bm s p b q n i j oo oc X RP ro po rc pc) (ho : OwnG sRP wn w3.heap.size po' pc' (RP.take j')) (hm : Mods (fun j => ∃ a, po = some a ∧ j = a.block) wr wn) : D2 w w3 wn bm s p b q n i j' oo oc X RP ro po' rc pc' := by
  obtain ⟨g1, g2, g3⟩ := h.frame (fun k ⟨a, e, ek⟩ => by obtain ⟨_, _, h5, _⟩ := h.rep.cells a e; omega) hm
  exact ⟨g1, g2, g3, h.row.beside h.rep (by decide) hm, ho, h.lt, h.idl, h.ne, Nat.le_trans h.le3 hm.size, h.w03⟩
theorem take_nextA {α : Type} {l : List α} {k : Nat} {x : α} (h : l[k]? = some x) : l.take k ++ [x] = l.take (k + 1) := by
  rw [List.take_add_one, h]; rfl
theorem look_cmd {X : List Rv} (hn : (idsX X).Nodup) {k : Nat} {x : Rv} (hx : X[k]? = some x) : lookD (X.map fun x => (x.id, x.cmd)) x.id cmd0 = x.cmd := by
  have h1 : (x.id, x.cmd) ∈ X.map fun x => (x.id, x.cmd) := List.mem_map.2 ⟨x, List.mem_of_getElem? hx, rfl⟩
  have h2 : ((X.map fun x => (x.id, x.cmd)).map Prod.fst).Nodup := by rw [List.map_map]; exact hn
  unfold lookD
  rw [findD_of h2 h1]
  rfl
end
set_option maxRecDepth 100000 in
set_option maxHeartbeats 4000000 in
theorem done_any (X : List Rv) (RP : List Rep) (ao : Option Addr) (cap : Nat) (w : World) (hV : RecsV w ao cap X) (hT : TabsI w) (hC : Chain X) (hF : FreshAll (X.map Rv.cmd) RP) (hL : X.length ≤ 20) (hdl : ∀ x ∈ X, x.deps.length ≤ 10000) (hkl : ∀ x ∈ X, x.cmd.key.size ≤ 1000000) :
    Calls Tryz.prog 15 #[.slice ao X.length cap] w fun e w' => ∃ ro rc po pc, e = .returned (.tuple #[.slice ro X.length rc, .slice po X.length pc]) ∧ (OwnG sRC w' w.heap.size ro rc (X.map Rv.cmd) ∧ OwnG sRP w' w.heap.size po pc RP ∧ Below w.heap.size w w') := by
  obtain ⟨hl1, hl2⟩ := hV.le
  unfold maxLen at hl2
  have HV := Lib.hid hV
  have HT := Lib.hid hT
  have HC := Lib.hid hC
  have HF := Lib.hid hF
  have HDL := Lib.hid hdl
  have HKL := Lib.hid hkl
  clear hV hT hC hF hdl hkl
  go_enter Tryz.func15, Tryz.ntmps15
  go_wp2_with fail
  refine (eng_new w).mono ?_
  rintro e w1 ⟨p, F, rfl, he1, hf1, hb1⟩
  have HE1 := Lib.hid he1
  have HF1 := Lib.hid hf1
  have HB1 := Lib.hid hb1
  clear he1 hf1 hb1
  have hmk := run_makeMap (P := Tryz.prog) 77 w1
  go_upto_region 2 with fail
  clear hmk
  obtain ⟨W, hW⟩ : ∃ W, W = w1.alloc (.map #[] 0) := ⟨_, rfl⟩
  rw [← hW]
  have HD0 := Lib.hid (show D1 w W p w1.heap.size X 0 by
    rw [hW]
    refine ⟨HB1.out.alloc HB1.out.size _, ⟨F, [], HE1.out.below ((Below.refl _ _).alloc (Nat.le_refl _) _), rfl, HF1.out, fun h => ?_⟩, ?_, HB1.out.size⟩
    · have := HE1.out.lt _ h; omega
    · exact MapL.made w1)
  clear hW
  obtain ⟨bm, hbm⟩ : ∃ bm, bm = w1.heap.size := ⟨_, rfl⟩
  rw [← hbm] at HD0 ⊢
  clear hbm HE1 HF1 HB1
  go_wp2_with fail
  go_loopw [17] (fun kv wr => ∃ (k : Nat), kv = .int .i64 k ∧ k ≤ X.length ∧ D1 w wr p bm X k) (fun kv _ => X.length - (intOf kv).toNat)
  case atStart => exact ⟨0, rfl, Nat.zero_le _, HD0.out⟩
  case round =>
    obtain ⟨k, rfl, hk, hp⟩ := hrel
    have HD := Lib.hid hp
    clear hp HD0
    by_cases hkl : k < X.length
    · have hii : (k : Int) < (X.length : Int) := by omega
      obtain ⟨x, hx⟩ : ∃ x, X[k]? = some x := ⟨_, List.getElem?_eq_getElem hkl⟩
      have HX := Lib.hid hx
      obtain ⟨b, off, e0, hbl, hrec⟩ := HV.out.row k x hx
      subst e0
      have HRO := Lib.hid ((HV.out.ok x (List.mem_of_getElem? hx)).below HD.out.bel)
      obtain ⟨c0, c1, c2, c3, c4, c5, c6, c7, c8, c9, c10, c11, c12, c13, c14, c15⟩ := hrec.below HD.out.bel hbl
      clear hx hrec
      go_upto_region 5 with fail
      obtain ⟨w5, hw5⟩ : ∃ w5, w5 = wr.alloc (recO x) := ⟨_, rfl⟩
      have hb5 : Below wr.heap.size wr w5 := by rw [hw5]; exact (Below.refl _ _).alloc (Nat.le_refl _) _
      have HD5 := Lib.hid (HD.out.below hb5)
      have hx5 : w5.heap[wr.heap.size]? = some (recO x) := by rw [hw5]; exact heap_alloc_new wr _
      have HX5 := Lib.hid hx5
      rw [← hw5]
      have HCM := Lib.hid (d1_commit HD.out hb5 HC.out.nd HX.out (HC.out.good x (List.mem_of_getElem? HX.out)) (HRO.out.below hb5) ((HT.out.next HD5.out.bel).t) (by have := HDL.out x (List.mem_of_getElem? HX.out); omega) (HKL.out x (List.mem_of_getElem? HX.out)) (by omega))
      clear hw5 hb5 c0 c1 c2 c3 c4 c5 c6 c7 c8 c9 c10 c11 c12 c13 c14 c15
      obtain ⟨c0, c1, c2, c3, c4, c5, c6, c7, c8, c9, c10, c11, c12, c13, c14, c15⟩ := box16 hx5
      clear hx5
      go_wp2_with fail
      refine HCM.out.mono ?_
      rintro e w6 ⟨rfl, hd6, hk6⟩
      have HD6 := Lib.hid hd6
      have hx6 := (hk6 wr.heap.size (Nat.le_refl _) (M.heap_lt HX5.out)).trans HX5.out
      clear hd6 hk6 HCM c0 c1 c2 c3 c4 c5 c6 c7 c8 c9 c10 c11 c12 c13 c14 c15
      obtain ⟨c0, c1, c2, c3, c4, c5, c6, c7, c8, c9, c10, c11, c12, c13, c14, c15⟩ := box16 hx6
      clear hx6
      go_wp2_with (at_mapUpdate; refine wpList_putL lIC HD6.out.map (by unfold maxLen; omega) x.id HRO.out.id x.cmd (by rfl) _ _ _ (by rfl) (by rfl) (by rfl) (by rfl) ?_
                   intro w7 hm7 hM7
                   have HD7 := Lib.hid (d1_put HD6.out HC.out.nd HX.out hm7 hM7)
                   clear hm7 hM7)
      clear c0 c1 c2 c3 c4 c5 c6 c7 c8 c9 c10 c11 c12 c13 c14 c15
      go_roundw
      case rel => exact ⟨k + 1, by go_num, by omega, HD7.out⟩
      case measure => simp [intOf]; omega
    · obtain rfl : k = X.length := by omega
      have hii : ¬ (X.length : Int) < (X.length : Int) := by omega
      clear hk
      go_wp2_with fail
      refine (snew_run wr).mono ?_
      rintro e w2 ⟨s, q1, b, q, rfl, hs⟩
      have HS := Lib.hid hs
      have HRUN := Lib.hid (d1_run HD.out hs.bel HC.out ((HT.out.next (HD.out.bel.trans (hs.bel.mono HD.out.bel.size))).t) hL (fun x hx => HDL.out x hx) (fun x hx => HKL.out x hx))
      clear hs
      go_wp2_with fail
      refine HRUN.out.mono ?_
      rintro e w3 ⟨oo, oc, rfl, hown, hmap, hb3, hm3⟩
      have HD2 := Lib.hid (show D2 w w3 w3 bm s q1 b q 0 0 0 oo oc X RP none none 0 0 by
        have z0 := HS.out.bel.size
        have z1 := HD.out.bel.size
        have z2 := hm3.size
        have z3 := HD.out.map.lt
        have y1 := HS.out.sge
        have y2 := HS.out.pge
        have y3 := HS.out.bge
        have y4 := HS.out.qge
        have x1 := HS.out.ses.slt
        have x2 := M.heap_lt HS.out.ses.app.box
        have x3 := HS.out.ses.app.map.lt
        have x4 := HS.out.ses.qlt
        refine ⟨⟨hb3, HS.out.ses.keep hm3 (by omega) (by omega) (by omega) (by omega), by omega, by omega, by omega, by omega⟩, hmap, hown.base (by omega), OwnG.nil _ _ _, OwnG.nil _ _ _, ⟨by omega, by omega, by omega, by omega, by omega⟩, fun a e => ?_, ⟨by omega, by omega⟩, Nat.le_refl _, by omega⟩
        obtain ⟨_, _, h5, h6⟩ := hown.cells a e
        exact ⟨h6, by omega, by omega⟩)
      clear hown hmap hb3 hm3 HRUN HS HD
      go_wp2_with fail
      obtain ⟨wa, rfl⟩ : ∃ wa, wa = wr := ⟨_, rfl⟩
      go_loopw [2, 3, 34] (fun rv pv kv wr2 => ∃ (k : Nat) (ro po : Option Addr) (rc pc : Nat), kv = .int .i64 k ∧ rv = .slice ro k rc ∧ pv = .slice po k pc ∧ k ≤ X.length ∧ D2 w w3 wr2 bm s q1 b q k k k oo oc X RP ro po rc pc) (fun _ _ kv _ => X.length - (intOf kv).toNat)
      case atStart => exact ⟨0, none, none, 0, 0, rfl, rfl, rfl, Nat.zero_le _, HD2.out⟩
      case round =>
        obtain ⟨k, ro, po, rc, pc, rfl, rfl, rfl, hk, hp⟩ := hrel
        have HD := Lib.hid hp
        clear hp HD2
        by_cases hkl : k < X.length
        · have hii : (k : Int) < (X.length : Int) := by omega
          obtain ⟨x, hx⟩ : ∃ x, X[k]? = some x := ⟨_, List.getElem?_eq_getElem hkl⟩
          have HX := Lib.hid hx
          obtain ⟨r, hr⟩ : ∃ r, RP[k]? = some r := ⟨_, List.getElem?_eq_getElem (by have := HF.out.len; simp at this; omega)⟩
          have HRR := Lib.hid hr
          have HXC := Lib.hid (show (X.map Rv.cmd)[k]? = some x.cmd by rw [List.getElem?_map, hx]; rfl)
          have HXO := Lib.hid (HV.out.ok x (List.mem_of_getElem? hx))
          have HDO := Lib.hid (show sesDo (sesRun ⟨[], []⟩ ((X.map Rv.cmd).take k)) x.cmd = ((sesDo (sesRun ⟨[], []⟩ ((X.map Rv.cmd).take k)) x.cmd).1, r, true) from Prod.ext rfl (HF.out.at_ k x.cmd r HXC.out hr))
          have HSG := Lib.hid (show SGood k (sesRun ⟨[], []⟩ ((X.map Rv.cmd).take k)) by
            have := SGood.run SGood.nil ((X.map Rv.cmd).take k)
            rw [List.length_take, List.length_map, Nat.min_eq_left (by omega), Nat.zero_add] at this
            exact this)
          obtain ⟨ib, ioff, ie, hib, i0, i1⟩ := id_of (HD.out.ids.view lRI) (show (idsX X)[k]? = some x.id by rw [List.getElem?_map, hx]; rfl)
          subst ie
          clear hx hr
          go_upto_region 12 with fail
          obtain ⟨w5, hw5⟩ : ∃ w5, w5 = wr.alloc (idO x.id) := ⟨_, rfl⟩
          have HD5 := Lib.hid (show D2 w w3 w5 bm s q1 b q k k k _ oc X RP ro po rc pc by rw [hw5]; exact HD.out.below ((Below.refl _ _).alloc (Nat.le_refl _) _))
          have hx5 : w5.heap[wr.heap.size]? = some (idO x.id) := by rw [hw5]; exact heap_alloc_new wr _
          have HX5 := Lib.hid hx5
          rw [← hw5]
          clear hw5 i0 i1
          obtain ⟨⟨d0, d1⟩, _⟩ := box2 hx5
          clear hx5
          have hlk : (Instr.lookup 77 (.map (some bm)) (.agg #[.int .i64 x.id.r, .int .i64 x.id.n]) false).run Tryz.prog w5 = .ok (.agg #[.int .i64 x.cmd.kind, .int .i64 x.cmd.client, .int .i64 x.cmd.seq, .string x.cmd.key, .string x.cmd.val, .int .i64 x.cmd.rev]) w5 := HD5.out.map.look lIC (i := x.id) HXO.out.id (look_cmd HC.out.nd HX.out)
          have HSD := Lib.hid (sdo_run HD5.out.ses HSG.out (by omega) HT.out x.cmd (HKL.out x (List.mem_of_getElem? HX.out)) HXO.out.cmd.client _ _ _ HDO.out)
          have HLT := Lib.hid (show wr.heap.size < w5.heap.size from M.heap_lt HX5.out)
          have HLE3 := Lib.hid HD.out.le3
          have HLT3 := Lib.hid HD.out.lt
          go_wp2_with fail
          refine HSD.out.mono ?_
          rintro e w6 ⟨rfl, hs6, hm6⟩
          have HD6 := Lib.hid (HD5.out.do_ hs6 (sesRun_take ⟨[], []⟩ (X.map Rv.cmd) k x.cmd HXC.out).symm hm6)
          have hx6 := (hm6.block wr.heap.size HLT.out (by have := HLE3.out; have := HLT3.out; omega)).trans HX5.out
          have HX6 := Lib.hid hx6
          clear hs6 hm6 hlk d0 d1 HSD
          go_upto_region 14 with fail
          obtain ⟨w7, hw7⟩ : ∃ w7, w7 = w6.alloc (.cells #[.int .i64 r.code, .string r.val, .int .i64 r.rev] 33) := ⟨_, rfl⟩
          have hb7 : Below w6.heap.size w6 w7 := by rw [hw7]; exact (Below.refl _ _).alloc (Nat.le_refl _) _
          have HD7 := Lib.hid (HD6.out.below hb7)
          have hx7 := (hb7.block wr.heap.size (M.heap_lt HX6.out)).trans HX6.out
          have hr7 : w7.heap[w6.heap.size]? = some (.cells #[.int .i64 r.code, .string r.val, .int .i64 r.rev] 33 (0, 0)) := by rw [hw7]; exact heap_alloc_new w6 _
          have HR7 := Lib.hid hr7
          rw [← hw7]
          clear hw7 hb7
          obtain ⟨⟨d0, d1⟩, _⟩ := box2 hx7
          clear hx7 hr7
          have hlk : (Instr.lookup 77 (.map (some bm)) (.agg #[.int .i64 x.id.r, .int .i64 x.id.n]) false).run Tryz.prog w7 = .ok (.agg #[.int .i64 x.cmd.kind, .int .i64 x.cmd.client, .int .i64 x.cmd.seq, .string x.cmd.key, .string x.cmd.val, .int .i64 x.cmd.rev]) w7 := HD7.out.map.look lIC (i := x.id) HXO.out.id (look_cmd HC.out.nd HX.out)
          go_upto_region 15 with (refine wpList_rowApp lRC (by rfl) _ _ (by rfl) w3.heap.size ro rc 1 ((X.map Rv.cmd).take k) [x.cmd] w7.heap.size #[.int .i64 x.cmd.kind, .int .i64 x.cmd.client, .int .i64 x.cmd.seq, .string x.cmd.key, .string x.cmd.val, .int .i64 x.cmd.rev] (heap_alloc_new w7 _) rfl rfl (by rw [List.length_take, List.length_map, Nat.min_eq_left (by omega)]; rfl) (HD7.out.below ((Below.refl _ _).alloc (Nat.le_refl _) _)).row (by rfl) (by rw [List.length_take, List.length_map, Nat.min_eq_left (by omega)]; simp; omega) (by have := HD7.out.le3; simp; omega) ?_
                                  intro ro' rc' w8 ho hM hb hf
                                  rw [take_nextA HXC.out] at ho
                                  have HD8 := Lib.hid ((HD7.out.below ((Below.refl _ _).alloc (Nat.le_refl _) _)).row_ ho hM)
                                  have HR8 := Lib.hid (show w8.heap[w6.heap.size]? = some (.cells #[.int .i64 r.code, .string r.val, .int .i64 r.rev] 33 (0, 0)) by
                                    have h0 := M.heap_lt HR7.out
                                    refine (hM.block _ (by simp; omega) ?_).trans ((heap_al w7 _ _).trans ((if_neg (by omega)).trans HR7.out))
                                    rintro ⟨a, ea, eb⟩
                                    obtain ⟨cs, hc, _⟩ := HD7.out.row.cells a ea
                                    rw [← eb, HR7.out] at hc
                                    simp only [Option.some.injEq, Obj.cells.injEq] at hc
                                    exact absurd hc.2.1 (by decide))
                                  rw [List.length_take, List.length_map, Nat.min_eq_left (by omega)]
                                  clear ho hM hb hf)
          clear d0 d1 hlk
          obtain ⟨⟨r0, r1, r2⟩, _, _⟩ := box3 HR8.out
          go_wp2_with (refine wpList_rowApp lRP (by rfl) _ _ (by rfl) w3.heap.size po pc 1 (RP.take k) [r] w8.heap.size #[.int .i64 r.code, .string r.val, .int .i64 r.rev] (heap_alloc_new w8 _) rfl rfl (by rw [List.length_take, HF.out.len, List.length_map, Nat.min_eq_left (by omega)]; rfl) (HD8.out.below ((Below.refl _ _).alloc (Nat.le_refl _) _)).rep (by rfl) (by rw [List.length_take, HF.out.len, List.length_map, Nat.min_eq_left (by omega)]; simp; omega) (by have := HD8.out.le3; simp; omega) ?_
                       intro po' pc' w9 ho hM hb hf
                       rw [take_nextA HRR.out] at ho
                       have HD9 := Lib.hid ((HD8.out.below ((Below.refl _ _).alloc (Nat.le_refl _) _)).rep_ ho hM)
                       rw [List.length_take, HF.out.len, List.length_map, Nat.min_eq_left (by omega)]
                       clear ho hM hb hf)
          clear r0 r1 r2
          go_roundw
          case rel => exact ⟨k + 1, ro', po', rc', pc', by go_num, by rfl, by rfl, by omega, HD9.out⟩
          case measure => simp [intOf]; omega
        · obtain rfl : k = X.length := by omega
          have hii : ¬ (X.length : Int) < (X.length : Int) := by omega
          go_wp2_with fail
          (try simp only [Exit.inBlock, Exit.then])
          refine bodyPost_ret (results_tmp2 rfl _ _ _) rfl ?_
          have hr := HD.out.row
          have hp := HD.out.rep
          rw [List.take_of_length_le (by simp)] at hr
          rw [List.take_of_length_le (by rw [HF.out.len]; simp)] at hp
          exact ⟨ro, rc, po, pc, rfl, hr.base HD.out.w03, hp.base HD.out.w03, HD.out.ses.bel⟩
end Go.Proofs.YtkgjfagejnppbaaGreatDoor.X
