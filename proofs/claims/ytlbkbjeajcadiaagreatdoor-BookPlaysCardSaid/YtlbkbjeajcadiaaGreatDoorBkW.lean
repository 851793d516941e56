/- The book in memory: Hang, New. -/
import Derived.Test.YtlbkbjeajcadiaaGreatDoorMrg24
namespace Go.Proofs.YtlbkbjeajcadiaaGreatDoor.B
open Go.RowKit Go.Proofs.YtlbkbjeajcadiaaGreatDoor.M Go.BigFrame Go.Maps Go.Proofs.YtlbkbjeajcadiaaGreatDoor.O Go.Proofs.YtlbkbjeajcadiaaGreatDoor.P Go.Proofs.YtlbkbjeajcadiaaGreatDoor.Mp Go.Proofs.YtlbkbjeajcadiaaGreatDoor.Rw Go.Proofs.YtlbkbjeajcadiaaGreatDoor.R
set_option linter.unusedVariables false
set_option linter.unusedSimpArgs false

/-- what a command hangs on, and the greatest number of those -/
def HangL (R : List (O.Id × Rv)) (c : Cmd) (i : O.Id) (l : List O.Id) (m : Int) : Prop := ∃ A, BkRel R A ∧ (A.map Prod.fst).Nodup ∧ l = setI ((metL A c i).map Prod.fst) ∧ m = mostN (metL A c i)
theorem seq_ok {x : Rv} (h : recOk x = true) (hs : x.st ≠ 0) : x.seq ≤ 1099511627776 := by
  have hr : restOk x = true := by
    unfold recOk at h
    simp only [Bool.and_eq_true] at h
    exact h.2.2
  unfold restOk at hr
  rw [if_neg hs] at hr
  simp only [Bool.and_eq_true, beq_iff_eq] at hr
  have ha := hr.2.1
  unfold attrChk at ha
  split at ha
  · cases ha
  · rename_i ht
    split at ha
    · cases ha
    · rename_i hq
      unfold tagBad at ht
      unfold seqBad at hq
      simp only [Bool.or_eq_true, Bool.and_eq_true, beq_iff_eq, decide_eq_true_eq, bne_iff_ne, ne_eq] at ht hq
      omega
theorem most_le {w : World} {p x b n : Nat} {R : List (O.Id × Rv)} {A : List (O.Id × En)} {Fi : Nat → Prop} (h : BkAt w p x b n R A Fi) (c : Cmd) (i : O.Id) : 0 ≤ mostN (metL A c i) ∧ mostN (metL A c i) ≤ 1099511627776 := by
  rw [mostN_V]
  obtain ⟨a1, a2, a3⟩ := mostV_gen ((metL A c i).map fun p => p.2.seq) 0
  refine ⟨a1, ?_⟩
  rcases a3 with e | e
  · unfold mostV; rw [e]; decide
  · unfold mostV
    obtain ⟨q, hq, e2⟩ := List.mem_map.1 e
    rw [← e2]
    have hA := (mem_met.1 hq).1
    have h1 := findD_of h.ix.nd (show (q.1, q.2) ∈ A from hA)
    rw [h.rel q.1] at h1
    obtain ⟨y, hy, hx⟩ := Option.bind_eq_some_iff.1 h1
    obtain ⟨_, _, k2, _⟩ := h.ok _ (findD_some hy)
    rw [seq_ix hx]
    refine seq_ok k2 (fun h0 => ?_)
    have h0 : y.st = 0 := h0
    unfold asIx at hx
    rw [if_pos h0] at hx
    cases hx
abbrev atrO (ao : Option Addr) (k : Nat) (cap : Nat) (sq tg : Int) : Obj := .cells #[.slice ao k cap, .int .i64 sq, .int .i64 tg] 38
/-- what a Hang hands back -/
def hangV (tag m : Int) : Int := if tag = 1 then m + 1 else 0
theorem info_attr : (Tryz.prog.info? 38).map (·.size) = some 3 := by kernel_rfl
/-- a result that is such a one -/
theorem ret_attr {f : Func} {Q : Ending → World → Prop} {a : Act} {W : World} (b : Nat) (ao : Option Addr) (k cap : Nat) (sq tg : Int) (p : Tmp) (hr : f.results = #[.cell p 38]) (hp : a.tmps.getD p undef = .pointer (some ⟨b, 0, none⟩)) (hW : W.heap[b]? = some (atrO ao k cap sq tg)) (hd : a.defers = []) (hQ : Q (.returned (.agg #[.slice ao k cap, .int .i64 sq, .int .i64 tg])) W) : bodyPost Tryz.prog f Q .ret a W :=
  ret_box b #[.slice ao k cap, .int .i64 sq, .int .i64 tg] _ _ hW (fun W' h => results_cell_row hr a.tmps W' b _ #[.slice ao k cap, .int .i64 sq, .int .i64 tg] _ _ hp h Tryz.underlying38 rfl info_attr) hd hQ
theorem set3 {w : World} {b : Nat} {x y z x2 y2 z2 : Value} {T : TypeId} (h : w.heap[b]? = some (.cells #[x, y, z] T (0, 0))) : (((w.setCell ⟨b, 0, none⟩ x2).setCell ⟨b, 1, none⟩ y2).setCell ⟨b, 2, none⟩ z2).heap[b]? = some (.cells #[x2, y2, z2] T (0, 0)) := by
  have s0 := heap_set w b 0 x2 b _ _ _ h
  rw [if_pos rfl] at s0
  have s1 := heap_set _ b 1 y2 b _ _ _ s0
  rw [if_pos rfl] at s1
  have s2 := heap_set _ b 2 z2 b _ _ _ s1
  rw [if_pos rfl] at s2
  exact s2
theorem set3_mods (w : World) (b : Nat) (x y z : Value) : Mods (fun j => j = b) w (((w.setCell ⟨b, 0, none⟩ x).setCell ⟨b, 1, none⟩ y).setCell ⟨b, 2, none⟩ z) :=
  (((Mods.refl (fun j => j = b) w).setCell (p := ⟨b, 0, none⟩) (fun _ => rfl) _).setCell (p := ⟨b, 1, none⟩) (fun _ => rfl) _).setCell (p := ⟨b, 2, none⟩) (fun _ => rfl) _
theorem eown_b {w w1 : World} {B : Nat} {oo : Option Addr} {oc : Nat} {l : List O.Id} (h : OwnL w B oo oc l) (hb : Below w.heap.size w w1) : OwnL w1 B oo oc l := own_kept h (Mods.of_below (S := fun _ => False) hb) (fun _ _ h => h)
set_option maxRecDepth 100000 in
set_option maxHeartbeats 4000000 in
theorem hang_any (p n : Nat) (R : List (O.Id × Rv)) (U : Nat → Prop) (c : Cmd) (i : O.Id) (tag : Int) (w : World) (h : Bk w p n R U) (hks : c.key.size ≤ maxLen) (hcl : InI c.client) (hn : n ≤ 300) :
    Calls Tryz.prog 11 #[.pointer (some ⟨p, 0, none⟩), cmdV c, idV i, .int .i64 tag] w fun e w' => ∃ oo oc l m, e = .returned (.agg #[.slice oo l.length oc, .int .i64 (hangV tag m), .int .i64 tag]) ∧ (HangL R c i l m ∧ OwnL w' w.heap.size oo oc l ∧ Below w.heap.size w w') := by
  obtain ⟨x, b, A, Fi, h1, h2, h3⟩ := h
  obtain ⟨m, hm⟩ : ∃ m, mostN (metL A c i) = m := ⟨_, rfl⟩
  obtain ⟨l, hl⟩ : ∃ l, setI ((metL A c i).map Prod.fst) = l := ⟨_, rfl⟩
  have HHL := Lib.hid (show HangL R c i l m from ⟨A, h1.rel, h1.ix.nd, hl.symm, hm.symm⟩)
  have HMB := Lib.hid (show 0 ≤ m ∧ m ≤ 1099511627776 by rw [← hm]; exact most_le h1 c i)
  have H := Lib.hid h1
  have HKS := Lib.hid hks
  have HCL := Lib.hid hcl
  have HN := Lib.hid hn
  have HL := Lib.hid hl
  have HM := Lib.hid hm
  clear h1 h2 h3 hks hcl hn hl hm
  go_enter Tryz.func11, Tryz.ntmps11
  go_upto_region 1 with fail
  obtain ⟨W, hW⟩ : ∃ W, W = ((w.alloc (.cells (cmdA c) 24)).alloc (idO i)).alloc (.cells #[.slice none 0 0, .int .i64 0, .int .i64 0] 38) := ⟨_, rfl⟩
  rw [← hW]
  have HB : Hid (Below w.heap.size w W) := Lib.hid (by rw [hW]; exact (((Below.refl _ _).alloc (Nat.le_refl _) _).alloc (by simp) _).alloc (by simp; omega) _)
  have HC : Hid (W.heap[w.heap.size]? = some (.cells (cmdA c) 24 (0, 0))) := Lib.hid (by rw [hW, heap_al, if_neg (by simp; omega), heap_al, if_neg (by simp)]; exact heap_alloc_new w _)
  have HX : Hid (W.heap[w.heap.size + 1]? = some (idO i)) := Lib.hid (by rw [hW, heap_al, if_neg (by simp), heap_al, if_pos (by simp)])
  have HZ : Hid (W.heap[w.heap.size + 2]? = some (atrO none 0 0 0 0)) := Lib.hid (by rw [hW, heap_al, if_pos (by simp)])
  clear hW
  obtain ⟨gz, hgz⟩ : ∃ g, w.heap.size + 2 = g := ⟨_, rfl⟩
  have hgz2 : w.heap.size + 1 + 1 = gz := by omega
  have HGZ := Lib.hid (show w.heap.size + 2 = gz from hgz)
  rw [hgz] at HZ
  rw [hgz2]
  clear hgz hgz2
  have HA := Lib.hid (H.out.below HB.out)
  have hzp := M.heap_lt HA.out.box
  obtain ⟨⟨c0, c1, c2, c3, c4, c5⟩, _⟩ := box6 HC.out
  obtain ⟨⟨d0, d1⟩, _⟩ := box2 HX.out
  obtain ⟨e0, e1, e2⟩ := HA.out.cells
  have HST := Lib.hid (show ∀ w', Below W.heap.size W w' → (fun w' => w'.cell? ⟨p, 0, none⟩ = some (.pointer (some ⟨x, 0, none⟩)) ∧ w'.cell? ⟨w.heap.size, 0, none⟩ = some (.int .i64 c.kind) ∧ w'.cell? ⟨w.heap.size, 1, none⟩ = some (.int .i64 c.client) ∧ w'.cell? ⟨w.heap.size, 2, none⟩ = some (.int .i64 c.seq) ∧ w'.cell? ⟨w.heap.size, 3, none⟩ = some (.string c.key) ∧ w'.cell? ⟨w.heap.size, 4, none⟩ = some (.string c.val) ∧ w'.cell? ⟨w.heap.size, 5, none⟩ = some (.int .i64 c.rev) ∧ w'.cell? ⟨w.heap.size + 1, 0, none⟩ = some (.int .i64 i.r) ∧ w'.cell? ⟨w.heap.size + 1, 1, none⟩ = some (.int .i64 i.n) ∧ Below W.heap.size W w') w' from fun w' hb =>
    ⟨(hb.cell (p := ⟨p, 0, none⟩) hzp).trans e0, (hb.cell (p := ⟨_, _, none⟩) (M.heap_lt HC.out)).trans c0, (hb.cell (p := ⟨_, _, none⟩) (M.heap_lt HC.out)).trans c1, (hb.cell (p := ⟨_, _, none⟩) (M.heap_lt HC.out)).trans c2, (hb.cell (p := ⟨_, _, none⟩) (M.heap_lt HC.out)).trans c3, (hb.cell (p := ⟨_, _, none⟩) (M.heap_lt HC.out)).trans c4, (hb.cell (p := ⟨_, _, none⟩) (M.heap_lt HC.out)).trans c5, (hb.cell (p := ⟨_, _, none⟩) (M.heap_lt HX.out)).trans d0, (hb.cell (p := ⟨_, _, none⟩) (M.heap_lt HX.out)).trans d1, hb⟩)
  have HDEP := Lib.hid (show ∀ w2, Below W.heap.size W w2 → Calls Tryz.prog 32 #[.pointer (some ⟨x, 0, none⟩), cmdV c, idV i] w2 fun e w' => ∃ oo oc, e = .returned (.slice oo l.length oc) ∧ (OwnL w' w.heap.size oo oc l ∧ (∀ a, oo = some a → w2.heap.size ≤ a.block) ∧ Below W.heap.size W w' ∧ Below w2.heap.size w2 w') from fun w2 hb => by
    have := deps_any x n A Fi c i w2 (HA.out.ix.below hb) HKS.out HCL.out HN.out
    rw [HL.out] at this
    refine this.mono fun e w' hh => ?_
    obtain ⟨oo, oc, he, ho, hb2⟩ := hh
    exact ⟨oo, oc, he, own_base ho (fun k hk => by have := (ho.lt k hk).1; have := hb.size; have := HB.out.size; omega), fun a e => (ho.lt a.block (by rw [e]; rfl)).1, hb.trans (hb2.mono hb.size), hb2⟩)
  clear c0 c1 c2 c3 c4 c5 d0 d1 e0 e1 e2 hzp
  go_region_held3 (fun w' => w'.cell? ⟨p, 0, none⟩ = some (.pointer (some ⟨x, 0, none⟩)) ∧ w'.cell? ⟨w.heap.size, 0, none⟩ = some (.int .i64 c.kind) ∧ w'.cell? ⟨w.heap.size, 1, none⟩ = some (.int .i64 c.client) ∧ w'.cell? ⟨w.heap.size, 2, none⟩ = some (.int .i64 c.seq) ∧ w'.cell? ⟨w.heap.size, 3, none⟩ = some (.string c.key) ∧ w'.cell? ⟨w.heap.size, 4, none⟩ = some (.string c.val) ∧ w'.cell? ⟨w.heap.size, 5, none⟩ = some (.int .i64 c.rev) ∧ w'.cell? ⟨w.heap.size + 1, 0, none⟩ = some (.int .i64 i.r) ∧ w'.cell? ⟨w.heap.size + 1, 1, none⟩ = some (.int .i64 i.n) ∧ Below W.heap.size W w')
    (first | exact HST.out _ hb7 | exact HST.out _ (hb7.alloc hb7.size _) | exact HST.out _ (((hb7.setCell (Nat.le_refl _) _).setCell (Nat.le_refl _) _).setCell (Nat.le_refl _) _) | exact HST.out _ (Below.refl _ _).drew | exact HST.out _ ((Below.refl _ _).drew.alloc (Nat.le_refl _) _))
    ((go_at_call 32; refine (HDEP.out _ (by first | exact (Below.refl W.heap.size W).drew | exact (Below.refl W.heap.size W).drew.alloc (Nat.le_refl _) _)).mono ?_; rintro e w7 ⟨oo, oc, rfl, ho7, hf7, hb7, hn7⟩; (try (have hz := (hn7.block W.heap.size (by simp)).trans (heap_alloc_new W.drew (.cells #[.slice none 0 0, .int .i64 0, .int .i64 0] 38)); obtain ⟨⟨z0, z1, z2⟩, zf, _⟩ := box3 hz))))
  · obtain ⟨w8, hw8⟩ : ∃ w8, w8 = w7.alloc (.cells #[.slice oo l.length oc, .int .i64 0, .int .i64 tag] 38) := ⟨_, rfl⟩
    rw [← hw8]
    have hA8 : w8.heap[w7.heap.size]? = some (atrO oo l.length oc 0 tag) := by rw [hw8]; exact heap_alloc_new w7 _
    have hb8 : Below w7.heap.size w7 w8 := by rw [hw8]; exact (Below.refl _ _).alloc (Nat.le_refl _) _
    obtain ⟨ga, hga⟩ : ∃ g, w7.heap.size = g := ⟨_, rfl⟩
    have HGA := Lib.hid (show W.heap.size ≤ ga ∧ ∀ a, oo = some a → a.block ≠ ga from ⟨by rw [← hga]; exact hb7.size, fun a e => by have := (ho7.lt a.block (by rw [e]; rfl)).2; omega⟩)
    have HO8 := Lib.hid (eown_b ho7 hb8)
    have HW8 := Lib.hid (hb7.trans (hb8.mono hb7.size))
    rw [hga] at hA8 ⊢
    have HA8 := Lib.hid hA8
    clear hA8 hb8 hga hw8 ho7 hb7 hn7
    have HOZ := Lib.hid (show ∀ a, oo = some a → a.block ≠ gz from fun a e => by
      have h1 := hf7 a e
      have h2 := M.heap_lt HZ.out
      simp only [World.size_alloc, World.size_drew] at h1
      omega)
    have HZ8 := Lib.hid ((HW8.out.block _ (M.heap_lt HZ.out)).trans HZ.out)
    have HC8 := Lib.hid ((HW8.out.block _ (M.heap_lt HC.out)).trans HC.out)
    have HX8 := Lib.hid ((HW8.out.block _ (M.heap_lt HX.out)).trans HX.out)
    have HWW := Lib.hid (HB.out.trans (HW8.out.mono HB.out.size))
    clear HST HDEP hf7
    cases ht : (tag == 1) with
    | false =>
      have HE := Lib.hid (show hangV tag m = 0 by
        have h2 : tag ≠ 1 := by simpa using ht
        unfold hangV; rw [if_neg h2])
      obtain ⟨⟨a0, a1, a2⟩, _⟩ := box3 HA8.out
      obtain ⟨⟨z0, z1, z2⟩, zf, _⟩ := box3 HZ8.out
      have zf0 := zf 0
      have zf1 := zf 1
      have zf2 := zf 2
      go_wp2_with fail
      refine ret_attr gz oo l.length oc 0 tag 8 (by rfl) (by rfl) (set3 HZ8.out) rfl ?_
      have hms := set3_mods w8 gz (.slice oo l.length oc) (.int .i64 0) (.int .i64 tag)
      refine ⟨oo, oc, l, m, by rw [HE.out], HHL.out, own_kept HO8.out hms (fun k hk e => ?_), HWW.out.trans (hms.below (fun j e => by have := HGZ.out; omega) HWW.out.size)⟩
      cases oo with
      | none => cases hk
      | some a =>
        obtain rfl : a.block = k := Option.some.inj hk
        exact HOZ.out a rfl e
    | true =>
      have HE := Lib.hid (show hangV tag m = m + 1 by
        have h2 : tag = 1 := by simpa using ht
        unfold hangV; rw [if_pos h2])
      go_upto_region 3 with fail
      have HSQ := Lib.hid (fun (y : Kin w8) => seq_any x n A Fi c i y.w ((H.out.ix.below HWW.out).below y.h) HKS.out HCL.out HN.out m HM.out HMB.out.1 (by have := HMB.out.2; omega))
      obtain ⟨⟨c0, c1, c2, c3, c4, c5⟩, _⟩ := box6 HC8.out
      obtain ⟨⟨d0, d1⟩, _⟩ := box2 HX8.out
      obtain ⟨e0, e1, e2⟩ := (H.out.below HWW.out).cells
      have k0 := Kin.cell e0
      have k1 := Kin.cell c0
      have k2 := Kin.cell c1
      have k3 := Kin.cell c2
      have k4 := Kin.cell c3
      have k5 := Kin.cell c4
      have k6 := Kin.cell c5
      have k7 := Kin.cell d0
      have k8 := Kin.cell d1
      clear c0 c1 c2 c3 c4 c5 d0 d1 e0 e1 e2
      refine wp_region_kin_tail 8 (by kernel_rfl) (by kernel_rfl) ?_
      simp only [List.take_succ_cons, List.take_zero, List.drop_succ_cons, List.drop_zero]
      repeat (go_big_quiet_step ((go_at_call 33; exact Kin.call _ (HSQ.out _))))
      refine wpQuiet_nil ?_
      intro _ hxx
      obtain ⟨xk, rfl⟩ := hxx
      have HK := Lib.hid xk.h
      have HA9 := Lib.hid ((xk.h.block _ (M.heap_lt HA8.out)).trans HA8.out)
      clear k0 k1 k2 k3 k4 k5 k6 k7 k8 HSQ
      obtain ⟨⟨a0, a1, a2⟩, af, _⟩ := box3 HA9.out
      have af1 := af 1
      go_upto_region 4 with fail
      clear a0 a1 a2 af af1
      obtain ⟨w9, hw9⟩ : ∃ w9, w9 = xk.w.setCell ⟨ga, 1, none⟩ (.int .i64 (m + 1)) := ⟨_, rfl⟩
      rw [← hw9]
      have s1 := heap_set xk.w ga 1 (.int .i64 (m + 1)) ga _ _ _ HA9.out
      rw [if_pos rfl, ← hw9] at s1
      have HAF := Lib.hid (show w9.heap[ga]? = some (atrO oo l.length oc (m + 1) tag) from s1)
      have hm9 : Mods (fun j => j = ga) xk.w w9 := by rw [hw9]; exact (Mods.refl (fun j => j = ga) xk.w).setCell (p := ⟨ga, 1, none⟩) (fun _ => rfl) _
      have hgg := M.heap_lt HZ.out
      have HZ9 := Lib.hid (hm9.heap ((HK.out.block _ (M.heap_lt HZ8.out)).trans HZ8.out) (by have := HGA.out.1; omega))
      have HO9 := Lib.hid (show OwnL w9 w.heap.size oo oc l from own_kept (eown_b HO8.out HK.out) hm9 (fun k hk e => by
        cases oo with
        | none => cases hk
        | some a =>
          obtain rfl : a.block = k := Option.some.inj hk
          exact HGA.out.2 a rfl e))
      have HW9 := Lib.hid ((HWW.out.trans (HK.out.mono HWW.out.size)).trans (hm9.below (fun j e => by have := HGA.out.1; have := HB.out.size; omega) (HWW.out.trans (HK.out.mono HWW.out.size)).size))
      clear hw9 s1 hm9 hgg
      obtain ⟨⟨a0, a1, a2⟩, _⟩ := box3 HAF.out
      obtain ⟨⟨z0, z1, z2⟩, zf, _⟩ := box3 HZ9.out
      have zf0 := zf 0
      have zf1 := zf 1
      have zf2 := zf 2
      go_wp2_with fail
      refine ret_attr gz oo l.length oc (m + 1) tag 8 (by rfl) (by rfl) (set3 HZ9.out) rfl ?_
      have hms := set3_mods w9 gz (.slice oo l.length oc) (.int .i64 (m + 1)) (.int .i64 tag)
      refine ⟨oo, oc, l, m, by rw [HE.out], HHL.out, own_kept HO9.out hms (fun k hk e => ?_), HW9.out.trans (hms.below (fun j e => by have := HGZ.out; omega) HW9.out.size)⟩
      cases oo with
      | none => cases hk
      | some a =>
        obtain rfl : a.block = k := Option.some.inj hk
        exact HOZ.out a rfl e
  · obtain ⟨w8, hw8⟩ : ∃ w8, w8 = ((w7.setCell ⟨W.heap.size, 0, none⟩ (.slice oo l.length oc)).setCell ⟨W.heap.size, 1, none⟩ (.int .i64 0)).setCell ⟨W.heap.size, 2, none⟩ (.int .i64 tag) := ⟨_, rfl⟩
    rw [← hw8]
    have hA8 : w8.heap[W.heap.size]? = some (atrO oo l.length oc 0 tag) := by rw [hw8]; exact set3 hz
    have hm8 : Mods (fun j => j = W.heap.size) w7 w8 := by rw [hw8]; exact set3_mods w7 _ _ _ _
    obtain ⟨ga, hga⟩ : ∃ g, W.heap.size = g := ⟨_, rfl⟩
    have HGA := Lib.hid (show W.heap.size ≤ ga ∧ ∀ a, oo = some a → a.block ≠ ga from ⟨by omega, fun a e => by have := hf7 a e; simp only [World.size_alloc, World.size_drew] at this; omega⟩)
    have HO8 := Lib.hid (show OwnL w8 w.heap.size oo oc l from own_kept ho7 hm8 (fun k hk e => by
      cases oo with
      | none => cases hk
      | some a =>
        obtain rfl : a.block = k := Option.some.inj hk
        exact HGA.out.2 a rfl (by omega)))
    have HW8 := Lib.hid (hb7.trans (hm8.below (fun j e => by omega) hb7.size))
    rw [hga] at hA8 ⊢
    have HA8 := Lib.hid hA8
    clear hA8 hm8 hga hw8 ho7 hb7 hn7 z0 z1 z2 zf hz
    have HOZ := Lib.hid (show ∀ a, oo = some a → a.block ≠ gz from fun a e => by
      have h1 := hf7 a e
      have h2 := M.heap_lt HZ.out
      simp only [World.size_alloc, World.size_drew] at h1
      omega)
    have HZ8 := Lib.hid ((HW8.out.block _ (M.heap_lt HZ.out)).trans HZ.out)
    have HC8 := Lib.hid ((HW8.out.block _ (M.heap_lt HC.out)).trans HC.out)
    have HX8 := Lib.hid ((HW8.out.block _ (M.heap_lt HX.out)).trans HX.out)
    have HWW := Lib.hid (HB.out.trans (HW8.out.mono HB.out.size))
    clear HST HDEP hf7
    cases ht : (tag == 1) with
    | false =>
      have HE := Lib.hid (show hangV tag m = 0 by
        have h2 : tag ≠ 1 := by simpa using ht
        unfold hangV; rw [if_neg h2])
      obtain ⟨⟨a0, a1, a2⟩, _⟩ := box3 HA8.out
      obtain ⟨⟨z0, z1, z2⟩, zf, _⟩ := box3 HZ8.out
      have zf0 := zf 0
      have zf1 := zf 1
      have zf2 := zf 2
      go_wp2_with fail
      refine ret_attr gz oo l.length oc 0 tag 8 (by rfl) (by rfl) (set3 HZ8.out) rfl ?_
      have hms := set3_mods w8 gz (.slice oo l.length oc) (.int .i64 0) (.int .i64 tag)
      refine ⟨oo, oc, l, m, by rw [HE.out], HHL.out, own_kept HO8.out hms (fun k hk e => ?_), HWW.out.trans (hms.below (fun j e => by have := HGZ.out; omega) HWW.out.size)⟩
      cases oo with
      | none => cases hk
      | some a =>
        obtain rfl : a.block = k := Option.some.inj hk
        exact HOZ.out a rfl e
    | true =>
      have HE := Lib.hid (show hangV tag m = m + 1 by
        have h2 : tag = 1 := by simpa using ht
        unfold hangV; rw [if_pos h2])
      go_upto_region 3 with fail
      have HSQ := Lib.hid (fun (y : Kin w8) => seq_any x n A Fi c i y.w ((H.out.ix.below HWW.out).below y.h) HKS.out HCL.out HN.out m HM.out HMB.out.1 (by have := HMB.out.2; omega))
      obtain ⟨⟨c0, c1, c2, c3, c4, c5⟩, _⟩ := box6 HC8.out
      obtain ⟨⟨d0, d1⟩, _⟩ := box2 HX8.out
      obtain ⟨e0, e1, e2⟩ := (H.out.below HWW.out).cells
      have k0 := Kin.cell e0
      have k1 := Kin.cell c0
      have k2 := Kin.cell c1
      have k3 := Kin.cell c2
      have k4 := Kin.cell c3
      have k5 := Kin.cell c4
      have k6 := Kin.cell c5
      have k7 := Kin.cell d0
      have k8 := Kin.cell d1
      clear c0 c1 c2 c3 c4 c5 d0 d1 e0 e1 e2
      refine wp_region_kin_tail 8 (by kernel_rfl) (by kernel_rfl) ?_
      simp only [List.take_succ_cons, List.take_zero, List.drop_succ_cons, List.drop_zero]
      repeat (go_big_quiet_step ((go_at_call 33; exact Kin.call _ (HSQ.out _))))
      refine wpQuiet_nil ?_
      intro _ hxx
      obtain ⟨xk, rfl⟩ := hxx
      have HK := Lib.hid xk.h
      have HA9 := Lib.hid ((xk.h.block _ (M.heap_lt HA8.out)).trans HA8.out)
      clear k0 k1 k2 k3 k4 k5 k6 k7 k8 HSQ
      obtain ⟨⟨a0, a1, a2⟩, af, _⟩ := box3 HA9.out
      have af1 := af 1
      go_upto_region 4 with fail
      clear a0 a1 a2 af af1
      obtain ⟨w9, hw9⟩ : ∃ w9, w9 = xk.w.setCell ⟨ga, 1, none⟩ (.int .i64 (m + 1)) := ⟨_, rfl⟩
      rw [← hw9]
      have s1 := heap_set xk.w ga 1 (.int .i64 (m + 1)) ga _ _ _ HA9.out
      rw [if_pos rfl, ← hw9] at s1
      have HAF := Lib.hid (show w9.heap[ga]? = some (atrO oo l.length oc (m + 1) tag) from s1)
      have hm9 : Mods (fun j => j = ga) xk.w w9 := by rw [hw9]; exact (Mods.refl (fun j => j = ga) xk.w).setCell (p := ⟨ga, 1, none⟩) (fun _ => rfl) _
      have hgg := M.heap_lt HZ.out
      have HZ9 := Lib.hid (hm9.heap ((HK.out.block _ (M.heap_lt HZ8.out)).trans HZ8.out) (by have := HGA.out.1; omega))
      have HO9 := Lib.hid (show OwnL w9 w.heap.size oo oc l from own_kept (eown_b HO8.out HK.out) hm9 (fun k hk e => by
        cases oo with
        | none => cases hk
        | some a =>
          obtain rfl : a.block = k := Option.some.inj hk
          exact HGA.out.2 a rfl e))
      have HW9 := Lib.hid ((HWW.out.trans (HK.out.mono HWW.out.size)).trans (hm9.below (fun j e => by have := HGA.out.1; have := HB.out.size; omega) (HWW.out.trans (HK.out.mono HWW.out.size)).size))
      clear hw9 s1 hm9 hgg
      obtain ⟨⟨a0, a1, a2⟩, _⟩ := box3 HAF.out
      obtain ⟨⟨z0, z1, z2⟩, zf, _⟩ := box3 HZ9.out
      have zf0 := zf 0
      have zf1 := zf 1
      have zf2 := zf 2
      go_wp2_with fail
      refine ret_attr gz oo l.length oc (m + 1) tag 8 (by rfl) (by rfl) (set3 HZ9.out) rfl ?_
      have hms := set3_mods w9 gz (.slice oo l.length oc) (.int .i64 (m + 1)) (.int .i64 tag)
      refine ⟨oo, oc, l, m, by rw [HE.out], HHL.out, own_kept HO9.out hms (fun k hk e => ?_), HW9.out.trans (hms.below (fun j e => by have := HGZ.out; omega) HW9.out.size)⟩
      cases oo with
      | none => cases hk
      | some a =>
        obtain rfl : a.block = k := Option.some.inj hk
        exact HOZ.out a rfl e
end Go.Proofs.YtlbkbjeajcadiaaGreatDoor.B
