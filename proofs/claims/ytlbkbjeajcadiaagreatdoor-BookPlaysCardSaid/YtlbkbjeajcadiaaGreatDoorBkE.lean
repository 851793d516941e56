/- The index in memory: near. -/
import Derived.Test.YtlbkbjeajcadiaaGreatDoorBkD
import Derived.Test.YtlbkbjeajcadiaaGreatDoorRow
import Derived.Laws.IdiomRangeMap
namespace Go.Proofs.YtlbkbjeajcadiaaGreatDoor.B
open Go.RowKit Go.Proofs.YtlbkbjeajcadiaaGreatDoor.M Go.BigFrame Go.Maps Go.Proofs.YtlbkbjeajcadiaaGreatDoor.O Go.Proofs.YtlbkbjeajcadiaaGreatDoor.P Go.Proofs.YtlbkbjeajcadiaaGreatDoor.Mp Go.Proofs.YtlbkbjeajcadiaaGreatDoor.Rw
set_option linter.unusedVariables false
set_option linter.unusedSimpArgs false

/-- rows of groups, of ids -/
def sRG : RowS (Option Nat) := { t := 140, e := 84, k := 1, enc := fun o => [.map o], bytes := 8 }
def sRI : RowS O.Id := { t := 36, e := 31, k := 2, enc := idC, bytes := 16 }
theorem one_all {l : List Value} (h : l.all (fun v => v.oneCell') = true) : ∀ v ∈ l, v.oneCell' = true := fun v hv => by
  rw [List.all_eq_true] at h
  exact h v hv
theorem lRG : sRG.Law := ⟨Tryz.underlying140, info_of (z := .map none) (by kernel_rfl) rfl, fun _ => rfl, by decide, by decide, fun x => one_all rfl⟩
theorem lRI : sRI.Law := ⟨Tryz.underlying36, info_of (z := .agg #[.int .i64 0, .int .i64 0]) (by kernel_rfl) rfl, fun _ => rfl, by decide, by decide, fun x => one_all rfl⟩
/-- a group by its block -/
def gof (G : Nat → List (O.Id × Bool)) (GW : List (O.Id × Bool)) (bw b : Nat) : List (O.Id × Bool) := if b = bw then GW else G b
/-- the groups that a command looks at -/
structure NearL (A : List (O.Id × En)) (KM : List (ByteArray × Nat)) (CM : List (Int × Nat)) (G : Nat → List (O.Id × Bool)) (GW : List (O.Id × Bool)) (bw n : Nat) (c : Cmd) (NL : List (Option Nat)) : Prop where
  inn : ∀ b, some b ∈ NL → b = bw ∨ b ∈ KM.map Prod.snd ++ CM.map Prod.snd
  all : ∀ i e, (i, e) ∈ A → meet c e.c = true → ∃ b, some b ∈ NL ∧ i ∈ gids (gof G GW bw b)
  len : NL.length ≤ n + 3
section
variable {w w1 : World} {x n : Nat} {A : List (O.Id × En)} {KM : List (ByteArray × Nat)} {CM : List (Int × Nat)} {G : Nat → List (O.Id × Bool)} {GW : List (O.Id × Bool)} {ba bk bc bw : Nat} {c : Cmd}
theorem IxM.gof (h : IxM w x n A KM CM G GW ba bk bc bw) {b : Nat} (hb : b = bw ∨ b ∈ KM.map Prod.snd ++ CM.map Prod.snd) : MapL sGB w b n (gof G GW bw b) ∧ IxF KM CM ba bk bc bw b := by
  unfold B.gof
  rcases hb with rfl | hb
  · rw [if_pos rfl]; exact ⟨h.wide, .bw⟩
  · rw [if_neg (h.grp hb).2.2.2]
    refine ⟨?_, List.mem_append_right _ hb⟩
    rcases List.mem_append.1 hb with hb | hb
    · obtain ⟨p, hp, rfl⟩ := List.mem_map.1 hb; exact h.gk p hp
    · obtain ⟨p, hp, rfl⟩ := List.mem_map.1 hb; exact h.gc p hp
theorem IxAt.of_gof (h : IxAt w x n A KM CM G GW ba bk bc bw) {b : Nat} (hb : b = bw ∨ b ∈ KM.map Prod.snd ++ CM.map Prod.snd) {i : O.Id} (hi : i ∈ gids (B.gof G GW bw b)) : ∃ e, (i, e) ∈ A := by
  unfold B.gof at hi
  rcases hb with rfl | hb
  · rw [if_pos rfl] at hi
    obtain ⟨e, he, _⟩ := h.pl.widR i hi
    exact ⟨e, he⟩
  · rw [if_neg (h.m.grp hb).2.2.2] at hi
    rcases List.mem_append.1 hb with hb | hb
    · obtain ⟨p, hp, rfl⟩ := List.mem_map.1 hb
      obtain ⟨e, he, _⟩ := h.pl.keyR p.1 p.2 i hp hi
      exact ⟨e, he⟩
    · obtain ⟨p, hp, rfl⟩ := List.mem_map.1 hb
      obtain ⟨e, he, _⟩ := h.pl.cliR p.1 p.2 i hp hi
      exact ⟨e, he⟩
theorem look_of {κ : Type} [DecidableEq κ] {L : List (κ × Nat)} {k : κ} {b : Nat} (h : lookD (L.map fun p => (p.1, some p.2)) k none = some b) : (k, b) ∈ L := by
  unfold lookD at h
  cases hf : findD (L.map fun p => (p.1, some p.2)) k with
  | none => rw [hf] at h; cases h
  | some v =>
    rw [hf] at h
    have h : v = some b := h
    subst h
    obtain ⟨p, hp, e⟩ := List.mem_map.1 (findD_some hf)
    simp only [Prod.mk.injEq, Option.some.injEq] at e
    obtain ⟨rfl, rfl⟩ := e
    exact hp
theorem near_wide (h : IxAt w x n A KM CM G GW ba bk bc bw) (hc : wideB c = true) {NL : List (Option Nat)} (h1 : ∀ p ∈ KM, some p.2 ∈ NL) (h2 : ∀ o ∈ NL, ∃ p ∈ KM, o = some p.2) (h3 : NL.length ≤ n) : NearL A KM CM G GW bw n c NL := by
  refine ⟨fun b hb => ?_, fun i e he hm => ?_, by omega⟩
  · obtain ⟨p, hp, e⟩ := h2 _ hb
    cases e
    exact .inr (List.mem_append_left _ (List.mem_map.2 ⟨p, hp, rfl⟩))
  · obtain ⟨b, g1, g2⟩ := h.pl.key i e he
    refine ⟨b, h1 _ g1, ?_⟩
    unfold B.gof
    rw [if_neg (h.m.gkne g1).2.2.2]
    exact g2
theorem near_keys (h : IxAt w x n A KM CM G GW ba bk bc bw) (hc : wideB c = false) : NearL A KM CM G GW bw n c [lookD (KM.map fun p => (p.1, some p.2)) c.key none, lookD (CM.map fun p => (p.1, some p.2)) c.client none, some bw] := by
  refine ⟨fun b hb => ?_, fun i e he hm => ?_, by simp⟩
  · simp only [List.mem_cons, List.mem_nil_iff, or_false] at hb
    rcases hb with hb | hb | hb
    · exact .inr (List.mem_append_left _ (List.mem_map.2 ⟨_, look_of hb.symm, rfl⟩))
    · exact .inr (List.mem_append_right _ (List.mem_map.2 ⟨_, look_of hb.symm, rfl⟩))
    · exact .inl (Option.some.inj hb)
  · rcases meet_near hm with h1 | h1 | h1 | h1
    · rw [hc] at h1; cases h1
    · refine ⟨bw, by simp, ?_⟩
      unfold B.gof
      rw [if_pos rfl]
      exact h.pl.wid i e he h1
    · obtain ⟨b, g1, g2⟩ := h.pl.key i e he
      rw [h1] at g1
      refine ⟨b, by rw [kfind h.pl.nk g1]; simp, ?_⟩
      unfold B.gof
      rw [if_neg (h.m.gkne g1).2.2.2]
      exact g2
    · obtain ⟨b, g1, g2⟩ := h.pl.cli i e he
      rw [h1] at g1
      refine ⟨b, by rw [kfind h.pl.nc g1]; simp, ?_⟩
      unfold B.gof
      rw [if_neg (h.m.gcne g1).2.2.2]
      exact g2
end
theorem wpList_nextK {ops : Array Oper} {rest : List Oper} {o : Oper} {a : Act} {Q : Exit → Act → World → Prop} {w : World} {b r n : Nat} {L left : List (ByteArray × Option Nat)} {cnt : Nat} (h : RngL sKG w b r n L left cnt)
    (hg : o.guard = none) (it : Operand) (hop : o.op = Op.next it false) (hit : a.eval it = .pointer (some ⟨r, 0, none⟩))
    (hDone : Hid (left = []) → wpList Tryz.prog ops Q rest (a.put o.dst (.tuple #[.bool false])) w)
    (hMore : ∀ p w' cnt', Hid (p ∈ left) → Hid (RngL sKG w' b r n L (delD left p.1) cnt') → Hid (cnt' < cnt) → Hid (M.Mods (fun k => k = r) w w') → (Instr.entry (.pointer (some ⟨r, 0, none⟩))).run Tryz.prog w' = .ok (.tuple #[.string p.1, .map p.2]) w' → wpList Tryz.prog ops Q rest (a.put o.dst (.tuple #[.bool true, .string p.1, .map p.2])) w') :
    wpList Tryz.prog ops Q (o :: rest) a w := wpList_nextL lKG iKG h hg it hop hit hDone hMore
theorem wpList_nextG {ops : Array Oper} {rest : List Oper} {o : Oper} {a : Act} {Q : Exit → Act → World → Prop} {w : World} {b r n : Nat} {L left : List (O.Id × Bool)} {cnt : Nat} (h : RngL sGB w b r n L left cnt)
    (hg : o.guard = none) (it : Operand) (hop : o.op = Op.next it false) (hit : a.eval it = .pointer (some ⟨r, 0, none⟩))
    (hDone : Hid (left = []) → wpList Tryz.prog ops Q rest (a.put o.dst (.tuple #[.bool false])) w)
    (hMore : ∀ p w' cnt', Hid (p ∈ left) → Hid (RngL sGB w' b r n L (delD left p.1) cnt') → Hid (cnt' < cnt) → Hid (M.Mods (fun k => k = r) w w') → (Instr.entry (.pointer (some ⟨r, 0, none⟩))).run Tryz.prog w' = .ok (.tuple #[idV p.1, .bool p.2]) w' → wpList Tryz.prog ops Q rest (a.put o.dst (.tuple #[.bool true, idV p.1, .bool p.2])) w') :
    wpList Tryz.prog ops Q (o :: rest) a w := wpList_nextL lGB iGB h hg it hop hit hDone hMore
theorem wpList_nextR {ops : Array Oper} {rest : List Oper} {o : Oper} {a : Act} {Q : Exit → Act → World → Prop} {w : World} {b r n : Nat} {L left : List (O.Id × Rv)} {cnt : Nat} (h : RngL sIR w b r n L left cnt)
    (hg : o.guard = none) (it : Operand) (hop : o.op = Op.next it false) (hit : a.eval it = .pointer (some ⟨r, 0, none⟩))
    (hDone : Hid (left = []) → wpList Tryz.prog ops Q rest (a.put o.dst (.tuple #[.bool false])) w)
    (hMore : ∀ p w' cnt', Hid (p ∈ left) → Hid (RngL sIR w' b r n L (delD left p.1) cnt') → Hid (cnt' < cnt) → Hid (M.Mods (fun k => k = r) w w') → (Instr.entry (.pointer (some ⟨r, 0, none⟩))).run Tryz.prog w' = .ok (.tuple #[idV p.1, recV p.2]) w' → wpList Tryz.prog ops Q rest (a.put o.dst (.tuple #[.bool true, idV p.1, recV p.2])) w') :
    wpList Tryz.prog ops Q (o :: rest) a w := wpList_nextL lIR iIR h hg it hop hit hDone hMore
/-- the groups come one by one -/
structure NrS (w wo wr : World) (bk n : Nat) (KM : List (ByteArray × Nat)) (oo : Option Addr) (oc : Nat) (NL : List (Option Nat)) (left : List (ByteArray × Option Nat)) (cnt : Nat) : Prop where
  bel : Below w.heap.size w wr
  rng : RngL sKG wr bk wo.heap.size n (KM.map fun p => (p.1, some p.2)) left cnt
  row : OwnG sRG wr w.heap.size oo oc NL
  far : ∀ a, oo = some a → wo.heap.size < a.block
  inn : ∀ o ∈ NL, ∃ p ∈ KM, o = some p.2
  cov : ∀ p ∈ KM, (p.1, some p.2) ∈ left ∨ some p.2 ∈ NL
  len : NL.length + left.length ≤ n
theorem del_len {κ ν : Type} [DecidableEq κ] {L : List (κ × ν)} (hn : (L.map Prod.fst).Nodup) {p : κ × ν} (hp : p ∈ L) : (delD L p.1).length + 1 = L.length := by
  have := delD_len hn p.1
  have hh : hasD L p.1 = true := by unfold hasD; exact decide_eq_true (List.mem_map.2 ⟨p, hp, rfl⟩)
  rw [hh] at this
  simpa using this
set_option maxRecDepth 100000 in
set_option maxHeartbeats 4000000 in
theorem near_at (x n : Nat) (A : List (O.Id × En)) (KM : List (ByteArray × Nat)) (CM : List (Int × Nat)) (G : Nat → List (O.Id × Bool)) (GW : List (O.Id × Bool)) (ba bk bc bw : Nat) (c : Cmd) (w : World) (h : IxAt w x n A KM CM G GW ba bk bc bw) (hks : c.key.size ≤ maxLen) (hcl : InI c.client) (hn : n ≤ 100000) :
    Calls Tryz.prog 98 #[.pointer (some ⟨x, 0, none⟩), cmdV c] w fun e w' => ∃ oo oc NL, e = .returned (.slice oo NL.length oc) ∧ (OwnG sRG w' w.heap.size oo oc NL ∧ NearL A KM CM G GW bw n c NL ∧ Below w.heap.size w w') := by
  have HH := Lib.hid h
  have HKS := Lib.hid (show sKG.ok c.key from hks)
  have HCL := Lib.hid (show sCG.ok c.client from hcl)
  have HN := Lib.hid hn
  clear h hks hcl hn
  go_enter Tryz.func98, Tryz.ntmps98
  go_upto_region 1 with fail
  obtain ⟨W, hW⟩ : ∃ W, W = w.alloc (.cells (cmdA c) 24) := ⟨_, rfl⟩
  rw [← hW]
  have HB : Hid (Below w.heap.size w W) := Lib.hid (by rw [hW]; exact (Below.refl _ _).alloc (Nat.le_refl _) _)
  have HC : Hid (W.heap[w.heap.size]? = some (.cells (cmdA c) 24 (0, 0))) := Lib.hid (by rw [hW]; exact heap_alloc_new w _)
  clear hW
  obtain ⟨⟨c0, c1, c2, c3, c4, c5⟩, _⟩ := box6 HC.out
  obtain ⟨v, hv⟩ : ∃ v, wideB c = v := ⟨_, rfl⟩
  have HV := Lib.hid hv
  have HWD := Lib.hid (wide_any c W v hv)
  clear hv
  go_wp2_with fail
  refine HWD.out.mono ?_
  rintro e w1 ⟨rfl, hb1⟩
  have HB1 := Lib.hid (HB.out.trans (hb1.mono HB.out.size))
  have HC1 := Lib.hid ((hb1.block _ (M.heap_lt HC.out)).trans HC.out)
  clear hb1 c0 c1 c2 c3 c4 c5 HWD
  have HM1 := Lib.hid (HH.out.m.below HB1.out)
  obtain ⟨e0, e1, e2, e3⟩ := HM1.out.cells
  cases v with
  | false =>
    obtain ⟨⟨c0, c1, c2, c3, c4, c5⟩, _⟩ := box6 HC1.out
    go_upto_region 8 with fail
    have HNK := Lib.hid (near_keys HH.out HV.out)
    obtain ⟨v1, hv1⟩ : ∃ v, lookD (KM.map fun p => (p.1, some p.2)) c.key none = v := ⟨_, rfl⟩
    obtain ⟨v2, hv2⟩ : ∃ v, lookD (CM.map fun p => (p.1, some p.2)) c.client none = v := ⟨_, rfl⟩
    rw [hv1, hv2] at HNK
    have HV1 := Lib.hid hv1
    have HV2 := Lib.hid hv2
    clear hv1 hv2
    have k0 := Kin.cell e1
    have k1 := Kin.cell e2
    have k2 := Kin.cell e3
    have k3 := Kin.cell c1
    have k4 := Kin.cell c3
    have k5 : ∀ y : Kin w1, (Instr.lookup 81 (.map (some bk)) (.string c.key) false).run Tryz.prog y.w = .ok (.map v1) y.w := fun y => (HM1.out.below y.h).keys.look lKG HKS.out HV1.out
    have k6 : ∀ y : Kin w1, (Instr.lookup 82 (.map (some bc)) (.int .i64 c.client) false).run Tryz.prog y.w = .ok (.map v2) y.w := fun y => (HM1.out.below y.h).clients.look lCG HCL.out HV2.out
    clear e0 e1 e2 e3 c0 c1 c2 c3 c4 c5
    refine wp_region_kin_tail 18 (by kernel_rfl) (by kernel_rfl) ?_
    simp only [List.take_succ_cons, List.take_zero, List.drop_succ_cons, List.drop_zero]
    repeat (go_big_quiet_step (fail))
    refine wpQuiet_nil ?_
    intro _ hxx
    obtain ⟨x1, rfl⟩ := hxx
    have HBX := Lib.hid (HB1.out.trans (x1.h.mono HB1.out.size))
    clear k0 k1 k2 k3 k4 k5 k6
    go_wp2_with fail
    go_ret
    refine ⟨some ⟨x1.w.heap.size, 0, none⟩, 3, [v1, v2, some bw], rfl, ?_, HNK.out, HBX.out.alloc HBX.out.size _⟩
    exact ⟨rfl, .inr ⟨x1.w.heap.size, 3, #[.map v1, .map v2, .map (some bw)], rfl, HBX.out.size, heap_alloc_new _ _, Nat.le_refl _, by unfold maxLen; omega, rfl, rfl⟩⟩
  | true =>
    clear HC1
    go_wp2_with (at_range; refine wpList_rangeL lKG HM1.out.keys rfl _ rfl rfl ?_; intro w2 cnt1 hrg1 hb2; have HRG1 := Lib.hid hrg1; have HB2 := Lib.hid hb2; clear hrg1 hb2)
    go_frame
    clear e0 e1 e2 e3
    have HS0 := Lib.hid (show NrS w w1 w2 bk n KM none 0 [] (KM.map fun p => (p.1, some p.2)) cnt1 from
      ⟨HB1.out.trans (HB2.out.mono HB1.out.size), HRG1.out, OwnG.nil _ _ _, fun a e => (by cases e), fun o ho => (by cases ho), fun p hp => .inl (List.mem_map.2 ⟨p, hp, rfl⟩), by have := HM1.out.keys.len_le; simpa using this⟩)
    go_loopw [5] (fun ov wr => ∃ (oo : Option Addr) (oc : Nat) (NL : List (Option Nat)) (left : List (ByteArray × Option Nat)) (cnt : Nat), ov = .slice oo NL.length oc ∧ NrS w w1 wr bk n KM oo oc NL left cnt) (fun _ wr => wr.rangeLeft bk w1.heap.size)
    case atStart => exact ⟨none, 0, [], _, _, rfl, HS0.out⟩
    case round =>
      obtain ⟨oo, oc, NL, left, cnt, rfl, hs⟩ := hrel
      have HS := Lib.hid hs
      clear hs HS0 HRG1 HB2
      go_upto_region 6 with (at_next; refine wpList_nextK HS.out.rng rfl _ rfl rfl (fun HL0 => ?_) (fun p w3 cnt3 HXL HRG HLT HMN hen => ?_))
      · go_ret
        refine ⟨oo, oc, NL, rfl, HS.out.row, ?_, HS.out.bel⟩
        refine near_wide HH.out HV.out (fun p hp => ?_) HS.out.inn (by have := HS.out.len; omega)
        rcases HS.out.cov p hp with h | h
        · rw [HL0.out] at h; cases h
        · exact h
      · have HMEM := Lib.hid (HS.out.rng.sub.subset HXL.out)
        have hrl := HS.out.rng.lt
        have hw0 := HB1.out.size
        have hwr := HS.out.bel.size
        have hbk : bk < w.heap.size := HH.out.m.keys.lt
        have HOW3 := Lib.hid (HS.out.row.keep HMN.out (fun a e e2 => by have := HS.out.far a e; omega))
        have HBW3 := Lib.hid (show Below w.heap.size w w3 from HS.out.bel.trans (HMN.out.below (B := w.heap.size) (fun j e => by omega) hwr))
        have HSZ := Lib.hid HMN.out.size
        have HLEN := Lib.hid HS.out.len
        have hpos : 0 < left.length := List.length_pos_of_mem HXL.out
        have hbn := HN.out
        go_wp2_with (refine wpList_rowApp lRG (by rfl) _ _ (by rfl) w.heap.size oo oc 1 NL [p.2] w3.heap.size #[.map p.2] (heap_alloc_new w3 _) rfl rfl (by rfl) (HOW3.out.below ((Below.refl _ _).alloc (Nat.le_refl _) _)) (by rfl) (by have := HLEN.out; simp; omega) (by have := HBW3.out.size; simp; omega) ?_; intro ro' rc' w8 ho hM hb hf; have HO8 := Lib.hid ho; have HM8 := Lib.hid hM; have HB8 := Lib.hid hb; have HF8 := Lib.hid hf; clear ho hM hb hf)
        go_roundw
        case rel =>
          have hf := HF8.out
          simp only [World.size_alloc] at hf
          refine ⟨ro', rc', NL ++ [p.2], delD left p.1, cnt3, by simp, ?_⟩
          have hM : Mods (fun j => ∃ a, oo = some a ∧ j = a.block) w3 w8 := (Mods.of_below ((Below.refl w3.heap.size w3).alloc (Nat.le_refl _) _)).then HM8.out (fun _ _ h => h)
          refine ⟨HBW3.out.trans ?_, HRG.out.keep hM (fun ⟨a, e, e2⟩ => ?_) (fun ⟨a, e, e2⟩ => ?_), HO8.out, fun a e => ?_, fun o ho => ?_, fun q hq => ?_, ?_⟩
          · exact hM.below (fun j ⟨a, e, e2⟩ => by have := HS.out.far a e; omega) (by have := HBW3.out.size; omega)
          · have := HS.out.far a e; omega
          · have := HS.out.far a e; omega
          · rcases hf a e with ⟨a0, e1, e2⟩ | h
            · have := HS.out.far a0 e1; omega
            · have := HSZ.out; omega
          · rcases List.mem_append.1 ho with ho | ho
            · exact HS.out.inn o ho
            · rw [List.mem_singleton.1 ho]
              obtain ⟨q, hq, e⟩ := List.mem_map.1 HMEM.out
              exact ⟨q, hq, (congrArg Prod.snd e).symm⟩
          · rcases HS.out.cov q hq with h | h
            · by_cases e : q.1 = p.1
              · right
                have h1 : (q.1, some q.2) = p := by
                  have hn2 : ((KM.map fun p => (p.1, some p.2)).map Prod.fst).Nodup := by rw [keysN]; exact HH.out.pl.nk
                  have f1 := findD_of hn2 (List.mem_map.2 ⟨q, hq, rfl⟩ : (q.1, some q.2) ∈ _)
                  have f2 := findD_of hn2 (show (p.1, p.2) ∈ _ from HMEM.out)
                  rw [← e, f1] at f2
                  exact Prod.ext e (Option.some.inj f2)
                rw [← h1]
                simp
              · exact .inl (mem_delD.2 ⟨h, e⟩)
            · exact .inr (List.mem_append_left _ h)
          · have h1 := del_len (HS.out.rng.nd.sublist (HS.out.rng.sub.map _)) HXL.out
            have h2 := HS.out.len
            rw [List.length_append, List.length_singleton]
            omega
        case measure =>
          have hM : Mods (fun j => ∃ a, oo = some a ∧ j = a.block) w3 w8 := (Mods.of_below ((Below.refl w3.heap.size w3).alloc (Nat.le_refl _) _)).then HM8.out (fun _ _ h => h)
          rw [(HRG.out.keep hM (fun ⟨a, e, e2⟩ => by have := HS.out.far a e; omega) (fun ⟨a, e, e2⟩ => by have := HS.out.far a e; omega)).left_eq, HS.out.rng.left_eq]
          exact HLT.out
end Go.Proofs.YtlbkbjeajcadiaaGreatDoor.B
