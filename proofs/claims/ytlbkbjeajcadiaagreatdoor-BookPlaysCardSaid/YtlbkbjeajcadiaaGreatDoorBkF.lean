/- The index in memory: meets, whatever is done with each. -/
import Derived.Test.YtlbkbjeajcadiaaGreatDoorBkE
import Derived.Test.YtlbkbjeajcadiaaGreatDoorMrg22
namespace Go.Proofs.YtlbkbjeajcadiaaGreatDoor.B
open Go.RowKit Go.Proofs.YtlbkbjeajcadiaaGreatDoor.M Go.BigFrame Go.Maps Go.Proofs.YtlbkbjeajcadiaaGreatDoor.O Go.Proofs.YtlbkbjeajcadiaaGreatDoor.P Go.Proofs.YtlbkbjeajcadiaaGreatDoor.Mp Go.Proofs.YtlbkbjeajcadiaaGreatDoor.Rw
set_option linter.unusedVariables false
set_option linter.unusedSimpArgs false

/-- does a command meet what an id has? -/
noncomputable def cond (c : Cmd) (but i : O.Id) (e : En) : Bool := decide (i ≠ but) && meet c e.c
theorem mem_met {A : List (O.Id × En)} {c : Cmd} {but : O.Id} {p : O.Id × En} : p ∈ metL A c but ↔ p ∈ A ∧ cond c but p.1 p.2 = true := by
  unfold metL
  rw [List.mem_filter]
  exact Iff.rfl
/-- just those that meet -/
def AllMet (A : List (O.Id × En)) (c : Cmd) (but : O.Id) (L : List (O.Id × En)) : Prop := ∀ p, p ∈ L ↔ p ∈ metL A c but
/-- what is done with each that meets: what holds, which blocks are its own -/
structure Each (A : List (O.Id × En)) (c : Cmd) (but : O.Id) (f : FuncId) (g : Nat) (Pr : List (O.Id × En) → (Nat → Prop) → World → Prop) : Prop where
  keep : ∀ L C w1 w2 (S : Nat → Prop), Pr L C w1 → Mods S w1 w2 → (∀ j, C j → ¬ S j) → Pr L C w2
  lt : ∀ L C w1, Pr L C w1 → ∀ j, C j → j < w1.heap.size
  step : ∀ L C w1 p, Pr L C w1 → p ∈ metL A c but → L.length < 1000000 → Calls Tryz.prog f #[idV p.1, .agg #[.int .i64 p.2.c.kind, .int .i64 p.2.c.client, .int .i64 p.2.c.seq, .string p.2.c.key, .string p.2.c.val, .int .i64 p.2.c.rev, .int .i64 p.2.seq], .pointer (some ⟨g, 0, none⟩)] w1 fun e w2 => e = .returned (.tuple #[]) ∧ ∃ C2, Pr (L ++ [p]) C2 w2 ∧ Mods C w1 w2 ∧ ∀ j, C2 j → C j ∨ w1.heap.size ≤ j
/-- the walk over the groups under way: w1 = when they lay there -/
structure MtS (w1 wr : World) (A : List (O.Id × En)) (c : Cmd) (but : O.Id) (Pr : List (O.Id × En) → (Nat → Prop) → World → Prop) (C0 C : Nat → Prop) (L : List (O.Id × En)) : Prop where
  pr : Pr L C wr
  mods : Mods C0 w1 wr
  cb : ∀ j, C j → C0 j ∨ w1.heap.size ≤ j
  mem : ∀ p ∈ L, p ∈ metL A c but
/-- of a group all that meet have come -/
def Cov (A : List (O.Id × En)) (c : Cmd) (but : O.Id) (L : List (O.Id × En)) (g : List O.Id) : Prop := ∀ i ∈ g, ∀ e, (i, e) ∈ A → cond c but i e = true → (i, e) ∈ L
theorem MtS.turn {w1 wr w2 : World} {A : List (O.Id × En)} {c : Cmd} {but : O.Id} {f : FuncId} {g : Nat} {Pr : List (O.Id × En) → (Nat → Prop) → World → Prop} {C0 C : Nat → Prop} {L : List (O.Id × En)} (hE : Each A c but f g Pr) (h : MtS w1 wr A c but Pr C0 C L) {S : Nat → Prop} (hm : Mods S wr w2) (hS : ∀ j, S j → w1.heap.size ≤ j) (hC : ∀ j, C j → ¬ S j) : MtS w1 w2 A c but Pr C0 C L :=
  ⟨hE.keep _ _ _ _ S h.pr hm hC, h.mods.then hm (fun j hj h => by have := hS j h; omega), h.cb, h.mem⟩
theorem MtS.below {w1 wr w2 : World} {A : List (O.Id × En)} {c : Cmd} {but : O.Id} {f : FuncId} {g : Nat} {Pr : List (O.Id × En) → (Nat → Prop) → World → Prop} {C0 C : Nat → Prop} {L : List (O.Id × En)} (hE : Each A c but f g Pr) (h : MtS w1 wr A c but Pr C0 C L) (hb : Below wr.heap.size wr w2) : MtS w1 w2 A c but Pr C0 C L :=
  h.turn hE (S := fun _ => False) (Mods.of_below hb) (fun _ h => h.elim) (fun _ _ h => h)
theorem MtS.more {w1 wr w2 : World} {A : List (O.Id × En)} {c : Cmd} {but : O.Id} {Pr : List (O.Id × En) → (Nat → Prop) → World → Prop} {C0 C C2 : Nat → Prop} {L : List (O.Id × En)} (h : MtS w1 wr A c but Pr C0 C L) {p : O.Id × En} (hp : p ∈ metL A c but) (h1 : Pr (L ++ [p]) C2 w2) (h2 : Mods C wr w2) (h3 : ∀ j, C2 j → C j ∨ wr.heap.size ≤ j) : MtS w1 w2 A c but Pr C0 C2 (L ++ [p]) :=
  ⟨h1, h.mods.then h2 (fun j hj hC => (h.cb j hC).elim id (fun h => by omega)), fun j hj => (h3 j hj).elim (h.cb j) (fun hh => .inr (Nat.le_trans h.mods.size hh)), fun q hq => by
    rcases List.mem_append.1 hq with hq | hq
    · exact h.mem q hq
    · rw [List.mem_singleton.1 hq]; exact hp⟩
/-- within a group -/
structure MtG (w1 wr : World) (A : List (O.Id × En)) (c : Cmd) (but : O.Id) (Pr : List (O.Id × En) → (Nat → Prop) → World → Prop) (C0 C : Nat → Prop) (L0 L : List (O.Id × En)) (b r n m : Nat) (GG left : List (O.Id × Bool)) (cnt : Nat) : Prop where
  s : MtS w1 wr A c but Pr C0 C L
  rng : RngL sGB wr b r n GG left cnt
  nr : ¬ C r
  old : ∀ p ∈ L0, p ∈ L
  cov : Cov A c but L ((gids GG).filter fun i => !decide (i ∈ gids left))
  len : L.length + left.length ≤ m + n
theorem MtG.next {w1 wr w2 : World} {A : List (O.Id × En)} {c : Cmd} {but : O.Id} {Pr : List (O.Id × En) → (Nat → Prop) → World → Prop} {C0 C C2 : Nat → Prop} {L0 L L2 : List (O.Id × En)} {b r n m cnt cnt2 : Nat} {GG left : List (O.Id × Bool)} (h : MtG w1 wr A c but Pr C0 C L0 L b r n m GG left cnt) {p : O.Id × Bool} (hp : p ∈ left) (hs : MtS w1 w2 A c but Pr C0 C2 L2) (hr : RngL sGB w2 b r n GG (delD left p.1) cnt2) (hn : ¬ C2 r) (hsub : ∀ q ∈ L, q ∈ L2) (hlen : L2.length ≤ L.length + 1) (hd : ∀ e, (p.1, e) ∈ A → cond c but p.1 e = true → (p.1, e) ∈ L2) : MtG w1 w2 A c but Pr C0 C2 L0 L2 b r n m GG (delD left p.1) cnt2 := by
  refine ⟨hs, hr, hn, fun q hq => hsub q (h.old q hq), fun i hi e he hc => ?_, ?_⟩
  · rw [List.mem_filter] at hi
    have h2 := hi.2
    simp only [Bool.not_eq_true', decide_eq_false_iff_not] at h2
    by_cases hl : i ∈ gids left
    · obtain ⟨q, hq, rfl⟩ := List.mem_map.1 hl
      by_cases e1 : q.1 = p.1
      · rw [e1] at he hc ⊢
        exact hd e he hc
      · exact absurd (List.mem_map.2 ⟨q, mem_delD.2 ⟨hq, e1⟩, rfl⟩) h2
    · refine hsub _ (h.cov i ?_ e he hc)
      rw [List.mem_filter]
      exact ⟨hi.1, by simpa using hl⟩
  · have h1 := del_len (h.rng.nd.sublist (h.rng.sub.map _)) hp
    have h2 := h.len
    omega
/-- '!=' of ids -/
theorem nq_no {i j : O.Id} (h : i = j) : ∀ w, (binOp .neq 31 (idV i) (idV j)).run Tryz.prog w = .ok (.bool false) w := by
  subst h
  exact neq_no i
theorem nq_yes {i j : O.Id} (h : i ≠ j) : ∀ w, (binOp .neq 31 (idV i) (idV j)).run Tryz.prog w = .ok (.bool true) w := neq_yes h
set_option maxRecDepth 100000 in
set_option maxHeartbeats 4000000 in
theorem meets_deps (x n : Nat) (A : List (O.Id × En)) (KM : List (ByteArray × Nat)) (CM : List (Int × Nat)) (G : Nat → List (O.Id × Bool)) (GW : List (O.Id × Bool)) (ba bk bc bw : Nat) (c : Cmd) (but : O.Id) (g : Nat) (Pr : List (O.Id × En) → (Nat → Prop) → World → Prop) (C0 : Nat → Prop) (w : World) (h : IxAt w x n A KM CM G GW ba bk bc bw) (hks : c.key.size ≤ maxLen) (hcl : InI c.client) (hn : n ≤ 300)
    (hE : Each A c but 63 g Pr) (h0 : Pr [] C0 w) (hC0 : ∀ j, C0 j → ¬ IxF KM CM ba bk bc bw j ∧ j ≠ x) :
    Calls Tryz.prog 62 #[.pointer (some ⟨x, 0, none⟩), cmdV c, idV but, .func (.func 63) #[] #[.pointer (some ⟨g, 0, none⟩)]] w fun e w' => e = .returned (.tuple #[]) ∧ ∃ L C, Pr L C w' ∧ AllMet A c but L ∧ Mods C0 w w' ∧ (∀ j, C j → C0 j ∨ w.heap.size ≤ j) ∧ L.length ≤ 200000 := by
  have HH := Lib.hid h
  have HKS := Lib.hid hks
  have HCL := Lib.hid hcl
  have HN := Lib.hid hn
  have HE := Lib.hid hE
  have HP0 := Lib.hid h0
  have HC0 := Lib.hid hC0
  have HC0L := Lib.hid (hE.lt _ _ _ h0)
  clear h hks hcl hn hE h0 hC0
  go_enter Tryz.func62, Tryz.ntmps62
  go_upto_region 1 with fail
  obtain ⟨W, hW⟩ : ∃ W, W = (w.alloc (.cells (cmdA c) 24)).alloc (idO but) := ⟨_, rfl⟩
  rw [← hW]
  have HB : Hid (Below w.heap.size w W) := Lib.hid (by rw [hW]; exact ((Below.refl _ _).alloc (Nat.le_refl _) _).alloc (by simp) _)
  have HX : Hid (W.heap[w.heap.size + 1]? = some (idO but)) := Lib.hid (by rw [hW, heap_al, if_pos (by simp)])
  have HC : Hid (W.heap[w.heap.size]? = some (.cells (cmdA c) 24 (0, 0))) := Lib.hid (by rw [hW, heap_al, if_neg (by simp)]; exact heap_alloc_new w _)
  clear hW
  obtain ⟨⟨c0, c1, c2, c3, c4, c5⟩, _⟩ := box6 HC.out
  have HNR := Lib.hid (near_at x n A KM CM G GW ba bk bc bw c W ⟨HH.out.m.below HB.out, HH.out.pl⟩ HKS.out HCL.out (by have := HN.out; omega))
  go_wp2_with fail
  refine HNR.out.mono ?_
  rintro e w1 ⟨oo, oc, NL, rfl, hrow, hnear, hb1⟩
  have HB1 := Lib.hid (HB.out.trans (hb1.mono HB.out.size))
  have HC1 := Lib.hid ((hb1.block _ (M.heap_lt HC.out)).trans HC.out)
  have HX1 := Lib.hid ((hb1.block _ (M.heap_lt HX.out)).trans HX.out)
  have HROW := Lib.hid (hrow.base (B2 := w.heap.size) HB.out.size)
  have HNEAR := Lib.hid hnear
  have HRL := Lib.hid (hrow.view lRG)
  have HIX := Lib.hid (HH.out.m.below HB1.out)
  have hlen3 : NL.length ≤ 303 := by have := hnear.len; have := HN.out; omega
  have HS0 := Lib.hid (show MtS w1 w1 A c but Pr C0 C0 [] from ⟨HE.out.keep _ _ _ _ (fun _ => False) HP0.out (Mods.of_below HB1.out) (fun _ _ h => h), Mods.refl _ _, fun j h => .inl h, fun p hp => (by cases hp)⟩)
  clear hrow hnear hb1 c0 c1 c2 c3 c4 c5 HNR
  -- what stays, whatever the calls do
  have HOLD := Lib.hid (show ∀ wx, Mods C0 w1 wx → (∀ j, w.heap.size ≤ j → j < w1.heap.size → wx.heap[j]? = w1.heap[j]?) ∧ IxM wx x n A KM CM G GW ba bk bc bw from fun wx hm =>
    ⟨fun j h1 h2 => hm.block j h2 (fun hj => by have := HC0L.out j hj; omega), HIX.out.keep hm (fun hj => (HC0.out _ hj).2 rfl) (fun j hj hc => (HC0.out j hc).1 hj)⟩)
  have HRV := Lib.hid (show ∀ wx, Mods C0 w1 wx → ∀ (k : Nat) (o : Option Nat), NL[k]? = some o → ∃ b, oo = some ⟨b, 0, none⟩ ∧ wx.cell? ⟨b, k, none⟩ = some (.map o) from fun wx hm k o hk => by
    obtain ⟨b, off, e1, hl, hc⟩ := HRL.out.row k o hk
    have h0 := hc 0 (by decide)
    obtain ⟨_, _, hge, _⟩ := HROW.out.cells _ e1
    obtain ⟨_, _, e2, _, _, _, h4⟩ := own_view HROW.out
    cases e2
    obtain ⟨g, _, e3, _⟩ := h4 _ e1
    cases e3
    refine ⟨b, e1, ?_⟩
    rw [Nat.zero_add, show k * sRG.k + 0 = k from by show k * 1 + 0 = k; omega] at h0
    exact (hm.cell (p := ⟨b, _, none⟩) hl (fun hj => by have h5 : b < w.heap.size := HC0L.out b hj; have h6 : w.heap.size ≤ b := hge; omega)).trans h0)
  go_wp2_with fail
  go_loopw [16] (fun kv wr => ∃ (k : Nat) (L : List (O.Id × En)) (C : Nat → Prop), kv = .int .i64 k ∧ k ≤ NL.length ∧ MtS w1 wr A c but Pr C0 C L ∧ L.length ≤ k * n ∧ (∀ (j b : Nat), j < k → NL[j]? = some (some b) → Cov A c but L (gids (gof G GW bw b)))) (fun kv _ => NL.length - (intOf kv).toNat)
  case atStart => exact ⟨0, [], C0, rfl, Nat.zero_le _, HS0.out, by simp, fun j b hj => absurd hj (by omega)⟩
  case round =>
    obtain ⟨k, L, C, rfl, hk, hs, hll, hcov⟩ := hrel
    have HS := Lib.hid hs
    have HLL := Lib.hid hll
    have HCV := Lib.hid hcov
    clear hs hll hcov HS0
    by_cases hkl : k < NL.length
    · have hii : (k : Int) < (NL.length : Int) := by omega
      obtain ⟨o, ho⟩ : ∃ o, NL[k]? = some o := ⟨_, List.getElem?_eq_getElem hkl⟩
      have HO := Lib.hid ho
      obtain ⟨rb, hrb, hcell⟩ := HRV.out wr HS.out.mods k o ho
      subst hrb
      clear ho
      have hw1r := HS.out.mods.size
      cases o with
      | none =>
        have hrg : (Instr.range 84 (.map none)).run Tryz.prog wr = _ := run_range_nilMap wr _ _ _ Tryz.underlying84
        have hnx : ∀ ty, (Instr.next (.pointer (some ⟨wr.heap.size, 0, none⟩)) false ty).run Tryz.prog (wr.alloc (.mapIter none 0 #[] 0)) = .ok (.tuple #[.bool false]) (wr.alloc (.mapIter none 0 #[] 0)) := fun ty => run_next_nilMap (P := Tryz.prog) wr ty 0 0 #[]
        go_wp2_with fail
        refine wp_loop_rounds 1 ?_
        rw [rounds_succ]
        go_wp2_with fail
        go_roundw
        case rel =>
          refine ⟨k + 1, L, C, by go_num, by omega, HS.out.below HE.out ((Below.refl _ _).alloc (Nat.le_refl _) _), by have := HLL.out; rw [Nat.succ_mul]; omega, fun j b hj hb => ?_⟩
          by_cases e : j = k
          · subst e; rw [HO.out] at hb; cases hb
          · exact HCV.out j b (by omega) hb
        case measure => simp [intOf]; omega
      | some b =>
        have HBG := Lib.hid (HNEAR.out.inn b (List.mem_of_getElem? HO.out))
        have HMG := Lib.hid (((HOLD.out wr HS.out.mods).2.gof HBG.out))
        obtain ⟨GG, hGG⟩ : ∃ GG, gof G GW bw b = GG := ⟨_, rfl⟩
        have HGG := Lib.hid hGG
        rw [hGG] at HMG
        clear hGG
        go_wp2_with (at_range; refine wpList_rangeL lGB HMG.out.1 rfl _ rfl rfl ?_; intro w2 cnt1 hrg1 hb2; have HRG1 := Lib.hid hrg1; have HB2 := Lib.hid hb2; clear hrg1 hb2)
        go_frame
        clear hcell
        obtain ⟨wo, rfl⟩ : ∃ wo, wo = wr := ⟨_, rfl⟩
        have HG0 := Lib.hid (show MtG w1 w2 A c but Pr C0 C L L b wo.heap.size n (k * n) GG GG cnt1 from
          ⟨HS.out.below HE.out HB2.out, HRG1.out, fun hj => by have := HE.out.lt _ _ _ HS.out.pr _ hj; omega, fun p hp => hp, fun i hi => by simp at hi, by have := HLL.out; have := HMG.out.1.len_le; omega⟩)
        go_loopw [] (fun wr2 => ∃ (L2 : List (O.Id × En)) (C2 : Nat → Prop) (left : List (O.Id × Bool)) (cnt : Nat), MtG w1 wr2 A c but Pr C0 C2 L L2 b wo.heap.size n (k * n) GG left cnt) (fun wr2 => wr2.rangeLeft b wo.heap.size)
        case atStart => exact ⟨L, C, GG, cnt1, HG0.out⟩
        case round =>
          obtain ⟨L2, C2, left, cnt, hg⟩ := hrel
          have HG := Lib.hid hg
          clear hg HG0 HRG1 HB2
          go_upto_region 7 with (at_next; refine wpList_nextG HG.out.rng rfl _ rfl rfl (fun HL0 => ?_) (fun p w3 cnt3 HXL HRG HLT HMN hen => ?_))
          · go_roundw
            case rel =>
              refine ⟨k + 1, L2, C2, by go_num, by omega, HG.out.s, ?_, fun j b2 hj hb => ?_⟩
              · have := HG.out.len; rw [Nat.succ_mul]; omega
              · by_cases e : j = k
                · subst e
                  rw [HO.out] at hb
                  cases hb
                  rw [HGG.out]
                  intro i hi e he hc
                  refine HG.out.cov i ?_ e he hc
                  rw [HL0.out, List.mem_filter]
                  exact ⟨hi, by simp [gids]⟩
                · intro i hi e he hc
                  exact HG.out.old _ (HCV.out j b2 (by omega) hb i hi e he hc)
            case measure => simp [intOf]; omega
          · have HIG := Lib.hid (show p.1 ∈ gids GG from List.mem_map.2 ⟨p, HG.out.rng.sub.subset HXL.out, rfl⟩)
            have hw1o := HS.out.mods.size
            have HS3 := Lib.hid (HG.out.s.turn HE.out HMN.out (fun j e => by omega) (fun j hj e => HG.out.nr (e ▸ hj)))
            obtain ⟨W, hW⟩ : ∃ W, W = w3.alloc (idO p.1) := ⟨_, rfl⟩
            rw [← hW]
            have hbW : Below w3.heap.size w3 W := by rw [hW]; exact (Below.refl _ _).alloc (Nat.le_refl _) _
            have HX := Lib.hid (show W.heap[w3.heap.size]? = some (idO p.1) by rw [hW]; exact heap_alloc_new w3 _)
            have HSW := Lib.hid (HS3.out.below HE.out hbW)
            have HRW := Lib.hid (HRG.out.below hbW)
            have HA := Lib.hid (HOLD.out W HSW.out.mods).2
            have HIP := Lib.hid (show IdI p.1 from HG.out.rng.ok p (HG.out.rng.sub.subset HXL.out))
            obtain ⟨e, he⟩ := HH.out.of_gof HBG.out (i := p.1) (by rw [HGG.out]; exact HIG.out)
            have HEM := Lib.hid he
            have HLOOK := Lib.hid (show lookD A p.1 ⟨zc, 0⟩ = e by unfold lookD; rw [findD_of HH.out.pl.na he]; rfl)
            have hzp := HA.out.xlt
            have hlt := M.heap_lt HX.out
            clear he hW hen
            have HLK := Lib.hid (fun (w' : World) (hb : Below W.heap.size W w') => show (Instr.lookup 80 (.map (some ba)) (.agg #[.int .i64 p.1.r, .int .i64 p.1.n]) false).run Tryz.prog w' = .ok (.agg #[.int .i64 e.c.kind, .int .i64 e.c.client, .int .i64 e.c.seq, .string e.c.key, .string e.c.val, .int .i64 e.c.rev, .int .i64 e.seq]) w' from (HA.out.below hb).all.look lAE HIP.out HLOOK.out)
            obtain ⟨⟨d0, d1⟩, _⟩ := box2 HX.out
            obtain ⟨e0, e1, e2, e3⟩ := HA.out.cells
            have HST := Lib.hid (show ∀ w', Below W.heap.size W w' → w'.cell? ⟨x, 0, none⟩ = some (.map (some ba)) ∧ w'.cell? ⟨w3.heap.size, 0, none⟩ = some (.int .i64 p.1.r) ∧ w'.cell? ⟨w3.heap.size, 1, none⟩ = some (.int .i64 p.1.n) ∧ (Instr.lookup 80 (.map (some ba)) (.agg #[.int .i64 p.1.r, .int .i64 p.1.n]) false).run Tryz.prog w' = .ok (.agg #[.int .i64 e.c.kind, .int .i64 e.c.client, .int .i64 e.c.seq, .string e.c.key, .string e.c.val, .int .i64 e.c.rev, .int .i64 e.seq]) w' ∧ Below W.heap.size W w' from fun w' hb =>
              ⟨(hb.cell (p := ⟨x, 0, none⟩) hzp).trans e0, (hb.cell (p := ⟨w3.heap.size, 0, none⟩) hlt).trans d0, (hb.cell (p := ⟨w3.heap.size, 1, none⟩) hlt).trans d1, HLK.out w' hb, hb⟩)
            go_region_held3 (fun w' => w'.cell? ⟨x, 0, none⟩ = some (.map (some ba)) ∧ w'.cell? ⟨w3.heap.size, 0, none⟩ = some (.int .i64 p.1.r) ∧ w'.cell? ⟨w3.heap.size, 1, none⟩ = some (.int .i64 p.1.n) ∧ (Instr.lookup 80 (.map (some ba)) (.agg #[.int .i64 p.1.r, .int .i64 p.1.n]) false).run Tryz.prog w' = .ok (.agg #[.int .i64 e.c.kind, .int .i64 e.c.client, .int .i64 e.c.seq, .string e.c.key, .string e.c.val, .int .i64 e.c.rev, .int .i64 e.seq]) w' ∧ Below W.heap.size W w')
              (first | exact HST.out _ (Below.refl _ _).drew | exact HST.out _ ((Below.refl _ _).drew.alloc (Nat.le_refl _) _))
              (fail)
            all_goals
              obtain ⟨w5, hw5⟩ : ∃ w5, w5 = (W.alloc (.cells #[.int .i64 e.c.kind, .int .i64 e.c.client, .int .i64 e.c.seq, .string e.c.key, .string e.c.val, .int .i64 e.c.rev, .int .i64 e.seq] 111)).drew := ⟨_, rfl⟩
              rw [← hw5]
              have hb5 : Below W.heap.size W w5 := by rw [hw5]; exact ((Below.refl _ _).alloc (Nat.le_refl _) _).drew
              have hE5 : w5.heap[W.heap.size]? = some (.cells #[.int .i64 e.c.kind, .int .i64 e.c.client, .int .i64 e.c.seq, .string e.c.key, .string e.c.val, .int .i64 e.c.rev, .int .i64 e.seq] 111 (0, 0)) := by rw [hw5]; exact heap_alloc_new W _
              have HEB := Lib.hid hE5
              have HS5 := Lib.hid (HSW.out.below HE.out hb5)
              have HR5 := Lib.hid (HRW.out.below hb5)
              have HX5 := Lib.hid ((hb5.block _ hlt).trans HX.out)
              clear hw5 hb5 d0 d1 e0 e1 e2 e3 HST HLK hE5 hzp hlt
              have HFX := Lib.hid ((HOLD.out w5 HS5.out.mods).1)
              have HX6 := Lib.hid ((HFX.out (w.heap.size + 1) (by omega) (M.heap_lt HX1.out)).trans HX1.out)
              have HC6 := Lib.hid ((HFX.out w.heap.size (Nat.le_refl _) (M.heap_lt HC1.out)).trans HC1.out)
              obtain ⟨⟨d0, d1⟩, _⟩ := box2 HX5.out
              obtain ⟨⟨i0, i1⟩, _⟩ := box2 HX6.out
              cases h1 : (p.1.r == but.r && p.1.n == but.n) with
              | true =>
                have hpe : p.1 = but := by
                  simp only [Bool.and_eq_true, beq_iff_eq] at h1
                  exact O.Id.eq_of h1.1 h1.2
                have HCF := Lib.hid (show ∀ e, cond c but p.1 e = false from fun e => by unfold cond; simp [hpe])
                have q1 := nq_no hpe
                clear hpe h1
                go_wp2_with fail
                go_roundw
                case rel =>
                  exact ⟨L2, C2, delD left p.1, cnt3, HG.out.next HXL.out HS5.out HR5.out HG.out.nr (fun q h => h) (Nat.le_succ _) (fun e' _ hc => by rw [HCF.out e'] at hc; cases hc)⟩
                case measure =>
                  rw [HR5.out.left_eq, HG.out.rng.left_eq]
                  exact HLT.out
              | false =>
                have hpe : p.1 ≠ but := fun e2 => by
                  rw [e2] at h1
                  simp at h1
                have HNE := Lib.hid hpe
                obtain ⟨v, hv⟩ : ∃ v, meet c e.c = v := ⟨_, rfl⟩
                have HV := Lib.hid hv
                have HME := Lib.hid (meet_any c e.c w5 v hv)
                have q1 := nq_yes hpe
                obtain ⟨⟨c0, c1, c2, c3, c4, c5⟩, _⟩ := box6 HC6.out
                obtain ⟨f0, f1, f2, f3, f4, f5, f6⟩ := box7 HEB.out
                clear hpe h1 hv
                go_wp2_with fail
                refine HME.out.mono ?_
                rintro e9 w6 ⟨rfl, hb6⟩
                have HS6 := Lib.hid (HS5.out.below HE.out hb6)
                have HR6 := Lib.hid (HR5.out.below hb6)
                have HX7 := Lib.hid ((hb6.block _ (M.heap_lt HX5.out)).trans HX5.out)
                have HE7 := Lib.hid ((hb6.block _ (M.heap_lt HEB.out)).trans HEB.out)
                clear hb6 HME d0 d1 i0 i1 c0 c1 c2 c3 c4 c5 f0 f1 f2 f3 f4 f5 f6
                cases v with
                | false =>
                  have HCF := Lib.hid (show ∀ e', (p.1, e') ∈ A → cond c but p.1 e' = false from fun e' he' => by
                    obtain rfl := HH.out.pl.one HEM.out he'
                    unfold cond
                    rw [HV.out, Bool.and_false])
                  go_wp2_with fail
                  go_roundw
                  case rel =>
                    exact ⟨L2, C2, delD left p.1, cnt3, HG.out.next HXL.out HS6.out HR6.out HG.out.nr (fun q h => h) (Nat.le_succ _) (fun e' he' hc => by rw [HCF.out e' he'] at hc; cases hc)⟩
                  case measure =>
                    rw [HR6.out.left_eq, HG.out.rng.left_eq]
                    exact HLT.out
                | true =>
                  have HPM := Lib.hid (show (p.1, e) ∈ metL A c but from mem_met.2 ⟨HEM.out, by unfold cond; rw [HV.out, Bool.and_true]; exact decide_eq_true HNE.out⟩)
                  have HL2 := Lib.hid (show L2.length < 200000 by
                    have h1 := HG.out.len
                    have h2 := HN.out
                    have h3 : k * n ≤ 303 * 300 := Nat.mul_le_mul (by omega) h2
                    omega)
                  have HCALL := Lib.hid (HE.out.step L2 C2 w6 (p.1, e) HS6.out.pr HPM.out (by have := HL2.out; omega))
                  obtain ⟨⟨d0, d1⟩, _⟩ := box2 HX7.out
                  obtain ⟨f0, f1, f2, f3, f4, f5, f6⟩ := box7 HE7.out
                  go_wp2_with fail
                  refine HCALL.out.mono ?_
                  rintro e9 w7 ⟨rfl, C3, hp7, hm7, hc7⟩
                  have HS7 := Lib.hid (HS6.out.more HPM.out hp7 hm7 hc7)
                  have HBLT := Lib.hid (show b < w.heap.size from HH.out.m.lts b (HH.out.m.gof HBG.out).2)
                  have HR7 := Lib.hid (HR6.out.keep hm7 (fun hj => by
                    rcases HS6.out.cb b hj with h | h
                    · exact (HC0.out b h).1 (HH.out.m.gof HBG.out).2
                    · have := HBLT.out; have := HB1.out.size; omega) HG.out.nr)
                  have HNR7 := Lib.hid (show ¬ C3 wo.heap.size from fun hj => by
                    rcases hc7 _ hj with h | h
                    · exact HG.out.nr h
                    · have := HR6.out.lt.1; omega)
                  clear hp7 hm7 hc7 HCALL d0 d1 f0 f1 f2 f3 f4 f5 f6
                  go_wp2_with fail
                  go_roundw
                  case rel =>
                    exact ⟨L2 ++ [(p.1, e)], C3, delD left p.1, cnt3, HG.out.next HXL.out HS7.out HR7.out HNR7.out (fun q h => List.mem_append_left _ h) (by simp) (fun e' he' hc => by
                      obtain rfl := HH.out.pl.one HEM.out he'
                      simp)⟩
                  case measure =>
                    rw [HR7.out.left_eq, HG.out.rng.left_eq]
                    exact HLT.out
    · obtain rfl : k = NL.length := by omega
      have hii : ¬ (NL.length : Int) < (NL.length : Int) := by omega
      go_wp2_with fail
      go_end0
      refine ⟨rfl, L, C, HS.out.pr, fun p => ⟨HS.out.mem p, fun hp => ?_⟩, (Mods.of_below (S := C0) HB1.out).then HS.out.mods (fun _ _ h => h), fun j hj => (HS.out.cb j hj).imp id (fun h => Nat.le_trans HB1.out.size h), ?_⟩
      · obtain ⟨hpA, hpc⟩ := mem_met.1 hp
        have hmt : meet c p.2.c = true := by unfold cond at hpc; rw [Bool.and_eq_true] at hpc; exact hpc.2
        obtain ⟨b, g1, g2⟩ := HNEAR.out.all p.1 p.2 hpA hmt
        obtain ⟨j, hj⟩ := List.mem_iff_getElem?.1 g1
        exact HCV.out j b (List.getElem?_eq_some_iff.1 hj).1 hj p.1 g2 p.2 hpA hpc
      · have h1 := HLL.out
        have h2 := HN.out
        have h3 : NL.length * n ≤ 303 * 300 := Nat.mul_le_mul hlen3 h2
        omega
set_option maxRecDepth 100000 in
set_option maxHeartbeats 4000000 in
theorem meets_seq (x n : Nat) (A : List (O.Id × En)) (KM : List (ByteArray × Nat)) (CM : List (Int × Nat)) (G : Nat → List (O.Id × Bool)) (GW : List (O.Id × Bool)) (ba bk bc bw : Nat) (c : Cmd) (but : O.Id) (g : Nat) (Pr : List (O.Id × En) → (Nat → Prop) → World → Prop) (C0 : Nat → Prop) (w : World) (h : IxAt w x n A KM CM G GW ba bk bc bw) (hks : c.key.size ≤ maxLen) (hcl : InI c.client) (hn : n ≤ 300)
    (hE : Each A c but 64 g Pr) (h0 : Pr [] C0 w) (hC0 : ∀ j, C0 j → ¬ IxF KM CM ba bk bc bw j ∧ j ≠ x) :
    Calls Tryz.prog 62 #[.pointer (some ⟨x, 0, none⟩), cmdV c, idV but, .func (.func 64) #[] #[.pointer (some ⟨g, 0, none⟩)]] w fun e w' => e = .returned (.tuple #[]) ∧ ∃ L C, Pr L C w' ∧ AllMet A c but L ∧ Mods C0 w w' ∧ (∀ j, C j → C0 j ∨ w.heap.size ≤ j) ∧ L.length ≤ 200000 := by
  have HH := Lib.hid h
  have HKS := Lib.hid hks
  have HCL := Lib.hid hcl
  have HN := Lib.hid hn
  have HE := Lib.hid hE
  have HP0 := Lib.hid h0
  have HC0 := Lib.hid hC0
  have HC0L := Lib.hid (hE.lt _ _ _ h0)
  clear h hks hcl hn hE h0 hC0
  go_enter Tryz.func62, Tryz.ntmps62
  go_upto_region 1 with fail
  obtain ⟨W, hW⟩ : ∃ W, W = (w.alloc (.cells (cmdA c) 24)).alloc (idO but) := ⟨_, rfl⟩
  rw [← hW]
  have HB : Hid (Below w.heap.size w W) := Lib.hid (by rw [hW]; exact ((Below.refl _ _).alloc (Nat.le_refl _) _).alloc (by simp) _)
  have HX : Hid (W.heap[w.heap.size + 1]? = some (idO but)) := Lib.hid (by rw [hW, heap_al, if_pos (by simp)])
  have HC : Hid (W.heap[w.heap.size]? = some (.cells (cmdA c) 24 (0, 0))) := Lib.hid (by rw [hW, heap_al, if_neg (by simp)]; exact heap_alloc_new w _)
  clear hW
  obtain ⟨⟨c0, c1, c2, c3, c4, c5⟩, _⟩ := box6 HC.out
  have HNR := Lib.hid (near_at x n A KM CM G GW ba bk bc bw c W ⟨HH.out.m.below HB.out, HH.out.pl⟩ HKS.out HCL.out (by have := HN.out; omega))
  go_wp2_with fail
  refine HNR.out.mono ?_
  rintro e w1 ⟨oo, oc, NL, rfl, hrow, hnear, hb1⟩
  have HB1 := Lib.hid (HB.out.trans (hb1.mono HB.out.size))
  have HC1 := Lib.hid ((hb1.block _ (M.heap_lt HC.out)).trans HC.out)
  have HX1 := Lib.hid ((hb1.block _ (M.heap_lt HX.out)).trans HX.out)
  have HROW := Lib.hid (hrow.base (B2 := w.heap.size) HB.out.size)
  have HNEAR := Lib.hid hnear
  have HRL := Lib.hid (hrow.view lRG)
  have HIX := Lib.hid (HH.out.m.below HB1.out)
  have hlen3 : NL.length ≤ 303 := by have := hnear.len; have := HN.out; omega
  have HS0 := Lib.hid (show MtS w1 w1 A c but Pr C0 C0 [] from ⟨HE.out.keep _ _ _ _ (fun _ => False) HP0.out (Mods.of_below HB1.out) (fun _ _ h => h), Mods.refl _ _, fun j h => .inl h, fun p hp => (by cases hp)⟩)
  clear hrow hnear hb1 c0 c1 c2 c3 c4 c5 HNR
  -- what stays, whatever the calls do
  have HOLD := Lib.hid (show ∀ wx, Mods C0 w1 wx → (∀ j, w.heap.size ≤ j → j < w1.heap.size → wx.heap[j]? = w1.heap[j]?) ∧ IxM wx x n A KM CM G GW ba bk bc bw from fun wx hm =>
    ⟨fun j h1 h2 => hm.block j h2 (fun hj => by have := HC0L.out j hj; omega), HIX.out.keep hm (fun hj => (HC0.out _ hj).2 rfl) (fun j hj hc => (HC0.out j hc).1 hj)⟩)
  have HRV := Lib.hid (show ∀ wx, Mods C0 w1 wx → ∀ (k : Nat) (o : Option Nat), NL[k]? = some o → ∃ b, oo = some ⟨b, 0, none⟩ ∧ wx.cell? ⟨b, k, none⟩ = some (.map o) from fun wx hm k o hk => by
    obtain ⟨b, off, e1, hl, hc⟩ := HRL.out.row k o hk
    have h0 := hc 0 (by decide)
    obtain ⟨_, _, hge, _⟩ := HROW.out.cells _ e1
    obtain ⟨_, _, e2, _, _, _, h4⟩ := own_view HROW.out
    cases e2
    obtain ⟨g, _, e3, _⟩ := h4 _ e1
    cases e3
    refine ⟨b, e1, ?_⟩
    rw [Nat.zero_add, show k * sRG.k + 0 = k from by show k * 1 + 0 = k; omega] at h0
    exact (hm.cell (p := ⟨b, _, none⟩) hl (fun hj => by have h5 : b < w.heap.size := HC0L.out b hj; have h6 : w.heap.size ≤ b := hge; omega)).trans h0)
  go_wp2_with fail
  go_loopw [16] (fun kv wr => ∃ (k : Nat) (L : List (O.Id × En)) (C : Nat → Prop), kv = .int .i64 k ∧ k ≤ NL.length ∧ MtS w1 wr A c but Pr C0 C L ∧ L.length ≤ k * n ∧ (∀ (j b : Nat), j < k → NL[j]? = some (some b) → Cov A c but L (gids (gof G GW bw b)))) (fun kv _ => NL.length - (intOf kv).toNat)
  case atStart => exact ⟨0, [], C0, rfl, Nat.zero_le _, HS0.out, by simp, fun j b hj => absurd hj (by omega)⟩
  case round =>
    obtain ⟨k, L, C, rfl, hk, hs, hll, hcov⟩ := hrel
    have HS := Lib.hid hs
    have HLL := Lib.hid hll
    have HCV := Lib.hid hcov
    clear hs hll hcov HS0
    by_cases hkl : k < NL.length
    · have hii : (k : Int) < (NL.length : Int) := by omega
      obtain ⟨o, ho⟩ : ∃ o, NL[k]? = some o := ⟨_, List.getElem?_eq_getElem hkl⟩
      have HO := Lib.hid ho
      obtain ⟨rb, hrb, hcell⟩ := HRV.out wr HS.out.mods k o ho
      subst hrb
      clear ho
      have hw1r := HS.out.mods.size
      cases o with
      | none =>
        have hrg : (Instr.range 84 (.map none)).run Tryz.prog wr = _ := run_range_nilMap wr _ _ _ Tryz.underlying84
        have hnx : ∀ ty, (Instr.next (.pointer (some ⟨wr.heap.size, 0, none⟩)) false ty).run Tryz.prog (wr.alloc (.mapIter none 0 #[] 0)) = .ok (.tuple #[.bool false]) (wr.alloc (.mapIter none 0 #[] 0)) := fun ty => run_next_nilMap (P := Tryz.prog) wr ty 0 0 #[]
        go_wp2_with fail
        refine wp_loop_rounds 1 ?_
        rw [rounds_succ]
        go_wp2_with fail
        go_roundw
        case rel =>
          refine ⟨k + 1, L, C, by go_num, by omega, HS.out.below HE.out ((Below.refl _ _).alloc (Nat.le_refl _) _), by have := HLL.out; rw [Nat.succ_mul]; omega, fun j b hj hb => ?_⟩
          by_cases e : j = k
          · subst e; rw [HO.out] at hb; cases hb
          · exact HCV.out j b (by omega) hb
        case measure => simp [intOf]; omega
      | some b =>
        have HBG := Lib.hid (HNEAR.out.inn b (List.mem_of_getElem? HO.out))
        have HMG := Lib.hid (((HOLD.out wr HS.out.mods).2.gof HBG.out))
        obtain ⟨GG, hGG⟩ : ∃ GG, gof G GW bw b = GG := ⟨_, rfl⟩
        have HGG := Lib.hid hGG
        rw [hGG] at HMG
        clear hGG
        go_wp2_with (at_range; refine wpList_rangeL lGB HMG.out.1 rfl _ rfl rfl ?_; intro w2 cnt1 hrg1 hb2; have HRG1 := Lib.hid hrg1; have HB2 := Lib.hid hb2; clear hrg1 hb2)
        go_frame
        clear hcell
        obtain ⟨wo, rfl⟩ : ∃ wo, wo = wr := ⟨_, rfl⟩
        have HG0 := Lib.hid (show MtG w1 w2 A c but Pr C0 C L L b wo.heap.size n (k * n) GG GG cnt1 from
          ⟨HS.out.below HE.out HB2.out, HRG1.out, fun hj => by have := HE.out.lt _ _ _ HS.out.pr _ hj; omega, fun p hp => hp, fun i hi => by simp at hi, by have := HLL.out; have := HMG.out.1.len_le; omega⟩)
        go_loopw [] (fun wr2 => ∃ (L2 : List (O.Id × En)) (C2 : Nat → Prop) (left : List (O.Id × Bool)) (cnt : Nat), MtG w1 wr2 A c but Pr C0 C2 L L2 b wo.heap.size n (k * n) GG left cnt) (fun wr2 => wr2.rangeLeft b wo.heap.size)
        case atStart => exact ⟨L, C, GG, cnt1, HG0.out⟩
        case round =>
          obtain ⟨L2, C2, left, cnt, hg⟩ := hrel
          have HG := Lib.hid hg
          clear hg HG0 HRG1 HB2
          go_upto_region 7 with (at_next; refine wpList_nextG HG.out.rng rfl _ rfl rfl (fun HL0 => ?_) (fun p w3 cnt3 HXL HRG HLT HMN hen => ?_))
          · go_roundw
            case rel =>
              refine ⟨k + 1, L2, C2, by go_num, by omega, HG.out.s, ?_, fun j b2 hj hb => ?_⟩
              · have := HG.out.len; rw [Nat.succ_mul]; omega
              · by_cases e : j = k
                · subst e
                  rw [HO.out] at hb
                  cases hb
                  rw [HGG.out]
                  intro i hi e he hc
                  refine HG.out.cov i ?_ e he hc
                  rw [HL0.out, List.mem_filter]
                  exact ⟨hi, by simp [gids]⟩
                · intro i hi e he hc
                  exact HG.out.old _ (HCV.out j b2 (by omega) hb i hi e he hc)
            case measure => simp [intOf]; omega
          · have HIG := Lib.hid (show p.1 ∈ gids GG from List.mem_map.2 ⟨p, HG.out.rng.sub.subset HXL.out, rfl⟩)
            have hw1o := HS.out.mods.size
            have HS3 := Lib.hid (HG.out.s.turn HE.out HMN.out (fun j e => by omega) (fun j hj e => HG.out.nr (e ▸ hj)))
            obtain ⟨W, hW⟩ : ∃ W, W = w3.alloc (idO p.1) := ⟨_, rfl⟩
            rw [← hW]
            have hbW : Below w3.heap.size w3 W := by rw [hW]; exact (Below.refl _ _).alloc (Nat.le_refl _) _
            have HX := Lib.hid (show W.heap[w3.heap.size]? = some (idO p.1) by rw [hW]; exact heap_alloc_new w3 _)
            have HSW := Lib.hid (HS3.out.below HE.out hbW)
            have HRW := Lib.hid (HRG.out.below hbW)
            have HA := Lib.hid (HOLD.out W HSW.out.mods).2
            have HIP := Lib.hid (show IdI p.1 from HG.out.rng.ok p (HG.out.rng.sub.subset HXL.out))
            obtain ⟨e, he⟩ := HH.out.of_gof HBG.out (i := p.1) (by rw [HGG.out]; exact HIG.out)
            have HEM := Lib.hid he
            have HLOOK := Lib.hid (show lookD A p.1 ⟨zc, 0⟩ = e by unfold lookD; rw [findD_of HH.out.pl.na he]; rfl)
            have hzp := HA.out.xlt
            have hlt := M.heap_lt HX.out
            clear he hW hen
            have HLK := Lib.hid (fun (w' : World) (hb : Below W.heap.size W w') => show (Instr.lookup 80 (.map (some ba)) (.agg #[.int .i64 p.1.r, .int .i64 p.1.n]) false).run Tryz.prog w' = .ok (.agg #[.int .i64 e.c.kind, .int .i64 e.c.client, .int .i64 e.c.seq, .string e.c.key, .string e.c.val, .int .i64 e.c.rev, .int .i64 e.seq]) w' from (HA.out.below hb).all.look lAE HIP.out HLOOK.out)
            obtain ⟨⟨d0, d1⟩, _⟩ := box2 HX.out
            obtain ⟨e0, e1, e2, e3⟩ := HA.out.cells
            have HST := Lib.hid (show ∀ w', Below W.heap.size W w' → w'.cell? ⟨x, 0, none⟩ = some (.map (some ba)) ∧ w'.cell? ⟨w3.heap.size, 0, none⟩ = some (.int .i64 p.1.r) ∧ w'.cell? ⟨w3.heap.size, 1, none⟩ = some (.int .i64 p.1.n) ∧ (Instr.lookup 80 (.map (some ba)) (.agg #[.int .i64 p.1.r, .int .i64 p.1.n]) false).run Tryz.prog w' = .ok (.agg #[.int .i64 e.c.kind, .int .i64 e.c.client, .int .i64 e.c.seq, .string e.c.key, .string e.c.val, .int .i64 e.c.rev, .int .i64 e.seq]) w' ∧ Below W.heap.size W w' from fun w' hb =>
              ⟨(hb.cell (p := ⟨x, 0, none⟩) hzp).trans e0, (hb.cell (p := ⟨w3.heap.size, 0, none⟩) hlt).trans d0, (hb.cell (p := ⟨w3.heap.size, 1, none⟩) hlt).trans d1, HLK.out w' hb, hb⟩)
            go_region_held3 (fun w' => w'.cell? ⟨x, 0, none⟩ = some (.map (some ba)) ∧ w'.cell? ⟨w3.heap.size, 0, none⟩ = some (.int .i64 p.1.r) ∧ w'.cell? ⟨w3.heap.size, 1, none⟩ = some (.int .i64 p.1.n) ∧ (Instr.lookup 80 (.map (some ba)) (.agg #[.int .i64 p.1.r, .int .i64 p.1.n]) false).run Tryz.prog w' = .ok (.agg #[.int .i64 e.c.kind, .int .i64 e.c.client, .int .i64 e.c.seq, .string e.c.key, .string e.c.val, .int .i64 e.c.rev, .int .i64 e.seq]) w' ∧ Below W.heap.size W w')
              (first | exact HST.out _ (Below.refl _ _).drew | exact HST.out _ ((Below.refl _ _).drew.alloc (Nat.le_refl _) _))
              (fail)
            all_goals
              obtain ⟨w5, hw5⟩ : ∃ w5, w5 = (W.alloc (.cells #[.int .i64 e.c.kind, .int .i64 e.c.client, .int .i64 e.c.seq, .string e.c.key, .string e.c.val, .int .i64 e.c.rev, .int .i64 e.seq] 111)).drew := ⟨_, rfl⟩
              rw [← hw5]
              have hb5 : Below W.heap.size W w5 := by rw [hw5]; exact ((Below.refl _ _).alloc (Nat.le_refl _) _).drew
              have hE5 : w5.heap[W.heap.size]? = some (.cells #[.int .i64 e.c.kind, .int .i64 e.c.client, .int .i64 e.c.seq, .string e.c.key, .string e.c.val, .int .i64 e.c.rev, .int .i64 e.seq] 111 (0, 0)) := by rw [hw5]; exact heap_alloc_new W _
              have HEB := Lib.hid hE5
              have HS5 := Lib.hid (HSW.out.below HE.out hb5)
              have HR5 := Lib.hid (HRW.out.below hb5)
              have HX5 := Lib.hid ((hb5.block _ hlt).trans HX.out)
              clear hw5 hb5 d0 d1 e0 e1 e2 e3 HST HLK hE5 hzp hlt
              have HFX := Lib.hid ((HOLD.out w5 HS5.out.mods).1)
              have HX6 := Lib.hid ((HFX.out (w.heap.size + 1) (by omega) (M.heap_lt HX1.out)).trans HX1.out)
              have HC6 := Lib.hid ((HFX.out w.heap.size (Nat.le_refl _) (M.heap_lt HC1.out)).trans HC1.out)
              obtain ⟨⟨d0, d1⟩, _⟩ := box2 HX5.out
              obtain ⟨⟨i0, i1⟩, _⟩ := box2 HX6.out
              cases h1 : (p.1.r == but.r && p.1.n == but.n) with
              | true =>
                have hpe : p.1 = but := by
                  simp only [Bool.and_eq_true, beq_iff_eq] at h1
                  exact O.Id.eq_of h1.1 h1.2
                have HCF := Lib.hid (show ∀ e, cond c but p.1 e = false from fun e => by unfold cond; simp [hpe])
                have q1 := nq_no hpe
                clear hpe h1
                go_wp2_with fail
                go_roundw
                case rel =>
                  exact ⟨L2, C2, delD left p.1, cnt3, HG.out.next HXL.out HS5.out HR5.out HG.out.nr (fun q h => h) (Nat.le_succ _) (fun e' _ hc => by rw [HCF.out e'] at hc; cases hc)⟩
                case measure =>
                  rw [HR5.out.left_eq, HG.out.rng.left_eq]
                  exact HLT.out
              | false =>
                have hpe : p.1 ≠ but := fun e2 => by
                  rw [e2] at h1
                  simp at h1
                have HNE := Lib.hid hpe
                obtain ⟨v, hv⟩ : ∃ v, meet c e.c = v := ⟨_, rfl⟩
                have HV := Lib.hid hv
                have HME := Lib.hid (meet_any c e.c w5 v hv)
                have q1 := nq_yes hpe
                obtain ⟨⟨c0, c1, c2, c3, c4, c5⟩, _⟩ := box6 HC6.out
                obtain ⟨f0, f1, f2, f3, f4, f5, f6⟩ := box7 HEB.out
                clear hpe h1 hv
                go_wp2_with fail
                refine HME.out.mono ?_
                rintro e9 w6 ⟨rfl, hb6⟩
                have HS6 := Lib.hid (HS5.out.below HE.out hb6)
                have HR6 := Lib.hid (HR5.out.below hb6)
                have HX7 := Lib.hid ((hb6.block _ (M.heap_lt HX5.out)).trans HX5.out)
                have HE7 := Lib.hid ((hb6.block _ (M.heap_lt HEB.out)).trans HEB.out)
                clear hb6 HME d0 d1 i0 i1 c0 c1 c2 c3 c4 c5 f0 f1 f2 f3 f4 f5 f6
                cases v with
                | false =>
                  have HCF := Lib.hid (show ∀ e', (p.1, e') ∈ A → cond c but p.1 e' = false from fun e' he' => by
                    obtain rfl := HH.out.pl.one HEM.out he'
                    unfold cond
                    rw [HV.out, Bool.and_false])
                  go_wp2_with fail
                  go_roundw
                  case rel =>
                    exact ⟨L2, C2, delD left p.1, cnt3, HG.out.next HXL.out HS6.out HR6.out HG.out.nr (fun q h => h) (Nat.le_succ _) (fun e' he' hc => by rw [HCF.out e' he'] at hc; cases hc)⟩
                  case measure =>
                    rw [HR6.out.left_eq, HG.out.rng.left_eq]
                    exact HLT.out
                | true =>
                  have HPM := Lib.hid (show (p.1, e) ∈ metL A c but from mem_met.2 ⟨HEM.out, by unfold cond; rw [HV.out, Bool.and_true]; exact decide_eq_true HNE.out⟩)
                  have HL2 := Lib.hid (show L2.length < 200000 by
                    have h1 := HG.out.len
                    have h2 := HN.out
                    have h3 : k * n ≤ 303 * 300 := Nat.mul_le_mul (by omega) h2
                    omega)
                  have HCALL := Lib.hid (HE.out.step L2 C2 w6 (p.1, e) HS6.out.pr HPM.out (by have := HL2.out; omega))
                  obtain ⟨⟨d0, d1⟩, _⟩ := box2 HX7.out
                  obtain ⟨f0, f1, f2, f3, f4, f5, f6⟩ := box7 HE7.out
                  go_wp2_with fail
                  refine HCALL.out.mono ?_
                  rintro e9 w7 ⟨rfl, C3, hp7, hm7, hc7⟩
                  have HS7 := Lib.hid (HS6.out.more HPM.out hp7 hm7 hc7)
                  have HBLT := Lib.hid (show b < w.heap.size from HH.out.m.lts b (HH.out.m.gof HBG.out).2)
                  have HR7 := Lib.hid (HR6.out.keep hm7 (fun hj => by
                    rcases HS6.out.cb b hj with h | h
                    · exact (HC0.out b h).1 (HH.out.m.gof HBG.out).2
                    · have := HBLT.out; have := HB1.out.size; omega) HG.out.nr)
                  have HNR7 := Lib.hid (show ¬ C3 wo.heap.size from fun hj => by
                    rcases hc7 _ hj with h | h
                    · exact HG.out.nr h
                    · have := HR6.out.lt.1; omega)
                  clear hp7 hm7 hc7 HCALL d0 d1 f0 f1 f2 f3 f4 f5 f6
                  go_wp2_with fail
                  go_roundw
                  case rel =>
                    exact ⟨L2 ++ [(p.1, e)], C3, delD left p.1, cnt3, HG.out.next HXL.out HS7.out HR7.out HNR7.out (fun q h => List.mem_append_left _ h) (by simp) (fun e' he' hc => by
                      obtain rfl := HH.out.pl.one HEM.out he'
                      simp)⟩
                  case measure =>
                    rw [HR7.out.left_eq, HG.out.rng.left_eq]
                    exact HLT.out
    · obtain rfl : k = NL.length := by omega
      have hii : ¬ (NL.length : Int) < (NL.length : Int) := by omega
      go_wp2_with fail
      go_end0
      refine ⟨rfl, L, C, HS.out.pr, fun p => ⟨HS.out.mem p, fun hp => ?_⟩, (Mods.of_below (S := C0) HB1.out).then HS.out.mods (fun _ _ h => h), fun j hj => (HS.out.cb j hj).imp id (fun h => Nat.le_trans HB1.out.size h), ?_⟩
      · obtain ⟨hpA, hpc⟩ := mem_met.1 hp
        have hmt : meet c p.2.c = true := by unfold cond at hpc; rw [Bool.and_eq_true] at hpc; exact hpc.2
        obtain ⟨b, g1, g2⟩ := HNEAR.out.all p.1 p.2 hpA hmt
        obtain ⟨j, hj⟩ := List.mem_iff_getElem?.1 g1
        exact HCV.out j b (List.getElem?_eq_some_iff.1 hj).1 hj p.1 g2 p.2 hpA hpc
      · have h1 := HLL.out
        have h2 := HN.out
        have h3 : NL.length * n ≤ 303 * 300 := Nat.mul_le_mul hlen3 h2
        omega
end Go.Proofs.YtlbkbjeajcadiaaGreatDoor.B
