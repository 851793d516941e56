/- The book in memory: note. -/
import Derived.Test.YtlbkbjeajcadiaaGreatDoorMrg23
namespace Go.Proofs.YtlbkbjeajcadiaaGreatDoor.B
open Go.RowKit Go.Proofs.YtlbkbjeajcadiaaGreatDoor.M Go.BigFrame Go.Maps Go.Proofs.YtlbkbjeajcadiaaGreatDoor.O Go.Proofs.YtlbkbjeajcadiaaGreatDoor.P Go.Proofs.YtlbkbjeajcadiaaGreatDoor.Mp Go.Proofs.YtlbkbjeajcadiaaGreatDoor.Rw Go.Proofs.YtlbkbjeajcadiaaGreatDoor.R
set_option linter.unusedVariables false
set_option linter.unusedSimpArgs false

set_option maxRecDepth 100000 in
/-- the map's store, where a drawn region's walk stands before it -/
theorem upon_putL {κ ν : Type} {S : MapS κ ν} [DecidableEq κ] (hS : S.Law) {o : Oper} {a : Act} {K : Act → World → Prop} {Q : Exit → Act → World → Prop} {w : World} {b n : Nat} {L : List (κ × ν)} (h : MapL S w b n L) (hn : n < maxLen) (k : κ) (hi : S.ok k) (v : ν)
    (hK : ∀ w', MapL S w' b (n + 1) (putD L k v) → M.Mods (fun k => k = b) w w' → K (a.put o.dst undef) w') :
    Oper.upon Tryz.prog o a K Q ((Sem.run Tryz.prog (Instr.mapUpdate S.t (.map (some b)) (S.key k) (S.enc v)) w).andThen fun _ w' => Result.ok Next.skip w') := by
  obtain ⟨w', hrun, r1, r2⟩ := h.put hS hn hi v
  rw [hrun]
  exact hK w' r1 r2
theorem Ix.mono {w : World} {x n m : Nat} {A : List (O.Id × En)} {F : Nat → Prop} (h : Ix w x n A F) (hm : n ≤ m) : Ix w x m A F := by
  obtain ⟨KM, CM, G, GW, ba, bk, bc, bw, h1, h2, h3, h4⟩ := h
  exact ⟨KM, CM, G, GW, ba, bk, bc, bw, ⟨h1.m.mono hm, h1.pl⟩, h2, h3, h4⟩
theorem note_fin {w w7 w8 w9 : World} {p x b n : Nat} {R : List (O.Id × Rv)} {A : List (O.Id × En)} {Fi Fi2 : Nat → Prop} {r : Rv} {ao : Option Addr} {cap : Nat} (H : BkAt w p x b n R A Fi) (h0 : RvOk w r) (hg : recOk r = true) (hl : r.deps.length ≤ 1000) (hk : r.cmd.key.size ≤ 1000) (hb7 : Below w.heap.size w w7) (ho : OwnL w7 w.heap.size ao cap r.deps)
    (hm8 : MapL sIR w8 b (n + 1) (putD R r.id { r with ao := ao, cap := cap })) (hM8 : Mods (fun j => j = b) w7 w8) (hix : Ix w9 x (n + 4) (noteA A r) Fi2) (hM9 : Mods Fi w8 w9) (hF : ∀ j, Fi2 j → Fi j ∨ (w8.heap.size ≤ j ∧ j < w9.heap.size)) :
    BkAt w9 p x b (n + 4) (putD R r.id { r with ao := ao, cap := cap }) (noteA A r) Fi2 ∧ Mods (fun j => j = b ∨ Fi j) w w9 ∧ (∀ j, Fi2 j → Fi j ∨ (w.heap.size ≤ j ∧ j < w9.heap.size)) ∧ ∀ a, ao = some a → w.heap.size ≤ a.block ∧ a.block < w9.heap.size := by
  have M79 : Mods (fun j => j = b ∨ Fi j) w7 w9 := (hM8.mono (fun j _ e => .inl e)).then hM9 (fun j _ h => .inr h)
  have hbl : b < w.heap.size := H.recs.lt
  have hfl : ∀ j, Fi j → j < w.heap.size := H.ix.flt
  obtain ⟨n1, n2, n3, n4, n5⟩ := H.ne
  have s7 := hb7.size
  have s8 := hM8.size
  have s9 := hM9.size
  have hao : ∀ a, ao = some a → w.heap.size ≤ a.block ∧ a.block < w7.heap.size := fun a e => ho.lt a.block (by rw [e]; rfl)
  have hF2 : ∀ j, j < w8.heap.size → Fi2 j → Fi j := fun j hj h => (hF j h).elim id (fun h => by omega)
  have hpl := M.heap_lt H.box
  have ho9 : OwnL w9 w.heap.size ao cap r.deps := own_kept ho M79 (fun k hk hs => by
    cases ao with
    | none => cases hk
    | some a =>
      obtain rfl : a.block = k := Option.some.inj hk
      have h1 := hao a rfl
      rcases hs with h | h
      · omega
      · have := hfl _ h; omega)
  refine ⟨⟨M79.heap ((hb7.block _ hpl).trans H.box) (fun h => h.elim n3 n1), hix, H.rel.note rfl, (hm8.mono (by omega)).keep hM9 n4, fun q hq => ?_, fun q hq a e hne => ?_, ⟨fun h => n1 (hF2 p (by omega) h), n2, n3, fun h => n4 (hF2 b (by omega) h), n5⟩⟩, (Mods.of_below hb7).then M79 (fun _ _ h => h), fun j hj => (hF j hj).imp id (fun h => by omega), fun a e => by have := hao a e; omega⟩
  · rcases mem_putD.1 hq with ⟨hq, _⟩ | rfl
    · obtain ⟨k1, k2⟩ := H.ok q hq
      refine ⟨⟨k1.cmd, (k1.deps.below (B := 0) hb7).keep M79 (fun a e hne h => ?_), k1.id⟩, k2⟩
      obtain ⟨g1, g2⟩ := H.sep q hq a e hne
      exact h.elim g2 g1
    · exact ⟨⟨h0.cmd, IdsV.of_own ho9 h0.deps.ok, h0.id⟩, rfl, hg, hl, hk⟩
  · rcases mem_putD.1 hq with ⟨hq, _⟩ | rfl
    · obtain ⟨g1, g2⟩ := H.sep q hq a e hne
      have := idsv_lt (H.ok q hq).1.deps a e hne
      exact ⟨fun h => g1 (hF2 _ (by omega) h), g2⟩
    · have h1 := hao a e
      exact ⟨fun h => by have := hfl _ (hF2 _ (by omega) h); omega, by omega⟩
set_option maxRecDepth 100000 in
set_option maxHeartbeats 4000000 in
theorem note_at (p x b n : Nat) (R : List (O.Id × Rv)) (A : List (O.Id × En)) (Fi : Nat → Prop) (r : Rv) (w : World) (h : BkAt w p x b n R A Fi) (h0 : RvOk w r) (hg : recOk r = true) (hl : r.deps.length ≤ 1000) (hk : r.cmd.key.size ≤ 1000) (hn : n ≤ 10000) :
    Calls Tryz.prog 29 #[.pointer (some ⟨p, 0, none⟩), recV r] w fun e w' => e = .returned (.tuple #[]) ∧ ∃ ao cap Fi2, BkAt w' p x b (n + 4) (putD R r.id { r with ao := ao, cap := cap }) (noteA A r) Fi2 ∧ Mods (fun j => j = b ∨ Fi j) w w' ∧ (∀ j, Fi2 j → Fi j ∨ (w.heap.size ≤ j ∧ j < w'.heap.size)) ∧ ∀ a, ao = some a → w.heap.size ≤ a.block ∧ a.block < w'.heap.size := by
  have H := Lib.hid h
  have H0 := Lib.hid h0
  have HG := Lib.hid hg
  have HL := Lib.hid hl
  have HK := Lib.hid hk
  have HN := Lib.hid hn
  clear h h0 hg hl hk hn
  go_enter Tryz.func29, Tryz.ntmps29
  go_upto_region 1 with fail
  obtain ⟨W, hW⟩ : ∃ W, W = w.alloc (recO r) := ⟨_, rfl⟩
  have HB : Hid (Below w.heap.size w W) := Lib.hid (by rw [hW]; exact (Below.refl _ _).alloc (Nat.le_refl _) _)
  have HX : Hid (W.heap[w.heap.size]? = some (recO r)) := Lib.hid (by rw [hW]; exact heap_alloc_new w _)
  rw [← hW]
  clear hW
  have HA := Lib.hid (H.out.below HB.out)
  have HR := Lib.hid (H0.out.below HB.out)
  have hzp := M.heap_lt HA.out.box
  have hlt := M.heap_lt HX.out
  obtain ⟨e0, e1, e2⟩ := HA.out.cells
  have HST := Lib.hid (show ∀ w', Below W.heap.size W w' → w'.cell? ⟨p, 1, none⟩ = some (.map (some b)) ∧ w'.heap[w.heap.size]? = some (recO r) ∧ Below W.heap.size W w' from fun w' hb =>
    ⟨(hb.cell (p := ⟨p, 1, none⟩) hzp).trans e1, (hb.block _ hlt).trans HX.out, hb⟩)
  have HS2 := Lib.hid (show ∀ w', Below W.heap.size W w' → w'.cell? ⟨p, 1, none⟩ = some (.map (some b)) ∧ w'.cell? ⟨w.heap.size, 0, none⟩ = some (.int .i64 r.id.r) ∧ w'.cell? ⟨w.heap.size, 1, none⟩ = some (.int .i64 r.id.n) ∧ w'.cell? ⟨w.heap.size, 2, none⟩ = some (.int .i64 r.st) ∧ w'.cell? ⟨w.heap.size, 3, none⟩ = some (.int .i64 r.bal.round) ∧ w'.cell? ⟨w.heap.size, 4, none⟩ = some (.int .i64 r.bal.by_) ∧ w'.cell? ⟨w.heap.size, 5, none⟩ = some (.int .i64 r.took.round) ∧ w'.cell? ⟨w.heap.size, 6, none⟩ = some (.int .i64 r.took.by_) ∧ w'.cell? ⟨w.heap.size, 7, none⟩ = some (.int .i64 r.cmd.kind) ∧ w'.cell? ⟨w.heap.size, 8, none⟩ = some (.int .i64 r.cmd.client) ∧ w'.cell? ⟨w.heap.size, 9, none⟩ = some (.int .i64 r.cmd.seq) ∧ w'.cell? ⟨w.heap.size, 10, none⟩ = some (.string r.cmd.key) ∧ w'.cell? ⟨w.heap.size, 11, none⟩ = some (.string r.cmd.val) ∧ w'.cell? ⟨w.heap.size, 12, none⟩ = some (.int .i64 r.cmd.rev) ∧ w'.cell? ⟨w.heap.size, 13, none⟩ = some (.slice r.ao r.deps.length r.cap) ∧ w'.cell? ⟨w.heap.size, 14, none⟩ = some (.int .i64 r.seq) ∧ w'.cell? ⟨w.heap.size, 15, none⟩ = some (.int .i64 r.tag) from fun w' hb => by
    obtain ⟨c0, c1, c2, c3, c4, c5, c6, c7, c8, c9, c10, c11, c12, c13, c14, c15⟩ := box16 (HST.out w' hb).2.1
    exact ⟨(HST.out w' hb).1, c0, c1, c2, c3, c4, c5, c6, c7, c8, c9, c10, c11, c12, c13, c14, c15⟩)
  have HS3 := Lib.hid (show ∀ w2 w', Below W.heap.size W w2 → Mods (fun j => j = b) w2 w' → w'.cell? ⟨p, 1, none⟩ = some (.map (some b)) ∧ w'.cell? ⟨w.heap.size, 0, none⟩ = some (.int .i64 r.id.r) ∧ w'.cell? ⟨w.heap.size, 1, none⟩ = some (.int .i64 r.id.n) ∧ w'.cell? ⟨w.heap.size, 2, none⟩ = some (.int .i64 r.st) ∧ w'.cell? ⟨w.heap.size, 3, none⟩ = some (.int .i64 r.bal.round) ∧ w'.cell? ⟨w.heap.size, 4, none⟩ = some (.int .i64 r.bal.by_) ∧ w'.cell? ⟨w.heap.size, 5, none⟩ = some (.int .i64 r.took.round) ∧ w'.cell? ⟨w.heap.size, 6, none⟩ = some (.int .i64 r.took.by_) ∧ w'.cell? ⟨w.heap.size, 7, none⟩ = some (.int .i64 r.cmd.kind) ∧ w'.cell? ⟨w.heap.size, 8, none⟩ = some (.int .i64 r.cmd.client) ∧ w'.cell? ⟨w.heap.size, 9, none⟩ = some (.int .i64 r.cmd.seq) ∧ w'.cell? ⟨w.heap.size, 10, none⟩ = some (.string r.cmd.key) ∧ w'.cell? ⟨w.heap.size, 11, none⟩ = some (.string r.cmd.val) ∧ w'.cell? ⟨w.heap.size, 12, none⟩ = some (.int .i64 r.cmd.rev) ∧ w'.cell? ⟨w.heap.size, 13, none⟩ = some (.slice r.ao r.deps.length r.cap) ∧ w'.cell? ⟨w.heap.size, 14, none⟩ = some (.int .i64 r.seq) ∧ w'.cell? ⟨w.heap.size, 15, none⟩ = some (.int .i64 r.tag) from fun w2 w' hb hm => by
    have hbl := HA.out.recs.lt
    have hne := HA.out.ne
    have hbw : b < w.heap.size := H.out.recs.lt
    obtain ⟨c0, c1, c2, c3, c4, c5, c6, c7, c8, c9, c10, c11, c12, c13, c14, c15⟩ := box16 (hm.heap (HST.out w2 hb).2.1 (by omega))
    exact ⟨(hm.cell (p := ⟨p, 1, none⟩) (Nat.lt_of_lt_of_le hzp hb.size) (fun e => hne.2.2.1 e)).trans (HST.out w2 hb).1, c0, c1, c2, c3, c4, c5, c6, c7, c8, c9, c10, c11, c12, c13, c14, c15⟩)
  have HCP := Lib.hid (copy_any r W.drew (HR.out.below ((Below.refl _ _).drew)) (by have := HL.out; omega))
  clear e0 e1 e2
  go_region_held3 (fun w' => w'.cell? ⟨p, 1, none⟩ = some (.map (some b)) ∧ w'.cell? ⟨w.heap.size, 0, none⟩ = some (.int .i64 r.id.r) ∧ w'.cell? ⟨w.heap.size, 1, none⟩ = some (.int .i64 r.id.n) ∧ w'.cell? ⟨w.heap.size, 2, none⟩ = some (.int .i64 r.st) ∧ w'.cell? ⟨w.heap.size, 3, none⟩ = some (.int .i64 r.bal.round) ∧ w'.cell? ⟨w.heap.size, 4, none⟩ = some (.int .i64 r.bal.by_) ∧ w'.cell? ⟨w.heap.size, 5, none⟩ = some (.int .i64 r.took.round) ∧ w'.cell? ⟨w.heap.size, 6, none⟩ = some (.int .i64 r.took.by_) ∧ w'.cell? ⟨w.heap.size, 7, none⟩ = some (.int .i64 r.cmd.kind) ∧ w'.cell? ⟨w.heap.size, 8, none⟩ = some (.int .i64 r.cmd.client) ∧ w'.cell? ⟨w.heap.size, 9, none⟩ = some (.int .i64 r.cmd.seq) ∧ w'.cell? ⟨w.heap.size, 10, none⟩ = some (.string r.cmd.key) ∧ w'.cell? ⟨w.heap.size, 11, none⟩ = some (.string r.cmd.val) ∧ w'.cell? ⟨w.heap.size, 12, none⟩ = some (.int .i64 r.cmd.rev) ∧ w'.cell? ⟨w.heap.size, 13, none⟩ = some (.slice r.ao r.deps.length r.cap) ∧ w'.cell? ⟨w.heap.size, 14, none⟩ = some (.int .i64 r.seq) ∧ w'.cell? ⟨w.heap.size, 15, none⟩ = some (.int .i64 r.tag))
    (first | exact HS3.out _ _ ((Below.refl W.heap.size W).drew.trans hb7) hM8 | exact HS2.out _ (Below.refl _ _).drew | exact HS2.out _ ((Below.refl W.heap.size W).drew.trans hb7))
    ((first | (go_at_call 42; refine HCP.out.mono ?_; rintro e w7 ⟨ao, cap, rfl, ho7, hb7⟩) | (refine upon_putL lIR (HA.out.recs.below ((Below.refl W.heap.size W).drew.trans hb7)) (by have := HN.out; unfold maxLen; omega) r.id HR.out.id { r with ao := ao, cap := cap } ?_; intro w8 hm8 hM8)))
  clear HS2 HS3 HCP
  have HW7 := Lib.hid (HB.out.trans (((Below.refl W.heap.size W).drew.trans hb7).mono HB.out.size))
  have HO7 := Lib.hid (show OwnL w7 w.heap.size ao cap r.deps from own_base ho7 (fun k hk => Nat.le_trans HB.out.size (ho7.lt k hk).1))
  have HM8 := Lib.hid hm8
  have HD8 := Lib.hid hM8
  have HIX8 := Lib.hid ((H.out.ix.below HW7.out).keep hM8 (fun e => H.out.ne.2.2.2.2 e.symm) (fun j hj e => H.out.ne.2.2.2.1 (e ▸ hj)))
  have HX8 := Lib.hid (hM8.heap (HST.out w7 ((Below.refl W.heap.size W).drew.trans hb7)).2.1 (by have := H.out.recs.lt; omega))
  have HP8 := Lib.hid (hM8.heap ((HW7.out.block _ (M.heap_lt H.out.box)).trans H.out.box) (fun e => H.out.ne.2.2.1 e))
  have HFIN := Lib.hid (fun (w9 : World) (Fi2 : Nat → Prop) => note_fin (w9 := w9) (Fi2 := Fi2) H.out H0.out HG.out HL.out HK.out HW7.out HO7.out HM8.out HD8.out)
  clear hb7 ho7 hm8 hM8 HST hzp hlt
  obtain ⟨c0, c1, c2, c3, c4, c5, c6, c7, c8, c9, c10, c11, c12, c13, c14, c15⟩ := box16 HX8.out
  clear c0 c1 c3 c4 c5 c6 c8 c9 c10 c11 c12 c13 c14 c15
  cases h1 : (r.st == 0) with
  | true =>
    have HE := Lib.hid (show noteA A r = delD A r.id by
      unfold noteA asIx
      simp only [beq_iff_eq] at h1
      rw [if_pos h1])
    clear c7
    go_upto_region 4 with fail
    obtain ⟨c0, c1, c2, c3, c4, c5, c6, c7, c8, c9, c10, c11, c12, c13, c14, c15⟩ := box16 HX8.out
    obtain ⟨⟨e0, e1, e2⟩, _⟩ := box3 HP8.out
    have k0 := Kin.cell e0
    have k1 := Kin.cell c0
    have k2 := Kin.cell c1
    clear c0 c1 c2 c3 c4 c5 c6 c7 c8 c9 c10 c11 c12 c13 c14 c15 e0 e1 e2 h1
    refine wp_region_kin_tail 6 (by kernel_rfl) (by kernel_rfl) ?_
    simp only [List.take_succ_cons, List.take_zero, List.drop_succ_cons, List.drop_zero]
    repeat (go_big_quiet_step (fail))
    refine wpQuiet_nil ?_
    intro _ hxx
    obtain ⟨x8, rfl⟩ := hxx
    have HCALL := Lib.hid (drop_any x n A Fi r.id x8.w (HIX8.out.below x8.h) H0.out.id)
    have HB8 := Lib.hid x8.h
    clear k0 k1 k2
    go_wp2_with fail
    refine HCALL.out.mono ?_
    rintro e w9 ⟨rfl, g1, g2⟩
    rw [← HE.out] at g1
    have G1 := Lib.hid g1
    have G2 := Lib.hid g2
    clear g1 g2 HCALL
    go_wp2_with fail
    go_end0
    exact ⟨rfl, ao, cap, Fi, HFIN.out w9 Fi (G1.out.mono (by omega)) ((Mods.of_below HB8.out).then G2.out (fun _ _ h => h)) (fun j h => .inl h)⟩
  | false =>
    have hst : r.st ≠ 0 := by simpa using h1
    have HS0 := Lib.hid hst
    clear hst
    cases h2 : (r.st != 3) with
    | false =>
      have HE := Lib.hid (show noteA A r = putD A r.id ⟨r.cmd, r.seq⟩ by
        have h3 : r.st = 3 := by simpa using h2
        unfold noteA asIx
        rw [if_neg HS0.out, if_neg (fun h => h.1 h3)])
      clear c7
      go_upto_region 2 with fail
      obtain ⟨c0, c1, c2, c3, c4, c5, c6, c7, c8, c9, c10, c11, c12, c13, c14, c15⟩ := box16 HX8.out
      obtain ⟨⟨e0, e1, e2⟩, _⟩ := box3 HP8.out
      have k0 := Kin.cell e0
      have k1 := Kin.cell c0
      have k2 := Kin.cell c1
      have k7 := Kin.cell c7
      have k8 := Kin.cell c8
      have k9 := Kin.cell c9
      have k10 := Kin.cell c10
      have k11 := Kin.cell c11
      have k12 := Kin.cell c12
      have k14 := Kin.cell c14
      clear c0 c1 c2 c3 c4 c5 c6 c7 c8 c9 c10 c11 c12 c13 c14 c15 e0 e1 e2
      refine wp_region_kin_tail 11 (by kernel_rfl) (by kernel_rfl) ?_
      simp only [List.take_succ_cons, List.take_zero, List.drop_succ_cons, List.drop_zero]
      repeat (go_big_quiet_step (fail))
      refine wpQuiet_nil ?_
      intro _ hxx
      obtain ⟨x8, rfl⟩ := hxx
      have HCALL := Lib.hid (ixput_any x n A Fi r.id r.cmd r.seq x8.w (HIX8.out.below x8.h) H0.out.id (by have := HK.out; show ByteArray.size _ ≤ maxLen; unfold maxLen; first | omega | decide) (by first | exact H0.out.cmd.client | exact ⟨by decide, by decide⟩) (by have := HN.out; omega))
      have HB8 := Lib.hid x8.h
      clear k0 k1 k2 k7 k8 k9 k10 k11 k12 k14
      go_wp2_with fail
      refine HCALL.out.mono ?_
      rintro e w9 ⟨rfl, F2, g1, g2, g3⟩
      have G1 := Lib.hid (show Ix w9 x (n + 4) (noteA A r) F2 by rw [HE.out]; exact g1)
      have G2 := Lib.hid g2
      have G3 := Lib.hid g3
      clear g1 g2 g3 HCALL
      go_wp2_with fail
      go_end0
      exact ⟨rfl, ao, cap, F2, HFIN.out w9 F2 G1.out ((Mods.of_below HB8.out).then G2.out (fun _ _ h => h)) (fun j hj => (G3.out j hj).imp id (fun h => by have := HB8.out.size; omega))⟩
    | true =>
      cases h3 : (r.cmd.kind == 0) with
      | false =>
        have HE := Lib.hid (show noteA A r = putD A r.id ⟨r.cmd, r.seq⟩ by
          have h4 : r.cmd.kind ≠ 0 := by simpa using h3
          unfold noteA asIx
          rw [if_neg HS0.out, if_neg (fun h => h4 h.2)])
        go_upto_region 2 with fail
        obtain ⟨c0, c1, c2, c3, c4, c5, c6, c7, c8, c9, c10, c11, c12, c13, c14, c15⟩ := box16 HX8.out
        obtain ⟨⟨e0, e1, e2⟩, _⟩ := box3 HP8.out
        have k0 := Kin.cell e0
        have k1 := Kin.cell c0
        have k2 := Kin.cell c1
        have k7 := Kin.cell c7
        have k8 := Kin.cell c8
        have k9 := Kin.cell c9
        have k10 := Kin.cell c10
        have k11 := Kin.cell c11
        have k12 := Kin.cell c12
        have k14 := Kin.cell c14
        clear c0 c1 c2 c3 c4 c5 c6 c7 c8 c9 c10 c11 c12 c13 c14 c15 e0 e1 e2
        refine wp_region_kin_tail 11 (by kernel_rfl) (by kernel_rfl) ?_
        simp only [List.take_succ_cons, List.take_zero, List.drop_succ_cons, List.drop_zero]
        repeat (go_big_quiet_step (fail))
        refine wpQuiet_nil ?_
        intro _ hxx
        obtain ⟨x8, rfl⟩ := hxx
        have HCALL := Lib.hid (ixput_any x n A Fi r.id r.cmd r.seq x8.w (HIX8.out.below x8.h) H0.out.id (by have := HK.out; show ByteArray.size _ ≤ maxLen; unfold maxLen; first | omega | decide) (by first | exact H0.out.cmd.client | exact ⟨by decide, by decide⟩) (by have := HN.out; omega))
        have HB8 := Lib.hid x8.h
        clear k0 k1 k2 k7 k8 k9 k10 k11 k12 k14
        go_wp2_with fail
        refine HCALL.out.mono ?_
        rintro e w9 ⟨rfl, F2, g1, g2, g3⟩
        have G1 := Lib.hid (show Ix w9 x (n + 4) (noteA A r) F2 by rw [HE.out]; exact g1)
        have G2 := Lib.hid g2
        have G3 := Lib.hid g3
        clear g1 g2 g3 HCALL
        go_wp2_with fail
        go_end0
        exact ⟨rfl, ao, cap, F2, HFIN.out w9 F2 G1.out ((Mods.of_below HB8.out).then G2.out (fun _ _ h => h)) (fun j hj => (G3.out j hj).imp id (fun h => by have := HB8.out.size; omega))⟩
      | true =>
        have HE := Lib.hid (show noteA A r = putD A r.id ⟨{ zc with kind := 6 }, r.seq⟩ by
          have h4 : r.cmd.kind = 0 := by simpa using h3
          have h5 : r.st ≠ 3 := by simpa using h2
          unfold noteA asIx
          rw [if_neg HS0.out, if_pos ⟨h5, h4⟩])
        go_upto_region 6 with fail
        obtain ⟨c0, c1, c2, c3, c4, c5, c6, c7, c8, c9, c10, c11, c12, c13, c14, c15⟩ := box16 HX8.out
        obtain ⟨⟨e0, e1, e2⟩, _⟩ := box3 HP8.out
        have k0 := Kin.cell e0
        have k1 := Kin.cell c0
        have k2 := Kin.cell c1
        have k7 := Kin.cell c7
        have k8 := Kin.cell c8
        have k9 := Kin.cell c9
        have k10 := Kin.cell c10
        have k11 := Kin.cell c11
        have k12 := Kin.cell c12
        have k14 := Kin.cell c14
        clear c0 c1 c2 c3 c4 c5 c6 c7 c8 c9 c10 c11 c12 c13 c14 c15 e0 e1 e2
        refine wp_region_kin_tail 10 (by kernel_rfl) (by kernel_rfl) ?_
        simp only [List.take_succ_cons, List.take_zero, List.drop_succ_cons, List.drop_zero]
        repeat (go_big_quiet_step (fail))
        refine wpQuiet_nil ?_
        intro _ hxx
        obtain ⟨x8, rfl⟩ := hxx
        have HCALL := Lib.hid (ixput_any x n A Fi r.id { zc with kind := 6 } r.seq x8.w (HIX8.out.below x8.h) H0.out.id (by have := HK.out; show ByteArray.size _ ≤ maxLen; unfold maxLen; first | omega | decide) (by first | exact H0.out.cmd.client | exact ⟨by decide, by decide⟩) (by have := HN.out; omega))
        have HB8 := Lib.hid x8.h
        clear k0 k1 k2 k7 k8 k9 k10 k11 k12 k14
        go_wp2_with fail
        refine HCALL.out.mono ?_
        rintro e w9 ⟨rfl, F2, g1, g2, g3⟩
        have G1 := Lib.hid (show Ix w9 x (n + 4) (noteA A r) F2 by rw [HE.out]; exact g1)
        have G2 := Lib.hid g2
        have G3 := Lib.hid g3
        clear g1 g2 g3 HCALL
        go_wp2_with fail
        go_end0
        exact ⟨rfl, ao, cap, F2, HFIN.out w9 F2 G1.out ((Mods.of_below HB8.out).then G2.out (fun _ _ h => h)) (fun j hj => (G3.out j hj).imp id (fun h => by have := HB8.out.size; omega))⟩
end Go.Proofs.YtlbkbjeajcadiaaGreatDoor.B
