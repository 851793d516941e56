/- Several texts in one. -/
import Derived.Test.YtlbkbjeajcadiaaGreatDoorBkM

/- The book in memory: Put. -/
namespace Go.Proofs.YtlbkbjeajcadiaaGreatDoor.B
open Go.RowKit Go.Proofs.YtlbkbjeajcadiaaGreatDoor.M Go.BigFrame Go.Maps Go.Proofs.YtlbkbjeajcadiaaGreatDoor.O Go.Proofs.YtlbkbjeajcadiaaGreatDoor.P Go.Proofs.YtlbkbjeajcadiaaGreatDoor.Mp Go.Proofs.YtlbkbjeajcadiaaGreatDoor.Rw Go.Proofs.YtlbkbjeajcadiaaGreatDoor.R
set_option linter.unusedVariables false
set_option linter.unusedSimpArgs false

/-- what Put answers -/
noncomputable def putE (R : List (O.Id × Rv)) (r : Rv) : Int := if recOk r = true then (if goesOn (getR R r.id) r = true then 0 else 10) else 4
/-- the records behind a Put -/
def PutR (R : List (O.Id × Rv)) (r : Rv) (R2 : List (O.Id × Rv)) : Prop := (putE R r ≠ 0 ∧ R2 = R) ∨ (putE R r = 0 ∧ recOk r = true ∧ goesOn (getR R r.id) r = true ∧ ∃ ao cap, R2 = putD R r.id { r with ao := ao, cap := cap })
theorem getR_len {w : World} {p x b n : Nat} {R : List (O.Id × Rv)} {A : List (O.Id × En)} {Fi : Nat → Prop} (h : BkAt w p x b n R A Fi) (i : O.Id) : (getR R i).deps.length ≤ 1000 ∧ ∀ d ∈ (getR R i).deps, IdI d := by
  unfold getR
  cases hf : findD R i with
  | none => exact ⟨by simp [rv0], fun d hd => by simp [rv0] at hd⟩
  | some q =>
    obtain ⟨k1, _, _, k2, _⟩ := h.ok _ (findD_some hf)
    exact ⟨k2, k1.deps.ok⟩
set_option maxRecDepth 100000 in
set_option maxHeartbeats 4000000 in
theorem bput_at (p x b n : Nat) (R : List (O.Id × Rv)) (A : List (O.Id × En)) (Fi : Nat → Prop) (r : Rv) (w : World) (h : BkAt w p x b n R A Fi) (h0 : RvOk w r) (hT : Tabs w) (hl : r.deps.length ≤ 1000) (hk : r.cmd.key.size ≤ 1000) (hn : n ≤ 10000) :
    Calls Tryz.prog 10 #[.pointer (some ⟨p, 0, none⟩), recV r] w fun e w' => e = .returned (.int .i64 (putE R r)) ∧ ∃ R2 A2 Fi2, BkAt w' p x b (n + 4) R2 A2 Fi2 ∧ PutR R r R2 ∧ Mods (fun j => j = b ∨ Fi j) w w' ∧ ∀ j, BkU p x b R2 Fi2 j → BkU p x b R Fi j ∨ (w.heap.size ≤ j ∧ j < w'.heap.size) := by
  have H := Lib.hid h
  have H0 := Lib.hid h0
  have HT := Lib.hid hT
  have HL := Lib.hid hl
  have HK := Lib.hid hk
  have HN := Lib.hid hn
  have HGL := Lib.hid (getR_len h r.id)
  clear h h0 hT hl hk hn
  go_enter Tryz.func10, Tryz.ntmps10
  go_upto_region 1 with fail
  obtain ⟨W, hW⟩ : ∃ W, W = w.alloc (recO r) := ⟨_, rfl⟩
  have HB : Hid (Below w.heap.size w W) := Lib.hid (by rw [hW]; exact (Below.refl _ _).alloc (Nat.le_refl _) _)
  have HX : Hid (W.heap[w.heap.size]? = some (recO r)) := Lib.hid (by rw [hW]; exact heap_alloc_new w _)
  rw [← hW]
  clear hW
  obtain ⟨v, hv⟩ : ∃ v, (if recOk r = true then (0 : Int) else 4) = v := ⟨_, rfl⟩
  have HCK := Lib.hid (reccheck_any r W (H0.out.below HB.out) (HT.out.next HB.out) (by have := HL.out; omega) (by have := HK.out; omega) v hv)
  go_wp2_with (refine wpList_loadRec (by rfl) _ (by rfl) w.heap.size r (by rfl) HX.out ?_)
  refine HCK.out.mono ?_
  rintro e w1 ⟨rfl, hb1⟩
  have HB1 := Lib.hid (HB.out.trans (hb1.mono HB.out.size))
  have HX1 := Lib.hid ((hb1.block _ (M.heap_lt HX.out)).trans HX.out)
  clear hb1 HCK HX HB
  cases hr : recOk r with
  | false =>
    have hv2 : v = 4 := by rw [← hv, hr]; rfl
    have HE := Lib.hid (show putE R r = 4 by unfold putE; rw [hr]; rfl)
    subst hv2
    clear hv hr
    go_wp2_with fail
    go_ret
    refine ⟨by rw [HE.out]; rfl, R, A, Fi, ?_, .inl ⟨by rw [HE.out]; decide, rfl⟩, Mods.of_below HB1.out, fun j hj => .inl hj⟩
    have := H.out.below HB1.out
    exact ⟨this.box, this.ix.mono (by omega), this.rel, this.recs.mono (by omega), this.ok, this.sep, this.ne⟩
  | true =>
    have hv2 : v = 0 := by rw [← hv, hr]; rfl
    have HRK := Lib.hid hr
    subst hv2
    clear hv hr
    go_upto_region 3 with fail
    have hlt := M.heap_lt HX1.out
    obtain ⟨g, hg⟩ : ∃ g, goesOn (getR R r.id) r = g := ⟨_, rfl⟩
    have HGO := Lib.hid hg
    clear hg
    have HS2 := Lib.hid (show ∀ w', Below w1.heap.size w1 w' → w'.cell? ⟨w.heap.size, 0, none⟩ = some (.int .i64 r.id.r) ∧ w'.cell? ⟨w.heap.size, 1, none⟩ = some (.int .i64 r.id.n) ∧ w'.cell? ⟨w.heap.size, 2, none⟩ = some (.int .i64 r.st) ∧ w'.cell? ⟨w.heap.size, 3, none⟩ = some (.int .i64 r.bal.round) ∧ w'.cell? ⟨w.heap.size, 4, none⟩ = some (.int .i64 r.bal.by_) ∧ w'.cell? ⟨w.heap.size, 5, none⟩ = some (.int .i64 r.took.round) ∧ w'.cell? ⟨w.heap.size, 6, none⟩ = some (.int .i64 r.took.by_) ∧ w'.cell? ⟨w.heap.size, 7, none⟩ = some (.int .i64 r.cmd.kind) ∧ w'.cell? ⟨w.heap.size, 8, none⟩ = some (.int .i64 r.cmd.client) ∧ w'.cell? ⟨w.heap.size, 9, none⟩ = some (.int .i64 r.cmd.seq) ∧ w'.cell? ⟨w.heap.size, 10, none⟩ = some (.string r.cmd.key) ∧ w'.cell? ⟨w.heap.size, 11, none⟩ = some (.string r.cmd.val) ∧ w'.cell? ⟨w.heap.size, 12, none⟩ = some (.int .i64 r.cmd.rev) ∧ w'.cell? ⟨w.heap.size, 13, none⟩ = some (.slice r.ao r.deps.length r.cap) ∧ w'.cell? ⟨w.heap.size, 14, none⟩ = some (.int .i64 r.seq) ∧ w'.cell? ⟨w.heap.size, 15, none⟩ = some (.int .i64 r.tag) from fun w' hb => by
      obtain ⟨c0, c1, c2, c3, c4, c5, c6, c7, c8, c9, c10, c11, c12, c13, c14, c15⟩ := box16 ((hb.block _ hlt).trans HX1.out)
      exact ⟨c0, c1, c2, c3, c4, c5, c6, c7, c8, c9, c10, c11, c12, c13, c14, c15⟩)
    have HGET := Lib.hid (get_at p x b n R A Fi r.id w1.drew ((H.out.below HB1.out).below ((Below.refl _ _).drew)) H0.out.id)
    have HCALL := Lib.hid (show ∀ (w2 : World) (ao : Option Addr) (cap : Nat), OwnL w2 w1.drew.heap.size ao cap (getR R r.id).deps → Below w1.heap.size w1 w2 → Calls Tryz.prog 30 #[recV { getR R r.id with ao := ao, cap := cap }, recV r] w2 fun e w3 => e = .returned (.bool g) ∧ Below w1.heap.size w1 w3 from fun w2 ao cap ho hb =>
      (goeson_any { getR R r.id with ao := ao, cap := cap } r w2 (IdsV.of_own ho HGL.out.2) ((H0.out.below HB1.out).below hb).deps (by have := HGL.out.1; show (getR R r.id).deps.length ≤ 1000000; omega) (by have := HL.out; omega) g (by rw [← HGO.out]; exact goes_core rfl rfl)).mono fun e w3 ⟨he, hb3⟩ => ⟨he, hb.trans (hb3.mono hb.size)⟩)
    go_region_held3 (fun w' => w'.cell? ⟨w.heap.size, 0, none⟩ = some (.int .i64 r.id.r) ∧ w'.cell? ⟨w.heap.size, 1, none⟩ = some (.int .i64 r.id.n) ∧ w'.cell? ⟨w.heap.size, 2, none⟩ = some (.int .i64 r.st) ∧ w'.cell? ⟨w.heap.size, 3, none⟩ = some (.int .i64 r.bal.round) ∧ w'.cell? ⟨w.heap.size, 4, none⟩ = some (.int .i64 r.bal.by_) ∧ w'.cell? ⟨w.heap.size, 5, none⟩ = some (.int .i64 r.took.round) ∧ w'.cell? ⟨w.heap.size, 6, none⟩ = some (.int .i64 r.took.by_) ∧ w'.cell? ⟨w.heap.size, 7, none⟩ = some (.int .i64 r.cmd.kind) ∧ w'.cell? ⟨w.heap.size, 8, none⟩ = some (.int .i64 r.cmd.client) ∧ w'.cell? ⟨w.heap.size, 9, none⟩ = some (.int .i64 r.cmd.seq) ∧ w'.cell? ⟨w.heap.size, 10, none⟩ = some (.string r.cmd.key) ∧ w'.cell? ⟨w.heap.size, 11, none⟩ = some (.string r.cmd.val) ∧ w'.cell? ⟨w.heap.size, 12, none⟩ = some (.int .i64 r.cmd.rev) ∧ w'.cell? ⟨w.heap.size, 13, none⟩ = some (.slice r.ao r.deps.length r.cap) ∧ w'.cell? ⟨w.heap.size, 14, none⟩ = some (.int .i64 r.seq) ∧ w'.cell? ⟨w.heap.size, 15, none⟩ = some (.int .i64 r.tag))
      (first | exact HS2.out _ hb8 | exact HS2.out _ (Below.refl _ _).drew | exact HS2.out _ ((Below.refl w1.heap.size w1).drew.trans hb7))
      ((first | (go_at_call 20; refine HGET.out.mono ?_; rintro e w7 ⟨ao, cap, rfl, ho7, hb7⟩) | (go_at_call 30; refine (HCALL.out _ _ _ ho7 ((Below.refl w1.heap.size w1).drew.trans hb7)).mono ?_; rintro e w8 ⟨rfl, hb8⟩)))
    have HB8 := Lib.hid (HB1.out.trans (hb8.mono HB1.out.size))
    have HX8 := Lib.hid ((hb8.block _ hlt).trans HX1.out)
    clear hb8 ho7 hb7 HS2 HGET HCALL hlt
    cases g with
    | false =>
      have HE := Lib.hid (show putE R r = 10 by unfold putE; rw [HRK.out, HGO.out]; rfl)
      go_wp2_with fail
      go_ret
      refine ⟨by rw [HE.out]; rfl, R, A, Fi, ?_, .inl ⟨by rw [HE.out]; decide, rfl⟩, Mods.of_below HB8.out, fun j hj => .inl hj⟩
      have := H.out.below HB8.out
      exact ⟨this.box, this.ix.mono (by omega), this.rel, this.recs.mono (by omega), this.ok, this.sep, this.ne⟩
    | true =>
      have HE := Lib.hid (show putE R r = 0 by unfold putE; rw [HRK.out, HGO.out]; rfl)
      obtain ⟨e0, e1, e2⟩ := (H.out.below HB8.out).cells
      have HNT := Lib.hid (note_at p x b n R A Fi r w8 (H.out.below HB8.out) (H0.out.below HB8.out) HRK.out HL.out HK.out HN.out)
      go_wp2_with (refine wpList_loadRec (by rfl) _ (by rfl) w.heap.size r (by rfl) HX8.out ?_)
      refine HNT.out.mono ?_
      rintro e w9 ⟨rfl, ao2, cap2, Fi2, k1, k2, k3, k4⟩
      have K1 := Lib.hid k1
      have K2 := Lib.hid k2
      have K3 := Lib.hid k3
      have K4 := Lib.hid k4
      clear k1 k2 k3 k4 HNT e0 e1 e2
      go_wp2_with fail
      go_ret
      refine ⟨by rw [HE.out]; rfl, _, _, Fi2, K1.out, .inr ⟨HE.out, HRK.out, HGO.out, ao2, cap2, rfl⟩, (Mods.of_below HB8.out).then K2.out (fun _ _ h => h), fun j hj => ?_⟩
      have hz := HB8.out.size
      rcases hj with rfl | rfl | rfl | hj | ⟨q, hq, a, e, hne, rfl⟩
      · exact .inl (.inl rfl)
      · exact .inl (.inr (.inl rfl))
      · exact .inl (.inr (.inr (.inl rfl)))
      · rcases K3.out j hj with h | h
        · exact .inl (.inr (.inr (.inr (.inl h))))
        · exact .inr (by omega)
      · rcases mem_putD.1 hq with ⟨hq, _⟩ | rfl
        · exact .inl (.inr (.inr (.inr (.inr ⟨q, hq, a, e, hne, rfl⟩))))
        · have := K4.out a e
          exact .inr (by omega)
theorem bput_any (p n : Nat) (R : List (O.Id × Rv)) (U : Nat → Prop) (r : Rv) (w : World) (h : Bk w p n R U) (h0 : RvOk w r) (hT : Tabs w) (hl : r.deps.length ≤ 1000) (hk : r.cmd.key.size ≤ 1000) (hn : n ≤ 10000) :
    Calls Tryz.prog 10 #[.pointer (some ⟨p, 0, none⟩), recV r] w fun e w' => e = .returned (.int .i64 (putE R r)) ∧ ∃ R2 U2, Bk w' p (n + 4) R2 U2 ∧ PutR R r R2 ∧ Mods U w w' ∧ ∀ j, U2 j → U j ∨ (w.heap.size ≤ j ∧ j < w'.heap.size) := by
  obtain ⟨x, b, A, Fi, h1, h2, h3⟩ := h
  refine (bput_at p x b n R A Fi r w h1 h0 hT hl hk hn).mono ?_
  rintro e w' ⟨rfl, R2, A2, Fi2, k1, k2, k3, k4⟩
  refine ⟨rfl, R2, fun j => U j ∨ BkU p x b R2 Fi2 j, ⟨x, b, A2, Fi2, k1, fun j hj => .inr hj, fun j hj => hj.elim (fun h => Nat.lt_of_lt_of_le (h3 j h) k3.size) (k1.lts j)⟩, k2, k3.mono (fun j _ hj => hj.elim (fun e => h2 j (.inr (.inr (.inl e)))) (fun h => h2 j (.inr (.inr (.inr (.inl h)))))), fun j hj => hj.elim .inl (fun h => (k4 j h).imp (h2 j) id)⟩
end Go.Proofs.YtlbkbjeajcadiaaGreatDoor.B

/- The book in memory: has, Active, Walled, Next. -/
namespace Go.Proofs.YtlbkbjeajcadiaaGreatDoor.B
open Go.RowKit Go.Proofs.YtlbkbjeajcadiaaGreatDoor.M Go.BigFrame Go.Maps Go.Proofs.YtlbkbjeajcadiaaGreatDoor.O Go.Proofs.YtlbkbjeajcadiaaGreatDoor.P Go.Proofs.YtlbkbjeajcadiaaGreatDoor.Mp Go.Proofs.YtlbkbjeajcadiaaGreatDoor.Rw Go.Proofs.YtlbkbjeajcadiaaGreatDoor.R
set_option linter.unusedVariables false
set_option linter.unusedSimpArgs false

/-- what a record's entry tells: is it such a barrier? -/
def isWall (s : Int) (q : Rv) : Bool := decide (q.cmd.kind = 6) && decide (s ≤ q.st)
theorem del_cov {R left : List (O.Id × Rv)} {p q : O.Id × Rv} (hn : (R.map Prod.fst).Nodup) (hp : p ∈ R) (hq : q ∈ R) (h : q ∉ delD left p.1) : q ∉ left ∨ q = p := by
  by_cases e : q.1 = p.1
  · right
    have h1 := findD_of hn (show (q.1, q.2) ∈ R from hq)
    have h2 := findD_of hn (show (p.1, p.2) ∈ R from hp)
    rw [e, h2] at h1
    exact Prod.ext e (Option.some.inj h1).symm
  · exact .inl (fun hl => h (mem_delD.2 ⟨hl, e⟩))
/-- the walk over the records -/
structure HsS (w wo wr : World) (b n : Nat) (R left : List (O.Id × Rv)) (cnt : Nat) : Prop where
  bel : Below w.heap.size w wr
  rng : RngL sIR wr b wo.heap.size n R left cnt
set_option maxRecDepth 100000 in
set_option maxHeartbeats 4000000 in
theorem has_any (p n : Nat) (R : List (O.Id × Rv)) (U : Nat → Prop) (s : Int) (w : World) (h : Bk w p n R U) (v : Bool) (hv : wallB R s = v) :
    Calls Tryz.prog 36 #[.pointer (some ⟨p, 0, none⟩), .int .i64 s] w fun e w' => e = .returned (.bool v) ∧ Below w.heap.size w w' := by
  obtain ⟨x, b, A, Fi, h1, h2, h3⟩ := h
  have H := Lib.hid h1
  have HV := Lib.hid hv
  clear h1 h2 h3 hv
  go_enter Tryz.func36, Tryz.ntmps36
  obtain ⟨e0, e1, e2⟩ := H.out.cells
  go_wp2_with (at_range; refine wpList_rangeL lIR H.out.recs rfl _ rfl rfl ?_; intro w2 cnt1 hrg1 hb2; have HRG1 := Lib.hid hrg1; have HB2 := Lib.hid hb2; clear hrg1 hb2)
  go_frame
  clear e0 e1 e2
  go_loopw [] (fun wr => ∃ (left : List (O.Id × Rv)) (cnt : Nat), HsS w w wr b n R left cnt ∧ ∀ q ∈ R, q ∉ left → isWall s q.2 = false) (fun wr => wr.rangeLeft b w.heap.size)
  case atStart => exact ⟨R, cnt1, ⟨HB2.out, HRG1.out⟩, fun q hq hn => absurd hq hn⟩
  case round =>
    obtain ⟨left, cnt, hs, hno⟩ := hrel
    have HS := Lib.hid hs
    have HNO := Lib.hid hno
    clear hs hno HRG1 HB2
    go_upto_region 4 with (at_next; refine wpList_nextR HS.out.rng rfl _ rfl rfl (fun HL0 => ?_) (fun q w3 cnt3 HXL HRG HLT HMN hen => ?_))
    · go_ret
      refine ⟨?_, HS.out.bel⟩
      have : v = false := by
        rw [← HV.out, ← Bool.not_eq_true, wall_iff]
        rintro ⟨q, hq, k1, k2⟩
        have := HNO.out q hq (by rw [HL0.out]; simp)
        unfold isWall at this
        rw [decide_eq_true k1, decide_eq_true k2] at this
        cases this
      rw [this]; rfl
    · have hbw : w.heap.size ≤ w.heap.size := Nat.le_refl _
      have hle := HS.out.bel.size
      have HB3 := Lib.hid (show Below w.heap.size w w3 from HS.out.bel.trans (HMN.out.below (B := w.heap.size) (fun j e => by omega) hle))
      have HMEM := Lib.hid (HS.out.rng.sub.subset HXL.out)
      obtain ⟨W, hW⟩ : ∃ W, W = w3.alloc (recO q.2) := ⟨_, rfl⟩
      rw [← hW]
      have hbW : Below w3.heap.size w3 W := by rw [hW]; exact (Below.refl _ _).alloc (Nat.le_refl _) _
      have hx : W.heap[w3.heap.size]? = some (recO q.2) := by rw [hW]; exact heap_alloc_new w3 _
      have HBW := Lib.hid (HB3.out.trans (hbW.mono HB3.out.size))
      have HRW := Lib.hid (HRG.out.below hbW)
      obtain ⟨c0, c1, c2, c3, c4, c5, c6, c7, c8, c9, c10, c11, c12, c13, c14, c15⟩ := box16 hx
      clear hW hbW hx hen c0 c1 c3 c4 c5 c6 c8 c9 c10 c11 c12 c13 c14 c15
      have HGO := Lib.hid (show isWall s q.2 = false → ∀ y ∈ R, y ∉ delD left q.1 → isWall s y.2 = false from fun hf y hy hn => by
        rcases del_cov H.out.recs.nd HMEM.out hy hn with h | rfl
        · exact HNO.out y hy h
        · exact hf)
      cases h1 : (q.2.cmd.kind == 6) with
      | false =>
        have HF := Lib.hid (show isWall s q.2 = false by
          have h2 : q.2.cmd.kind ≠ 6 := by simpa using h1
          unfold isWall; rw [decide_eq_false h2]; rfl)
        go_wp2_with fail
        go_roundw
        case rel => exact ⟨delD left q.1, cnt3, ⟨HBW.out, HRW.out⟩, HGO.out HF.out⟩
        case measure =>
          rw [HRW.out.left_eq, HS.out.rng.left_eq]
          exact HLT.out
      | true =>
        have h6 : q.2.cmd.kind = 6 := by simpa using h1
        have HK6 := Lib.hid h6
        clear h6
        by_cases h2 : s ≤ q.2.st
        · have HE := Lib.hid (show v = true by
            rw [← HV.out, wall_iff]
            exact ⟨q, HMEM.out, HK6.out, h2⟩)
          go_wp2_with fail
          go_ret
          exact ⟨by rw [HE.out]; rfl, HBW.out⟩
        · have HF := Lib.hid (show isWall s q.2 = false by unfold isWall; rw [decide_eq_false h2, Bool.and_false])
          go_wp2_with fail
          go_roundw
          case rel => exact ⟨delD left q.1, cnt3, ⟨HBW.out, HRW.out⟩, HGO.out HF.out⟩
          case measure =>
            rw [HRW.out.left_eq, HS.out.rng.left_eq]
            exact HLT.out
set_option maxRecDepth 100000 in
set_option maxHeartbeats 4000000 in
theorem active_any (p n : Nat) (R : List (O.Id × Rv)) (U : Nat → Prop) (w : World) (h : Bk w p n R U) (v : Bool) (hv : wallB R 3 = v) :
    Calls Tryz.prog 14 #[.pointer (some ⟨p, 0, none⟩)] w fun e w' => e = .returned (.bool v) ∧ Below w.heap.size w w' := by
  have HH := Lib.hid (has_any p n R U 3 w h v hv)
  clear h hv
  go_enter Tryz.func14, Tryz.ntmps14
  go_wp2_with fail
  refine HH.out.mono ?_
  rintro e w1 ⟨rfl, hb⟩
  have HB := Lib.hid hb
  clear hb HH
  go_wp2_with fail
  go_ret
  exact ⟨rfl, HB.out⟩
set_option maxRecDepth 100000 in
set_option maxHeartbeats 4000000 in
theorem walled_any (p n : Nat) (R : List (O.Id × Rv)) (U : Nat → Prop) (w : World) (h : Bk w p n R U) (v : Bool) (hv : wallB R 0 = v) :
    Calls Tryz.prog 15 #[.pointer (some ⟨p, 0, none⟩)] w fun e w' => e = .returned (.bool v) ∧ Below w.heap.size w w' := by
  have HH := Lib.hid (has_any p n R U 0 w h v hv)
  clear h hv
  go_enter Tryz.func15, Tryz.ntmps15
  go_wp2_with fail
  refine HH.out.mono ?_
  rintro e w1 ⟨rfl, hb⟩
  have HB := Lib.hid hb
  clear hb HH
  go_wp2_with fail
  go_ret
  exact ⟨rfl, HB.out⟩
/-- the greatest number of a replica's, of those that came -/
structure NxS (R left : List (O.Id × Rv)) (r m : Int) : Prop where
  pos : 0 ≤ m ∧ m ≤ 1099511627776
  is : m = 0 ∨ ∃ q ∈ R, q.1.r = r ∧ m = q.1.n
  ge : ∀ q ∈ R, q ∉ left → q.1.r = r → q.1.n ≤ m
theorem next_is {R : List (O.Id × Rv)} {r m : Int} (h : NxS R [] r m) : nextN R r = m + 1 := by
  unfold nextN
  rw [foldl_if (fun p : O.Id × Rv => p.1.n) (fun p => p.1.r = r)]
  congr 1
  obtain ⟨a1, a2, a3⟩ := mostV_gen ((R.filter fun x => decide (x.1.r = r)).map fun p => p.1.n) 0
  refine Int.le_antisymm ?_ ?_
  · rcases a3 with e | e
    · rw [e]; exact h.pos.1
    · obtain ⟨q, hq, e2⟩ := List.mem_map.1 e
      rw [List.mem_filter] at hq
      rw [← e2]
      exact h.ge q hq.1 (by simp) (by simpa using hq.2)
  · rcases h.is with e | ⟨q, hq, e1, e2⟩
    · rw [e]; exact a1
    · rw [e2]
      exact a2 _ (List.mem_map.2 ⟨q, List.mem_filter.2 ⟨hq, by simpa using e1⟩, rfl⟩)
theorem id_of_ok {x : Rv} (h : recOk x = true) : idOk x.id = true := by
  unfold recOk headBad at h
  cases hi : idOk x.id with
  | true => rfl
  | false => rw [hi] at h; simp at h
set_option maxRecDepth 100000 in
set_option maxHeartbeats 4000000 in
theorem next_any (p n : Nat) (R : List (O.Id × Rv)) (U : Nat → Prop) (r : Int) (w : World) (h : Bk w p n R U) (v : Int) (hv : nextN R r = v) :
    Calls Tryz.prog 13 #[.pointer (some ⟨p, 0, none⟩), .int .i64 r] w fun e w' => e = .returned (.int .i64 v) ∧ Below w.heap.size w w' := by
  obtain ⟨x, b, A, Fi, h1, h2, h3⟩ := h
  have H := Lib.hid h1
  have HV := Lib.hid hv
  clear h1 h2 h3 hv
  go_enter Tryz.func13, Tryz.ntmps13
  obtain ⟨e0, e1, e2⟩ := H.out.cells
  go_wp2_with (at_range; refine wpList_rangeL lIR H.out.recs rfl _ rfl rfl ?_; intro w2 cnt1 hrg1 hb2; have HRG1 := Lib.hid hrg1; have HB2 := Lib.hid hb2; clear hrg1 hb2)
  go_frame
  clear e0 e1 e2
  go_loopw [5] (fun mv wr => ∃ (m : Int) (left : List (O.Id × Rv)) (cnt : Nat), mv = .int .i64 m ∧ HsS w w wr b n R left cnt ∧ NxS R left r m) (fun _ wr => wr.rangeLeft b w.heap.size)
  case atStart => exact ⟨0, R, cnt1, rfl, ⟨HB2.out, HRG1.out⟩, ⟨⟨by decide, by decide⟩, .inl rfl, fun q hq hn => absurd hq hn⟩⟩
  case round =>
    obtain ⟨m, left, cnt, rfl, hs, hnx⟩ := hrel
    have HS := Lib.hid hs
    have HNX := Lib.hid hnx
    have hm0 := hnx.pos.1
    have hm1 := hnx.pos.2
    clear hs hnx HRG1 HB2
    go_upto_region 5 with (at_next; refine wpList_nextR HS.out.rng rfl _ rfl rfl (fun HL0 => ?_) (fun q w3 cnt3 HXL HRG HLT HMN hen => ?_))
    · have HE := Lib.hid (show v = m + 1 by
        rw [← HV.out]
        have := HNX.out
        rw [HL0.out] at this
        exact next_is this)
      go_wp2_with fail
      go_ret
      exact ⟨by rw [HE.out]; rfl, HS.out.bel⟩
    · have hle := HS.out.bel.size
      have HB3 := Lib.hid (show Below w.heap.size w w3 from HS.out.bel.trans (HMN.out.below (B := w.heap.size) (fun j e => by omega) hle))
      have HMEM := Lib.hid (HS.out.rng.sub.subset HXL.out)
      obtain ⟨W, hW⟩ : ∃ W, W = w3.alloc (idO q.1) := ⟨_, rfl⟩
      rw [← hW]
      have hbW : Below w3.heap.size w3 W := by rw [hW]; exact (Below.refl _ _).alloc (Nat.le_refl _) _
      have hx : W.heap[w3.heap.size]? = some (idO q.1) := by rw [hW]; exact heap_alloc_new w3 _
      have HBW := Lib.hid (HB3.out.trans (hbW.mono HB3.out.size))
      have HRW := Lib.hid (HRG.out.below hbW)
      obtain ⟨⟨d0, d1⟩, _⟩ := box2 hx
      clear hW hbW hx hen hle
      have HQ := Lib.hid (show 0 ≤ q.1.n ∧ q.1.n ≤ 1099511627776 from by
        obtain ⟨_, k1, k2, _⟩ := H.out.ok q HMEM.out
        have := id_of_ok k2
        rw [k1, idOk_iff] at this
        omega)
      cases h1 : (q.1.r == r) with
      | false =>
        have HNX2 := Lib.hid (show NxS R (delD left q.1) r m from ⟨HNX.out.pos, HNX.out.is, fun y hy hn hr => by
          rcases del_cov H.out.recs.nd HMEM.out hy hn with h | rfl
          · exact HNX.out.ge y hy h hr
          · simp [hr] at h1⟩)
        go_wp2_with fail
        go_roundw
        case rel => exact ⟨m, delD left q.1, cnt3, rfl, ⟨HBW.out, HRW.out⟩, HNX2.out⟩
        case measure =>
          rw [HRW.out.left_eq, HS.out.rng.left_eq]
          exact HLT.out
      | true =>
        have HNX2 := Lib.hid (show NxS R (delD left q.1) r (max m q.1.n) from by
          have hq := HQ.out
          refine ⟨⟨by omega, by omega⟩, ?_, fun y hy hn hr => ?_⟩
          · by_cases e : m ≤ q.1.n
            · right
              exact ⟨q, HMEM.out, by simpa using h1, by omega⟩
            · have h3 : max m q.1.n = m := by omega
              rw [h3]
              exact HNX.out.is
          · rcases del_cov H.out.recs.nd HMEM.out hy hn with h | rfl
            · have := HNX.out.ge y hy h hr; omega
            · omega)
        go_wp2_with fail
        go_roundw
        case rel => exact ⟨max m q.1.n, delD left q.1, cnt3, rfl, ⟨HBW.out, HRW.out⟩, HNX2.out⟩
        case measure =>
          rw [HRW.out.left_eq, HS.out.rng.left_eq]
          exact HLT.out
end Go.Proofs.YtlbkbjeajcadiaaGreatDoor.B
