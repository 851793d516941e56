/- The walk of BookPlays. -/
import Derived.Test.YtlbkbjeajcadiaaGreatDoorMrg27
import Derived.Test.YtlbkbjeajcadiaaGreatDoorBlH
import Derived.Test.YtlbkbjeajcadiaaGreatDoorMrg29
import Derived.Test.YtlbkbjeajcadiaaGreatDoorMrg30
namespace Go.Proofs.YtlbkbjeajcadiaaGreatDoor.B
open Go.RowKit Go.Proofs.YtlbkbjeajcadiaaGreatDoor.M Go.BigFrame Go.Maps Go.Proofs.YtlbkbjeajcadiaaGreatDoor.O Go.Proofs.YtlbkbjeajcadiaaGreatDoor.P Go.Proofs.YtlbkbjeajcadiaaGreatDoor.Mp Go.Proofs.YtlbkbjeajcadiaaGreatDoor.Rw Go.Proofs.YtlbkbjeajcadiaaGreatDoor.R
set_option linter.unusedVariables false
set_option linter.unusedSimpArgs false

theorem alike_core {x y : Rv} (h : core x = core y)  : O.Alike x y :=
  ⟨(congrArg Rv.id h : _), (congrArg Rv.st h : _), (congrArg Rv.bal h : _), (congrArg Rv.took h : _), (congrArg Rv.cmd h : _), (congrArg Rv.deps h : _), (congrArg Rv.seq h : _), (congrArg Rv.tag h : _)⟩
theorem recs_keep {w w1 : World} {S : Nat → Prop} {oo : Option Addr} {oc : Nat} {L : List Rv} (h : RecsV w oo oc L) (hm : Mods S w w1) (hn : L ≠ [] → ∀ a, oo = some a → ¬ S a.block) (hok : ∀ y ∈ L, RvOk w1 y) : RecsV w1 oo oc L :=
  ⟨h.le, h.nz, fun i x hi => by
    obtain ⟨b, off, e1, hl, hc⟩ := h.row i x hi
    have hne : L ≠ [] := fun e => by rw [e] at hi; simp at hi
    exact ⟨b, off, e1, Nat.lt_of_lt_of_le hl hm.size, hc.keep hm hl (hn hne _ e1)⟩, hok⟩
/-- the play, between the records -/
structure PlS (W wr : World) (p n : Nat) (R : List (O.Id × Rv)) (U : Nat → Prop) (xo : Option Addr) (xc : Nat) (L : List Rv) : Prop where
  bk : Bk wr p n R U
  rr : RefRel R L
  uge : ∀ j, U j → W.heap.size ≤ j
  rv : RecsV wr xo xc L
  xu : L ≠ [] → ∀ a, xo = some a → ¬ U a.block
  ok : ∀ y ∈ L, RvOk W y ∧ recOk y = true ∧ y.deps.length ≤ 1000 ∧ y.cmd.key.size ≤ 1000
  bel : Below W.heap.size W wr
section
variable {W wr wx : World} {p n : Nat} {R R2 : List (O.Id × Rv)} {U U2 : Nat → Prop} {xo yo : Option Addr} {xc yc : Nat} {L : List Rv} {r : Rv}
theorem PlS.below (h : PlS W wr p n R U xo xc L) (hb : Below wr.heap.size wr wx) : PlS W wx p n R U xo xc L :=
  ⟨h.bk.below hb, h.rr, h.uge, h.rv.below hb, h.xu, h.ok, h.bel.trans (hb.mono h.bel.size)⟩
theorem ref_same (h : RefRel R L) (r : Rv) : putE R r = refE L r := by
  unfold putE refE
  rw [goes_core (get_ref h r.id) (rfl : core r = core r)]
theorem ref_put (h : RefRel R L) (hp : PutR R r R2) : RefRel R2 (putL L r) := by
  have e := ref_same h r
  rcases hp with ⟨h0, rfl⟩ | ⟨h0, _, _, ao, cap, rfl⟩
  · unfold putL
    rw [if_neg (by rw [← e]; exact h0)]
    exact h
  · unfold putL
    rw [if_pos (by rw [← e]; exact h0)]
    exact h.put rfl
theorem putL_len (h : SortedR L) : (putL L r).length ≤ L.length + 1 := by
  unfold putL
  split
  · exact with_len h r
  · omega
theorem putL_sub {y : Rv} (h : y ∈ putL L r) : y ∈ L ∨ (y = r ∧ recOk r = true) := by
  unfold putL at h
  split at h
  · rename_i h0
    rcases with_sub h with h1 | h1
    · exact .inl h1
    · refine .inr ⟨h1, ?_⟩
      unfold refE at h0
      cases hr : recOk r with
      | true => rfl
      | false => rw [hr] at h0; simp at h0
  · exact .inl h
/-- both Puts -/
theorem PlS.put {w3 w4 : World} {n2 : Nat} (h : PlS W wr p n R U xo xc L) (h3 : RecsV w3 yo yc (putL L r)) (hy : (putL L r = L ∧ yo = xo) ∨ (putL L r = withL L r ∧ ∀ a, yo = some a → wr.heap.size ≤ a.block)) (hb3 : Below wr.heap.size wr w3)
    (hr : RvOk W r) (hd : r.deps.length ≤ 1000) (hk : r.cmd.key.size ≤ 1000) (g1 : Bk w4 p n2 R2 U2) (g2 : PutR R r R2) (g3 : Mods U w3 w4) (g4 : ∀ j, U2 j → U j ∨ (w3.heap.size ≤ j ∧ j < w4.heap.size)) : PlS W w4 p n2 R2 U2 yo yc (putL L r) := by
  have hbl : Below W.heap.size W w3 := h.bel.trans (hb3.mono h.bel.size)
  have hbl4 : Below W.heap.size W w4 := hbl.trans (g3.below h.uge hbl.size)
  have hok : ∀ y ∈ putL L r, RvOk W y ∧ recOk y = true ∧ y.deps.length ≤ 1000 ∧ y.cmd.key.size ≤ 1000 := fun y hy => by
    rcases putL_sub hy with h1 | ⟨h1, h2⟩
    · exact h.ok y h1
    · rw [h1]; exact ⟨hr, h2, hd, hk⟩
  have hxu : putL L r ≠ [] → ∀ a, yo = some a → ¬ U a.block := fun hne a e hU => by
    rcases hy with ⟨e1, e2⟩ | ⟨_, h2⟩
    · rw [e1] at hne
      exact h.xu hne a (by rw [← e2]; exact e) hU
    · have := h2 a e
      have := h.bk.lts _ hU
      omega
  refine ⟨g1, ref_put h.rr g2, fun j hj => ?_, recs_keep h3 g3 hxu (fun y hy => (hok y hy).1.below hbl4), fun hne a e hU => ?_, hok, hbl4⟩
  · rcases g4 j hj with h1 | h1
    · exact h.uge j h1
    · exact Nat.le_trans hbl.size h1.1
  · rcases g4 _ hU with h1 | h1
    · exact hxu hne a e h1
    · obtain ⟨y, hy⟩ : ∃ y, (putL L r)[0]? = some y := by
        cases hl : putL L r with
        | nil => exact absurd hl hne
        | cons y t => exact ⟨y, rfl⟩
      obtain ⟨b, off, e1, hl, _⟩ := h3.row 0 y hy
      rw [e] at e1
      cases e1
      have := h1.1
      simp only at this
      omega
theorem PlS.all {Y : List Rv} (h : PlS W wr p n R U xo xc L) (hY : Y.map core = (setI (R.map Prod.fst)).map (fun i => core (getR R i))) : Y.length = L.length ∧ ∀ (i : Nat) (x y : Rv), Y[i]? = some x → L[i]? = some y → O.Alike x y := by
  rw [all_ref h.rr] at hY
  refine ⟨by have := congrArg List.length hY; simpa using this, fun i x y hx hy => alike_core ?_⟩
  have h1 := congrArg (fun l : List Rv => l[i]?) hY
  simp only [List.getElem?_map, hx, hy, Option.map_some] at h1
  exact Option.some.inj h1
theorem PlS.hang {c : Cmd} {i : O.Id} {l : List O.Id} {m : Int} (h : PlS W wr p n R U xo xc L) (hl : HangL R c i l m) : l = setI ((metR L c i).map Rv.id) ∧ m = mostV ((metR L c i).map Rv.seq) := by
  obtain ⟨A, h1, h2, rfl, rfl⟩ := hl
  exact hang_ref h.rr h1 h2 c i
end
/-- rows that both are the call's own -/
theorem at_same (S : List O.Id) (q t : Int) : atSame S q t S q t = true := by unfold atSame; simp
set_option maxRecDepth 100000 in
set_option maxHeartbeats 4000000 in
theorem plays_law (X : List Rv) (ao : Option Addr) (cap : Nat) (Z : List Rv) (zo : Option Addr) (zc : Nat) (c : Cmd) (i : O.Id) (tag : Int) (w : World) (h : RecsV w ao cap X) (hz : RecsV w zo zc Z) (hc : CmdOk c) (hi : IdI i) (hT : Tabs w) :
    Calls Tryz.prog 5 #[.slice ao X.length cap, .slice zo Z.length zc, cmdV c, idV i, .int .i64 tag] w fun e w' => e = .returned (.bool true) ∧ Below w.heap.size w w' := by
  obtain ⟨hl1, hl2⟩ := h.le
  unfold maxLen at hl2
  obtain ⟨hz1, hz2⟩ := hz.le
  unfold maxLen at hz2
  have H := Lib.hid h
  have HZ := Lib.hid hz
  have HT := Lib.hid hT
  have HCO := Lib.hid hc
  have HIO := Lib.hid hi
  obtain ⟨gv, hgv⟩ : ∃ g, greatK X 12 = g := ⟨_, rfl⟩
  obtain ⟨gz, hgz⟩ : ∃ g, greatK Z 12 = g := ⟨_, rfl⟩
  obtain ⟨gc, hgc⟩ : ∃ g, great6 c = g := ⟨_, rfl⟩
  clear h hT hc hi hz
  go_enter Tryz.func5, Tryz.ntmps5
  go_upto_region 1 with fail
  obtain ⟨W, hW⟩ : ∃ W, W = (w.alloc (.cells (cmdA c) 24)).alloc (idO i) := ⟨_, rfl⟩
  rw [← hW]
  have HB : Hid (Below w.heap.size w W) := Lib.hid (by rw [hW]; exact ((Below.refl _ _).alloc (Nat.le_refl _) _).alloc (by simp) _)
  have HC : Hid (W.heap[w.heap.size]? = some (.cells (cmdA c) 24 (0, 0))) := Lib.hid (by rw [hW, heap_al, if_neg (by simp)]; exact heap_alloc_new w _)
  have HX : Hid (W.heap[w.heap.size + 1]? = some (idO i)) := Lib.hid (by rw [hW, heap_al, if_pos (by simp)])
  clear hW
  have HGR := Lib.hid (great14_any X ao cap W (H.out.below HB.out) gv hgv)
  go_wp2_with fail
  refine HGR.out.mono ?_
  rintro e w0 ⟨rfl, rfl⟩
  clear HGR
  cases gv with
  | true =>
    have HAW := Lib.hid (awake_any W (HT.out.next HB.out))
    go_wp2_with fail
    refine HAW.out.mono ?_
    rintro e w5 ⟨rfl, hb⟩
    have HBE := Lib.hid (HB.out.trans (hb.mono HB.out.size))
    clear hb HAW
    go_wp2_with fail
    go_ret
    exact ⟨rfl, HBE.out⟩
  | false =>
  have HGZ := Lib.hid (great14_any Z zo zc W (HZ.out.below HB.out) gz hgz)
  go_wp2_with fail
  refine HGZ.out.mono ?_
  rintro e w0 ⟨rfl, rfl⟩
  clear HGZ
  cases gz with
  | true =>
    have HAW := Lib.hid (awake_any W (HT.out.next HB.out))
    go_wp2_with fail
    refine HAW.out.mono ?_
    rintro e w5 ⟨rfl, hb⟩
    have HBE := Lib.hid (HB.out.trans (hb.mono HB.out.size))
    clear hb HAW
    go_wp2_with fail
    go_ret
    exact ⟨rfl, HBE.out⟩
  | false =>
  have HG6 := Lib.hid (great6_any c W HCO.out gc hgc)
  obtain ⟨⟨c0, c1, c2, c3, c4, c5⟩, _⟩ := box6 HC.out
  go_wp2_with fail
  refine HG6.out.mono ?_
  rintro e w1 ⟨rfl, hb1⟩
  have HB1 := Lib.hid hb1
  clear hb1 HG6 c0 c1 c2 c3 c4 c5
  have HBA := Lib.hid (HB.out.trans (HB1.out.mono HB.out.size))
  cases gc with
  | true =>
    have HAW := Lib.hid (awake_any w1 (HT.out.next HBA.out))
    go_wp2_with fail
    refine HAW.out.mono ?_
    rintro e w5 ⟨rfl, hb⟩
    have HBE := Lib.hid (HBA.out.trans (hb.mono HBA.out.size))
    clear hb HAW
    go_wp2_with fail
    go_ret
    exact ⟨rfl, HBE.out⟩
  | false =>
  obtain ⟨hl12, hall⟩ := greatK_no hgv
  obtain ⟨hz12, hallz⟩ := greatK_no hgz
  have HALX := Lib.hid hall
  have HALZ := Lib.hid hallz
  have HKS := Lib.hid (great6_no hgc)
  have HNW := Lib.hid (new_any X ao cap w1 (H.out.below HBA.out) (HT.out.next HBA.out) (by omega) (fun x hx => by have := hall x hx; omega) (fun x hx => by have := hall x hx; omega))
  clear hgv hgz hgc hall hallz
  go_wp2_with fail
  refine HNW.out.mono ?_
  rintro e w2 ⟨p, R0, U0, rfl, hbk, hrr, hU, hb2⟩
  have HBK := Lib.hid hbk
  have HRR := Lib.hid hrr
  have HU0 := Lib.hid hU
  have HB2 := Lib.hid (HB1.out.trans (hb2.mono HB1.out.size))
  clear hbk hrr hU hb2 HNW
  have HRN := Lib.hid (refnew_any X ao cap w2 (H.out.below (HB.out.trans (HB2.out.mono HB.out.size))) (by omega) (fun x hx => by have := HALX.out x hx; omega) (fun x hx => by have := HALX.out x hx; omega))
  go_wp2_with fail
  refine HRN.out.mono ?_
  rintro e w3 ⟨xo0, xc0, rfl, hra⟩
  have HS0 := Lib.hid (show PlS W w3 p (4 * (X.length + 0)) R0 U0 xo0 xc0 (newL X) from ⟨HBK.out.below hra.bel, HRR.out, fun j hj => Nat.le_trans HB1.out.size (HU0.out j hj), hra.rv, fun _ a e hU => by have := hra.nw a e; have := HBK.out.lts _ hU; omega, fun y hy => by
    obtain ⟨h1, h2⟩ := (newL_ok X).2.2 y hy
    have h3 := HALX.out y h1
    exact ⟨(H.out.ok y h1).below HB.out, h2, by omega, by omega⟩, HB2.out.trans (hra.bel.mono HB2.out.size)⟩)
  have hnl := (newL_ok X).2.1
  clear hra HRN HBK HRR HU0 HB2
  go_wp2_with fail
  go_loopw [12, 13] (fun xv kv wr => ∃ (k : Nat) (R : List (O.Id × Rv)) (U : Nat → Prop) (xo : Option Addr) (xc : Nat) (L : List Rv), xv = .slice xo L.length xc ∧ kv = .int .i64 k ∧ k ≤ Z.length ∧ L.length ≤ 12 + k ∧ PlS W wr p (4 * (X.length + k)) R U xo xc L) (fun _ kv _ => Z.length + 1 - (intOf kv).toNat)
  case atStart => exact ⟨0, R0, U0, xo0, xc0, newL X, rfl, rfl, Nat.zero_le _, by omega, HS0.out⟩
  case round =>
    obtain ⟨k, R, U2, xo, xc, L, rfl, rfl, hk, hLl, hs⟩ := hrel
    have HS := Lib.hid hs
    clear hs HS0
    have HBR := Lib.hid (HB.out.trans (HS.out.bel.mono HB.out.size))
    have hkz : (k : Int) ≤ (Z.length : Int) := by omega
    go_upto_region 8 with fail
    go_cut [90] (fun tv wx => tv = .bool false ∧ Below wr.heap.size wr wx)
    case first =>
      obtain ⟨⟨d0, d1, d2, d3, d4, d5⟩, _⟩ := box6 ((HS.out.bel.block _ (M.heap_lt HC.out)).trans HC.out)
      obtain ⟨⟨f0, f1⟩, _⟩ := box2 ((HS.out.bel.block _ (M.heap_lt HX.out)).trans HX.out)
      have hcl := Nat.lt_of_lt_of_le (M.heap_lt HC.out) HS.out.bel.size
      have hxl := Nat.lt_of_lt_of_le (M.heap_lt HX.out) HS.out.bel.size
      have HST := Lib.hid (show ∀ w', Below wr.heap.size wr w' → (fun w' => w'.cell? ⟨w.heap.size, 0, none⟩ = some (.int .i64 c.kind) ∧ w'.cell? ⟨w.heap.size, 1, none⟩ = some (.int .i64 c.client) ∧ w'.cell? ⟨w.heap.size, 2, none⟩ = some (.int .i64 c.seq) ∧ w'.cell? ⟨w.heap.size, 3, none⟩ = some (.string c.key) ∧ w'.cell? ⟨w.heap.size, 4, none⟩ = some (.string c.val) ∧ w'.cell? ⟨w.heap.size, 5, none⟩ = some (.int .i64 c.rev) ∧ w'.cell? ⟨w.heap.size + 1, 0, none⟩ = some (.int .i64 i.r) ∧ w'.cell? ⟨w.heap.size + 1, 1, none⟩ = some (.int .i64 i.n)) w' from fun w' hb =>
        ⟨(hb.cell (p := ⟨_, _, none⟩) hcl).trans d0, (hb.cell (p := ⟨_, _, none⟩) hcl).trans d1, (hb.cell (p := ⟨_, _, none⟩) hcl).trans d2, (hb.cell (p := ⟨_, _, none⟩) hcl).trans d3, (hb.cell (p := ⟨_, _, none⟩) hcl).trans d4, (hb.cell (p := ⟨_, _, none⟩) hcl).trans d5, (hb.cell (p := ⟨_, _, none⟩) hxl).trans f0, (hb.cell (p := ⟨_, _, none⟩) hxl).trans f1⟩)
      clear d0 d1 d2 d3 d4 d5 f0 f1 hcl hxl
      obtain ⟨S, hS⟩ : ∃ S, setI ((metR L c i).map Rv.id) = S := ⟨_, rfl⟩
      obtain ⟨hv, hhv⟩ : ∃ v, hangV tag (mostV ((metR L c i).map Rv.seq)) = v := ⟨_, rfl⟩
      obtain ⟨nv, hnv⟩ : ∃ v, nextN R i.r = v := ⟨_, rfl⟩
      obtain ⟨a3, ha3⟩ : ∃ v, wallB R 3 = v := ⟨_, rfl⟩
      obtain ⟨a0, ha0⟩ : ∃ v, wallB R 0 = v := ⟨_, rfl⟩
      have HAL := Lib.hid (show ∀ w2, Below wr.heap.size wr w2 → Calls Tryz.prog 18 #[.pointer (some ⟨p, 0, none⟩)] w2 fun e w' => ∃ oo oc Y, e = .returned (.slice oo (Y : List Rv).length oc) ∧ ((RecsV w' oo oc Y ∧ Y.map core = (setI (R.map Prod.fst)).map (fun i => core (getR R i)) ∧ (∀ y ∈ Y, y.deps.length ≤ 1000)) ∧ Below wr.heap.size wr w') from fun w2 hb =>
        (all_any p _ R U2 w2 (HS.out.bk.below hb) (by omega)).mono fun e w' ⟨oo, oc, Y, he, h1, h2, h3, h4⟩ => ⟨oo, oc, Y, he, ⟨h1, h2, h3⟩, hb.trans (h4.mono hb.size)⟩)
      have HSR := Lib.hid (show ∀ (w2 : World) (oo : Option Addr) (oc : Nat) (Y : List Rv), (RecsV w2 oo oc Y ∧ Y.map core = (setI (R.map Prod.fst)).map (fun i => core (getR R i)) ∧ (∀ y ∈ Y, y.deps.length ≤ 1000)) → Below wr.heap.size wr w2 → Calls Tryz.prog 17 #[.slice oo Y.length oc, .slice xo L.length xc] w2 fun e w' => e = .returned (.bool true) ∧ Below wr.heap.size wr w' from fun w2 oo oc Y hY hb => by
        obtain ⟨h1, h2, h3⟩ := hY
        obtain ⟨g1, g2⟩ := HS.out.all h2
        have hc := refsamerecs_any Y L oo xo oc xc w2 h1 (HS.out.rv.below hb) g1.symm g2 (fun y hy => by have := h3 y hy; omega)
        rw [g1] at hc ⊢
        exact hc.mono fun e w' ⟨he, h4⟩ => ⟨he, hb.trans (h4.mono hb.size)⟩)
      have HGT := Lib.hid (show ∀ w2, Below wr.heap.size wr w2 → Calls Tryz.prog 20 #[.pointer (some ⟨p, 0, none⟩), idV i] w2 fun e w' => ∃ ao cap, e = .returned (recV { getR R i with ao := ao, cap := cap }) ∧ (IdsV w' ao cap (getR R i).deps ∧ Below wr.heap.size wr w') from fun w2 hb =>
        (get_any p _ R U2 i w2 (HS.out.bk.below hb) HIO.out).mono fun e w' ⟨oo, oc, he, h1, h2⟩ => ⟨oo, oc, he, IdsV.of_own h1 (getR_ok HS.out.bk HIO.out).2.2.2.1, hb.trans (h2.mono hb.size)⟩)
      have HRG := Lib.hid (show ∀ w2, Below wr.heap.size wr w2 → Calls Tryz.prog 21 #[.slice xo L.length xc, idV i] w2 fun e w' => e = .returned (recV (refGet L i)) ∧ (Below wr.heap.size wr w' ∧ Below w2.heap.size w2 w') from fun w2 hb =>
        (refget_any L xo xc i w2 (HS.out.rv.below hb)).mono fun e w' ⟨he, h2⟩ => ⟨he, hb.trans (h2.mono hb.size), h2⟩)
      have HSM := Lib.hid (show ∀ (w1 w2 : World) (ao : Option Addr) (cap : Nat), IdsV w1 ao cap (getR R i).deps → Below w1.heap.size w1 w2 → Below wr.heap.size wr w2 → Calls Tryz.prog 19 #[recV { getR R i with ao := ao, cap := cap }, recV (refGet L i)] w2 fun e w' => e = .returned (.bool true) ∧ Below wr.heap.size wr w' from fun w1 w2 ao cap ho hb1 hb =>
        (refsame_any { getR R i with ao := ao, cap := cap } (refGet L i) w2 (alike_core (get_ref HS.out.rr i)) (ho.below (B := 0) hb1) (refGet_v (HS.out.rv.below hb) i).1 (by have := (getR_ok HS.out.bk HIO.out).2.2.1; show (getR R i).deps.length ≤ 1000000; omega)).mono fun e w' ⟨he, h2⟩ => ⟨he, hb.trans (h2.mono hb.size)⟩)
      have HSI := Lib.hid (show ∀ d ∈ S, IdI d from fun d hd => by
        rw [← hS, setI_mem] at hd
        obtain ⟨y, hy, rfl⟩ := List.mem_map.1 hd
        exact (HS.out.ok y (List.mem_filter.1 hy).1).1.id)
      have HSL := Lib.hid (show S.length ≤ 1000000 by
        have h1 := setI_len ((metR L c i).map Rv.id)
        have h2 : (metR L c i).length ≤ L.length := List.length_filter_le _ _
        rw [hS, List.length_map] at h1
        omega)
      have HHG := Lib.hid (show ∀ w2, Below wr.heap.size wr w2 → Calls Tryz.prog 11 #[.pointer (some ⟨p, 0, none⟩), cmdV c, idV i, .int .i64 tag] w2 fun e w' => ∃ ao cap, e = .returned (.agg #[.slice ao S.length cap, .int .i64 hv, .int .i64 tag]) ∧ (IdsV w' ao cap S ∧ Below wr.heap.size wr w') from fun w2 hb =>
        (hang_any p _ R U2 c i tag w2 (HS.out.bk.below hb) HCO.out.key HCO.out.client (by omega)).mono fun e w' ⟨oo, oc, l, m, he, h1, h2, h3⟩ => by
          obtain ⟨g1, g2⟩ := HS.out.hang h1
          rw [hS] at g1
          rw [g2, hhv] at he
          subst g1
          exact ⟨oo, oc, he, IdsV.of_own h2 HSI.out, hb.trans (h3.mono hb.size)⟩)
      have HRH := Lib.hid (show ∀ w2, Below wr.heap.size wr w2 → Calls Tryz.prog 23 #[.slice xo L.length xc, cmdV c, idV i, .int .i64 tag] w2 fun e w' => ∃ ao cap, e = .returned (.agg #[.slice ao S.length cap, .int .i64 hv, .int .i64 tag]) ∧ (IdsV w' ao cap S ∧ Below wr.heap.size wr w' ∧ Below w2.heap.size w2 w') from fun w2 hb => by
        have hc := refhang_any L xo xc c i tag w2 (HS.out.rv.below hb) (by omega) (fun y hy => (HS.out.ok y hy).2.1)
        rw [hS, hhv] at hc
        exact hc.mono fun e w' ⟨oo, oc, he, h1, h2⟩ => ⟨oo, oc, he, IdsV.of_own h1 HSI.out, hb.trans (h2.mono hb.size), h2⟩)
      have HAS := Lib.hid (show ∀ (w1 w2 : World) (ao : Option Addr) (cap : Nat) (am : Option Addr) (cam : Nat), IdsV w1 ao cap S → Below w1.heap.size w1 w2 → IdsV w2 am cam S → Below wr.heap.size wr w2 → Calls Tryz.prog 22 #[.agg #[.slice ao S.length cap, .int .i64 hv, .int .i64 tag], .agg #[.slice am S.length cam, .int .i64 hv, .int .i64 tag]] w2 fun e w' => e = .returned (.bool true) ∧ Below wr.heap.size wr w' from fun w1 w2 ao cap am cam ho hb1 ho2 hb =>
        (refasame_any ao am cap cam S S hv tag hv tag w2 (ho.below (B := 0) hb1) ho2 HSL.out true (at_same _ _ _)).mono fun e w' ⟨he, h2⟩ => ⟨he, hb.trans (h2.mono hb.size)⟩)
      have HNX := Lib.hid (show ∀ w2, Below wr.heap.size wr w2 → Calls Tryz.prog 13 #[.pointer (some ⟨p, 0, none⟩), .int .i64 i.r] w2 fun e w' => e = .returned (.int .i64 nv) ∧ Below wr.heap.size wr w' from fun w2 hb =>
        (next_any p _ R U2 i.r w2 (HS.out.bk.below hb) nv hnv).mono fun e w' ⟨he, h2⟩ => ⟨he, hb.trans (h2.mono hb.size)⟩)
      have HRN := Lib.hid (show ∀ w2, Below wr.heap.size wr w2 → Calls Tryz.prog 24 #[.slice xo L.length xc, .int .i64 i.r] w2 fun e w' => e = .returned (.int .i64 nv) ∧ Below wr.heap.size wr w' from fun w2 hb =>
        (refnext_any L xo xc i.r w2 (HS.out.rv.below hb) (fun y hy => by
          have h1 := id_of_ok (HS.out.ok y hy).2.1
          rw [idOk_iff] at h1
          omega) nv (by rw [← hnv]; exact (next_ref HS.out.rr i.r).symm)).mono fun e w' ⟨he, h2⟩ => ⟨he, by rw [h2]; exact hb⟩)
      have HAC := Lib.hid (show ∀ w2, Below wr.heap.size wr w2 → Calls Tryz.prog 14 #[.pointer (some ⟨p, 0, none⟩)] w2 fun e w' => e = .returned (.bool a3) ∧ Below wr.heap.size wr w' from fun w2 hb =>
        (active_any p _ R U2 w2 (HS.out.bk.below hb) a3 ha3).mono fun e w' ⟨he, h2⟩ => ⟨he, hb.trans (h2.mono hb.size)⟩)
      have HWD := Lib.hid (show ∀ w2, Below wr.heap.size wr w2 → Calls Tryz.prog 15 #[.pointer (some ⟨p, 0, none⟩)] w2 fun e w' => e = .returned (.bool a0) ∧ Below wr.heap.size wr w' from fun w2 hb =>
        (walled_any p _ R U2 w2 (HS.out.bk.below hb) a0 ha0).mono fun e w' ⟨he, h2⟩ => ⟨he, hb.trans (h2.mono hb.size)⟩)
      have HW3 := Lib.hid (show ∀ w2, Below wr.heap.size wr w2 → Calls Tryz.prog 25 #[.slice xo L.length xc, .int .i64 3] w2 fun e w' => e = .returned (.bool a3) ∧ Below wr.heap.size wr w' from fun w2 hb =>
        (refwall_any L xo xc 3 w2 (HS.out.rv.below hb) a3 (by rw [← ha3]; exact (wall_ref HS.out.rr 3).symm)).mono fun e w' ⟨he, h2⟩ => ⟨he, by rw [h2]; exact hb⟩)
      have HW0 := Lib.hid (show ∀ w2, Below wr.heap.size wr w2 → Calls Tryz.prog 25 #[.slice xo L.length xc, .int .i64 0] w2 fun e w' => e = .returned (.bool a0) ∧ Below wr.heap.size wr w' from fun w2 hb =>
        (refwall_any L xo xc 0 w2 (HS.out.rv.below hb) a0 (by rw [← ha0]; exact (wall_ref HS.out.rr 0).symm)).mono fun e w' ⟨he, h2⟩ => ⟨he, by rw [h2]; exact hb⟩)
      clear hS hhv hnv ha3 ha0
      go_region_held3 (fun w' => w'.cell? ⟨w.heap.size, 0, none⟩ = some (.int .i64 c.kind) ∧ w'.cell? ⟨w.heap.size, 1, none⟩ = some (.int .i64 c.client) ∧ w'.cell? ⟨w.heap.size, 2, none⟩ = some (.int .i64 c.seq) ∧ w'.cell? ⟨w.heap.size, 3, none⟩ = some (.string c.key) ∧ w'.cell? ⟨w.heap.size, 4, none⟩ = some (.string c.val) ∧ w'.cell? ⟨w.heap.size, 5, none⟩ = some (.int .i64 c.rev) ∧ w'.cell? ⟨w.heap.size + 1, 0, none⟩ = some (.int .i64 i.r) ∧ w'.cell? ⟨w.heap.size + 1, 1, none⟩ = some (.int .i64 i.n)) (exact HST.out _ (by first | assumption | exact (Below.refl _ _).drew)) (first | (go_at_call 18; refine (HAL.out _ (Below.refl _ _).drew).mono ?_; rintro e w1 ⟨o1, q1, Y, rfl, hy1, hb1⟩) | (go_at_call 17; refine (HSR.out _ _ _ _ hy1 hb1).mono ?_; rintro e w2 ⟨rfl, hb2⟩) | (go_at_call 20; refine (HGT.out _ hb2).mono ?_; rintro e w3 ⟨ao3, cap3, rfl, ho3, hb3⟩) | (go_at_call 21; refine (HRG.out _ hb3).mono ?_; rintro e w4 ⟨rfl, hb4, hc4⟩) | (go_at_call 19; refine (HSM.out _ _ _ _ ho3 hc4 hb4).mono ?_; rintro e w5 ⟨rfl, hb5⟩) | (go_at_call 11; refine (HHG.out _ hb5).mono ?_; rintro e w6 ⟨ao6, cap6, rfl, ho6, hb6⟩) | (go_at_call 23; refine (HRH.out _ hb6).mono ?_; rintro e w7 ⟨ao7, cap7, rfl, ho7, hb7, hc7⟩) | (go_at_call 22; refine (HAS.out _ _ _ _ _ _ ho6 hc7 ho7 hb7).mono ?_; rintro e w8 ⟨rfl, hb8⟩) | (go_at_call 13; refine (HNX.out _ hb8).mono ?_; rintro e w9 ⟨rfl, hb9⟩) | (go_at_call 24; refine (HRN.out _ hb9).mono ?_; rintro e w10 ⟨rfl, hb10⟩) | (go_at_call 14; refine (HAC.out _ hb10).mono ?_; rintro e w11 ⟨rfl, hb11⟩) | (go_at_call 15; refine (HWD.out _ hb12).mono ?_; rintro e w13 ⟨rfl, hb13⟩) | (go_at_call 25; first | (with_reducible refine (HW3.out _ hb11).mono ?_; rintro e w12 ⟨rfl, hb12⟩) | (with_reducible refine (HW0.out _ hb13).mono ?_; rintro e w14 ⟨rfl, hb14⟩)))
      have HB14 := Lib.hid hb14
      clear hb1 hb2 hb3 hb4 hb5 hb6 hb7 hb8 hb9 hb10 hb11 hb12 hb13 hb14 hc4 hc7 ho3 ho6 ho7 hy1 HAL HSR HGT HRG HSM HHG HRH HAS HNX HRN HAC HWD HW3 HW0 HST HSI HSL
      go_wp2_with fail
      go_meet
      exact ⟨rfl, HB14.out⟩
    case rest =>
    obtain ⟨rfl, hb6⟩ := hcut
    obtain ⟨w6, rfl⟩ : ∃ w1, w1 = wc := ⟨_, rfl⟩
    have HS6 := Lib.hid (HS.out.below hb6)
    have HB6 := Lib.hid (HBR.out.trans (hb6.mono HBR.out.size))
    clear hb6 HS
    by_cases hkl : k < Z.length
    · have hne : ((k : Int) == (Z.length : Int)) = false := by simp; omega
      obtain ⟨r, hr⟩ : ∃ r, Z[k]? = some r := ⟨_, List.getElem?_eq_getElem hkl⟩
      obtain ⟨b, off, e0, hbl, hrec⟩ := HZ.out.row k r hr
      have HI := Lib.hid (HZ.out.ok r (List.mem_of_getElem? hr))
      have HLR := Lib.hid (HALZ.out r (List.mem_of_getElem? hr))
      subst e0
      have HRC := Lib.hid (show ∀ wx, Below w.heap.size w wx → RecAt wx b (off + k * 16) r from fun wx hb => hrec.below hb hbl)
      clear hr hrec
      have HRP := Lib.hid (refput_any L xo xc r w6 HS6.out.rv (HI.out.below HB6.out) (by omega) (fun y hy => (HS6.out.ok y hy).2.2.1) (by have := HLR.out; omega) (by have := HLR.out; omega))
      obtain ⟨c0, c1, c2, c3, c4, c5, c6, c7, c8, c9, c10, c11, c12, c13, c14, c15⟩ := HRC.out w6 HB6.out
      go_wp2_with fail
      refine HRP.out.mono ?_
      clear c0 c1 c2 c3 c4 c5 c6 c7 c8 c9 c10 c11 c12 c13 c14 c15
      rintro e w7 ⟨yo, yc, rfl, f1, f2, f3⟩
      have HF1 := Lib.hid f1
      have HF2 := Lib.hid f2
      have HF3 := Lib.hid f3
      have HB7 := Lib.hid (HB6.out.trans (f3.mono HB6.out.size))
      clear f1 f2 f3 HRP
      have HPT := Lib.hid (bput_any p (4 * (X.length + k)) R U2 r w7 (HS6.out.bk.below HF3.out) (HI.out.below HB7.out) (HT.out.next HB7.out) (by have := HLR.out; omega) (by have := HLR.out; omega) (by omega))
      obtain ⟨c0, c1, c2, c3, c4, c5, c6, c7, c8, c9, c10, c11, c12, c13, c14, c15⟩ := HRC.out w7 HB7.out
      have hpl := putL_len (r := r) HS6.out.rr.so
      obtain ⟨L2, hL2⟩ : ∃ L2, putL L r = L2 := ⟨_, rfl⟩
      obtain ⟨pe, hpe⟩ : ∃ pe, refE L r = pe := ⟨_, rfl⟩
      have HPE := Lib.hid (show putE R r = pe by rw [ref_same HS6.out.rr r, hpe])
      have HL2 := Lib.hid hL2
      rw [hL2] at hpl
      rw [hL2, hpe]
      clear hL2 hpe
      go_wp2_with fail
      refine HPT.out.mono ?_
      clear c0 c1 c2 c3 c4 c5 c6 c7 c8 c9 c10 c11 c12 c13 c14 c15
      rintro e w8 ⟨rfl, R2, U3, g1, g2, g3, g4⟩
      rw [HPE.out]
      have HS8 := Lib.hid (HS6.out.put HF1.out HF2.out HF3.out (HI.out.below HB.out) (by have := HLR.out; omega) (by have := HLR.out; omega) g1 g2 g3 g4)
      rw [HL2.out, show 4 * (X.length + k) + 4 = 4 * (X.length + (k + 1)) by omega] at HS8
      clear g1 g2 g3 g4 HPT
      go_wp2_with fail
      go_roundw
      case rel => exact ⟨k + 1, R2, U3, yo, yc, L2, rfl, by go_num, by omega, by omega, HS8.out⟩
      case measure => simp [intOf]; omega
    · obtain rfl : k = Z.length := by omega
      have HAW := Lib.hid (awake_any w6 (HT.out.next HB6.out))
      go_wp2_with fail
      refine HAW.out.mono ?_
      rintro e w5 ⟨rfl, hb⟩
      have HBE := Lib.hid (HB6.out.trans (hb.mono HB6.out.size))
      clear hb HAW
      go_wp2_with fail
      go_ret
      exact ⟨rfl, HBE.out⟩
end Go.Proofs.YtlbkbjeajcadiaaGreatDoor.B
