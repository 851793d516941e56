/- Several texts in one. -/
import Derived.Test.YtlbkbjeajcadiaaGreatDoorBkW

/- The book in memory: New. -/
namespace Go.Proofs.YtlbkbjeajcadiaaGreatDoor.B
open Go.RowKit Go.Proofs.YtlbkbjeajcadiaaGreatDoor.M Go.BigFrame Go.Maps Go.Proofs.YtlbkbjeajcadiaaGreatDoor.O Go.Proofs.YtlbkbjeajcadiaaGreatDoor.P Go.Proofs.YtlbkbjeajcadiaaGreatDoor.Mp Go.Proofs.YtlbkbjeajcadiaaGreatDoor.Rw Go.Proofs.YtlbkbjeajcadiaaGreatDoor.R
set_option linter.unusedVariables false
set_option linter.unusedSimpArgs false

theorem bnote_any (p n : Nat) (R : List (O.Id × Rv)) (U : Nat → Prop) (r : Rv) (w : World) (h : Bk w p n R U) (h0 : RvOk w r) (hg : recOk r = true) (hl : r.deps.length ≤ 1000) (hk : r.cmd.key.size ≤ 1000) (hn : n ≤ 10000) :
    Calls Tryz.prog 29 #[.pointer (some ⟨p, 0, none⟩), recV r] w fun e w' => e = .returned (.tuple #[]) ∧ ∃ ao cap U2, Bk w' p (n + 4) (putD R r.id { r with ao := ao, cap := cap }) U2 ∧ Mods U w w' ∧ ∀ j, U2 j → U j ∨ (w.heap.size ≤ j ∧ j < w'.heap.size) := by
  obtain ⟨x, b, A, Fi, h1, h2, h3⟩ := h
  refine (note_at p x b n R A Fi r w h1 h0 hg hl hk hn).mono ?_
  rintro e w' ⟨rfl, ao, cap, Fi2, k1, k2, k3, k4⟩
  refine ⟨rfl, ao, cap, fun j => U j ∨ (w.heap.size ≤ j ∧ j < w'.heap.size), ⟨x, b, _, Fi2, k1, fun j hj => ?_, fun j hj => hj.elim (fun h => Nat.lt_of_lt_of_le (h3 j h) k2.size) (fun h => h.2)⟩, k2.mono (fun j _ hj => hj.elim (fun e => h2 j (.inr (.inr (.inl e)))) (fun h => h2 j (.inr (.inr (.inr (.inl h)))))), fun j hj => hj⟩
  rcases hj with rfl | rfl | rfl | hj | ⟨q, hq, a, e, hne, rfl⟩
  · exact .inl (h2 _ (.inl rfl))
  · exact .inl (h2 _ (.inr (.inl rfl)))
  · exact .inl (h2 _ (.inr (.inr (.inl rfl))))
  · exact (k3 j hj).imp (fun h => h2 j (.inr (.inr (.inr (.inl h))))) id
  · rcases mem_putD.1 hq with ⟨hq, _⟩ | rfl
    · exact .inl (h2 _ (.inr (.inr (.inr (.inr ⟨q, hq, a, e, hne, rfl⟩)))))
    · exact .inr (k4 a e)
/-- the document's New -/
def newL (X : List Rv) : List Rv := X.foldl (fun l r => if recOk r = true then withL l r else l) []
theorem newL_next {X : List Rv} {k : Nat} {r : Rv} (h : X[k]? = some r) : newL (X.take (k + 1)) = if recOk r = true then withL (newL (X.take k)) r else newL (X.take k) := by
  unfold newL
  rw [List.take_add_one, h, List.foldl_append]
  rfl
theorem ref_nil {R : List (O.Id × Rv)} (h : RefRel R []) : R = [] := by
  cases R with
  | nil => rfl
  | cons a t =>
    obtain ⟨x, hx, _⟩ := h.fwd a List.mem_cons_self
    cases hx
set_option maxRecDepth 100000 in
set_option maxHeartbeats 4000000 in
theorem new_any (X : List Rv) (ao : Option Addr) (cap : Nat) (w : World) (h : RecsV w ao cap X) (hT : Tabs w) (hlen : X.length ≤ 1000) (hdl : ∀ x ∈ X, x.deps.length ≤ 1000) (hkl : ∀ x ∈ X, x.cmd.key.size ≤ 1000) :
    Calls Tryz.prog 9 #[.pointer none, .slice ao X.length cap] w fun e w' => ∃ p R U, e = .returned (.pointer (some ⟨p, 0, none⟩)) ∧ (Bk w' p (4 * X.length) R U ∧ RefRel R (newL X) ∧ (∀ j, U j → w.heap.size ≤ j) ∧ Below w.heap.size w w') := by
  obtain ⟨hl1, hl2⟩ := h.le
  unfold maxLen at hl2
  have H := Lib.hid h
  have HT := Lib.hid hT
  have HDL := Lib.hid hdl
  have HKL := Lib.hid hkl
  clear h hT hdl hkl
  have HNW := Lib.hid (ixnew_any w)
  have hmm := @run_makeMap Tryz.prog
  go_enter Tryz.func9, Tryz.ntmps9
  go_wp2_with fail
  refine HNW.out.mono ?_
  rintro e w1 ⟨x, F, rfl, hix, hF, hx, hb1⟩
  have HIX := Lib.hid hix
  have HF := Lib.hid hF
  have HXG := Lib.hid hx
  have HB1 := Lib.hid hb1
  clear hix hF hx hb1 HNW
  go_upto_region 2 with fail
  obtain ⟨W, hW⟩ : ∃ W, W = (w1.alloc (.map #[] 0)).alloc (.cells #[.pointer (some ⟨x, 0, none⟩), .map (some w1.heap.size), .pointer none] 63) := ⟨_, rfl⟩
  rw [← hW]
  have hbW : Below w1.heap.size w1 W := by rw [hW]; exact ((Below.refl _ _).alloc (Nat.le_refl _) _).alloc (by simp) _
  have hbox : W.heap[w1.heap.size + 1]? = some (.cells #[.pointer (some ⟨x, 0, none⟩), .map (some w1.heap.size), .pointer none] 63 (0, 0)) := by rw [hW, heap_al, if_pos (by simp)]
  have hmap : MapL sIR W w1.heap.size 0 [] := by
    rw [hW]
    exact (MapL.made (S := sIR) w1).below ((Below.refl _ _).alloc (Nat.le_refl _) _)
  have HBW := Lib.hid (HB1.out.trans (hbW.mono HB1.out.size))
  have hxl := HIX.out.lt
  have hnx := HIX.out.nx
  have hfl := HIX.out.flt
  have HBK := Lib.hid (show Bk W (w1.heap.size + 1) 0 [] (fun j => w.heap.size ≤ j ∧ j < W.heap.size) from by
    refine ⟨x, w1.heap.size, [], F, ⟨hbox, HIX.out.below hbW, BkRel.nil, hmap, fun q hq => (by cases hq), fun q hq => (by cases hq), ⟨fun h => by have := hfl _ h; omega, by omega, by omega, fun h => by have := hfl _ h; omega, by omega⟩⟩, ?_, fun j hj => hj.2⟩
    have z1 := HB1.out.size
    have z2 := M.heap_lt hbox
    have z3 := HXG.out
    rintro j (rfl | rfl | rfl | hj | ⟨q, hq, _⟩)
    · exact ⟨by omega, by omega⟩
    · exact ⟨by omega, by omega⟩
    · exact ⟨by omega, by omega⟩
    · have := hfl j hj
      exact ⟨HF.out j hj, by omega⟩
    · cases hq)
  obtain ⟨p, hp⟩ : ∃ p, w1.heap.size + 1 = p := ⟨_, rfl⟩
  rw [hp] at HBK ⊢
  clear hW hbW hbox hmap hxl hnx hfl hp
  go_wp2_with fail
  go_loopw [15] (fun kv wr => ∃ (k : Nat) (R : List (O.Id × Rv)) (U : Nat → Prop), kv = .int .i64 k ∧ k ≤ X.length ∧ Bk wr p (4 * k) R U ∧ RefRel R (newL (X.take k)) ∧ (∀ j, U j → w.heap.size ≤ j) ∧ Below w.heap.size w wr) (fun kv _ => X.length - (intOf kv).toNat)
  case atStart => exact ⟨0, [], _, rfl, Nat.zero_le _, HBK.out, RefRel.nil, fun j hj => hj.1, HBW.out⟩
  case round =>
    obtain ⟨k, R, U, rfl, hk, hbk, hrr, hU, hb⟩ := hrel
    have HK := Lib.hid hbk
    have HRR := Lib.hid hrr
    have HU := Lib.hid hU
    have HBR := Lib.hid hb
    clear hbk hrr hU hb HBK HBW
    by_cases hkl : k < X.length
    · have hii : (k : Int) < (X.length : Int) := by omega
      obtain ⟨r, hr⟩ : ∃ r, X[k]? = some r := ⟨_, List.getElem?_eq_getElem hkl⟩
      have HNX := Lib.hid (newL_next hr)
      obtain ⟨b, off, e0, hbl, hrec⟩ := H.out.row k r hr
      have HI := Lib.hid (H.out.ok r (List.mem_of_getElem? hr))
      have HDR := Lib.hid (HDL.out r (List.mem_of_getElem? hr))
      have HKR := Lib.hid (HKL.out r (List.mem_of_getElem? hr))
      subst e0
      obtain ⟨c0, c1, c2, c3, c4, c5, c6, c7, c8, c9, c10, c11, c12, c13, c14, c15⟩ := hrec.below HBR.out hbl
      clear hr hrec
      go_upto_region 5 with fail
      obtain ⟨w2, hw2⟩ : ∃ w2, w2 = wr.alloc (recO r) := ⟨_, rfl⟩
      rw [← hw2]
      have hb2 : Below wr.heap.size wr w2 := by rw [hw2]; exact (Below.refl _ _).alloc (Nat.le_refl _) _
      have HX2 := Lib.hid (show w2.heap[wr.heap.size]? = some (recO r) by rw [hw2]; exact heap_alloc_new wr _)
      have HB2 := Lib.hid (HBR.out.trans (hb2.mono HBR.out.size))
      have HK2 := Lib.hid (HK.out.below hb2)
      have HWL := Lib.hid HK.out.lts
      clear hw2 hb2 c0 c1 c2 c3 c4 c5 c6 c7 c8 c9 c10 c11 c12 c13 c14 c15
      obtain ⟨v, hv⟩ : ∃ v, (if recOk r = true then (0 : Int) else 4) = v := ⟨_, rfl⟩
      have HCK := Lib.hid (reccheck_any r w2 (HI.out.below HB2.out) (HT.out.next HB2.out) (by have := HDR.out; omega) (by have := HKR.out; omega) v hv)
      go_wp2_with (refine wpList_loadRec (by rfl) _ (by rfl) wr.heap.size r (by rfl) HX2.out ?_)
      refine HCK.out.mono ?_
      rintro e w3 ⟨rfl, hb3⟩
      have HB3 := Lib.hid (HB2.out.trans (hb3.mono HB2.out.size))
      have HX3 := Lib.hid ((hb3.block _ (M.heap_lt HX2.out)).trans HX2.out)
      have HK3 := Lib.hid (HK2.out.below hb3)
      clear hb3 HCK HX2 HK2
      cases hr : recOk r with
      | false =>
        have hv2 : v = 4 := by rw [← hv, hr]; rfl
        have HE := Lib.hid (show newL (X.take (k + 1)) = newL (X.take k) by rw [HNX.out, hr]; rfl)
        subst hv2
        clear hv hr
        go_wp2_with fail
        go_roundw
        case rel =>
          obtain ⟨x2, b2, A2, F2, h1, h2, h3⟩ := HK3.out
          refine ⟨k + 1, R, U, by go_num, by omega, ⟨x2, b2, A2, F2, ⟨h1.box, h1.ix.mono (by omega), h1.rel, h1.recs.mono (by omega), h1.ok, h1.sep, h1.ne⟩, h2, h3⟩, ?_, HU.out, HB3.out⟩
          rw [HE.out]
          exact HRR.out
        case measure => simp [intOf]; omega
      | true =>
        have hv2 : v = 0 := by rw [← hv, hr]; rfl
        have HE := Lib.hid (show newL (X.take (k + 1)) = withL (newL (X.take k)) r by rw [HNX.out, hr]; rfl)
        have HRK := Lib.hid hr
        subst hv2
        clear hv hr
        have HNT := Lib.hid (bnote_any p (4 * k) R U r w3 HK3.out (HI.out.below HB3.out) HRK.out HDR.out HKR.out (by omega))
        go_wp2_with (refine wpList_loadRec (by rfl) _ (by rfl) wr.heap.size r (by rfl) HX3.out ?_)
        refine HNT.out.mono ?_
        rintro e w4 ⟨rfl, ao2, cap2, U2, g1, g2, g3⟩
        have G1 := Lib.hid g1
        have G2 := Lib.hid g2
        have G3 := Lib.hid g3
        clear g1 g2 g3 HNT
        go_wp2_with fail
        go_roundw
        case rel =>
          refine ⟨k + 1, _, U2, by go_num, by omega, G1.out, ?_, fun j hj => ?_, HB3.out.trans (G2.out.below (fun j hj => HU.out j hj) HB3.out.size)⟩
          · rw [HE.out]
            exact HRR.out.put rfl
          · rcases G3.out j hj with h | h
            · exact HU.out j h
            · have := HB3.out.size; omega
        case measure => simp [intOf]; omega
    · obtain rfl : k = X.length := by omega
      have hii : ¬ (X.length : Int) < (X.length : Int) := by omega
      go_wp2_with fail
      go_ret
      refine ⟨p, rfl, R, U, HK.out, ?_, HU.out, HBR.out⟩
      have := HRR.out
      rw [List.take_of_length_le (Nat.le_refl _)] at this
      exact this
end Go.Proofs.YtlbkbjeajcadiaaGreatDoor.B

/- The document's Great, Writes, Meet of commands. -/
namespace Go.Proofs.YtlbkbjeajcadiaaGreatDoor.B
open Go.RowKit Go.Proofs.YtlbkbjeajcadiaaGreatDoor.M Go.BigFrame Go.Maps Go.Proofs.YtlbkbjeajcadiaaGreatDoor.O Go.Proofs.YtlbkbjeajcadiaaGreatDoor.P Go.Proofs.YtlbkbjeajcadiaaGreatDoor.Mp Go.Proofs.YtlbkbjeajcadiaaGreatDoor.Rw Go.Proofs.YtlbkbjeajcadiaaGreatDoor.R
set_option linter.unusedVariables false
set_option linter.unusedSimpArgs false

def great6 (c : Cmd) : Bool := decide (200 < c.key.size) || decide (2000 < c.val.size)
theorem great6_no {c : Cmd} (h : great6 c = false) : c.key.size ≤ 200 ∧ c.val.size ≤ 2000 := by
  unfold great6 at h
  simp only [Bool.or_eq_false_iff, decide_eq_false_iff_not] at h
  omega
set_option maxRecDepth 100000 in
set_option maxHeartbeats 4000000 in
theorem great6_any (c : Cmd) (w : World) (hc : CmdOk c) (v : Bool) (hv : great6 c = v) : Calls Tryz.prog 7 #[cmdV c] w fun e w' => e = .returned (.bool v) ∧ Below w.heap.size w w' := by
  have hk := hc.key
  have hv2 := hc.val
  unfold maxLen at hk hv2
  have HB : Hid (Below w.heap.size w (w.alloc (.cells #[.int .i64 c.kind, .int .i64 c.client, .int .i64 c.seq, .string c.key, .string c.val, .int .i64 c.rev] 24))) := Lib.hid ((Below.refl _ _).alloc (Nat.le_refl _) _)
  by_cases h1 : 200 < c.key.size
  · have HE := Lib.hid (show v = true by rw [← hv]; unfold great6; rw [decide_eq_true h1]; rfl)
    have e1 : (200 : Int) < (c.key.size : Int) := by omega
    clear hv
    go_enter Tryz.func7, Tryz.ntmps7
    go_wp2_with fail
    go_ret
    exact ⟨by rw [HE.out]; rfl, HB.out⟩
  · have e1 : ¬ (200 : Int) < (c.key.size : Int) := by omega
    by_cases h2 : 2000 < c.val.size
    · have HE := Lib.hid (show v = true by rw [← hv]; unfold great6; rw [decide_eq_true h2, Bool.or_true])
      have e2 : (2000 : Int) < (c.val.size : Int) := by omega
      clear hv
      go_enter Tryz.func7, Tryz.ntmps7
      go_wp2_with fail
      go_ret
      exact ⟨by rw [HE.out]; rfl, HB.out⟩
    · have HE := Lib.hid (show v = false by rw [← hv]; unfold great6; rw [decide_eq_false h1, decide_eq_false h2]; rfl)
      have e2 : ¬ (2000 : Int) < (c.val.size : Int) := by omega
      clear hv
      go_enter Tryz.func7, Tryz.ntmps7
      go_wp2_with fail
      go_ret
      exact ⟨by rw [HE.out]; rfl, HB.out⟩
set_option maxRecDepth 100000 in
set_option maxHeartbeats 4000000 in
theorem refwrites_any (c : Cmd) (w : World) (v : Bool) (hv : writes c = v) : Calls Tryz.prog 34 #[cmdV c] w fun e w' => e = .returned (.bool v) ∧ Below w.heap.size w w' := by
  subst hv
  have HB : Hid (Below w.heap.size w (w.alloc (.cells #[.int .i64 c.kind, .int .i64 c.client, .int .i64 c.seq, .string c.key, .string c.val, .int .i64 c.rev] 24))) := Lib.hid ((Below.refl _ _).alloc (Nat.le_refl _) _)
  have hw : writes c = ((c.kind == 2) || (c.kind == 3) || (c.kind == 4)) := by unfold writes; rw [dec_beq, dec_beq, dec_beq]
  obtain ⟨b2, h2⟩ : ∃ b, b = (c.kind == 2) := ⟨_, rfl⟩
  obtain ⟨b3, h3⟩ : ∃ b, b = (c.kind == 3) := ⟨_, rfl⟩
  obtain ⟨b4, h4⟩ : ∃ b, b = (c.kind == 4) := ⟨_, rfl⟩
  rw [← h2, ← h3, ← h4] at hw
  have HV := Lib.hid hw
  have e2 := h2.symm
  have e3 := h3.symm
  have e4 := h4.symm
  clear h2 h3 h4 hw
  cases b2 <;> cases b3
  all_goals
    go_enter Tryz.func34, Tryz.ntmps34
    go_wp2_with fail
    go_ret
    exact ⟨by rw [HV.out]; rfl, HB.out⟩
set_option maxRecDepth 100000 in
set_option maxHeartbeats 4000000 in
theorem refmeet_any (a b : Cmd) (w : World) (v : Bool) (hv : meet a b = v) : Calls Tryz.prog 12 #[cmdV a, cmdV b] w fun e w' => e = .returned (.bool v) ∧ Below w.heap.size w w' := by
  subst hv
  have hw : meet a b = (if ((a.kind == 0) || (b.kind == 0)) = true then false else if (((a.kind == 6) || (b.kind == 6)) || (a.client == b.client)) = true then true else (writes a || writes b) && ((a.key.toList == b.key.toList) || ((a.kind == 5) && begs b.key a.key) || ((b.kind == 5) && begs a.key b.key))) := by
    unfold meet keysMeet; rw [ba_eq]; simp only [dec_beq]
  obtain ⟨wa, hwa⟩ : ∃ x, writes a = x := ⟨_, rfl⟩
  obtain ⟨wb, hwb⟩ : ∃ x, writes b = x := ⟨_, rfl⟩
  obtain ⟨u, hu⟩ : ∃ x, begs b.key a.key = x := ⟨_, rfl⟩
  obtain ⟨t, ht⟩ : ∃ x, begs a.key b.key = x := ⟨_, rfl⟩
  rw [hwa, hwb, hu, ht] at hw
  have HU := Lib.hid (fun W => show Calls Tryz.prog 35 #[.string b.key, .string a.key] W fun e w' => e = .returned (.bool u) ∧ W = w' from by rw [← hu]; exact refBegins_any b.key a.key W)
  have HT := Lib.hid (fun W => show Calls Tryz.prog 35 #[.string a.key, .string b.key] W fun e w' => e = .returned (.bool t) ∧ W = w' from by rw [← ht]; exact refBegins_any a.key b.key W)
  have HWA := Lib.hid (fun W => refwrites_any a W wa hwa)
  have HWB := Lib.hid (fun W => refwrites_any b W wb hwb)
  have HV := Lib.hid hw
  clear hw hu ht hwa hwb
  go_enter Tryz.func12, Tryz.ntmps12
  go_upto_region 1 with fail
  obtain ⟨W, hW⟩ : ∃ W, W = (w.alloc (.cells (cmdA a) 24)).alloc (.cells (cmdA b) 24) := ⟨_, rfl⟩
  rw [← hW]
  have HP : Hid (PairAt a b w W) := Lib.hid (by rw [hW]; exact pair_start a b w)
  clear hW
  obtain ⟨⟨c0, c1, c2, c3, c4, c5⟩, _⟩ := box6 HP.out.ba
  obtain ⟨⟨d0, d1, d2, d3, d4, d5⟩, _⟩ := box6 HP.out.bb
  cases h1 : (a.kind == 0) with
  | true =>
    rw [h1] at HV
    go_wp2_with fail
    go_ret
    exact ⟨by rw [HV.out]; rfl, HP.out.bel⟩
  | false =>
    rw [h1] at HV
    cases h2 : (b.kind == 0) with
    | true =>
      rw [h2] at HV
      go_wp2_with fail
      go_ret
      exact ⟨by rw [HV.out]; rfl, HP.out.bel⟩
    | false =>
      rw [h2] at HV
      cases h3 : (a.kind == 6) with
      | true =>
        rw [h3] at HV
        go_wp2_with fail
        go_ret
        exact ⟨by rw [HV.out]; rfl, HP.out.bel⟩
      | false =>
        rw [h3] at HV
        cases h4 : (b.kind == 6) with
        | true =>
          rw [h4] at HV
          go_wp2_with fail
          go_ret
          exact ⟨by rw [HV.out]; rfl, HP.out.bel⟩
        | false =>
          rw [h4] at HV
          cases h5 : (a.client == b.client) with
          | true =>
            rw [h5] at HV
            go_wp2_with fail
            go_ret
            exact ⟨by rw [HV.out]; rfl, HP.out.bel⟩
          | false =>
            rw [h5] at HV
            go_wp2_with fail
            refine (HWA.out _).mono ?_
            rintro e w2 ⟨rfl, hb2⟩
            have HP := Lib.hid (HP.out.next hb2)
            clear hb2 c0 c1 c2 c3 c4 c5 d0 d1 d2 d3 d4 d5
            obtain ⟨⟨c0, c1, c2, c3, c4, c5⟩, _⟩ := box6 HP.out.ba
            obtain ⟨⟨d0, d1, d2, d3, d4, d5⟩, _⟩ := box6 HP.out.bb
            cases wa with
            | true =>
              go_upto_region 7 with fail
              cases e1 : (a.key.toList == b.key.toList) with
              | true =>
                rw [e1] at HV
                go_wp2_with fail
                go_ret
                exact ⟨by rw [HV.out]; rfl, HP.out.bel⟩
              | false =>
                rw [e1] at HV
                cases e2 : (a.kind == 5) with
                | true =>
                  rw [e2] at HV
                  go_wp2_with fail
                  refine (HU.out _).mono ?_
                  rintro e w2 ⟨rfl, rfl⟩
                  cases u with
                  | true =>
                    go_wp2_with fail
                    go_ret
                    exact ⟨by rw [HV.out]; rfl, HP.out.bel⟩
                  | false =>
                    cases e3 : (b.kind == 5) with
                    | true =>
                      rw [e3] at HV
                      go_wp2_with fail
                      refine (HT.out _).mono ?_
                      rintro e w2 ⟨rfl, rfl⟩
                      go_wp2_with fail
                      go_ret
                      exact ⟨by rw [HV.out]; rfl, HP.out.bel⟩
                    | false =>
                      rw [e3] at HV
                      go_wp2_with fail
                      go_ret
                      exact ⟨by rw [HV.out]; rfl, HP.out.bel⟩
                | false =>
                  rw [e2] at HV
                  cases e3 : (b.kind == 5) with
                  | true =>
                    rw [e3] at HV
                    go_wp2_with fail
                    refine (HT.out _).mono ?_
                    rintro e w2 ⟨rfl, rfl⟩
                    go_wp2_with fail
                    go_ret
                    exact ⟨by rw [HV.out]; rfl, HP.out.bel⟩
                  | false =>
                    rw [e3] at HV
                    go_wp2_with fail
                    go_ret
                    exact ⟨by rw [HV.out]; rfl, HP.out.bel⟩
            | false =>
              go_wp2_with fail
              refine (HWB.out _).mono ?_
              rintro e w2 ⟨rfl, hb2⟩
              have HP := Lib.hid (HP.out.next hb2)
              clear hb2 c0 c1 c2 c3 c4 c5 d0 d1 d2 d3 d4 d5
              obtain ⟨⟨c0, c1, c2, c3, c4, c5⟩, _⟩ := box6 HP.out.ba
              obtain ⟨⟨d0, d1, d2, d3, d4, d5⟩, _⟩ := box6 HP.out.bb
              cases wb with
              | false =>
                go_wp2_with fail
                go_ret
                exact ⟨by rw [HV.out]; rfl, HP.out.bel⟩
              | true =>
                go_upto_region 7 with fail
                cases e1 : (a.key.toList == b.key.toList) with
                | true =>
                  rw [e1] at HV
                  go_wp2_with fail
                  go_ret
                  exact ⟨by rw [HV.out]; rfl, HP.out.bel⟩
                | false =>
                  rw [e1] at HV
                  cases e2 : (a.kind == 5) with
                  | true =>
                    rw [e2] at HV
                    go_wp2_with fail
                    refine (HU.out _).mono ?_
                    rintro e w2 ⟨rfl, rfl⟩
                    cases u with
                    | true =>
                      go_wp2_with fail
                      go_ret
                      exact ⟨by rw [HV.out]; rfl, HP.out.bel⟩
                    | false =>
                      cases e3 : (b.kind == 5) with
                      | true =>
                        rw [e3] at HV
                        go_wp2_with fail
                        refine (HT.out _).mono ?_
                        rintro e w2 ⟨rfl, rfl⟩
                        go_wp2_with fail
                        go_ret
                        exact ⟨by rw [HV.out]; rfl, HP.out.bel⟩
                      | false =>
                        rw [e3] at HV
                        go_wp2_with fail
                        go_ret
                        exact ⟨by rw [HV.out]; rfl, HP.out.bel⟩
                  | false =>
                    rw [e2] at HV
                    cases e3 : (b.kind == 5) with
                    | true =>
                      rw [e3] at HV
                      go_wp2_with fail
                      refine (HT.out _).mono ?_
                      rintro e w2 ⟨rfl, rfl⟩
                      go_wp2_with fail
                      go_ret
                      exact ⟨by rw [HV.out]; rfl, HP.out.bel⟩
                    | false =>
                      rw [e3] at HV
                      go_wp2_with fail
                      go_ret
                      exact ⟨by rw [HV.out]; rfl, HP.out.bel⟩
end Go.Proofs.YtlbkbjeajcadiaaGreatDoor.B
