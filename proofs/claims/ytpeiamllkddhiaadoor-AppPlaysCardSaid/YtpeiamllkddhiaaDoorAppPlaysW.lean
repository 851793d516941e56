/- The walk of AppPlays. -/
import Derived.Test.YtpeiamllkddhiaaDoorAppZ
import Derived.Test.YtpeiamllkddhiaaDoorAppM
import Derived.Deep.RegionHeld3
import Derived.Deep.DeepCutAuto
namespace Go.Proofs.YtpeiamllkddhiaaDoor.P
open Go.RowKit Go.Proofs.YtpeiamllkddhiaaDoor.R Go.Proofs.YtpeiamllkddhiaaDoor.M Go.BigFrame
set_option linter.unusedVariables false
set_option linter.unusedSimpArgs false

theorem SetsV.mods {w w1 : World} {p b n : Nat} {ao : Option Addr} {cap : Nat} {A B : List Ent} (h : SetsV w ao cap A) (ha : AppAt w p b n B) (hm : Mods (fun k => k = b) w w1) : SetsV w1 ao cap A := by
  obtain ⟨D, ⟨es, clock, hb, _⟩, _⟩ := ha.map
  refine ⟨h.le, fun i e hi => ?_⟩
  obtain ⟨g, off, e1, hl, c0, c1, c2⟩ := h.row i e hi
  have hne : g ≠ b := by
    rintro rfl
    simp [World.cell?, hb] at c0
  exact ⟨g, off, e1, Nat.lt_of_lt_of_le hl hm.size, (hm.cell (p := ⟨g, _, none⟩) hl hne).trans c0, (hm.cell (p := ⟨g, _, none⟩) hl hne).trans c1, (hm.cell (p := ⟨g, _, none⟩) hl hne).trans c2⟩
/-- settings a, their copy c, the document's x and then -/
structure PlayAt (w wx : World) (p b n : Nat) (A : List Ent) (ox : Option Addr) (cx : Nat) (X : List Ent) (pc bc nc : Nat) (C : List Ent) (ot : Option Addr) (ct : Nat) : Prop where
  a : RunAt w wx p b n A
  c : RunAt w wx pc bc nc C
  x : SetsV wx ox cx X
  t : SetsV wx ot ct C
  g : Good nc C
  le : nc ≤ 60
  n1 : pc ≠ b
  n2 : bc ≠ b
section
variable {w w1 w2 : World} {p b n pc bc nc cx ct : Nat} {A X C : List Ent} {ox ot : Option Addr}
theorem PlayAt.next (h : PlayAt w w1 p b n A ox cx X pc bc nc C ot ct) (hb : Below w1.heap.size w1 w2) : PlayAt w w2 p b n A ox cx X pc bc nc C ot ct :=
  ⟨h.a.next hb, h.c.next hb, h.x.below hb, h.t.below hb, h.g, h.le, h.n1, h.n2⟩
theorem PlayAt.did (h : PlayAt w w1 p b n A ox cx X pc bc nc C ot ct) {m : Nat} {B : List Ent} (hr : RunAt w w2 p b m B) (hm : Mods (fun k => k = b) w1 w2) : PlayAt w w2 p b m B ox cx X pc bc nc C ot ct :=
  ⟨hr, h.c.apart hm h.a.bge h.n1 h.n2, h.x.mods h.a.app hm, h.t.mods h.a.app hm, h.g, h.le, h.n1, h.n2⟩
theorem PlayAt.ref (h : PlayAt w w1 p b n A ox cx X pc bc nc C ot ct) (hb : Below w1.heap.size w1 w2) {oy : Option Addr} {cy : Nat} {Y : List Ent} (hy : SetsV w2 oy cy Y) : PlayAt w w2 p b n A oy cy Y pc bc nc C ot ct :=
  ⟨h.a.next hb, h.c.next hb, hy, h.t.below hb, h.g, h.le, h.n1, h.n2⟩
end
theorem refdo_v (A : List Ent) (ao : Option Addr) (cap : Nat) (c : Cmd) (w : World) (h : SetsV w ao cap A) (N : Nat) (hg : Good N A) (hN : N ≤ 100000) (hs : c.key.size ≤ 1000000) (B : List Ent) (R : Rep) (hd : appDo A c = (B, R)) :
    Calls Tryd.prog 19 #[.slice ao A.length cap, cmdV c] w fun e w' => ∃ oo oc, e = .returned (.tuple #[.slice oo B.length oc, repV R]) ∧ SetsV w' oo oc B ∧ Below w.heap.size w w' := by
  refine (refdo_any A ao cap c w h N hg hN hs).mono fun e w' hh => ?_
  unfold RefDone at hh
  rw [hd] at hh
  exact hh
theorem refall_any (A : List Ent) (ao : Option Addr) (cap : Nat) (w : World) (h : SetsV w ao cap A) (N : Nat) (hg : Good N A) (hN : N ≤ 100000) (R : Rep) (hR : findR A nul = R) :
    Calls Tryd.prog 19 #[.slice ao A.length cap, .agg #[.int .i64 5, .int .i64 1, .int .i64 1, .string ⟨#[]⟩, .string ⟨#[]⟩, .int .i64 0]] w fun e w' => ∃ oo oc, e = .returned (.tuple #[.slice oo A.length oc, repV R]) ∧ SetsV w' oo oc A ∧ Below w.heap.size w w' :=
  refdo_v A ao cap allC w h N hg hN (by decide) A R (by rw [do_all, hR])
set_option maxRecDepth 100000 in
set_option maxHeartbeats 4000000 in
theorem plays_no (L : List Cmd) (ao : Option Addr) (cap : Nat) (at_ : Int) (w : World) (hV : CmdsV w.heap.size w ao cap L) (hT : TabsI w) (h : greatB L 60 = true) :
    Calls Tryd.prog 6 #[.slice ao L.length cap, .int .i64 at_] w fun e w' => e = .returned (.bool true) ∧ Below w.heap.size w w' := by
  have hgr := great60 w.heap.size L ao cap w hV
  have HT := Lib.hid hT
  rw [h] at hgr
  clear hV hT h
  go_enter Tryd.func6, Tryd.ntmps6
  go_wp2_with fail
  refine hgr.mono ?_
  rintro e w1 ⟨rfl, rfl⟩
  go_wp2_with fail
  refine (awake_any _ (HT.out.next (Below.refl w.heap.size w))).mono ?_
  rintro e wz ⟨rfl, hbz⟩
  have HBZ := Lib.hid (((Below.refl w.heap.size w)).trans (hbz.mono ((Below.refl w.heap.size w)).size))
  clear hbz
  go_wp2_with fail
  go_ret
  exact ⟨rfl, HBZ.out⟩
set_option maxRecDepth 100000 in
set_option maxHeartbeats 4000000 in
theorem plays_all (L : List Cmd) (ao : Option Addr) (cap : Nat) (at_ : Int) (w : World) (hV : CmdsV w.heap.size w ao cap L) (hT : TabsI w) (hg : greatB L 60 = false) :
    Calls Tryd.prog 6 #[.slice ao L.length cap, .int .i64 at_] w fun e w' => e = .returned (.bool true) ∧ Below w.heap.size w w' := by
  have hgr := great60 w.heap.size L ao cap w hV
  rw [hg] at hgr
  obtain ⟨hl60, hsz⟩ := great_no hg
  have HV := Lib.hid hV
  have HT := Lib.hid hT
  have HSZ := Lib.hid hsz
  clear hV hT hg hsz
  go_enter Tryd.func6, Tryd.ntmps6
  go_wp2_with fail
  refine hgr.mono ?_
  rintro e w1 ⟨rfl, rfl⟩
  clear hgr
  go_wp2_with fail
  refine (new_run w).mono ?_
  rintro e w1 ⟨p, b, rfl, hr⟩
  have HR1 := Lib.hid hr
  clear hr
  go_wp2_with fail
  refine (copy_run HR1.out).mono ?_
  rintro e w2 ⟨pc0, bc0, rfl, hrc, hr, hb2, hpc, hbc⟩
  have hbl := HR1.out.app.blt
  have HP0 : Hid (PlayAt w w2 p b 0 [] none 0 [] pc0 bc0 0 [] none 0) := Lib.hid ⟨hr, hrc, SetsV.nil _, SetsV.nil _, Good.nil, by omega, by omega, by omega⟩
  clear hrc hr hb2 hpc hbc hbl HR1
  go_wp2_with fail
  go_loopw [6, 7, 8, 9] (fun cv xv tv iv wr => ∃ (i pc bc nc cx ct : Nat) (ox ot : Option Addr) (C : List Ent), cv = .pointer (some ⟨pc, 0, none⟩) ∧ xv = .slice ox (run [] (L.take i)).length cx ∧ tv = .slice ot C.length ct ∧ iv = .int .i64 i ∧ i ≤ L.length ∧ PlayAt w wr p b i (run [] (L.take i)) ox cx (run [] (L.take i)) pc bc nc C ot ct) (fun _ _ _ iv _ => L.length - (intOf iv).toNat)
  case atStart => exact ⟨0, pc0, bc0, 0, 0, 0, none, none, [], rfl, by rw [List.take_zero]; rfl, rfl, rfl, Nat.zero_le _, by rw [List.take_zero]; exact HP0.out⟩
  case round =>
    clear HP0
    obtain ⟨i, pc, bc, nc, cx, ct, ox, ot, C, rfl, rfl, rfl, rfl, hi, hp⟩ := hrel
    by_cases hlt : i < L.length
    · have hii : (i : Int) < (L.length : Int) := by omega
      obtain ⟨c, hx⟩ : ∃ c, L[i]? = some c := ⟨_, List.getElem?_eq_getElem hlt⟩
      have HN0 := Lib.hid (run_take [] L i c hx)
      obtain ⟨A, hA⟩ : ∃ A, A = run [] (L.take i) := ⟨_, rfl⟩
      have HG : Hid (Good i A) := Lib.hid (by rw [hA]; exact good_take L i)
      rw [← hA] at HN0 hp ⊢
      obtain ⟨B, R, hd⟩ : ∃ B R, appDo A c = (B, R) := ⟨_, _, rfl⟩
      rw [hd] at HN0
      have HN : Hid (run [] (L.take (i + 1)) = B) := HN0
      have HG2 : Hid (Good (i + 1) B) := Lib.hid (by have := HG.out.step c; rw [hd] at this; exact this)
      have HD := Lib.hid hd
      have HP := Lib.hid hp
      clear HN0 hA hd hp
      obtain ⟨g, off, rfl, hgl, hcm⟩ := HV.out.row i c hx
      have HCM := Lib.hid hcm
      have hszc := HSZ.out c (List.mem_of_getElem? hx)
      have HX := Lib.hid hx
      obtain ⟨hcp1, hcp2⟩ := HV.out.le
      unfold maxLen at hcp2
      obtain ⟨c0, c1, c2, c3, c4, c5⟩ := HCM.out.below HP.out.a.bel hgl
      clear hx hcm
      have hsm : c.key.size ≤ 1000000 := by omega
      go_wp2_with fail
      refine (refdo_v A ox cx c wr HP.out.x i HG.out (by omega) hsm B R HD.out).mono ?_
      rintro e u1 ⟨oy, cy, rfl, hy, hb1⟩
      have HP1 := Lib.hid (HP.out.ref hb1 hy)
      clear hy hb1 c0 c1 c2 c3 c4 c5 HP
      go_upto_region 11 with fail
      obtain ⟨u2, hw⟩ : ∃ x, x = u1.alloc (repO R) := ⟨_, rfl⟩
      rw [← hw]
      have HP2 := Lib.hid (HP1.out.next (w2 := u2) (by rw [hw]; exact (Below.refl _ _).alloc (Nat.le_refl _) _))
      have HX2 : Hid (u2.heap[u1.heap.size]? = some (repO R)) := Lib.hid (by rw [hw]; exact heap_alloc_new u1 _)
      have hbu : b < u1.heap.size := HP1.out.a.app.blt
      clear hw
      have HSX := Lib.hid (show ∀ w', Below w.heap.size w w' → w'.heap[u1.heap.size]? = some (repO R) → (fun w' => w'.cell? ⟨g, off + i * 6, none⟩ = some (.int .i64 c.kind) ∧ w'.cell? ⟨g, off + i * 6 + 1, none⟩ = some (.int .i64 c.client) ∧ w'.cell? ⟨g, off + i * 6 + 2, none⟩ = some (.int .i64 c.seq) ∧ w'.cell? ⟨g, off + i * 6 + 3, none⟩ = some (.string c.key) ∧ w'.cell? ⟨g, off + i * 6 + 4, none⟩ = some (.string c.val) ∧ w'.cell? ⟨g, off + i * 6 + 5, none⟩ = some (.int .i64 c.rev) ∧ w'.cell? ⟨u1.heap.size, 0, none⟩ = some (.int .i64 R.code) ∧ w'.cell? ⟨u1.heap.size, 1, none⟩ = some (.string R.val) ∧ w'.cell? ⟨u1.heap.size, 2, none⟩ = some (.int .i64 R.rev)) w' from fun w' hb hx => by
        obtain ⟨a0, a1, a2, a3, a4, a5⟩ := HCM.out.below hb hgl
        obtain ⟨⟨b0, b1, b2⟩, _⟩ := box3 hx
        exact ⟨a0, a1, a2, a3, a4, a5, b0, b1, b2⟩)
      have HS0 : Hid ((fun w' => w'.cell? ⟨g, off + i * 6, none⟩ = some (.int .i64 c.kind) ∧ w'.cell? ⟨g, off + i * 6 + 1, none⟩ = some (.int .i64 c.client) ∧ w'.cell? ⟨g, off + i * 6 + 2, none⟩ = some (.int .i64 c.seq) ∧ w'.cell? ⟨g, off + i * 6 + 3, none⟩ = some (.string c.key) ∧ w'.cell? ⟨g, off + i * 6 + 4, none⟩ = some (.string c.val) ∧ w'.cell? ⟨g, off + i * 6 + 5, none⟩ = some (.int .i64 c.rev) ∧ w'.cell? ⟨u1.heap.size, 0, none⟩ = some (.int .i64 R.code) ∧ w'.cell? ⟨u1.heap.size, 1, none⟩ = some (.string R.val) ∧ w'.cell? ⟨u1.heap.size, 2, none⟩ = some (.int .i64 R.rev)) u2.drew) := Lib.hid (HSX.out u2.drew (HP2.out.next ((Below.refl _ _).drew)).a.bel HX2.out)
      have HDO := Lib.hid (show Calls Tryd.prog 14 #[.pointer (some ⟨p, 0, none⟩), cmdV c] u2.drew fun e w2 => e = .returned (repV R) ∧ ((fun w' => w'.cell? ⟨g, off + i * 6, none⟩ = some (.int .i64 c.kind) ∧ w'.cell? ⟨g, off + i * 6 + 1, none⟩ = some (.int .i64 c.client) ∧ w'.cell? ⟨g, off + i * 6 + 2, none⟩ = some (.int .i64 c.seq) ∧ w'.cell? ⟨g, off + i * 6 + 3, none⟩ = some (.string c.key) ∧ w'.cell? ⟨g, off + i * 6 + 4, none⟩ = some (.string c.val) ∧ w'.cell? ⟨g, off + i * 6 + 5, none⟩ = some (.int .i64 c.rev) ∧ w'.cell? ⟨u1.heap.size, 0, none⟩ = some (.int .i64 R.code) ∧ w'.cell? ⟨u1.heap.size, 1, none⟩ = some (.string R.val) ∧ w'.cell? ⟨u1.heap.size, 2, none⟩ = some (.int .i64 R.rev)) w2 ∧ (PlayAt w w2 p b (i + 1) B oy cy B pc bc nc C ot ct ∧ w2.heap[u1.heap.size]? = some (repO R))) from
        (do_run (HP2.out.next ((Below.refl _ _).drew)).a HG.out (by omega) HT.out c hsm B R HD.out).mono fun e w2 hh => by
          have hx : w2.heap[u1.heap.size]? = some (repO R) := hh.2.2.heap (w := u2.drew) HX2.out (by omega)
          exact ⟨hh.1, HSX.out w2 hh.2.1.bel hx, (HP2.out.next ((Below.refl _ _).drew)).did hh.2.1 hh.2.2, hx⟩)
      have HKEY := Lib.hid (show ∀ w2, (PlayAt w w2 p b (i + 1) B oy cy B pc bc nc C ot ct ∧ w2.heap[u1.heap.size]? = some (repO R)) → Calls Tryd.prog 15 #[.pointer (some ⟨p, 0, none⟩)] w2 fun e w3 => ∃ oo oc, e = .returned (.slice oo B.length oc) ∧ ((fun w' => w'.cell? ⟨g, off + i * 6, none⟩ = some (.int .i64 c.kind) ∧ w'.cell? ⟨g, off + i * 6 + 1, none⟩ = some (.int .i64 c.client) ∧ w'.cell? ⟨g, off + i * 6 + 2, none⟩ = some (.int .i64 c.seq) ∧ w'.cell? ⟨g, off + i * 6 + 3, none⟩ = some (.string c.key) ∧ w'.cell? ⟨g, off + i * 6 + 4, none⟩ = some (.string c.val) ∧ w'.cell? ⟨g, off + i * 6 + 5, none⟩ = some (.int .i64 c.rev) ∧ w'.cell? ⟨u1.heap.size, 0, none⟩ = some (.int .i64 R.code) ∧ w'.cell? ⟨u1.heap.size, 1, none⟩ = some (.string R.val) ∧ w'.cell? ⟨u1.heap.size, 2, none⟩ = some (.int .i64 R.rev)) w3 ∧ (PlayAt w w3 p b (i + 1) B oy cy B pc bc nc C ot ct ∧ w3.heap[u1.heap.size]? = some (repO R)) ∧ StrsV w2.heap.size w3 oo oc (keysL B)) from fun w2 hw2 =>
        (keys_any p b _ B w2 hw2.1.a.app HG2.out.srt (by omega)).mono fun e w3 hh => by
          obtain ⟨oo, oc, he, hst, hb⟩ := hh
          have hx := (hb.block _ (M.heap_lt hw2.2)).trans hw2.2
          exact ⟨oo, oc, he, HSX.out w3 (hw2.1.next hb).a.bel hx, ⟨hw2.1.next hb, hx⟩, hst⟩)
      have HSAME := Lib.hid (show ∀ w2 (B0 : Nat) oo oc, (PlayAt w w2 p b (i + 1) B oy cy B pc bc nc C ot ct ∧ w2.heap[u1.heap.size]? = some (repO R)) → StrsV B0 w2 oo oc (keysL B) → Calls Tryd.prog 20 #[.slice oo B.length oc, .slice oy B.length cy] w2 fun e w3 => e = .returned (.bool true) ∧ ((fun w' => w'.cell? ⟨g, off + i * 6, none⟩ = some (.int .i64 c.kind) ∧ w'.cell? ⟨g, off + i * 6 + 1, none⟩ = some (.int .i64 c.client) ∧ w'.cell? ⟨g, off + i * 6 + 2, none⟩ = some (.int .i64 c.seq) ∧ w'.cell? ⟨g, off + i * 6 + 3, none⟩ = some (.string c.key) ∧ w'.cell? ⟨g, off + i * 6 + 4, none⟩ = some (.string c.val) ∧ w'.cell? ⟨g, off + i * 6 + 5, none⟩ = some (.int .i64 c.rev) ∧ w'.cell? ⟨u1.heap.size, 0, none⟩ = some (.int .i64 R.code) ∧ w'.cell? ⟨u1.heap.size, 1, none⟩ = some (.string R.val) ∧ w'.cell? ⟨u1.heap.size, 2, none⟩ = some (.int .i64 R.rev)) w3 ∧ (PlayAt w w3 p b (i + 1) B oy cy B pc bc nc C ot ct ∧ w3.heap[u1.heap.size]? = some (repO R))) from fun w2 B0 oo oc hw2 hst =>
        (same_any B0 B oo oy oc cy w2 hst hw2.1.x).mono fun e w3 hh => by
          obtain ⟨he, hb⟩ := hh
          have hx := (hb.block _ (M.heap_lt hw2.2)).trans hw2.2
          exact ⟨he, HSX.out w3 (hw2.1.next hb).a.bel hx, hw2.1.next hb, hx⟩)
      have q1 := rep_same_not R.code R.val R.rev
      clear HP1 HP2
      go_region_held3 (fun w' => w'.cell? ⟨g, off + i * 6, none⟩ = some (.int .i64 c.kind) ∧ w'.cell? ⟨g, off + i * 6 + 1, none⟩ = some (.int .i64 c.client) ∧ w'.cell? ⟨g, off + i * 6 + 2, none⟩ = some (.int .i64 c.seq) ∧ w'.cell? ⟨g, off + i * 6 + 3, none⟩ = some (.string c.key) ∧ w'.cell? ⟨g, off + i * 6 + 4, none⟩ = some (.string c.val) ∧ w'.cell? ⟨g, off + i * 6 + 5, none⟩ = some (.int .i64 c.rev) ∧ w'.cell? ⟨u1.heap.size, 0, none⟩ = some (.int .i64 R.code) ∧ w'.cell? ⟨u1.heap.size, 1, none⟩ = some (.string R.val) ∧ w'.cell? ⟨u1.heap.size, 2, none⟩ = some (.int .i64 R.rev))
        (first | exact HS0.out | exact h9 | exact h8 | exact h7)
        ((first | (go_at_call 14; refine HDO.out.mono ?_; rintro e w7 ⟨rfl, h7, k7⟩) | (go_at_call 15; refine (HKEY.out _ k7).mono ?_; rintro e w8 ⟨o8, n8, rfl, h8, k8, s8⟩) | (go_at_call 20; refine (HSAME.out _ _ _ _ k8 s8).mono ?_; rintro e w9 ⟨rfl, h9, k9⟩)))
      have HP9 := Lib.hid k9.1
      clear h7 k7 h8 k8 s8 h9 k9 HDO HKEY HSAME HSX HS0 HX2 q1
      by_cases hat : (i : Int) = at_
      · have e1 : ((i : Int) == at_) = true := by rw [beq_iff_eq]; exact hat
        clear hat
        go_wp2_with fail
        refine (copy_run HP9.out.a).mono ?_
        rintro e w4 ⟨pc2, bc2, rfl, hrc, hr, hb4, hpc, hbc⟩
        have hbl := HP9.out.a.app.blt
        have HPN : Hid (PlayAt w w4 p b (i + 1) B oy cy B pc2 bc2 (i + 1) B oy cy) := Lib.hid ⟨hr, hrc, HP9.out.x.below hb4, HP9.out.x.below hb4, HG2.out, by omega, by omega, by omega⟩
        clear hrc hr hb4 hpc hbc hbl
        go_wp2_with fail
        go_roundw
        case rel => exact ⟨i + 1, pc2, bc2, i + 1, cy, cy, oy, oy, B, rfl, by rw [HN.out], by rfl, by go_num, by omega, by rw [HN.out]; exact HPN.out⟩
        case measure => simp [intOf]; omega
      · have e1 : ((i : Int) == at_) = false := by rw [beq_eq_false_iff_ne]; exact hat
        clear hat
        go_wp2_with fail
        go_roundw
        case rel => exact ⟨i + 1, pc, bc, nc, cy, ct, oy, ot, C, rfl, by rw [HN.out], by rfl, by go_num, by omega, by rw [HN.out]; exact HP9.out⟩
        case measure => simp [intOf]; omega
    · obtain rfl : i = L.length := by omega
      have hii : ¬ (L.length : Int) < (L.length : Int) := by omega
      have HP := Lib.hid hp
      clear hp
      obtain ⟨R0, hR0⟩ : ∃ R0, findR C nul = R0 := ⟨_, rfl⟩
      have HR0 := Lib.hid hR0
      have hnc := HP.out.le
      clear hR0
      go_wp2_with fail
      refine (refall_any C ot ct wr HP.out.t nc HP.out.g (by omega) R0 HR0.out).mono ?_
      rintro e u1 ⟨oo, oc, rfl, _, hb1⟩
      have HP1 := Lib.hid (HP.out.next hb1)
      clear hb1
      go_upto_region 17 with fail
      obtain ⟨u2, hw⟩ : ∃ x, x = u1.alloc (repO R0) := ⟨_, rfl⟩
      rw [← hw]
      have HP2 := Lib.hid (HP1.out.next (w2 := u2) (by rw [hw]; exact (Below.refl _ _).alloc (Nat.le_refl _) _))
      have HX2 : Hid (u2.heap[u1.heap.size]? = some (repO R0)) := Lib.hid (by rw [hw]; exact heap_alloc_new u1 _)
      have hbu : bc < u1.heap.size := HP1.out.c.app.blt
      clear hw
      have HQ2 := Lib.hid (HP2.out.next ((Below.refl _ _).drew))
      have HS0 : Hid ((fun w' => w'.cell? ⟨u1.heap.size, 0, none⟩ = some (.int .i64 R0.code) ∧ w'.cell? ⟨u1.heap.size, 1, none⟩ = some (.string R0.val) ∧ w'.cell? ⟨u1.heap.size, 2, none⟩ = some (.int .i64 R0.rev)) u2.drew) := Lib.hid (box3 (w := u2.drew) HX2.out).1
      have HDO := Lib.hid (show Calls Tryd.prog 14 #[.pointer (some ⟨pc, 0, none⟩), .agg #[.int .i64 5, .int .i64 1, .int .i64 1, .string ⟨#[]⟩, .string ⟨#[]⟩, .int .i64 0]] u2.drew fun e w2 => e = .returned (repV R0) ∧ ((fun w' => w'.cell? ⟨u1.heap.size, 0, none⟩ = some (.int .i64 R0.code) ∧ w'.cell? ⟨u1.heap.size, 1, none⟩ = some (.string R0.val) ∧ w'.cell? ⟨u1.heap.size, 2, none⟩ = some (.int .i64 R0.rev)) w2 ∧ (RunAt w w2 pc bc (nc + 1) C ∧ SetsV w2 ot ct C ∧ w2.heap[u1.heap.size]? = some (repO R0))) from
        (all_run HQ2.out.c HQ2.out.g (by omega) HT.out R0 HR0.out).mono fun e w2 hh => by
          have hx : w2.heap[u1.heap.size]? = some (repO R0) := hh.2.2.heap (w := u2.drew) HX2.out (by omega)
          exact ⟨hh.1, (box3 hx).1, hh.2.1, HQ2.out.t.mods HQ2.out.c.app hh.2.2, hx⟩)
      have HKEY := Lib.hid (show ∀ w2, (RunAt w w2 pc bc (nc + 1) C ∧ SetsV w2 ot ct C ∧ w2.heap[u1.heap.size]? = some (repO R0)) → Calls Tryd.prog 15 #[.pointer (some ⟨pc, 0, none⟩)] w2 fun e w3 => ∃ oo oc, e = .returned (.slice oo C.length oc) ∧ ((fun w' => w'.cell? ⟨u1.heap.size, 0, none⟩ = some (.int .i64 R0.code) ∧ w'.cell? ⟨u1.heap.size, 1, none⟩ = some (.string R0.val) ∧ w'.cell? ⟨u1.heap.size, 2, none⟩ = some (.int .i64 R0.rev)) w3 ∧ (RunAt w w3 pc bc (nc + 1) C ∧ SetsV w3 ot ct C ∧ w3.heap[u1.heap.size]? = some (repO R0)) ∧ StrsV w2.heap.size w3 oo oc (keysL C)) from fun w2 hw2 =>
        (keys_any pc bc _ C w2 hw2.1.app HQ2.out.g.srt (by omega)).mono fun e w3 hh => by
          obtain ⟨oo, oc, he, hst, hb⟩ := hh
          have hx := (hb.block _ (M.heap_lt hw2.2.2)).trans hw2.2.2
          exact ⟨oo, oc, he, (box3 hx).1, ⟨hw2.1.next hb, hw2.2.1.below hb, hx⟩, hst⟩)
      have HSAME := Lib.hid (show ∀ w2 (B0 : Nat) oo oc, (RunAt w w2 pc bc (nc + 1) C ∧ SetsV w2 ot ct C ∧ w2.heap[u1.heap.size]? = some (repO R0)) → StrsV B0 w2 oo oc (keysL C) → Calls Tryd.prog 20 #[.slice oo C.length oc, .slice ot C.length ct] w2 fun e w3 => e = .returned (.bool true) ∧ ((fun w' => w'.cell? ⟨u1.heap.size, 0, none⟩ = some (.int .i64 R0.code) ∧ w'.cell? ⟨u1.heap.size, 1, none⟩ = some (.string R0.val) ∧ w'.cell? ⟨u1.heap.size, 2, none⟩ = some (.int .i64 R0.rev)) w3 ∧ (RunAt w w3 pc bc (nc + 1) C ∧ SetsV w3 ot ct C ∧ w3.heap[u1.heap.size]? = some (repO R0))) from fun w2 B0 oo oc hw2 hst =>
        (same_any B0 C oo ot oc ct w2 hst hw2.2.1).mono fun e w3 hh => by
          obtain ⟨he, hb⟩ := hh
          have hx := (hb.block _ (M.heap_lt hw2.2.2)).trans hw2.2.2
          exact ⟨he, (box3 hx).1, hw2.1.next hb, hw2.2.1.below hb, hx⟩)
      have HAW := Lib.hid (show ∀ w2, (RunAt w w2 pc bc (nc + 1) C ∧ SetsV w2 ot ct C ∧ w2.heap[u1.heap.size]? = some (repO R0)) → Calls Tryd.prog 12 #[] w2 fun e w3 => e = .returned (.bool true) ∧ ((fun w' => w'.cell? ⟨u1.heap.size, 0, none⟩ = some (.int .i64 R0.code) ∧ w'.cell? ⟨u1.heap.size, 1, none⟩ = some (.string R0.val) ∧ w'.cell? ⟨u1.heap.size, 2, none⟩ = some (.int .i64 R0.rev)) w3 ∧ (RunAt w w3 pc bc (nc + 1) C ∧ SetsV w3 ot ct C ∧ w3.heap[u1.heap.size]? = some (repO R0))) from fun w2 hw2 =>
        (awake_any w2 (HT.out.next hw2.1.bel)).mono fun e w3 hh => by
          obtain ⟨he, hb⟩ := hh
          have hx := (hb.block _ (M.heap_lt hw2.2.2)).trans hw2.2.2
          exact ⟨he, (box3 hx).1, hw2.1.next hb, hw2.2.1.below hb, hx⟩)
      have q1 := rep_same R0.code R0.val R0.rev
      clear HP1 HP2 HQ2
      go_region_held3 (fun w' => w'.cell? ⟨u1.heap.size, 0, none⟩ = some (.int .i64 R0.code) ∧ w'.cell? ⟨u1.heap.size, 1, none⟩ = some (.string R0.val) ∧ w'.cell? ⟨u1.heap.size, 2, none⟩ = some (.int .i64 R0.rev))
        (first | exact HS0.out | exact h9 | exact h8 | exact h7 | exact h6)
        ((first | (go_at_call 14; refine HDO.out.mono ?_; rintro e w7 ⟨rfl, h7, k7⟩) | (go_at_call 15; refine (HKEY.out _ k7).mono ?_; rintro e w8 ⟨o8, n8, rfl, h8, k8, s8⟩) | (go_at_call 20; refine (HSAME.out _ _ _ _ k8 s8).mono ?_; rintro e w9 ⟨rfl, h9, k9⟩) | (go_at_call 12; refine (HAW.out _ k9).mono ?_; rintro e w6 ⟨rfl, h6, k6⟩)))
      have HE := Lib.hid k6.1.bel
      clear h6 k6 h7 k7 h8 k8 s8 h9 k9 HDO HKEY HSAME HAW HS0 HX2 q1
      go_wp2_with fail
      go_ret
      exact ⟨rfl, HE.out⟩
theorem plays_law (L : List Cmd) (ao : Option Addr) (cap : Nat) (at_ : Int) (w : World) (hV : CmdsV w.heap.size w ao cap L) (hT : TabsI w) :
    Calls Tryd.prog 6 #[.slice ao L.length cap, .int .i64 at_] w fun e w' => e = .returned (.bool true) ∧ Below w.heap.size w w' := by
  cases h : greatB L 60 with
  | true => exact plays_no L ao cap at_ w hV hT h
  | false => exact plays_all L ao cap at_ w hV hT h
end Go.Proofs.YtpeiamllkddhiaaDoor.P
