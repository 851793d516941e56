/- The walk of SessionRow. -/
import Derived.Test.YtpeiamllkddhiaaDoorSesApartW
import Derived.Deep.RegionHeld3
import Derived.Laws.Small
namespace Go.Proofs.YtpeiamllkddhiaaDoor.P
open Go.RowKit Go.Proofs.YtpeiamllkddhiaaDoor.R Go.Proofs.YtpeiamllkddhiaaDoor.M Go.BigFrame
set_option linter.unusedVariables false
set_option linter.unusedSimpArgs false

/-- sessions, and settings worked on beside them -/
structure RowAt (w wx : World) (s p b q n : Nat) (S : Ses) (p2 b2 : Nat) : Prop where
  run : SRun w wx s p b q n S
  a : RunAt w wx p2 b2 n S.A
  n1 : p2 ≠ b ∧ p2 ≠ q
  n2 : b2 ≠ b ∧ b2 ≠ q
  n3 : s ≠ b2 ∧ p ≠ b2
theorem RowAt.next {w wx wy : World} {s p b q n p2 b2 : Nat} {S : Ses} (h : RowAt w wx s p b q n S p2 b2) (hb : Below wx.heap.size wx wy) : RowAt w wy s p b q n S p2 b2 :=
  ⟨h.run.next hb, h.a.next hb, h.n1, h.n2, h.n3⟩
theorem RowAt.mono {w wx : World} {s p b q n m p2 b2 : Nat} {S : Ses} (h : RowAt w wx s p b q n S p2 b2) (hm : n ≤ m) : RowAt w wx s p b q m S p2 b2 :=
  ⟨⟨h.run.bel, h.run.ses.mono hm, h.run.sge, h.run.pge, h.run.bge, h.run.qge⟩, ⟨h.a.bel, h.a.app.mono hm, h.a.pge, h.a.bge⟩, h.n1, h.n2, h.n3⟩
theorem RowAt.turned {w wx wy : World} {s p b q n p2 b2 g : Nat} {S : Ses} (h : RowAt w wx s p b q n S p2 b2) (hm : Mods (fun k => k = g) wx wy) (hg : w.heap.size ≤ g) (h1 : s ≠ g ∧ p ≠ g ∧ b ≠ g ∧ q ≠ g) (h2 : p2 ≠ g ∧ b2 ≠ g) : RowAt w wy s p b q n S p2 b2 :=
  ⟨h.run.apart hm hg h1.1 h1.2.1 h1.2.2.1 h1.2.2.2, h.a.apart hm hg h2.1 h2.2, h.n1, h.n2, h.n3⟩
/-- a command made the first client's, its number i -/
def rowC (c : Cmd) (i : Nat) : Cmd := ⟨c.kind, 1, (i : Int) + 1, c.key, c.val, c.rev⟩
set_option maxRecDepth 100000 in
set_option maxHeartbeats 4000000 in
theorem row_no (L : List Cmd) (ao : Option Addr) (cap : Nat) (w : World) (hV : CmdsV w.heap.size w ao cap L) (hT : TabsI w) (h : greatB L 60 = true) :
    Calls Tryd.prog 10 #[.slice ao L.length cap] w fun e w' => e = .returned (.bool true) ∧ Below w.heap.size w w' := by
  have hgr := great60 w.heap.size L ao cap w hV
  have HT := Lib.hid hT
  rw [h] at hgr
  clear hV hT h
  go_enter Tryd.func10, Tryd.ntmps10
  go_wp2_with fail
  refine hgr.mono ?_
  rintro e w1 ⟨rfl, rfl⟩
  go_wp2_with fail
  refine (sawake_any _ (HT.out.next (Below.refl w.heap.size w))).mono ?_
  rintro e wz ⟨rfl, hbz⟩
  have HBZ := Lib.hid ((Below.refl w.heap.size w).trans (hbz.mono (Below.refl w.heap.size w).size))
  clear hbz
  go_wp2_with fail
  go_ret
  exact ⟨rfl, HBZ.out⟩
set_option maxRecDepth 100000 in
set_option maxHeartbeats 4000000 in
theorem row_all (L : List Cmd) (ao : Option Addr) (cap : Nat) (w : World) (hV : CmdsV w.heap.size w ao cap L) (hT : TabsI w) (hg : greatB L 60 = false) :
    Calls Tryd.prog 10 #[.slice ao L.length cap] w fun e w' => e = .returned (.bool true) ∧ Below w.heap.size w w' := by
  have hgr := great60 w.heap.size L ao cap w hV
  rw [hg] at hgr
  obtain ⟨hl60, hsz⟩ := great_no hg
  have HV := Lib.hid hV
  have HT := Lib.hid hT
  have HSZ := Lib.hid hsz
  clear hV hT hg hsz
  go_enter Tryd.func10, Tryd.ntmps10
  go_wp2_with fail
  refine hgr.mono ?_
  rintro e w1 ⟨rfl, rfl⟩
  clear hgr
  go_wp2_with fail
  refine (snew_run w).mono ?_
  rintro e w1 ⟨s, p, b, q, rfl, hr⟩
  have HR1 := Lib.hid hr
  clear hr
  go_wp2_with fail
  refine (sapp_run HR1.out).mono ?_
  rintro e w2 ⟨p2, b2, rfl, ha, hr, _, hp2, hb2⟩
  have hz1 := HR1.out.ses.slt
  have hz2 := HR1.out.ses.app.plt
  have hz3 := HR1.out.ses.app.blt
  have hz4 := HR1.out.ses.qlt
  have HP0 : Hid (RowAt w w2 s p b q 0 ⟨[], []⟩ p2 b2) := Lib.hid ⟨hr, ha, ⟨by omega, by omega⟩, ⟨by omega, by omega⟩, ⟨by omega, by omega⟩⟩
  clear ha hr hp2 hb2 hz1 hz2 hz3 hz4 HR1
  go_wp2_with fail
  go_loopw [5] (fun iv wr => ∃ (i : Nat) (S : Ses), iv = .int .i64 i ∧ i ≤ L.length ∧ RowAt w wr s p b q i S p2 b2 ∧ SGood i S ∧ seqL (lookC S.C 1) ≤ (i : Int)) (fun iv _ => L.length - (intOf iv).toNat)
  case atStart => exact ⟨0, ⟨[], []⟩, rfl, Nat.zero_le _, HP0.out, SGood.nil, by decide⟩
  case round =>
    clear HP0
    obtain ⟨i, S, rfl, hi, hp, hG, hsq⟩ := hrel
    have HP := Lib.hid hp
    have HG := Lib.hid hG
    have HSQ := Lib.hid hsq
    clear hp hG hsq
    by_cases hlt : i < L.length
    · have hii : (i : Int) < (L.length : Int) := by omega
      obtain ⟨c, hx⟩ : ∃ c, L[i]? = some c := ⟨_, List.getElem?_eq_getElem hlt⟩
      obtain ⟨g, off, rfl, hgl, hcm⟩ := HV.out.row i c hx
      have HCM := Lib.hid hcm
      have hszc := HSZ.out c (List.mem_of_getElem? hx)
      have HX := Lib.hid hx
      obtain ⟨hcp1, hcp2⟩ := HV.out.le
      unfold maxLen at hcp2
      obtain ⟨c0, c1, c2, c3, c4, c5⟩ := HCM.out.below HP.out.run.bel hgl
      clear hx hcm
      have hz1 := HP.out.run.ses.slt
      have hz2 := HP.out.run.ses.app.plt
      have hz3 := HP.out.run.ses.app.blt
      have hz4 := HP.out.run.ses.qlt
      have hz5 := HP.out.a.app.plt
      have hz6 := HP.out.a.app.blt
      have hz7 := HP.out.run.bel.size
      go_upto_region 9 with fail
      clear c0 c1 c2 c3 c4 c5
      obtain ⟨u1, hw⟩ : ∃ x, x = wr.alloc (cmdO c) := ⟨_, rfl⟩
      rw [← hw]
      obtain ⟨g6, hg6⟩ : ∃ g, g = wr.heap.size := ⟨_, rfl⟩
      rw [← hg6]
      have HP1 := Lib.hid (HP.out.next (wy := u1) (by rw [hw]; exact (Below.refl _ _).alloc (Nat.le_refl _) _))
      have HC1 : Hid (u1.heap[g6]? = some (cmdO c)) := Lib.hid (by rw [hw, hg6]; exact heap_alloc_new wr _)
      rw [← hg6] at hz1 hz2 hz3 hz4 hz5 hz6 hz7
      clear hw hg6 HP
      obtain ⟨⟨c0, c1, c2, c3, c4, c5⟩, fc⟩ := box6 HC1.out
      by_cases hk : c.kind ≤ 0
      · go_wp2_with fail
        go_roundw
        case rel => exact ⟨i + 1, S, by go_num, by omega, HP1.out.mono (by omega), HG.out.mono (by omega), by have := HSQ.out; omega⟩
        case measure => simp [intOf]; omega
      · by_cases hk2 : 6 ≤ c.kind
        · go_wp2_with fail
          go_roundw
          case rel => exact ⟨i + 1, S, by go_num, by omega, HP1.out.mono (by omega), HG.out.mono (by omega), by have := HSQ.out; omega⟩
          case measure => simp [intOf]; omega
        · have hwr : IntKind.i64.wrap ((i : Int) + 1) = (i : Int) + 1 := IntWalk.i64_in _ (by omega)
          obtain ⟨S2, R, F, hd⟩ : ∃ S2 R F, sesDo S (rowC c i) = (S2, R, F) := ⟨_, _, _, rfl⟩
          obtain ⟨r1, r2, r3, r4⟩ := @row_right S (rowC c i) (by unfold rowC; simp) (by have := HSQ.out; show seqL (lookC S.C 1) < (i : Int) + 1; omega)
          rw [hd] at r1 r2 r3 r4
          obtain ⟨kz, hkz⟩ : ∃ kz, chk (rowC c i) = kz := ⟨_, rfl⟩
          rw [hkz] at r1
          have hF : F = (kz == 0) := by rw [← dec_beq]; exact r1
          have HADO : Hid (appDo S.A (rowC c i) = (S2.A, R)) := Lib.hid (Prod.ext r3.symm r2.symm)
          have HSQ2 : Hid (seqL (lookC S2.C 1) ≤ ((i + 1 : Nat) : Int)) := Lib.hid (by have h4 : seqL (lookC S2.C 1) ≤ (i : Int) + 1 := r4; omega)
          have HG2 : Hid (SGood (i + 1) S2) := Lib.hid (by have := HG.out.step (rowC c i); rw [hd] at this; exact this)
          have HD := Lib.hid hd
          have HKZ := Lib.hid hkz
          have HSDO : Hid (∀ wx, SRun w wx s p b q i S → Calls Tryd.prog 24 #[.pointer (some ⟨s, 0, none⟩), .agg #[.int .i64 c.kind, .int .i64 1, .int .i64 ((i : Int) + 1), .string c.key, .string c.val, .int .i64 c.rev]] wx fun e w' => e = .returned (.tuple #[repV R, .bool F]) ∧ (SRun w w' s p b q (i + 1) S2 ∧ Mods (fun k => k = b ∨ k = q) wx w')) :=
            Lib.hid fun wx h => sdo_run h HG.out (by omega) HT.out (rowC c i) (by show c.key.size ≤ _; omega) (show InI 1 by unfold InI; decide) S2 R F HD.out
          have HCHK : Hid (∀ wx, TabsI wx → Calls Tryd.prog 17 #[.agg #[.int .i64 c.kind, .int .i64 1, .int .i64 ((i : Int) + 1), .string c.key, .string c.val, .int .i64 c.rev]] wx fun e w' => e = .returned (.int .i64 kz) ∧ Below wx.heap.size wx w') :=
            Lib.hid fun wx h => check_v (rowC c i) wx h.t (by show c.key.size ≤ _; omega) kz HKZ.out
          have HADO2 : Hid (∀ wx, RunAt w wx p2 b2 i S.A → Calls Tryd.prog 14 #[.pointer (some ⟨p2, 0, none⟩), .agg #[.int .i64 c.kind, .int .i64 1, .int .i64 ((i : Int) + 1), .string c.key, .string c.val, .int .i64 c.rev]] wx fun e w' => e = .returned (repV R) ∧ (RunAt w w' p2 b2 (i + 1) S2.A ∧ Mods (fun k => k = b2) wx w')) :=
            Lib.hid fun wx h => do_run h HG.out.app (by omega) HT.out (rowC c i) (by show c.key.size ≤ _; omega) S2.A R HADO.out
          clear hd r1 r2 r3 r4 hkz
          go_upto_region 12 with fail
          clear c0 c1 c2 c3 c4 c5 fc hwr hk hk2
          obtain ⟨u2, hw⟩ : ∃ x, x = (u1.setCell ⟨g6, 1, none⟩ (.int .i64 1)).setCell ⟨g6, 2, none⟩ (.int .i64 ((i : Int) + 1)) := ⟨_, rfl⟩
          rw [← hw]
          have m2 : Mods (fun k => k = g6) u1 u2 := by rw [hw]; exact (mods_set (w := u1)).trans mods_set
          have HC2 : Hid (u2.heap[g6]? = some (.cells #[.int .i64 c.kind, .int .i64 1, .int .i64 ((i : Int) + 1), .string c.key, .string c.val, .int .i64 c.rev] 32 (0, 0))) := Lib.hid (by
            have s1 := heap_set u1 g6 1 (.int .i64 1) g6 _ _ _ HC1.out
            rw [if_pos rfl] at s1
            have s2 := heap_set _ g6 2 (.int .i64 ((i : Int) + 1)) g6 _ _ _ s1
            rw [if_pos rfl] at s2
            rw [hw]
            exact s2)
          have HP2 := Lib.hid (HP1.out.turned m2 hz7 ⟨by omega, by omega, by omega, by omega⟩ ⟨by omega, by omega⟩)
          clear hw m2 HP1 HC1
          obtain ⟨⟨c0, c1, c2, c3, c4, c5⟩, _⟩ := box6 HC2.out
          go_wp2_with fail
          refine (HSDO.out _ HP2.out.run).mono ?_
          rintro e u3 ⟨rfl, hr3, hm3⟩
          have HR3 := Lib.hid hr3
          have HA3 : Hid (RunAt w u3 p2 b2 i S.A) := Lib.hid ⟨hr3.bel, HP2.out.a.app.keep hm3 (fun e => by rcases e with e | e; exact HP2.out.n1.1 e; exact HP2.out.n1.2 e) (fun e => by rcases e with e | e; exact HP2.out.n2.1 e; exact HP2.out.n2.2 e), HP2.out.a.pge, HP2.out.a.bge⟩
          have HC3 := Lib.hid (hm3.heap HC2.out (by omega))
          clear hr3 hm3 c0 c1 c2 c3 c4 c5
          go_upto_region 13 with fail
          obtain ⟨u4, hw⟩ : ∃ x, x = u3.alloc (repO R) := ⟨_, rfl⟩
          rw [← hw]
          have hb4 : Below u3.heap.size u3 u4 := by rw [hw]; exact (Below.refl _ _).alloc (Nat.le_refl _) _
          have HR4 := Lib.hid (HR3.out.next hb4)
          have HA4 := Lib.hid (HA3.out.next hb4)
          have HC4 := Lib.hid ((hb4.block _ (M.heap_lt HC3.out)).trans HC3.out)
          have HX4 : Hid (u4.heap[u3.heap.size]? = some (repO R)) := Lib.hid (by rw [hw]; exact heap_alloc_new u3 _)
          have hb2u := HA3.out.app.blt
          clear hw hb4
          obtain ⟨⟨c0, c1, c2, c3, c4, c5⟩, _⟩ := box6 HC4.out
          go_wp2_with fail
          refine (HCHK.out _ (HT.out.next HR4.out.bel)).mono ?_
          rintro e u5 ⟨rfl, hb5⟩
          have HR5 := Lib.hid (HR4.out.next hb5)
          have HA5 := Lib.hid (HA4.out.next hb5)
          have HC5 := Lib.hid ((hb5.block _ (M.heap_lt HC4.out)).trans HC4.out)
          have HX5 := Lib.hid ((hb5.block _ (M.heap_lt HX4.out)).trans HX4.out)
          have HN := HP2.out.n3
          have HN1 := HP2.out.n1
          have HN2 := HP2.out.n2
          clear hb5 c0 c1 c2 c3 c4 c5 HR3 HA3 HC3 HR4 HA4 HC4 HX4 HC2 HP2
          subst hF
          obtain ⟨be, hbe⟩ : ∃ be, be = (kz == 0) := ⟨_, rfl⟩
          rw [← hbe]
          have e1 := hbe.symm
          clear hbe HSDO HCHK
          have HSX := Lib.hid (show ∀ w' : World, w'.heap[g6]? = some (.cells #[.int .i64 c.kind, .int .i64 1, .int .i64 ((i : Int) + 1), .string c.key, .string c.val, .int .i64 c.rev] 32 (0, 0)) → w'.heap[u3.heap.size]? = some (repO R) → (fun w' => w'.cell? ⟨g6, 0, none⟩ = some (.int .i64 c.kind) ∧ w'.cell? ⟨g6, 1, none⟩ = some (.int .i64 1) ∧ w'.cell? ⟨g6, 2, none⟩ = some (.int .i64 ((i : Int) + 1)) ∧ w'.cell? ⟨g6, 3, none⟩ = some (.string c.key) ∧ w'.cell? ⟨g6, 4, none⟩ = some (.string c.val) ∧ w'.cell? ⟨g6, 5, none⟩ = some (.int .i64 c.rev) ∧ w'.cell? ⟨u3.heap.size, 0, none⟩ = some (.int .i64 R.code) ∧ w'.cell? ⟨u3.heap.size, 1, none⟩ = some (.string R.val) ∧ w'.cell? ⟨u3.heap.size, 2, none⟩ = some (.int .i64 R.rev)) w' from fun w' hc hx => by
            obtain ⟨⟨a0, a1, a2, a3, a4, a5⟩, _⟩ := box6 hc
            obtain ⟨⟨b0, b1, b2⟩, _⟩ := box3 hx
            exact ⟨a0, a1, a2, a3, a4, a5, b0, b1, b2⟩)
          have HS0 : Hid ((fun w' => w'.cell? ⟨g6, 0, none⟩ = some (.int .i64 c.kind) ∧ w'.cell? ⟨g6, 1, none⟩ = some (.int .i64 1) ∧ w'.cell? ⟨g6, 2, none⟩ = some (.int .i64 ((i : Int) + 1)) ∧ w'.cell? ⟨g6, 3, none⟩ = some (.string c.key) ∧ w'.cell? ⟨g6, 4, none⟩ = some (.string c.val) ∧ w'.cell? ⟨g6, 5, none⟩ = some (.int .i64 c.rev) ∧ w'.cell? ⟨u3.heap.size, 0, none⟩ = some (.int .i64 R.code) ∧ w'.cell? ⟨u3.heap.size, 1, none⟩ = some (.string R.val) ∧ w'.cell? ⟨u3.heap.size, 2, none⟩ = some (.int .i64 R.rev)) u5.drew) := Lib.hid (HSX.out u5.drew HC5.out HX5.out)
          have HDO := Lib.hid (show Calls Tryd.prog 14 #[.pointer (some ⟨p2, 0, none⟩), .agg #[.int .i64 c.kind, .int .i64 1, .int .i64 ((i : Int) + 1), .string c.key, .string c.val, .int .i64 c.rev]] u5.drew fun e w2 => e = .returned (repV R) ∧ ((fun w' => w'.cell? ⟨g6, 0, none⟩ = some (.int .i64 c.kind) ∧ w'.cell? ⟨g6, 1, none⟩ = some (.int .i64 1) ∧ w'.cell? ⟨g6, 2, none⟩ = some (.int .i64 ((i : Int) + 1)) ∧ w'.cell? ⟨g6, 3, none⟩ = some (.string c.key) ∧ w'.cell? ⟨g6, 4, none⟩ = some (.string c.val) ∧ w'.cell? ⟨g6, 5, none⟩ = some (.int .i64 c.rev) ∧ w'.cell? ⟨u3.heap.size, 0, none⟩ = some (.int .i64 R.code) ∧ w'.cell? ⟨u3.heap.size, 1, none⟩ = some (.string R.val) ∧ w'.cell? ⟨u3.heap.size, 2, none⟩ = some (.int .i64 R.rev)) w2 ∧ RowAt w w2 s p b q (i + 1) S2 p2 b2) from
            (HADO2.out _ (HA5.out.next (Below.refl _ _).drew)).mono fun e w2 hh => by
              have hc : w2.heap[g6]? = some (.cells #[.int .i64 c.kind, .int .i64 1, .int .i64 ((i : Int) + 1), .string c.key, .string c.val, .int .i64 c.rev] 32 (0, 0)) := hh.2.2.heap (w := u5.drew) HC5.out (by omega)
              have hx : w2.heap[u3.heap.size]? = some (repO R) := hh.2.2.heap (w := u5.drew) HX5.out (by omega)
              exact ⟨hh.1, HSX.out w2 hc hx, (HR5.out.next (Below.refl _ _).drew).apart hh.2.2 hh.2.1.bge HN.1 HN.2 (fun e => HN2.1 e.symm) (fun e => HN2.2 e.symm), hh.2.1, HN1, HN2, HN⟩)
          have q1 := rep_same_not R.code R.val R.rev
          clear HR5 HA5 HC5 HX5 HADO2 HSX HN HN1 HN2
          cases be
          all_goals
            go_upto_region 14 with fail
            go_region_held3 (fun w' => w'.cell? ⟨g6, 0, none⟩ = some (.int .i64 c.kind) ∧ w'.cell? ⟨g6, 1, none⟩ = some (.int .i64 1) ∧ w'.cell? ⟨g6, 2, none⟩ = some (.int .i64 ((i : Int) + 1)) ∧ w'.cell? ⟨g6, 3, none⟩ = some (.string c.key) ∧ w'.cell? ⟨g6, 4, none⟩ = some (.string c.val) ∧ w'.cell? ⟨g6, 5, none⟩ = some (.int .i64 c.rev) ∧ w'.cell? ⟨u3.heap.size, 0, none⟩ = some (.int .i64 R.code) ∧ w'.cell? ⟨u3.heap.size, 1, none⟩ = some (.string R.val) ∧ w'.cell? ⟨u3.heap.size, 2, none⟩ = some (.int .i64 R.rev))
              (first | exact HS0.out | exact h9)
              ((go_at_call 14; refine HDO.out.mono ?_; rintro e w9 ⟨rfl, h9, k9⟩))
            have HP9 := Lib.hid k9
            clear h9 k9 HDO HS0 q1 e1
            go_wp2_with fail
            go_roundw
            case rel => exact ⟨i + 1, S2, by go_num, by omega, HP9.out, HG2.out, HSQ2.out⟩
            case measure => simp [intOf]; omega
    · obtain rfl : i = L.length := by omega
      have hii : ¬ (L.length : Int) < (L.length : Int) := by omega
      obtain ⟨R0, hR0⟩ : ∃ R0, findR S.A nul = R0 := ⟨_, rfl⟩
      have HR0 := Lib.hid hR0
      obtain ⟨n, hn⟩ : ∃ n, n = L.length := ⟨_, rfl⟩
      rw [← hn] at HP HG
      have hn60 : n ≤ 60 := by omega
      obtain ⟨u0, rfl⟩ : ∃ u0, u0 = wr := ⟨_, rfl⟩
      clear hR0 hn HSQ
      have hz1 := HP.out.a.app.plt
      have hz2 := HP.out.a.app.blt
      go_wp2_with fail
      refine (sapp_run HP.out.run).mono ?_
      rintro e y1 ⟨p3, b3, rfl, ha, _, hb, hp3, hb3⟩
      have HA1 := Lib.hid ha
      have HB1 := Lib.hid (HP.out.a.next hb)
      clear ha hb
      go_wp2_with fail
      refine (all_any y1).mono ?_
      rintro e y2 ⟨rfl, hb⟩
      have HA2 := Lib.hid (HA1.out.next hb)
      have HB2 := Lib.hid (HB1.out.next hb)
      clear hb
      go_wp2_with fail
      refine (all_run HA2.out HG.out.app (by omega) HT.out R0 HR0.out).mono ?_
      rintro e y3 ⟨rfl, hr3, hm3⟩
      have HB3 := Lib.hid (HB2.out.apart hm3 HA2.out.bge (by omega) (by omega))
      clear hr3 hm3
      go_wp2_with fail
      refine (all_any y3).mono ?_
      rintro e y4 ⟨rfl, hb⟩
      have HB4 := Lib.hid (HB3.out.next hb)
      clear hb
      go_wp2_with fail
      refine (all_run HB4.out HG.out.app (by omega) HT.out R0 HR0.out).mono ?_
      rintro e y5 ⟨rfl, hr5, hm5⟩
      have HB5 := Lib.hid hr5
      have q1 := rep_same R0.code R0.val R0.rev
      clear hr5 hm5
      go_wp2_with fail
      refine (sawake_any _ (HT.out.next (HB5.out.bel))).mono ?_
      rintro e wz ⟨rfl, hbz⟩
      have HBZ := Lib.hid ((HB5.out.bel).trans (hbz.mono (HB5.out.bel).size))
      clear hbz
      go_wp2_with fail
      go_ret
      exact ⟨rfl, HBZ.out⟩
theorem row_law (L : List Cmd) (ao : Option Addr) (cap : Nat) (w : World) (hV : CmdsV w.heap.size w ao cap L) (hT : TabsI w) :
    Calls Tryd.prog 10 #[.slice ao L.length cap] w fun e w' => e = .returned (.bool true) ∧ Below w.heap.size w w' := by
  cases h : greatB L 60 with
  | true => exact row_no L ao cap w hV hT h
  | false => exact row_all L ao cap w hV hT h
end Go.Proofs.YtpeiamllkddhiaaDoor.P
