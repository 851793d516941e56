/- Several texts in one. -/
import Derived.Test.YtkgjfagejnppbaaGreatDoorMrg34

/- CheckMore: its region that hangs a record on another one. -/
namespace Go.Proofs.YtkgjfagejnppbaaGreatDoor.X
open Go.RowKit Go.Proofs.YtkgjfagejnppbaaGreatDoor.M Go.BigFrame Go.Proofs.YtkgjfagejnppbaaGreatDoor.O Go.Proofs.YtkgjfagejnppbaaGreatDoor.P Go.Proofs.YtkgjfagejnppbaaGreatDoor.Mp Go.Proofs.YtkgjfagejnppbaaGreatDoor.Rw
set_option linter.unusedVariables false
set_option linter.unusedSimpArgs false

structure M19S (u : World) (B g : Nat) (di : Option Addr) (D : List O.Id) (dc : Nat) (c : Cmd) (ci : O.Id) (b off k m rc : Nat) (y : O.Id) (b0 b1 b2 b3 b4 b5 b6 b7 b8 b9 b10 b11 b12 : Bool) (x77 x78 x79 x80 x81 x82 x83 x84 x85 x86 x87 x88 : Value) (w : World) : Prop where
  k0 : b0 = true → x77 = .pointer (some ⟨g, 13, none⟩)
  k1 : b1 = true → x78 = .pointer (some ⟨g, 13, none⟩)
  k2 : b2 = true → x79 = .slice di D.length dc
  k3 : b3 = true → x80 = .slice (some ⟨b, off, none⟩) m rc
  k4 : b4 = true → x81 = .int .i64 (k : Int)
  k5 : b5 = true → x82 = .pointer (some ⟨b, off + k * 16, none⟩)
  k6 : b6 = true → x83 = .pointer (some ⟨b, off + k * 16, none⟩)
  k7 : b7 = true → x84 = .agg #[.int .i64 y.r, .int .i64 y.n]
  k10 : b10 = true → x87 = .pointer (some ⟨g, 13, none⟩)
  k11 : b11 = true → x88 = .pointer (some ⟨g, 13, none⟩)
  kin : b9 = false → Below u.heap.size u w
  kb : b8 = true → b9 = false → ∃ g2, x85 = .slice (some ⟨g2, 0, none⟩) 1 1 ∧ u.heap.size ≤ g2 ∧ w.heap[g2]? = some (.cells #[.int .i64 y.r, .int .i64 y.n] 37 (0, 0))
  ka : b9 = true → b12 = false → ∃ ao cap, x86 = .slice ao (D.length + 1) cap ∧ OwnG sRI w B ao cap (D ++ [y]) ∧ Mods (fun j => ∃ a, di = some a ∧ j = a.block) u w ∧ (∀ a, ao = some a → (∃ a0, di = some a0 ∧ a.block = a0.block) ∨ u.heap.size ≤ a.block)
  ks : b12 = true → ∃ ao cap, OwnG sRI w B ao cap (D ++ [y]) ∧ Mods (fun j => (∃ a, di = some a ∧ j = a.block) ∨ j = g) u w ∧ (∀ a, ao = some a → (∃ a0, di = some a0 ∧ a.block = a0.block) ∨ u.heap.size ≤ a.block) ∧ w.heap[g]? = some (recO (mkR ci c (D ++ [y]) ao cap))
  c1_0 : b1 = true → b0 = true
  c2_1 : b2 = true → b1 = true
  c5_3 : b5 = true → b3 = true
  c5_4 : b5 = true → b4 = true
  c6_5 : b6 = true → b5 = true
  c7_6 : b7 = true → b6 = true
  c8_7 : b8 = true → b7 = true
  c9_2 : b9 = true → b2 = true
  c9_8 : b9 = true → b8 = true
  c11_10 : b11 = true → b10 = true
  c12_9 : b12 = true → b9 = true
  c12_11 : b12 = true → b11 = true
def M19I (u : World) (B g : Nat) (di : Option Addr) (D : List O.Id) (dc : Nat) (c : Cmd) (ci : O.Id) (b off k m rc : Nat) (y : O.Id) (arr : Array Value) (listed : Array Bool) (a : Act) (w : World) : Prop :=
  ∃ (b0 b1 b2 b3 b4 b5 b6 b7 b8 b9 b10 b11 b12 : Bool) (x77 x78 x79 x80 x81 x82 x83 x84 x85 x86 x87 x88 : Value), listed = #[b0, b1, b2, b3, b4, b5, b6, b7, b8, b9, b10, b11, b12] ∧ a = ⟨((((((((((((arr.setIfInBounds 77 x77).setIfInBounds 78 x78).setIfInBounds 79 x79).setIfInBounds 80 x80).setIfInBounds 81 x81).setIfInBounds 82 x82).setIfInBounds 83 x83).setIfInBounds 84 x84).setIfInBounds 85 x85).setIfInBounds 86 x86).setIfInBounds 87 x87).setIfInBounds 88 x88), []⟩ ∧ M19S u B g di D dc c ci b off k m rc y b0 b1 b2 b3 b4 b5 b6 b7 b8 b9 b10 b11 b12 x77 x78 x79 x80 x81 x82 x83 x84 x85 x86 x87 x88 w
end Go.Proofs.YtkgjfagejnppbaaGreatDoor.X

/- CheckRow: its region that lays a record. -/
namespace Go.Proofs.YtkgjfagejnppbaaGreatDoor.X
open Go.RowKit Go.Proofs.YtkgjfagejnppbaaGreatDoor.M Go.BigFrame Go.Proofs.YtkgjfagejnppbaaGreatDoor.O Go.Proofs.YtkgjfagejnppbaaGreatDoor.P Go.Proofs.YtkgjfagejnppbaaGreatDoor.Mp Go.Proofs.YtkgjfagejnppbaaGreatDoor.Rw
set_option linter.unusedVariables false
set_option linter.unusedSimpArgs false

structure W17S (u : World) (B gi gc : Nat) (ro : Option Addr) (X : List Rv) (rc : Nat) (di : Option Addr) (D : List O.Id) (dc : Nat) (c : Cmd) (ci : O.Id) (b0 b1 b2 b3 b4 b5 b6 b7 b8 b9 b10 : Bool) (x71 x72 x73 x74 x75 x76 x77 x78 x79 x80 x6 : Value) (w : World) : Prop where
  k0 : b0 = true → x71 = .slice ro X.length rc
  k1 : b1 = true → x72 = .agg #[.int .i64 ci.r, .int .i64 ci.n]
  k2 : b2 = true → x73 = .agg #[.int .i64 c.kind, .int .i64 c.client, .int .i64 c.seq, .string c.key, .string c.val, .int .i64 c.rev]
  k4 : b4 = true → x75 = .slice di D.length dc
  k6 : b6 = true → x77 = .agg #[x76, .int .i64 0, .int .i64 2]
  k7 : b7 = true → x78 = .agg #[.int .i64 ci.r, .int .i64 ci.n, .int .i64 3, .int .i64 0, .int .i64 0, .int .i64 0, .int .i64 0, .int .i64 c.kind, .int .i64 c.client, .int .i64 c.seq, .string c.key, .string c.val, .int .i64 c.rev, x76, .int .i64 0, .int .i64 2]
  k10 : b10 = true → x6 = x80
  kin : b9 = false → Below u.heap.size u w
  k6o : b10 = false → x6 = .slice ro X.length rc
  kn : b3 = true → b5 = false → ∃ g2, x74 = .slice (some ⟨g2, 0, none⟩) 0 0 ∧ u.heap.size ≤ g2 ∧ w.heap[g2]? = some (.cells #[] 37 (0, 0))
  ka : b5 = true → ∃ ao cap, x76 = .slice ao D.length cap ∧ OwnG sRI w u.heap.size ao cap D
  kz : b8 = true → b9 = false → ∃ g3, x79 = .slice (some ⟨g3, 0, none⟩) 1 1 ∧ u.heap.size ≤ g3 ∧ w.heap[g3]? = some (.cells #[.int .i64 ci.r, .int .i64 ci.n, .int .i64 3, .int .i64 0, .int .i64 0, .int .i64 0, .int .i64 0, .int .i64 c.kind, .int .i64 c.client, .int .i64 c.seq, .string c.key, .string c.val, .int .i64 c.rev, x76, .int .i64 0, .int .i64 2] 43 (0, 0))
  ks : b9 = true → ∃ ao cap ro2 rc2, x76 = .slice ao D.length cap ∧ x80 = .slice ro2 (X.length + 1) rc2 ∧ OwnG sRR w B ro2 rc2 (X ++ [mkR ci c D ao cap]) ∧ Mods (fun j => ∃ a, ro = some a ∧ j = a.block) u w
  c5_3 : b5 = true → b3 = true
  c5_4 : b5 = true → b4 = true
  c6_5 : b6 = true → b5 = true
  c7_1 : b7 = true → b1 = true
  c7_2 : b7 = true → b2 = true
  c7_6 : b7 = true → b6 = true
  c8_7 : b8 = true → b7 = true
  c9_0 : b9 = true → b0 = true
  c9_8 : b9 = true → b8 = true
  c10_9 : b10 = true → b9 = true
def W17I (u : World) (B gi gc : Nat) (ro : Option Addr) (X : List Rv) (rc : Nat) (di : Option Addr) (D : List O.Id) (dc : Nat) (c : Cmd) (ci : O.Id) (arr : Array Value) (listed : Array Bool) (a : Act) (w : World) : Prop :=
  ∃ (b0 b1 b2 b3 b4 b5 b6 b7 b8 b9 b10 : Bool) (x71 x72 x73 x74 x75 x76 x77 x78 x79 x80 x6 : Value), listed = #[b0, b1, b2, b3, b4, b5, b6, b7, b8, b9, b10] ∧ a = ⟨(((((((((((arr.setIfInBounds 71 x71).setIfInBounds 72 x72).setIfInBounds 73 x73).setIfInBounds 74 x74).setIfInBounds 75 x75).setIfInBounds 76 x76).setIfInBounds 77 x77).setIfInBounds 78 x78).setIfInBounds 79 x79).setIfInBounds 80 x80).setIfInBounds 6 x6), []⟩ ∧ W17S u B gi gc ro X rc di D dc c ci b0 b1 b2 b3 b4 b5 b6 b7 b8 b9 b10 x71 x72 x73 x74 x75 x76 x77 x78 x79 x80 x6 w
theorem W17_start2 (u : World) (B gi gc : Nat) (ro : Option Addr) (X : List Rv) (rc : Nat) (di : Option Addr) (D : List O.Id) (dc : Nat) (c : Cmd) (ci : O.Id) (arr : Array Value) (w : World) (h : ∀ x71 x72 x73 x74 x75 x76 x77 x78 x79 x80, W17S u B gi gc ro X rc di D dc c ci false false false false false false false false false false false x71 x72 x73 x74 x75 x76 x77 x78 x79 x80 (arr.getD 6 undef) w) : W17I u B gi gc ro X rc di D dc c ci arr (Array.replicate 11 false) ⟨arr, []⟩ w :=
  ⟨false, false, false, false, false, false, false, false, false, false, false, arr.getD 71 undef, arr.getD 72 undef, arr.getD 73 undef, arr.getD 74 undef, arr.getD 75 undef, arr.getD 76 undef, arr.getD 77 undef, arr.getD 78 undef, arr.getD 79 undef, arr.getD 80 undef, arr.getD 6 undef, rfl, by simp only [set_self], h _ _ _ _ _ _ _ _ _ _⟩
set_option maxRecDepth 100000 in
set_option maxHeartbeats 4000000 in
theorem row_r17 (u : World) (B gi gc : Nat) (ro : Option Addr) (X : List Rv) (rc : Nat) (di : Option Addr) (D : List O.Id) (dc : Nat) (c : Cmd) (ci : O.Id) (hB : B ≤ u.heap.size) (hDl : D.length ≤ 1000) (hXl : X.length ≤ 1000)
    (HI : Hid (u.heap[gi]? = some (idO ci))) (HC : Hid (u.heap[gc]? = some (.cells (cmdA c) 30 (0, 0)))) (HR : Hid (OwnG sRR u B ro rc X)) (HDV : Hid (RowV sRI u di dc D))
    (cd : Code) (hcd : Tryz.f3.body.bind (regAt 17) = some cd) (s0 s1 s2 s3 s4 s5 s7 s9 s11 s12 s14 s15 s16 s17 s18 s19 s20 s21 s22 s23 s24 s25 s26 s27 s28 s29 s30 s31 s32 s33 s34 s35 s36 s37 s38 s39 s40 s41 s42 s43 s44 s45 s46 s47 s48 s49 s50 s51 s52 s53 s54 s55 s56 s57 s58 s59 s60 s61 s62 s63 s64 s65 s66 s67 s68 s69 s70 s71 s72 s73 s74 s75 s76 s77 s78 s79 s80 s81 s82 s83 s84 s85 s86 s87 s88 s89 s90 s91 s92 s93 s94 s95 s96 s97 s98 s99 s100 s101 s102 s103 s104 s105 s106 s107 s108 s109 s110 s111 s112 s113 s114 s115 s116 s117 s118 s119 s120 s121 s122 s123 s124 s125 s126 s127 s128 s129 s130 s131 s132 s133 s134 s135 s136 s137 s138 s139 s140 s141 s142 s143 s144 : Value) (Q : Exit → Act → World → Prop)
    (hQ : Hid (∀ (x71 x72 x73 x74 x75 x76 x77 x78 x79 x80 : Value) (ao ro2 : Option Addr) (cap rc2 : Nat) (w : World), OwnG sRI w u.heap.size ao cap D → OwnG sRR w B ro2 rc2 (X ++ [mkR ci c D ao cap]) → Mods (fun j => ∃ a, ro = some a ∧ j = a.block) u w →
      Q .normal { tmps := #[s0, s1, s2, s3, s4, s5, .slice ro2 (X.length + 1) rc2, s7, .slice di D.length dc, s9, .pointer (some ⟨gc, 0, none⟩), s11, s12, .pointer (some ⟨gi, 0, none⟩), s14, s15, s16, s17, s18, s19, s20, s21, s22, s23, s24, s25, s26, s27, s28, s29, s30, s31, s32, s33, s34, s35, s36, s37, s38, s39, s40, s41, s42, s43, s44, s45, s46, s47, s48, s49, s50, s51, s52, s53, s54, s55, s56, s57, s58, s59, s60, s61, s62, s63, s64, s65, s66, s67, s68, s69, s70, x71, x72, x73, x74, x75, x76, x77, x78, x79, x80, s81, s82, s83, s84, s85, s86, s87, s88, s89, s90, s91, s92, s93, s94, s95, s96, s97, s98, s99, s100, s101, s102, s103, s104, s105, s106, s107, s108, s109, s110, s111, s112, s113, s114, s115, s116, s117, s118, s119, s120, s121, s122, s123, s124, s125, s126, s127, s128, s129, s130, s131, s132, s133, s134, s135, s136, s137, s138, s139, s140, s141, s142, s143, s144], defers := [] } w)) :
    Code.wp Tryz.prog cd Q { tmps := #[s0, s1, s2, s3, s4, s5, .slice ro X.length rc, s7, .slice di D.length dc, s9, .pointer (some ⟨gc, 0, none⟩), s11, s12, .pointer (some ⟨gi, 0, none⟩), s14, s15, s16, s17, s18, s19, s20, s21, s22, s23, s24, s25, s26, s27, s28, s29, s30, s31, s32, s33, s34, s35, s36, s37, s38, s39, s40, s41, s42, s43, s44, s45, s46, s47, s48, s49, s50, s51, s52, s53, s54, s55, s56, s57, s58, s59, s60, s61, s62, s63, s64, s65, s66, s67, s68, s69, s70, s71, s72, s73, s74, s75, s76, s77, s78, s79, s80, s81, s82, s83, s84, s85, s86, s87, s88, s89, s90, s91, s92, s93, s94, s95, s96, s97, s98, s99, s100, s101, s102, s103, s104, s105, s106, s107, s108, s109, s110, s111, s112, s113, s114, s115, s116, s117, s118, s119, s120, s121, s122, s123, s124, s125, s126, s127, s128, s129, s130, s131, s132, s133, s134, s135, s136, s137, s138, s139, s140, s141, s142, s143, s144], defers := [] } u := by
  conv at hcd => lhs; whnf
  obtain rfl := Option.some.inj hcd
  clear hcd
  have hi2 := M.heap_lt HI.out
  have hc2 := M.heap_lt HC.out
  refine wp_region_inv (W17I u B gi gc ro X rc di D dc c ci) (by kernel_rfl) (by kernel_rfl) ?_ ?_ ?_
  · refine W17_start2 _ _ _ _ _ _ _ _ _ _ _ _ _ _ (fun _ _ _ _ _ _ _ _ _ _ => ?_)
    constructor
    all_goals (first | exact (fun _ => below_drawn u) | (intro _; with_reducible rfl) | (intro e; cases e; done) | (intro _; rfl))
  ·
    intro listed a wx i o hI hil ho hn he
    obtain ⟨b0, b1, b2, b3, b4, b5, b6, b7, b8, b9, b10, x71, x72, x73, x74, x75, x76, x77, x78, x79, x80, x6, rfl, rfl, h⟩ := hI
    have hin : i = 0 ∨ i = 1 ∨ i = 2 ∨ i = 3 ∨ i = 4 ∨ i = 5 ∨ i = 6 ∨ i = 7 ∨ i = 8 ∨ i = 9 ∨ i = 10 := by
      have : i < 11 := hil
      omega
    have H := Lib.hid h
    clear h hil
    rcases hin with rfl | rfl | rfl | rfl | rfl | rfl | rfl | rfl | rfl | rfl | rfl <;> obtain rfl := Option.some.inj ho
    ·
      have hy10 : b10 = false := by
        cases h : b10 with
        | false => rfl
        | true =>
          have h1 := (H.out.c9_0 (H.out.c10_9 h))
          have h2 : b0 = false := hn
          rw [h2] at h1
          cases h1
      subst hy10
      obtain rfl := H.out.k6o rfl
      refine wpOp_hid rfl (fun K hK => ?_)
      simp only [List.setIfInBounds_toArray, List.set_cons_succ, List.set_cons_zero]
      go_simp
      refine hK.out _ _ ⟨true, b1, b2, b3, b4, b5, b6, b7, b8, b9, false, (.slice ro X.length rc), x72, x73, x74, x75, x76, x77, x78, x79, x80, (.slice ro X.length rc), rfl, ?_, ?_⟩
      · simp only [List.setIfInBounds_toArray, List.set_cons_succ, List.set_cons_zero]
      exact { H.out with
        k0 := fun _ => rfl
        c9_0 := fun _ => rfl }
    ·
      have hy9 : b9 = false := by
        cases h : b9 with
        | false => rfl
        | true =>
          have h1 := (H.out.c7_1 (H.out.c8_7 (H.out.c9_8 h)))
          have h2 : b1 = false := hn
          rw [h2] at h1
          cases h1
      refine wpOp_hid rfl (fun K hK => ?_)
      simp only [List.setIfInBounds_toArray, List.set_cons_succ, List.set_cons_zero]
      have hbl := H.out.kin hy9
      have n0 : wx.cell? ⟨gi, 0, none⟩ = some (.int .i64 ci.r) := cell_of_row wx gi 0 _ _ _ ((hbl.block _ hi2).trans HI.out)
      have n1 : wx.cell? ⟨gi, 1, none⟩ = some (.int .i64 ci.n) := cell_of_row wx gi 1 _ _ _ ((hbl.block _ hi2).trans HI.out)
      clear hbl
      go_simp
      refine hK.out _ _ ⟨b0, true, b2, b3, b4, b5, b6, b7, b8, b9, b10, x71, (.agg #[.int .i64 ci.r, .int .i64 ci.n]), x73, x74, x75, x76, x77, x78, x79, x80, x6, rfl, ?_, ?_⟩
      · simp only [List.setIfInBounds_toArray, List.set_cons_succ, List.set_cons_zero]
      exact { H.out with
        k1 := fun _ => rfl
        c7_1 := fun _ => rfl }
    ·
      have hy9 : b9 = false := by
        cases h : b9 with
        | false => rfl
        | true =>
          have h1 := (H.out.c7_2 (H.out.c8_7 (H.out.c9_8 h)))
          have h2 : b2 = false := hn
          rw [h2] at h1
          cases h1
      refine wpOp_hid rfl (fun K hK => ?_)
      simp only [List.setIfInBounds_toArray, List.set_cons_succ, List.set_cons_zero]
      have hbl := H.out.kin hy9
      obtain ⟨⟨n0, n1, n2, n3, n4, n5⟩, _⟩ := box6 ((hbl.block _ hc2).trans HC.out)
      clear hbl
      go_simp
      refine hK.out _ _ ⟨b0, b1, true, b3, b4, b5, b6, b7, b8, b9, b10, x71, x72, (.agg #[.int .i64 c.kind, .int .i64 c.client, .int .i64 c.seq, .string c.key, .string c.val, .int .i64 c.rev]), x74, x75, x76, x77, x78, x79, x80, x6, rfl, ?_, ?_⟩
      · simp only [List.setIfInBounds_toArray, List.set_cons_succ, List.set_cons_zero]
      exact { H.out with
        k2 := fun _ => rfl
        c7_2 := fun _ => rfl }
    ·
      have hy5 : b5 = false := by
        cases h : b5 with
        | false => rfl
        | true =>
          have h1 := (H.out.c5_3 h)
          have h2 : b3 = false := hn
          rw [h2] at h1
          cases h1
      have hy9 : b9 = false := by
        cases h : b9 with
        | false => rfl
        | true =>
          have h1 := (H.out.c5_3 (H.out.c6_5 (H.out.c7_6 (H.out.c8_7 (H.out.c9_8 h)))))
          have h2 : b3 = false := hn
          rw [h2] at h1
          cases h1
      subst hy5 hy9
      have HBL := Lib.hid ((H.out.kin rfl).trans (((Below.refl wx.heap.size wx).alloc (Nat.le_refl _) (.cells #[] 37)).mono (H.out.kin rfl).size))
      refine wpOp_hid rfl (fun K hK => ?_)
      simp only [List.setIfInBounds_toArray, List.set_cons_succ, List.set_cons_zero]
      go_simp
      refine hK.out _ _ ⟨b0, b1, b2, true, b4, false, b6, b7, b8, false, b10, x71, x72, x73, (.slice (some ⟨wx.heap.size, 0, none⟩) 0 0), x75, x76, x77, x78, x79, x80, x6, rfl, ?_, ?_⟩
      · simp only [List.setIfInBounds_toArray, List.set_cons_succ, List.set_cons_zero]
      exact { H.out with
        kin := fun _ => HBL.out
        kn := fun _ _ => ⟨wx.heap.size, rfl, (H.out.kin rfl).size, heap_alloc_new wx _⟩
        ka := fun e => by cases e
        kz := fun e => (by have h1 := H.out.c6_5 (H.out.c7_6 (H.out.c8_7 e)); cases h1)
        ks := fun e => by cases e
        c5_3 := fun _ => rfl }
    ·
      refine wpOp_hid rfl (fun K hK => ?_)
      simp only [List.setIfInBounds_toArray, List.set_cons_succ, List.set_cons_zero]
      go_simp
      refine hK.out _ _ ⟨b0, b1, b2, b3, true, b5, b6, b7, b8, b9, b10, x71, x72, x73, x74, (.slice di D.length dc), x76, x77, x78, x79, x80, x6, rfl, ?_, ?_⟩
      · simp only [List.setIfInBounds_toArray, List.set_cons_succ, List.set_cons_zero]
      exact { H.out with
        k4 := fun _ => rfl
        c5_4 := fun _ => rfl }
    ·
      have hap : b5 = false := hn
      have hy6 : b6 = false := by
        cases h : b6 with
        | false => rfl
        | true =>
          have h1 := (H.out.c6_5 h)
          have h2 : b5 = false := hn
          rw [h2] at h1
          cases h1
      have hy7 : b7 = false := by
        cases h : b7 with
        | false => rfl
        | true =>
          have h1 := (H.out.c6_5 (H.out.c7_6 h))
          have h2 : b5 = false := hn
          rw [h2] at h1
          cases h1
      have hy8 : b8 = false := by
        cases h : b8 with
        | false => rfl
        | true =>
          have h1 := (H.out.c6_5 (H.out.c7_6 (H.out.c8_7 h)))
          have h2 : b5 = false := hn
          rw [h2] at h1
          cases h1
      have hy9 : b9 = false := by
        cases h : b9 with
        | false => rfl
        | true =>
          have h1 := (H.out.c6_5 (H.out.c7_6 (H.out.c8_7 (H.out.c9_8 h))))
          have h2 : b5 = false := hn
          rw [h2] at h1
          cases h1
      have d3 : b3 = true := he { on := 3, ground := .data } (by simp) (by kernel_rfl)
      have d4 : b4 = true := he { on := 4, ground := .data } (by simp) (by kernel_rfl)
      obtain rfl := H.out.k4 d4
      subst hap hy6 hy7 hy8 hy9
      obtain ⟨gn, rfl, hgu, hgn⟩ := H.out.kn d3 rfl
      have hbl := H.out.kin rfl
      have HBL := Lib.hid hbl
      have HOE := Lib.hid (own_lit (B := u.heap.size) lRI (X := []) hgn rfl hgu (Nat.zero_le _))
      have HSG := Lib.hid ((HDV.out.below hbl).src lRI)
      have hsz0 := hbl.size
      clear hbl hgn
      refine wpOp_hid rfl (fun K hK => ?_)
      simp only [List.setIfInBounds_toArray, List.set_cons_succ, List.set_cons_zero]
      rw [if_pos (by rfl)]
      refine wp_rowApps lRI (by rfl) (.tmp 74) (.tmp 75) (by rfl) u.heap.size (some ⟨gn, 0, none⟩) 0 di dc 0 D.length [] D rfl rfl (by rfl) (by exact HOE.out) (by rfl) (by exact HSG.out) (by omega) (by omega) ?_
      intro ao cap w2 hown hmod hbel hfr
      rw [Nat.zero_add]
      refine hK.out _ _ ⟨b0, b1, b2, b3, b4, true, false, false, false, false, b10, x71, x72, x73, (.slice (some ⟨gn, 0, none⟩) 0 0), (.slice di D.length dc), (.slice ao D.length cap), x77, x78, x79, x80, x6, rfl, ?_, ?_⟩
      · simp only [Act.put, List.getElem_toArray, List.getElem_cons_succ, List.getElem_cons_zero, List.setIfInBounds_toArray, List.set_cons_succ, List.set_cons_zero]
      exact { H.out with
        k6 := fun e => by cases e
        k7 := fun e => by cases e
        kin := fun _ => HBL.out.trans hbel
        kn := fun _ e => by cases e
        ka := fun _ => ⟨ao, cap, rfl, hown⟩
        kz := fun e => by cases e
        ks := fun e => by cases e
        c5_3 := fun _ => d3
        c5_4 := fun _ => d4
        c6_5 := fun _ => rfl }
    ·
      have d5 : b5 = true := he { on := 5, ground := .data } (by simp) (by kernel_rfl)
      obtain ⟨ao, cap, hx76, hown⟩ := H.out.ka d5
      subst hx76
      clear hown
      refine wpOp_hid rfl (fun K hK => ?_)
      simp only [List.setIfInBounds_toArray, List.set_cons_succ, List.set_cons_zero]
      go_simp
      refine hK.out _ _ ⟨b0, b1, b2, b3, b4, b5, true, b7, b8, b9, b10, x71, x72, x73, x74, x75, (.slice ao D.length cap), (.agg #[(.slice ao D.length cap), .int .i64 0, .int .i64 2]), x78, x79, x80, x6, rfl, ?_, ?_⟩
      · simp only [List.setIfInBounds_toArray, List.set_cons_succ, List.set_cons_zero]
      exact { H.out with
        k6 := fun _ => rfl
        c6_5 := fun _ => d5
        c7_6 := fun _ => rfl }
    ·
      have d1 : b1 = true := he { on := 1, ground := .data } (by simp) (by kernel_rfl)
      have d2 : b2 = true := he { on := 2, ground := .data } (by simp) (by kernel_rfl)
      have d6 : b6 = true := he { on := 6, ground := .data } (by simp) (by kernel_rfl)
      obtain rfl := H.out.k1 d1
      obtain rfl := H.out.k2 d2
      obtain ⟨ao, cap, hx76, hown⟩ := H.out.ka (H.out.c6_5 d6)
      subst hx76
      clear hown
      obtain rfl := H.out.k6 d6
      refine wpOp_hid rfl (fun K hK => ?_)
      simp only [List.setIfInBounds_toArray, List.set_cons_succ, List.set_cons_zero]
      go_simp
      refine hK.out _ _ ⟨b0, b1, b2, b3, b4, b5, b6, true, b8, b9, b10, x71, (.agg #[.int .i64 ci.r, .int .i64 ci.n]), (.agg #[.int .i64 c.kind, .int .i64 c.client, .int .i64 c.seq, .string c.key, .string c.val, .int .i64 c.rev]), x74, x75, (.slice ao D.length cap), (.agg #[.slice ao D.length cap, .int .i64 0, .int .i64 2]), (.agg #[.int .i64 ci.r, .int .i64 ci.n, .int .i64 3, .int .i64 0, .int .i64 0, .int .i64 0, .int .i64 0, .int .i64 c.kind, .int .i64 c.client, .int .i64 c.seq, .string c.key, .string c.val, .int .i64 c.rev, (.slice ao D.length cap), .int .i64 0, .int .i64 2]), x79, x80, x6, rfl, ?_, ?_⟩
      · simp only [List.setIfInBounds_toArray, List.set_cons_succ, List.set_cons_zero]
      exact { H.out with
        k7 := fun _ => rfl
        c7_1 := fun _ => d1
        c7_2 := fun _ => d2
        c7_6 := fun _ => d6
        c8_7 := fun _ => rfl }
    ·
      have hz : b8 = false := hn
      have hy9 : b9 = false := by
        cases h : b9 with
        | false => rfl
        | true =>
          have h1 := (H.out.c9_8 h)
          have h2 : b8 = false := hn
          rw [h2] at h1
          cases h1
      have d7 : b7 = true := he { on := 7, ground := .data } (by simp) (by kernel_rfl)
      obtain ⟨ao, cap, hx76, hown⟩ := H.out.ka (H.out.c6_5 (H.out.c7_6 d7))
      subst hx76
      obtain rfl := H.out.k7 d7
      subst hz hy9
      have HBL := Lib.hid ((H.out.kin rfl).trans (((Below.refl wx.heap.size wx).alloc (Nat.le_refl _) (.cells #[.int .i64 ci.r, .int .i64 ci.n, .int .i64 3, .int .i64 0, .int .i64 0, .int .i64 0, .int .i64 0, .int .i64 c.kind, .int .i64 c.client, .int .i64 c.seq, .string c.key, .string c.val, .int .i64 c.rev, .slice ao D.length cap, .int .i64 0, .int .i64 2] 43)).mono (H.out.kin rfl).size))
      have HOW2 := Lib.hid (hown.below ((Below.refl wx.heap.size wx).alloc (Nat.le_refl _) (.cells #[.int .i64 ci.r, .int .i64 ci.n, .int .i64 3, .int .i64 0, .int .i64 0, .int .i64 0, .int .i64 0, .int .i64 c.kind, .int .i64 c.client, .int .i64 c.seq, .string c.key, .string c.val, .int .i64 c.rev, .slice ao D.length cap, .int .i64 0, .int .i64 2] 43)))
      clear hown
      refine wpOp_hid rfl (fun K hK => ?_)
      simp only [List.setIfInBounds_toArray, List.set_cons_succ, List.set_cons_zero]
      go_simp
      refine hK.out _ _ ⟨b0, b1, b2, b3, b4, b5, b6, b7, true, false, b10, x71, x72, x73, x74, x75, (.slice ao D.length cap), x77, (.agg #[.int .i64 ci.r, .int .i64 ci.n, .int .i64 3, .int .i64 0, .int .i64 0, .int .i64 0, .int .i64 0, .int .i64 c.kind, .int .i64 c.client, .int .i64 c.seq, .string c.key, .string c.val, .int .i64 c.rev, .slice ao D.length cap, .int .i64 0, .int .i64 2]), (.slice (some ⟨wx.heap.size, 0, none⟩) 1 1), x80, x6, rfl, ?_, ?_⟩
      · simp only [List.setIfInBounds_toArray, List.set_cons_succ, List.set_cons_zero]
      exact { H.out with
        kin := fun _ => HBL.out
        kn := fun _ e => (by have h1 := H.out.c6_5 (H.out.c7_6 d7); rw [h1] at e; cases e)
        ka := fun _ => ⟨ao, cap, rfl, HOW2.out⟩
        kz := fun _ _ => ⟨wx.heap.size, rfl, (H.out.kin rfl).size, heap_alloc_new wx _⟩
        ks := fun e => by cases e
        c8_7 := fun _ => d7
        c9_8 := fun _ => rfl }
    ·
      have hap : b9 = false := hn
      have d0 : b0 = true := he { on := 0, ground := .data } (by simp) (by kernel_rfl)
      have d8 : b8 = true := he { on := 8, ground := .data } (by simp) (by kernel_rfl)
      obtain ⟨ao, cap, hx76, hown⟩ := H.out.ka (H.out.c6_5 (H.out.c7_6 (H.out.c8_7 d8)))
      subst hx76
      obtain rfl := H.out.k0 d0
      subst hap
      obtain ⟨gn, rfl, hgu, hgn⟩ := H.out.kz d8 rfl
      have hbl := H.out.kin rfl
      have HOW3 := Lib.hid hown
      have HRO := Lib.hid (HR.out.below hbl)
      have HM := Lib.hid (Mods.of_below (S := fun j => ∃ a, ro = some a ∧ j = a.block) hbl)
      have HSG := Lib.hid (src_of (S := sRR) (Y := [mkR ci c D ao cap]) hgn rfl)
      have hsz0 := hbl.size
      have hb5 := H.out.c6_5 (H.out.c7_6 (H.out.c8_7 d8))
      clear hbl hgn hown
      refine wpOp_hid rfl (fun K hK => ?_)
      simp only [List.setIfInBounds_toArray, List.set_cons_succ, List.set_cons_zero]
      rw [if_pos (by rfl)]
      refine wp_rowApps lRR (by rfl) (.tmp 71) (.tmp 79) (by rfl) B ro rc (some ⟨gn, 0, none⟩) 1 X.length 1 X [mkR ci c D ao cap] rfl rfl (by rfl) (by exact HRO.out) (by rfl) (by exact HSG.out) (by omega) (by omega) ?_
      intro ro2 rc2 w2 hown hmod hbel hfr
      refine hK.out _ _ ⟨b0, b1, b2, b3, b4, b5, b6, b7, b8, true, b10, (.slice ro X.length rc), x72, x73, x74, x75, (.slice ao D.length cap), x77, x78, (.slice (some ⟨gn, 0, none⟩) 1 1), (.slice ro2 (X.length + 1) rc2), x6, rfl, ?_, ?_⟩
      · simp only [Act.put, List.getElem_toArray, List.getElem_cons_succ, List.getElem_cons_zero, List.setIfInBounds_toArray, List.set_cons_succ, List.set_cons_zero]
      exact { H.out with
        kin := fun e => by cases e
        k10 := fun e => (by have h1 := H.out.c10_9 e; cases h1)
        kn := fun _ e => (by rw [hb5] at e; cases e)
        ka := fun _ => ⟨ao, cap, rfl, HOW3.out.beside HRO.out (by decide) hmod⟩
        kz := fun _ e => by cases e
        ks := fun _ => ⟨ao, cap, ro2, rc2, rfl, rfl, hown, HM.out.trans hmod⟩
        c9_0 := fun _ => d0
        c9_8 := fun _ => d8
        c10_9 := fun _ => rfl }
    ·
      have d9 : b9 = true := he { on := 9, ground := .data } (by simp) (by kernel_rfl)
      refine wpOp_hid rfl (fun K hK => ?_)
      simp only [List.setIfInBounds_toArray, List.set_cons_succ, List.set_cons_zero]
      go_simp
      refine hK.out _ _ ⟨b0, b1, b2, b3, b4, b5, b6, b7, b8, b9, true, x71, x72, x73, x74, x75, x76, x77, x78, x79, x80, x80, rfl, ?_, ?_⟩
      · simp only [List.setIfInBounds_toArray, List.set_cons_succ, List.set_cons_zero]
      exact { H.out with
        k10 := fun _ => rfl
        k6o := fun e => by cases e
        c10_9 := fun _ => d9 }
  · intro listed a wx hI hall
    obtain ⟨b0, b1, b2, b3, b4, b5, b6, b7, b8, b9, b10, x71, x72, x73, x74, x75, x76, x77, x78, x79, x80, x6, rfl, rfl, h⟩ := hI
    obtain rfl : b9 = true := hall 9 (by decide)
    obtain rfl : b10 = true := hall 10 (by decide)
    obtain ⟨ao, cap, ro2, rc2, h76, rfl, hown, hm⟩ := h.ks rfl
    obtain rfl := h.k10 rfl
    obtain ⟨ao2, cap2, h762, ho2⟩ := h.ka (h.c6_5 (h.c7_6 (h.c8_7 (h.c9_8 rfl))))
    rw [h76] at h762
    obtain ⟨rfl, rfl⟩ : ao = ao2 ∧ cap = cap2 := by
      simp only [Value.slice.injEq, true_and] at h762
      exact ⟨h762.1, by omega⟩
    simp only [List.setIfInBounds_toArray, List.set_cons_succ, List.set_cons_zero]
    exact hQ.out _ _ _ _ _ _ _ _ _ _ ao ro2 cap rc2 wx ho2 hown hm
end Go.Proofs.YtkgjfagejnppbaaGreatDoor.X

/- The laws of check: what the building loops hand on. -/
namespace Go.Proofs.YtkgjfagejnppbaaGreatDoor.X
open Go.RowKit Go.Proofs.YtkgjfagejnppbaaGreatDoor.M Go.BigFrame Go.Proofs.YtkgjfagejnppbaaGreatDoor.O Go.Proofs.YtkgjfagejnppbaaGreatDoor.P Go.Proofs.YtkgjfagejnppbaaGreatDoor.Mp Go.Proofs.YtkgjfagejnppbaaGreatDoor.Rw
set_option linter.unusedVariables false
set_option linter.unusedSimpArgs false

theorem ini_of {n : Int} (h1 : -1000000 ≤ n) (h2 : n ≤ 1000000) : InI n := by unfold InI; omega
theorem BPl.idI {f : Cmd → Int} {i : Nat} {X : List Rv} {C : List Cmd} {RP : List Rep} (h : BPl f i X C RP) (hi : i ≤ 1000) : ∀ d ∈ idsX X, IdI d := fun d hd => by
  obtain ⟨x, hx, rfl⟩ := List.mem_map.1 hd
  obtain ⟨g1, g2, g3, g4, _⟩ := h.id x hx
  exact ⟨ini_of (by omega) (by omega), ini_of (by omega) (by omega)⟩
theorem BPl.depI {f : Cmd → Int} {i : Nat} {X : List Rv} {C : List Cmd} {RP : List Rep} (h : BPl f i X C RP) (hi : i ≤ 1000) : ∀ x ∈ X, ∀ d ∈ x.deps, IdI d := fun x hx d hd => by
  obtain ⟨k, hk⟩ := List.mem_iff_getElem?.1 hx
  obtain ⟨j, _, hj⟩ := (h.ch.dep k x hk d).1 hd
  exact h.idI hi d (List.mem_of_getElem? hj)
theorem BSt.recsV {w w3 wr : World} {s p b q n rc dc hc tc i : Nat} {C C2 : List Cmd} {X : List Rv} {D : List O.Id} {H T : List Ev} {ro di ho tw : Option Addr} {f : Cmd → Int} {RP : List Rep} (h : BSt w w3 wr s p b q n C X D H T ro di ho tw rc dc hc tc) (hp : BPl f i X C2 RP) (hi : i ≤ 1000) : RecsV wr ro rc X :=
  recs_of h.recs fun x hx => ⟨(hp.cl x.cmd (by rw [← hp.cm]; exact List.mem_map.2 ⟨x, hx, rfl⟩)).2.1, IdsV.of_own (h.own x hx) (hp.depI hi x hx), hp.idI hi x.id (List.mem_map.2 ⟨x, hx, rfl⟩)⟩
theorem linear_n {X : List Rv} {RP : List Rep} {H : List Ev} {ao ho : Option Addr} {cap hc m n : Nat} {w : World} (hm : X.length = m) (hn : H.length = n) (hV : RecsV w ao cap X) (hT : TabsI w) (hX : RecsOk X RP) (hH : RowV sRE w ho hc H) (hok : ∀ e ∈ H, EvOkM e) (hlh : n ≤ 100000) {v : Int} (hv : LinV (X.map Rv.cmd) RP H v) :
    Calls Tryz.prog 9 #[.slice ao m cap, .slice ho n hc] w fun e w' => e = .returned (.int .i64 v) ∧ Below w.heap.size w w' := by
  subst hm
  subst hn
  exact linear_any X RP H ao ho cap hc w hV hT hX hH hok hlh v hv
theorem row_n {X : List Rv} {RP : List Rep} {ao : Option Addr} {cap m : Nat} {w : World} (hm : X.length = m) (hV : RecsV w ao cap X) (hT : TabsI w) (hX : RecsOk X RP) :
    Calls Tryz.prog 10 #[.slice ao m cap] w fun e w' => ∃ ro rc, e = .returned (.slice ro m rc) ∧ Below w.heap.size w w' := by
  subst hm
  exact row_any X RP ao cap w hV hT hX
theorem cmd0_ok : CmdOk cmd0 := by
  refine ⟨?_, ?_, ?_, ?_, ?_, ?_⟩ <;> first | (unfold InI cmd0; decide) | (unfold cmd0 maxLen; decide)
theorem callE_ok {c : Cmd} (h : CmdOk c) : EvOkM (callE c) := ⟨ini_of (by show (-1000000 : Int) ≤ 1; decide) (by show (1 : Int) ≤ 1000000; decide), h, ini_of (by show (-1000000 : Int) ≤ 0; decide) (by show (0 : Int) ≤ 1000000; decide), ini_of (by show (-1000000 : Int) ≤ 0; decide) (by show (0 : Int) ≤ 1000000; decide)⟩
theorem ansE_ok {a b : Int} {r : Rep} (h1 : InI a) (h2 : InI b) : EvOkM (ansE a b r) := ⟨ini_of (by show (-1000000 : Int) ≤ 2; decide) (by show (2 : Int) ≤ 1000000; decide), cmd0_ok, h1, h2⟩
theorem row_evs {C : List Cmd} {RP : List Rep} (hl : RP.length = C.length) (h : ∀ c ∈ C, CmdOk c) : ∀ e ∈ evsR C RP, EvOkM e := by
  intro e he
  obtain ⟨j, hj⟩ := List.mem_iff_getElem?.1 he
  obtain ⟨c, r, h1, h2, h3 | h3⟩ := evsR_get hl hj
  · rw [h3.2]; exact callE_ok (h c (List.mem_of_getElem? h1))
  · have := h c (List.mem_of_getElem? h1)
    rw [h3.2]; exact ansE_ok this.client this.seq
/-- the four tests on a command that the laws leave out -/
def skipB (c : Cmd) : Bool := decide (100 < c.key.size) || decide (1100 < c.val.size) || (c.kind == 0) || (c.kind == 6)
theorem skip_key {c : Cmd} (h : skipB c = false) : c.key.size ≤ 100 := by
  unfold skipB at h
  simp only [Bool.or_eq_false_iff, decide_eq_false_iff_not] at h
  omega
theorem skip_val {c : Cmd} {b1 b2 b3 b4 : Bool} (h1 : decide (100 < c.key.size) = b1) (h2 : decide (1100 < c.val.size) = b2) (h3 : (c.kind == 0) = b3) (h4 : (c.kind == 6) = b4) : skipB c = (b1 || b2 || b3 || b4) := by
  unfold skipB
  rw [h1, h2, h3, h4]
theorem box_set2r {w : World} {g : Nat} {c : Cmd} {v1 v2 : Int} (h : w.heap[g]? = some (.cells (cmdA c) 30 (0, 0))) : ((w.setCell ⟨g, 2, none⟩ (.int .i64 v2)).setCell ⟨g, 1, none⟩ (.int .i64 v1)).heap[g]? = some (.cells (cmdA { c with client := v1, seq := v2 }) 30 (0, 0)) ∧ Mods (fun j => j = g) w ((w.setCell ⟨g, 2, none⟩ (.int .i64 v2)).setCell ⟨g, 1, none⟩ (.int .i64 v1)) := by
  have s1 := heap_set w g 2 (.int .i64 v2) g _ _ _ h
  rw [if_pos rfl] at s1
  have s2 := heap_set _ g 1 (.int .i64 v1) g _ _ _ s1
  rw [if_pos rfl] at s2
  exact ⟨s2, ((Mods.refl (fun j => j = g) w).setCell (p := ⟨g, 2, none⟩) (fun _ => rfl) _).setCell (p := ⟨g, 1, none⟩) (fun _ => rfl) _⟩
theorem with_ok {c : Cmd} (h : CmdOk c) {a b : Int} (h1 : InI a) (h2 : InI b) : CmdOk { c with client := a, seq := b } := ⟨h.kind, h1, h2, h.rev, h.key, h.val⟩
/-- what a command came to, in the sessions -/
theorem ses_three (S : Ses) (c : Cmd) : ∃ S2 r F, sesDo S c = (S2, r, F) := ⟨_, _, _, rfl⟩
/-- append, the lengths as numbers of their own -/
theorem wpList_appsN {α : Type} {S : RowS α} {w : World} (hS : S.Law) {ops : Array Oper} {rest : List Oper} {o : Oper} {a : Act} {Q : Exit → Act → World → Prop} (hgd : o.guard = none) (s x : Operand)
    (ho : o.op = .call { callee := .builtin .append, args := #[s, x], argTypes := #[S.t, S.t] }) (B : Nat) (oo : Option Addr) (oc : Nat) (so : Option Addr) (sc m n : Nat) (X Y : List α) (hX : X.length = m) (hY : Y.length = n) (hs : a.eval s = .slice oo m oc)
    (hown : OwnG S w B oo oc X) (hx : a.eval x = .slice so n sc) (hsrc : Rw.SrcAt w so (Y.flatMap S.enc)) (hM : m + n ≤ 100000000) (hB : B ≤ w.heap.size)
    (h : ∀ oo' oc' w', OwnG S w' B oo' oc' (X ++ Y) → Mods (fun j => ∃ a, oo = some a ∧ j = a.block) w w' → Below B w w' → (∀ a, oo' = some a → (∃ a0, oo = some a0 ∧ a.block = a0.block) ∨ w.heap.size ≤ a.block) → wpList Tryz.prog ops Q rest (a.put o.dst (.slice oo' (m + n) oc')) w') :
    wpList Tryz.prog ops Q (o :: rest) a w := by
  subst hX
  subst hY
  exact wpList_rowApps hS hgd s x ho B oo oc so sc X Y hs hown hx hsrc hM hB h
end Go.Proofs.YtkgjfagejnppbaaGreatDoor.X
