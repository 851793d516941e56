/- OrderTags: its region that reads two neighbours. -/
import Derived.Test.YtndfhejfhfhbdaaGreatDoorOrdAW
import Derived.Test.YtndfhejfhfhbdaaGreatDoorMrg27
namespace Go.Proofs.YtndfhejfhfhbdaaGreatDoor.O
open Go.RowKit Go.Proofs.YtndfhejfhfhbdaaGreatDoor.M Go.BigFrame
set_option linter.unusedVariables false
set_option linter.unusedSimpArgs false

set_option maxRecDepth 100000 in
set_option maxHeartbeats 4000000 in
theorem tags_r23 (X : List Rv) (wr : World) (gb o1 k i gc1 g off rc p q : Nat) (ia ib : Id) (x y : Rv) (hii : (i : Int) < (X.length : Int)) (hik : (i : Int) - 1 = (k : Int)) (hwk : IntKind.i64.wrap (k : Int) = (k : Int)) (hkx : (k : Int) < (X.length : Int)) (hpl : (p : Int) < (X.length : Int)) (hql : (q : Int) < (X.length : Int))
    (HATIA : Hid (∀ wx : World, Below wr.heap.size wr wx → Calls Tryz.prog 14 #[.slice (some ⟨g, off, none⟩) X.length rc, idV ia] wx fun e w' => e = .returned (.int .i64 (p : Int)) ∧ Below wx.heap.size wx w'))
    (HATIB : Hid (∀ wx : World, Below wr.heap.size wr wx → Calls Tryz.prog 14 #[.slice (some ⟨g, off, none⟩) X.length rc, idV ib] wx fun e w' => e = .returned (.int .i64 (q : Int)) ∧ Below wx.heap.size wx w'))
    (HKA : Hid (∀ wx : World, Below wr.heap.size wr wx → wx.cell? ⟨gb, o1 + k * 2, none⟩ = some (.int .i64 ia.r) ∧ wx.cell? ⟨gb, o1 + k * 2 + 1, none⟩ = some (.int .i64 ia.n)))
    (HKB : Hid (∀ wx : World, Below wr.heap.size wr wx → wx.cell? ⟨gb, o1 + i * 2, none⟩ = some (.int .i64 ib.r) ∧ wx.cell? ⟨gb, o1 + i * 2 + 1, none⟩ = some (.int .i64 ib.n)))
    (HKX : Hid (∀ wx : World, Below wr.heap.size wr wx → RecAt wx g (off + p * 16) x)) (HKY : Hid (∀ wx : World, Below wr.heap.size wr wx → RecAt wx g (off + q * 16) y))
    (cd : Code) (hcd : Tryz.f3.body.bind (regAt 23) = some cd) (s0 s1 s2 s3 s4 s5 s6 s8 s9 s11 s13 s14 s15 s16 s17 s18 s19 s20 s21 s22 s23 s24 s25 s26 s27 s28 s29 s30 s31 s32 s33 s34 s35 s36 s37 s38 s39 s40 s41 s42 s43 s44 s45 s46 s47 s48 s49 s50 s51 s52 s53 s54 s55 s56 s57 s58 s59 s60 s61 s62 s63 s64 s65 s66 s67 s68 s69 s70 s71 s72 s73 s74 s75 s76 s77 s78 s79 s80 s81 s82 s83 s84 s85 s86 s87 s88 s89 s90 s91 s92 s93 s94 s95 s96 s97 s98 s99 s100 s101 s102 s103 s104 s105 s106 s107 s108 s109 s110 s111 s112 s113 s114 s115 s116 s117 s118 s119 s120 s121 s122 s123 s124 s125 s126 s127 s128 s129 s130 s131 s132 s133 s134 s135 s136 s137 s138 s139 s140 s141 s142 s143 s144 s145 s146 s147 s148 s149 s150 s151 s152 s153 s154 s155 s156 s157 s158 s159 s160 s161 s162 : Value) (Q : Exit → Act → World → Prop)
    (hQ : Hid (∀ (x104 x105 x106 x107 x108 x109 x110 x111 x112 x113 x114 x115 x116 x117 x118 x119 x120 x121 x122 : Value) (g1 g2 : Nat) (wx : World), wx.heap[g1]? = some (recO x) → wx.heap[g2]? = some (recO y) → Below wr.heap.size wr wx →
      Q .normal { tmps := #[s0, s1, s2, s3, s4, s5, s6, .slice (some ⟨g, off, none⟩) X.length rc, s8, s9, .slice (some ⟨gb, o1, none⟩) X.length gc1, s11, .int .i64 (i : Int), .pointer (some ⟨g1, 0, none⟩), .pointer (some ⟨g2, 0, none⟩), s15, s16, s17, s18, s19, s20, s21, s22, s23, s24, s25, s26, s27, s28, s29, s30, s31, s32, s33, s34, s35, s36, s37, s38, s39, s40, s41, s42, s43, s44, s45, s46, s47, s48, s49, s50, s51, s52, s53, s54, s55, s56, s57, s58, s59, s60, s61, s62, s63, s64, s65, s66, s67, s68, s69, s70, s71, s72, s73, s74, s75, s76, s77, s78, s79, s80, s81, s82, s83, s84, s85, s86, s87, s88, s89, s90, s91, s92, s93, s94, s95, s96, s97, s98, s99, s100, s101, s102, s103, x104, x105, x106, x107, x108, x109, x110, x111, x112, x113, x114, x115, x116, x117, x118, x119, x120, x121, x122, s123, s124, s125, s126, s127, s128, s129, s130, s131, s132, s133, s134, s135, s136, s137, s138, s139, s140, s141, s142, s143, s144, s145, s146, s147, s148, s149, s150, s151, s152, s153, s154, s155, s156, s157, s158, s159, s160, s161, s162], defers := [] } wx)) :
    Code.wp Tryz.prog cd Q { tmps := #[s0, s1, s2, s3, s4, s5, s6, .slice (some ⟨g, off, none⟩) X.length rc, s8, s9, .slice (some ⟨gb, o1, none⟩) X.length gc1, s11, .int .i64 (i : Int), s13, s14, s15, s16, s17, s18, s19, s20, s21, s22, s23, s24, s25, s26, s27, s28, s29, s30, s31, s32, s33, s34, s35, s36, s37, s38, s39, s40, s41, s42, s43, s44, s45, s46, s47, s48, s49, s50, s51, s52, s53, s54, s55, s56, s57, s58, s59, s60, s61, s62, s63, s64, s65, s66, s67, s68, s69, s70, s71, s72, s73, s74, s75, s76, s77, s78, s79, s80, s81, s82, s83, s84, s85, s86, s87, s88, s89, s90, s91, s92, s93, s94, s95, s96, s97, s98, s99, s100, s101, s102, s103, s104, s105, s106, s107, s108, s109, s110, s111, s112, s113, s114, s115, s116, s117, s118, s119, s120, s121, s122, s123, s124, s125, s126, s127, s128, s129, s130, s131, s132, s133, s134, s135, s136, s137, s138, s139, s140, s141, s142, s143, s144, s145, s146, s147, s148, s149, s150, s151, s152, s153, s154, s155, s156, s157, s158, s159, s160, s161, s162], defers := [] } wr := by
  conv at hcd => lhs; whnf
  obtain rfl := Option.some.inj hcd
  clear hcd
  refine wp_region_inv (T23I wr gb o1 k i X.length gc1 g off rc p q ia ib x y) (by kernel_rfl) (by kernel_rfl) ?_ ?_ ?_
  · refine T23_start _ _ _ _ _ _ _ _ _ _ _ _ _ _ _ _ _ _ (fun _ _ _ _ _ _ _ _ _ _ _ _ _ _ _ _ _ _ _ _ _ => ?_)
    constructor
    all_goals (first | exact below_drawn wr | (intro e; cases e) | (intro e e2; cases e))
  ·
    intro listed a wx i o hI hil ho hn he
    obtain ⟨b0, b1, b2, b3, b4, b5, b6, b7, b8, b9, b10, b11, b12, b13, b14, b15, b16, b17, b18, b19, b20, b21, b22, x104, x105, x106, x107, x108, x109, x110, x111, x112, x113, x114, x115, x116, x117, x118, x119, x120, x121, x122, x13, x14, rfl, rfl, h⟩ := hI
    have hin : i = 0 ∨ i = 1 ∨ i = 2 ∨ i = 3 ∨ i = 4 ∨ i = 5 ∨ i = 6 ∨ i = 7 ∨ i = 8 ∨ i = 9 ∨ i = 10 ∨ i = 11 ∨ i = 12 ∨ i = 13 ∨ i = 14 ∨ i = 15 ∨ i = 16 ∨ i = 17 ∨ i = 18 ∨ i = 19 ∨ i = 20 ∨ i = 21 ∨ i = 22 := by
      have : i < 23 := hil
      omega
    have H := Lib.hid h
    clear h hil
    rcases hin with rfl | rfl | rfl | rfl | rfl | rfl | rfl | rfl | rfl | rfl | rfl | rfl | rfl | rfl | rfl | rfl | rfl | rfl | rfl | rfl | rfl | rfl | rfl <;> obtain rfl := Option.some.inj ho
    ·
      refine wpOp_hid rfl (fun K hK => ?_)
      simp only [List.setIfInBounds_toArray, List.set_cons_succ, List.set_cons_zero]
      go_simp
      refine hK.out _ _ ⟨true, b1, b2, b3, b4, b5, b6, b7, b8, b9, b10, b11, b12, b13, b14, b15, b16, b17, b18, b19, b20, b21, b22, (.slice (some ⟨g, off, none⟩) X.length rc), x105, x106, x107, x108, x109, x110, x111, x112, x113, x114, x115, x116, x117, x118, x119, x120, x121, x122, x13, x14, rfl, ?_, ?_⟩
      · simp only [List.setIfInBounds_toArray, List.set_cons_succ, List.set_cons_zero]
      exact { H.out with
        k0 := fun _ => rfl
        c8_0 := fun _ => rfl }
    ·
      refine wpOp_hid rfl (fun K hK => ?_)
      simp only [List.setIfInBounds_toArray, List.set_cons_succ, List.set_cons_zero]
      go_simp
      refine hK.out _ _ ⟨b0, true, b2, b3, b4, b5, b6, b7, b8, b9, b10, b11, b12, b13, b14, b15, b16, b17, b18, b19, b20, b21, b22, x104, (.slice (some ⟨g, off, none⟩) X.length rc), x106, x107, x108, x109, x110, x111, x112, x113, x114, x115, x116, x117, x118, x119, x120, x121, x122, x13, x14, rfl, ?_, ?_⟩
      · simp only [List.setIfInBounds_toArray, List.set_cons_succ, List.set_cons_zero]
      exact { H.out with
        k1 := fun _ => rfl
        c7_1 := fun _ => rfl }
    ·
      refine wpOp_hid rfl (fun K hK => ?_)
      simp only [List.setIfInBounds_toArray, List.set_cons_succ, List.set_cons_zero]
      go_simp
      refine hK.out _ _ ⟨b0, b1, true, b3, b4, b5, b6, b7, b8, b9, b10, b11, b12, b13, b14, b15, b16, b17, b18, b19, b20, b21, b22, x104, x105, (.slice (some ⟨gb, o1, none⟩) X.length gc1), x107, x108, x109, x110, x111, x112, x113, x114, x115, x116, x117, x118, x119, x120, x121, x122, x13, x14, rfl, ?_, ?_⟩
      · simp only [List.setIfInBounds_toArray, List.set_cons_succ, List.set_cons_zero]
      exact { H.out with
        k2 := fun _ => rfl
        c5_2 := fun _ => rfl }
    ·
      refine wpOp_hid rfl (fun K hK => ?_)
      simp only [List.setIfInBounds_toArray, List.set_cons_succ, List.set_cons_zero]
      go_simp
      refine hK.out _ _ ⟨b0, b1, b2, true, b4, b5, b6, b7, b8, b9, b10, b11, b12, b13, b14, b15, b16, b17, b18, b19, b20, b21, b22, x104, x105, x106, (.int .i64 (i : Int)), x108, x109, x110, x111, x112, x113, x114, x115, x116, x117, x118, x119, x120, x121, x122, x13, x14, rfl, ?_, ?_⟩
      · simp only [List.setIfInBounds_toArray, List.set_cons_succ, List.set_cons_zero]
      exact { H.out with
        k3 := fun _ => rfl
        c4_3 := fun _ => rfl }
    ·
      have d3 : b3 = true := he { on := 3, ground := .data } (by simp) (by kernel_rfl)
      obtain rfl := H.out.k3 d3
      refine wpOp_hid rfl (fun K hK => ?_)
      simp only [List.setIfInBounds_toArray, List.set_cons_succ, List.set_cons_zero]
      go_simp
      refine hK.out _ _ ⟨b0, b1, b2, b3, true, b5, b6, b7, b8, b9, b10, b11, b12, b13, b14, b15, b16, b17, b18, b19, b20, b21, b22, x104, x105, x106, (.int .i64 (i : Int)), (.int .i64 (k : Int)), x109, x110, x111, x112, x113, x114, x115, x116, x117, x118, x119, x120, x121, x122, x13, x14, rfl, ?_, ?_⟩
      · simp only [List.setIfInBounds_toArray, List.set_cons_succ, List.set_cons_zero]
      exact { H.out with
        k4 := fun _ => rfl
        c4_3 := fun _ => d3
        c5_4 := fun _ => rfl }
    ·
      have d2 : b2 = true := he { on := 2, ground := .data } (by simp) (by kernel_rfl)
      obtain rfl := H.out.k2 d2
      have d4 : b4 = true := he { on := 4, ground := .data } (by simp) (by kernel_rfl)
      obtain rfl := H.out.k4 d4
      refine wpOp_hid rfl (fun K hK => ?_)
      simp only [List.setIfInBounds_toArray, List.set_cons_succ, List.set_cons_zero]
      go_simp
      refine hK.out _ _ ⟨b0, b1, b2, b3, b4, true, b6, b7, b8, b9, b10, b11, b12, b13, b14, b15, b16, b17, b18, b19, b20, b21, b22, x104, x105, (.slice (some ⟨gb, o1, none⟩) X.length gc1), x107, (.int .i64 (k : Int)), (.pointer (some ⟨gb, o1 + k * 2, none⟩)), x110, x111, x112, x113, x114, x115, x116, x117, x118, x119, x120, x121, x122, x13, x14, rfl, ?_, ?_⟩
      · simp only [List.setIfInBounds_toArray, List.set_cons_succ, List.set_cons_zero]
      exact { H.out with
        k5 := fun _ => rfl
        c5_2 := fun _ => d2
        c5_4 := fun _ => d4
        c6_5 := fun _ => rfl }
    ·
      have d5 : b5 = true := he { on := 5, ground := .data } (by simp) (by kernel_rfl)
      obtain rfl := H.out.k5 d5
      refine wpOp_hid rfl (fun K hK => ?_)
      simp only [List.setIfInBounds_toArray, List.set_cons_succ, List.set_cons_zero]
      obtain ⟨c0, c1⟩ := HKA.out _ H.out.kin
      go_simp
      refine hK.out _ _ ⟨b0, b1, b2, b3, b4, b5, true, b7, b8, b9, b10, b11, b12, b13, b14, b15, b16, b17, b18, b19, b20, b21, b22, x104, x105, x106, x107, x108, (.pointer (some ⟨gb, o1 + k * 2, none⟩)), (idV ia), x111, x112, x113, x114, x115, x116, x117, x118, x119, x120, x121, x122, x13, x14, rfl, ?_, ?_⟩
      · simp only [List.setIfInBounds_toArray, List.set_cons_succ, List.set_cons_zero]
      exact { H.out with
        k6 := fun _ => rfl
        c6_5 := fun _ => d5
        c7_6 := fun _ => rfl }
    ·
      have d1 : b1 = true := he { on := 1, ground := .data } (by simp) (by kernel_rfl)
      obtain rfl := H.out.k1 d1
      have d6 : b6 = true := he { on := 6, ground := .data } (by simp) (by kernel_rfl)
      obtain rfl := H.out.k6 d6
      refine wpOp_hid rfl (fun K hK => ?_)
      simp only [List.setIfInBounds_toArray, List.set_cons_succ, List.set_cons_zero]
      go_simp
      go_at_call 14
      refine (HATIA.out wx H.out.kin).mono ?_
      rintro e w7 ⟨rfl, hb⟩
      refine hK.out _ _ ⟨b0, b1, b2, b3, b4, b5, b6, true, b8, b9, b10, b11, b12, b13, b14, b15, b16, b17, b18, b19, b20, b21, b22, x104, (.slice (some ⟨g, off, none⟩) X.length rc), x106, x107, x108, x109, (idV ia), (.int .i64 (p : Int)), x112, x113, x114, x115, x116, x117, x118, x119, x120, x121, x122, x13, x14, rfl, ?_, ?_⟩
      · simp only [List.setIfInBounds_toArray, List.set_cons_succ, List.set_cons_zero]
      exact { H.out with
        k7 := fun _ => rfl
        kin := H.out.kin.trans (hb.mono H.out.kin.size)
        ka := fun e1 e2 => (by obtain ⟨g9, e3, e4, e5⟩ := H.out.ka e1 e2; exact ⟨g9, e3, e4, (hb.block _ (M.heap_lt e5)).trans e5⟩)
        kb := fun e1 e2 => (by obtain ⟨g9, e3, e4, e5⟩ := H.out.kb e1 e2; exact ⟨g9, e3, e4, (hb.block _ (M.heap_lt e5)).trans e5⟩)
        kx := fun e1 => (by obtain ⟨g9, e3, e4, e5⟩ := H.out.kx e1; exact ⟨g9, e3, e4, (hb.block _ (M.heap_lt e5)).trans e5⟩)
        ky := fun e1 => (by obtain ⟨g9, e3, e4, e5⟩ := H.out.ky e1; exact ⟨g9, e3, e4, (hb.block _ (M.heap_lt e5)).trans e5⟩)
        c7_1 := fun _ => d1
        c7_6 := fun _ => d6
        c8_7 := fun _ => rfl
        c16_7 := fun _ => rfl }
    ·
      have d0 : b0 = true := he { on := 0, ground := .data } (by simp) (by kernel_rfl)
      obtain rfl := H.out.k0 d0
      have d7 : b7 = true := he { on := 7, ground := .data } (by simp) (by kernel_rfl)
      obtain rfl := H.out.k7 d7
      refine wpOp_hid rfl (fun K hK => ?_)
      simp only [List.setIfInBounds_toArray, List.set_cons_succ, List.set_cons_zero]
      go_simp
      refine hK.out _ _ ⟨b0, b1, b2, b3, b4, b5, b6, b7, true, b9, b10, b11, b12, b13, b14, b15, b16, b17, b18, b19, b20, b21, b22, (.slice (some ⟨g, off, none⟩) X.length rc), x105, x106, x107, x108, x109, x110, (.int .i64 (p : Int)), (.pointer (some ⟨g, off + p * 16, none⟩)), x113, x114, x115, x116, x117, x118, x119, x120, x121, x122, x13, x14, rfl, ?_, ?_⟩
      · simp only [List.setIfInBounds_toArray, List.set_cons_succ, List.set_cons_zero]
      exact { H.out with
        k8 := fun _ => rfl
        c8_0 := fun _ => d0
        c8_7 := fun _ => d7
        c9_8 := fun _ => rfl }
    ·
      have d8 : b8 = true := he { on := 8, ground := .data } (by simp) (by kernel_rfl)
      obtain rfl := H.out.k8 d8
      refine wpOp_hid rfl (fun K hK => ?_)
      simp only [List.setIfInBounds_toArray, List.set_cons_succ, List.set_cons_zero]
      obtain ⟨c0, c1, c2, c3, c4, c5, c6, c7, c8, c9, c10, c11, c12, c13, c14, c15⟩ := HKX.out _ H.out.kin
      go_simp
      refine hK.out _ _ ⟨b0, b1, b2, b3, b4, b5, b6, b7, b8, true, b10, b11, b12, b13, b14, b15, b16, b17, b18, b19, b20, b21, b22, x104, x105, x106, x107, x108, x109, x110, x111, (.pointer (some ⟨g, off + p * 16, none⟩)), (recV x), x114, x115, x116, x117, x118, x119, x120, x121, x122, x13, x14, rfl, ?_, ?_⟩
      · simp only [List.setIfInBounds_toArray, List.set_cons_succ, List.set_cons_zero]
      exact { H.out with
        k9 := fun _ => rfl
        c9_8 := fun _ => d8
        c21_9 := fun _ => rfl }
    ·
      refine wpOp_hid rfl (fun K hK => ?_)
      simp only [List.setIfInBounds_toArray, List.set_cons_succ, List.set_cons_zero]
      go_simp
      refine hK.out _ _ ⟨b0, b1, b2, b3, b4, b5, b6, b7, b8, b9, true, b11, b12, b13, b14, b15, b16, b17, b18, b19, b20, b21, b22, x104, x105, x106, x107, x108, x109, x110, x111, x112, x113, (.slice (some ⟨g, off, none⟩) X.length rc), x115, x116, x117, x118, x119, x120, x121, x122, x13, x14, rfl, ?_, ?_⟩
      · simp only [List.setIfInBounds_toArray, List.set_cons_succ, List.set_cons_zero]
      exact { H.out with
        k10 := fun _ => rfl
        c17_10 := fun _ => rfl }
    ·
      refine wpOp_hid rfl (fun K hK => ?_)
      simp only [List.setIfInBounds_toArray, List.set_cons_succ, List.set_cons_zero]
      go_simp
      refine hK.out _ _ ⟨b0, b1, b2, b3, b4, b5, b6, b7, b8, b9, b10, true, b12, b13, b14, b15, b16, b17, b18, b19, b20, b21, b22, x104, x105, x106, x107, x108, x109, x110, x111, x112, x113, x114, (.slice (some ⟨g, off, none⟩) X.length rc), x116, x117, x118, x119, x120, x121, x122, x13, x14, rfl, ?_, ?_⟩
      · simp only [List.setIfInBounds_toArray, List.set_cons_succ, List.set_cons_zero]
      exact { H.out with
        k11 := fun _ => rfl
        c16_11 := fun _ => rfl }
    ·
      refine wpOp_hid rfl (fun K hK => ?_)
      simp only [List.setIfInBounds_toArray, List.set_cons_succ, List.set_cons_zero]
      go_simp
      refine hK.out _ _ ⟨b0, b1, b2, b3, b4, b5, b6, b7, b8, b9, b10, b11, true, b13, b14, b15, b16, b17, b18, b19, b20, b21, b22, x104, x105, x106, x107, x108, x109, x110, x111, x112, x113, x114, x115, (.slice (some ⟨gb, o1, none⟩) X.length gc1), x117, x118, x119, x120, x121, x122, x13, x14, rfl, ?_, ?_⟩
      · simp only [List.setIfInBounds_toArray, List.set_cons_succ, List.set_cons_zero]
      exact { H.out with
        k12 := fun _ => rfl
        c14_12 := fun _ => rfl }
    ·
      refine wpOp_hid rfl (fun K hK => ?_)
      simp only [List.setIfInBounds_toArray, List.set_cons_succ, List.set_cons_zero]
      go_simp
      refine hK.out _ _ ⟨b0, b1, b2, b3, b4, b5, b6, b7, b8, b9, b10, b11, b12, true, b14, b15, b16, b17, b18, b19, b20, b21, b22, x104, x105, x106, x107, x108, x109, x110, x111, x112, x113, x114, x115, x116, (.int .i64 (i : Int)), x118, x119, x120, x121, x122, x13, x14, rfl, ?_, ?_⟩
      · simp only [List.setIfInBounds_toArray, List.set_cons_succ, List.set_cons_zero]
      exact { H.out with
        k13 := fun _ => rfl
        c14_13 := fun _ => rfl }
    ·
      have d12 : b12 = true := he { on := 12, ground := .data } (by simp) (by kernel_rfl)
      obtain rfl := H.out.k12 d12
      have d13 : b13 = true := he { on := 13, ground := .data } (by simp) (by kernel_rfl)
      obtain rfl := H.out.k13 d13
      refine wpOp_hid rfl (fun K hK => ?_)
      simp only [List.setIfInBounds_toArray, List.set_cons_succ, List.set_cons_zero]
      go_simp
      refine hK.out _ _ ⟨b0, b1, b2, b3, b4, b5, b6, b7, b8, b9, b10, b11, b12, b13, true, b15, b16, b17, b18, b19, b20, b21, b22, x104, x105, x106, x107, x108, x109, x110, x111, x112, x113, x114, x115, (.slice (some ⟨gb, o1, none⟩) X.length gc1), (.int .i64 (i : Int)), (.pointer (some ⟨gb, o1 + i * 2, none⟩)), x119, x120, x121, x122, x13, x14, rfl, ?_, ?_⟩
      · simp only [List.setIfInBounds_toArray, List.set_cons_succ, List.set_cons_zero]
      exact { H.out with
        k14 := fun _ => rfl
        c14_12 := fun _ => d12
        c14_13 := fun _ => d13
        c15_14 := fun _ => rfl }
    ·
      have d14 : b14 = true := he { on := 14, ground := .data } (by simp) (by kernel_rfl)
      obtain rfl := H.out.k14 d14
      refine wpOp_hid rfl (fun K hK => ?_)
      simp only [List.setIfInBounds_toArray, List.set_cons_succ, List.set_cons_zero]
      obtain ⟨c0, c1⟩ := HKB.out _ H.out.kin
      go_simp
      refine hK.out _ _ ⟨b0, b1, b2, b3, b4, b5, b6, b7, b8, b9, b10, b11, b12, b13, b14, true, b16, b17, b18, b19, b20, b21, b22, x104, x105, x106, x107, x108, x109, x110, x111, x112, x113, x114, x115, x116, x117, (.pointer (some ⟨gb, o1 + i * 2, none⟩)), (idV ib), x120, x121, x122, x13, x14, rfl, ?_, ?_⟩
      · simp only [List.setIfInBounds_toArray, List.set_cons_succ, List.set_cons_zero]
      exact { H.out with
        k15 := fun _ => rfl
        c15_14 := fun _ => d14
        c16_15 := fun _ => rfl }
    ·
      have d11 : b11 = true := he { on := 11, ground := .data } (by simp) (by kernel_rfl)
      obtain rfl := H.out.k11 d11
      have d15 : b15 = true := he { on := 15, ground := .data } (by simp) (by kernel_rfl)
      obtain rfl := H.out.k15 d15
      have d7 : b7 = true := he { on := 7, ground := .chain } (by simp) (by kernel_rfl)
      obtain rfl := H.out.k7 d7
      refine wpOp_hid rfl (fun K hK => ?_)
      simp only [List.setIfInBounds_toArray, List.set_cons_succ, List.set_cons_zero]
      go_simp
      go_at_call 14
      refine (HATIB.out wx H.out.kin).mono ?_
      rintro e w7 ⟨rfl, hb⟩
      refine hK.out _ _ ⟨b0, b1, b2, b3, b4, b5, b6, b7, b8, b9, b10, b11, b12, b13, b14, b15, true, b17, b18, b19, b20, b21, b22, x104, x105, x106, x107, x108, x109, x110, (.int .i64 (p : Int)), x112, x113, x114, (.slice (some ⟨g, off, none⟩) X.length rc), x116, x117, x118, (idV ib), (.int .i64 (q : Int)), x121, x122, x13, x14, rfl, ?_, ?_⟩
      · simp only [List.setIfInBounds_toArray, List.set_cons_succ, List.set_cons_zero]
      exact { H.out with
        k16 := fun _ => rfl
        kin := H.out.kin.trans (hb.mono H.out.kin.size)
        ka := fun e1 e2 => (by obtain ⟨g9, e3, e4, e5⟩ := H.out.ka e1 e2; exact ⟨g9, e3, e4, (hb.block _ (M.heap_lt e5)).trans e5⟩)
        kb := fun e1 e2 => (by obtain ⟨g9, e3, e4, e5⟩ := H.out.kb e1 e2; exact ⟨g9, e3, e4, (hb.block _ (M.heap_lt e5)).trans e5⟩)
        kx := fun e1 => (by obtain ⟨g9, e3, e4, e5⟩ := H.out.kx e1; exact ⟨g9, e3, e4, (hb.block _ (M.heap_lt e5)).trans e5⟩)
        ky := fun e1 => (by obtain ⟨g9, e3, e4, e5⟩ := H.out.ky e1; exact ⟨g9, e3, e4, (hb.block _ (M.heap_lt e5)).trans e5⟩)
        c16_11 := fun _ => d11
        c16_15 := fun _ => d15
        c16_7 := fun _ => d7
        c17_16 := fun _ => rfl
        c21_16 := fun _ => rfl }
    ·
      have d10 : b10 = true := he { on := 10, ground := .data } (by simp) (by kernel_rfl)
      obtain rfl := H.out.k10 d10
      have d16 : b16 = true := he { on := 16, ground := .data } (by simp) (by kernel_rfl)
      obtain rfl := H.out.k16 d16
      refine wpOp_hid rfl (fun K hK => ?_)
      simp only [List.setIfInBounds_toArray, List.set_cons_succ, List.set_cons_zero]
      go_simp
      refine hK.out _ _ ⟨b0, b1, b2, b3, b4, b5, b6, b7, b8, b9, b10, b11, b12, b13, b14, b15, b16, true, b18, b19, b20, b21, b22, x104, x105, x106, x107, x108, x109, x110, x111, x112, x113, (.slice (some ⟨g, off, none⟩) X.length rc), x115, x116, x117, x118, x119, (.int .i64 (q : Int)), (.pointer (some ⟨g, off + q * 16, none⟩)), x122, x13, x14, rfl, ?_, ?_⟩
      · simp only [List.setIfInBounds_toArray, List.set_cons_succ, List.set_cons_zero]
      exact { H.out with
        k17 := fun _ => rfl
        c17_10 := fun _ => d10
        c17_16 := fun _ => d16
        c18_17 := fun _ => rfl }
    ·
      have d17 : b17 = true := he { on := 17, ground := .data } (by simp) (by kernel_rfl)
      obtain rfl := H.out.k17 d17
      refine wpOp_hid rfl (fun K hK => ?_)
      simp only [List.setIfInBounds_toArray, List.set_cons_succ, List.set_cons_zero]
      obtain ⟨c0, c1, c2, c3, c4, c5, c6, c7, c8, c9, c10, c11, c12, c13, c14, c15⟩ := HKY.out _ H.out.kin
      go_simp
      refine hK.out _ _ ⟨b0, b1, b2, b3, b4, b5, b6, b7, b8, b9, b10, b11, b12, b13, b14, b15, b16, b17, true, b19, b20, b21, b22, x104, x105, x106, x107, x108, x109, x110, x111, x112, x113, x114, x115, x116, x117, x118, x119, x120, (.pointer (some ⟨g, off + q * 16, none⟩)), (recV y), x13, x14, rfl, ?_, ?_⟩
      · simp only [List.setIfInBounds_toArray, List.set_cons_succ, List.set_cons_zero]
      exact { H.out with
        k18 := fun _ => rfl
        c18_17 := fun _ => d17
        c22_18 := fun _ => rfl }
    ·
      have hy21 : b21 = false := by
        cases h : b21 with
        | false => rfl
        | true =>
          have h1 := (H.out.c21_19 h)
          have h2 : b19 = false := hn
          rw [h2] at h1
          cases h1
      have hy22 : b22 = false := by
        cases h : b22 with
        | false => rfl
        | true =>
          have h1 := (H.out.c21_19 (H.out.c22_21 h))
          have h2 : b19 = false := hn
          rw [h2] at h1
          cases h1
      have HB := Lib.hid (show Below wx.heap.size wx (wx.alloc (recO zeroT)) from (Below.refl _ _).alloc (Nat.le_refl _) _)
      refine wpOp_hid rfl (fun K hK => ?_)
      simp only [List.setIfInBounds_toArray, List.set_cons_succ, List.set_cons_zero]
      go_simp
      refine hK.out _ _ ⟨b0, b1, b2, b3, b4, b5, b6, b7, b8, b9, b10, b11, b12, b13, b14, b15, b16, b17, b18, true, b20, b21, b22, x104, x105, x106, x107, x108, x109, x110, x111, x112, x113, x114, x115, x116, x117, x118, x119, x120, x121, x122, (.pointer (some ⟨wx.heap.size, 0, none⟩)), x14, rfl, ?_, ?_⟩
      · simp only [List.setIfInBounds_toArray, List.set_cons_succ, List.set_cons_zero]
      exact { H.out with
        kin := H.out.kin.trans (HB.out.mono H.out.kin.size)
        ka := fun _ _ => ⟨wx.heap.size, rfl, H.out.kin.size, heap_alloc_new wx _⟩
        kb := fun e1 e2 => (by obtain ⟨g9, e3, e4, e5⟩ := H.out.kb e1 e2; exact ⟨g9, e3, e4, (HB.out.block _ (M.heap_lt e5)).trans e5⟩)
        kx := fun e => (by rw [hy21] at e; cases e)
        ky := fun e => (by rw [hy22] at e; cases e)
        kd := fun _ e => (by obtain ⟨g9, e3, e4, e5⟩ := H.out.kb e hy22; rw [e3]; intro h; have := M.heap_lt e5; simp at h <;> omega)
        c21_19 := fun _ => rfl }
    ·
      have hy21 : b21 = false := by
        cases h : b21 with
        | false => rfl
        | true =>
          have h1 := (H.out.c21_20 h)
          have h2 : b20 = false := hn
          rw [h2] at h1
          cases h1
      have hy22 : b22 = false := by
        cases h : b22 with
        | false => rfl
        | true =>
          have h1 := (H.out.c22_20 h)
          have h2 : b20 = false := hn
          rw [h2] at h1
          cases h1
      have HB := Lib.hid (show Below wx.heap.size wx (wx.alloc (recO zeroT)) from (Below.refl _ _).alloc (Nat.le_refl _) _)
      refine wpOp_hid rfl (fun K hK => ?_)
      simp only [List.setIfInBounds_toArray, List.set_cons_succ, List.set_cons_zero]
      go_simp
      refine hK.out _ _ ⟨b0, b1, b2, b3, b4, b5, b6, b7, b8, b9, b10, b11, b12, b13, b14, b15, b16, b17, b18, b19, true, b21, b22, x104, x105, x106, x107, x108, x109, x110, x111, x112, x113, x114, x115, x116, x117, x118, x119, x120, x121, x122, x13, (.pointer (some ⟨wx.heap.size, 0, none⟩)), rfl, ?_, ?_⟩
      · simp only [List.setIfInBounds_toArray, List.set_cons_succ, List.set_cons_zero]
      exact { H.out with
        kin := H.out.kin.trans (HB.out.mono H.out.kin.size)
        ka := fun e1 e2 => (by obtain ⟨g9, e3, e4, e5⟩ := H.out.ka e1 e2; exact ⟨g9, e3, e4, (HB.out.block _ (M.heap_lt e5)).trans e5⟩)
        kb := fun _ _ => ⟨wx.heap.size, rfl, H.out.kin.size, heap_alloc_new wx _⟩
        kx := fun e => (by rw [hy21] at e; cases e)
        ky := fun e => (by rw [hy22] at e; cases e)
        kd := fun e _ => (by obtain ⟨g9, e3, e4, e5⟩ := H.out.ka e hy21; rw [e3]; intro h; have := M.heap_lt e5; simp at h <;> omega)
        c21_20 := fun _ => rfl
        c22_20 := fun _ => rfl }
    ·
      have hy22 : b22 = false := by
        cases h : b22 with
        | false => rfl
        | true =>
          have h1 := (H.out.c22_21 h)
          have h2 : b21 = false := hn
          rw [h2] at h1
          cases h1
      have hst : b21 = false := hn
      have d19 : b19 = true := he { on := 19, ground := .data } (by simp) (by kernel_rfl)
      have d9 : b9 = true := he { on := 9, ground := .data } (by simp) (by kernel_rfl)
      obtain rfl := H.out.k9 d9
      have d16 : b16 = true := he { on := 16, ground := .chain } (by simp) (by kernel_rfl)
      obtain rfl := H.out.k16 d16
      have d20 : b20 = true := he { on := 20, ground := .phase } (by simp) (by kernel_rfl)
      obtain ⟨g1, rfl, hg1, hgx⟩ := H.out.ka d19 hst
      obtain ⟨g2, rfl, hg2, hgy⟩ := H.out.kb d20 hy22
      have HG := Lib.hid hgx
      have HG2 := Lib.hid hgy
      have hne : g2 ≠ g1 := fun e => H.out.kd d19 d20 (by rw [e])
      obtain ⟨n0, n1, n2, n3, n4, n5, n6, n7, n8, n9, n10, n11, n12, n13, n14, n15⟩ := box16 hgx
      have nf := frz hgx
      clear hgx hgy
      refine wpOp_hid rfl (fun K hK => ?_)
      simp only [List.setIfInBounds_toArray, List.set_cons_succ, List.set_cons_zero]
      go_simp
      refine hK.out _ _ ⟨b0, b1, b2, b3, b4, b5, b6, b7, b8, b9, b10, b11, b12, b13, b14, b15, b16, b17, b18, b19, b20, true, b22, x104, x105, x106, x107, x108, x109, x110, x111, x112, (recV x), x114, x115, x116, x117, x118, x119, (.int .i64 (q : Int)), x121, x122, (.pointer (some ⟨g1, 0, none⟩)), (.pointer (some ⟨g2, 0, none⟩)), rfl, ?_, ?_⟩
      · simp only [List.setIfInBounds_toArray, List.set_cons_succ, List.set_cons_zero]
      obtain ⟨s16, ms⟩ := set16 HG.out x
      exact { H.out with
        kin := H.out.kin.trans (ms.below (fun j e => by omega) H.out.kin.size)
        ka := fun _ e => (by cases e)
        kb := fun _ _ => ⟨g2, rfl, hg2, ms.heap HG2.out hne⟩
        kx := fun _ => ⟨g1, rfl, hg1, s16⟩
        ky := fun e => (by rw [hy22] at e; cases e)
        kd := fun e e2 => H.out.kd e e2
        c21_19 := fun _ => d19
        c21_9 := fun _ => d9
        c21_16 := fun _ => d16
        c21_20 := fun _ => d20
        c22_21 := fun _ => rfl }
    ·
      have hst : b22 = false := hn
      have d20 : b20 = true := he { on := 20, ground := .data } (by simp) (by kernel_rfl)
      have d18 : b18 = true := he { on := 18, ground := .data } (by simp) (by kernel_rfl)
      obtain rfl := H.out.k18 d18
      have d21 : b21 = true := he { on := 21, ground := .chain } (by simp) (by kernel_rfl)
      obtain ⟨g1, rfl, hg1, hgx⟩ := H.out.kx d21
      obtain ⟨g2, rfl, hg2, hgy⟩ := H.out.kb d20 hst
      have HG := Lib.hid hgx
      have HG2 := Lib.hid hgy
      have hne : g1 ≠ g2 := fun e => H.out.kd (H.out.c21_19 d21) d20 (by rw [e])
      obtain ⟨n0, n1, n2, n3, n4, n5, n6, n7, n8, n9, n10, n11, n12, n13, n14, n15⟩ := box16 hgy
      have nf := frz hgy
      clear hgx hgy
      refine wpOp_hid rfl (fun K hK => ?_)
      simp only [List.setIfInBounds_toArray, List.set_cons_succ, List.set_cons_zero]
      go_simp
      refine hK.out _ _ ⟨b0, b1, b2, b3, b4, b5, b6, b7, b8, b9, b10, b11, b12, b13, b14, b15, b16, b17, b18, b19, b20, b21, true, x104, x105, x106, x107, x108, x109, x110, x111, x112, x113, x114, x115, x116, x117, x118, x119, x120, x121, (recV y), (.pointer (some ⟨g1, 0, none⟩)), (.pointer (some ⟨g2, 0, none⟩)), rfl, ?_, ?_⟩
      · simp only [List.setIfInBounds_toArray, List.set_cons_succ, List.set_cons_zero]
      obtain ⟨s16, ms⟩ := set16 HG2.out y
      exact { H.out with
        kin := H.out.kin.trans (ms.below (fun j e => by omega) H.out.kin.size)
        ka := fun e1 e2 => (by rw [d21] at e2; cases e2)
        kb := fun _ e => (by cases e)
        kx := fun _ => ⟨g1, rfl, hg1, ms.heap HG.out hne⟩
        ky := fun _ => ⟨g2, rfl, hg2, s16⟩
        kd := fun e e2 => H.out.kd e e2
        c22_20 := fun _ => d20
        c22_18 := fun _ => d18
        c22_21 := fun _ => d21 }
  · intro listed a wy hI hall
    obtain ⟨b0, b1, b2, b3, b4, b5, b6, b7, b8, b9, b10, b11, b12, b13, b14, b15, b16, b17, b18, b19, b20, b21, b22, x104, x105, x106, x107, x108, x109, x110, x111, x112, x113, x114, x115, x116, x117, x118, x119, x120, x121, x122, x13, x14, rfl, rfl, h⟩ := hI
    obtain rfl : b21 = true := hall 21 (by decide)
    obtain rfl : b22 = true := hall 22 (by decide)
    obtain ⟨g1, rfl, _, hg1⟩ := h.kx rfl
    obtain ⟨g2, rfl, _, hg2⟩ := h.ky rfl
    simp only [List.setIfInBounds_toArray, List.set_cons_succ, List.set_cons_zero]
    exact hQ.out _ _ _ _ _ _ _ _ _ _ _ _ _ _ _ _ _ _ _ g1 g2 wy hg1 hg2 h.kin
end Go.Proofs.YtndfhejfhfhbdaaGreatDoor.O
