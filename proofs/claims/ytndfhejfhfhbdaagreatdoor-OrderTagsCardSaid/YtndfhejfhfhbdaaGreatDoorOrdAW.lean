/- OrderTags: its region that lays a record. -/
import Derived.Test.YtndfhejfhfhbdaaGreatDoorMrg29
import Derived.Test.YtndfhejfhfhbdaaGreatDoorMrg27
namespace Go.Proofs.YtndfhejfhfhbdaaGreatDoor.O
open Go.RowKit Go.Proofs.YtndfhejfhfhbdaaGreatDoor.M Go.BigFrame
set_option linter.unusedVariables false
set_option linter.unusedSimpArgs false

/-- a region of a function's text -/
def regAt (n : Nat) : Code → Option Code
  | .region i ops d => if i = n then some (.region i ops d) else none
  | .seq a b => (regAt n a).or (regAt n b)
  | .cond _ a b => (regAt n a).or (regAt n b)
  | .block _ a => regAt n a
  | .loop a => regAt n a
  | _ => none
set_option maxRecDepth 100000 in
set_option maxHeartbeats 4000000 in
theorem tags_r12 (tg : List Bool) (W1 wr : World) (b off k oc nA : Nat) (y : Id) (hWr : W1.heap.size ≤ wr.heap.size) (h8 : ¬ 8 < tg.length) (hkl : k < tg.length) (hiA : (k : Int) < (nA : Int)) (HBR : Hid (Below W1.heap.size W1 wr))
    (HSETA : Hid (∀ wx : World, Below W1.heap.size W1 wx → Calls Tryz.prog 12 #[.slice (some ⟨b, off, none⟩) nA oc] wx fun e w' => ∃ oo oc, e = .returned (.slice oo (setI (allN tg.length)).length oc) ∧ (OwnL w' wx.heap.size oo oc (setI (allN tg.length)) ∧ Below wx.heap.size wx w')))
    (HKS : Hid (∀ w', Below wr.heap.size wr w' → w'.cell? ⟨b, off + k * 2, none⟩ = some (.int .i64 y.r) ∧ w'.cell? ⟨b, off + k * 2 + 1, none⟩ = some (.int .i64 y.n)))
    (cd : Code) (hcd : Tryz.f3.body.bind (regAt 12) = some cd) (s0 s1 s2 s3 s4 s6 s7 s9 s10 s11 s12 s13 s14 s15 s16 s17 s18 s19 s20 s21 s22 s23 s24 s25 s26 s27 s28 s29 s30 s31 s32 s33 s34 s35 s36 s37 s38 s39 s40 s41 s42 s43 s44 s45 s46 s47 s48 s49 s50 s51 s52 s53 s54 s55 s56 s57 s58 s59 s60 s61 s62 s63 s64 s65 s66 s67 s68 s69 s70 s71 s72 s73 s74 s75 s76 s77 s78 s79 s80 s81 s82 s83 s84 s85 s86 s87 s88 s89 s90 s91 s92 s93 s94 s95 s96 s97 s98 s99 s100 s101 s102 s103 s104 s105 s106 s107 s108 s109 s110 s111 s112 s113 s114 s115 s116 s117 s118 s119 s120 s121 s122 s123 s124 s125 s126 s127 s128 s129 s130 s131 s132 s133 s134 s135 s136 s137 s138 s139 s140 s141 s142 s143 s144 s145 s146 s147 s148 s149 s150 s151 s152 s153 s154 s155 s156 s157 s158 s159 s160 s161 s162 : Value) (Q : Exit → Act → World → Prop)
    (hQ : Hid (∀ (x53 x54 x55 x56 x57 x58 x59 x60 x61 x62 x63 x64 x65 : Value) (g : Nat) (wo : Option Addr) (wc : Nat) (wx : World), wr.heap.size ≤ g → wx.heap[g]? = some (recO (tagY tg.length y wo wc)) → OwnL wx W1.heap.size wo wc (withoutI (setI (allN tg.length)) y) → Below wr.heap.size wr wx →
      Q .normal { tmps := #[s0, s1, s2, s3, s4, .slice (some ⟨b, off, none⟩) nA oc, s6, s7, .int .i64 (k : Int), .pointer (some ⟨g, 0, none⟩), s10, s11, s12, s13, s14, s15, s16, s17, s18, s19, s20, s21, s22, s23, s24, s25, s26, s27, s28, s29, s30, s31, s32, s33, s34, s35, s36, s37, s38, s39, s40, s41, s42, s43, s44, s45, s46, s47, s48, s49, s50, s51, s52, x53, x54, x55, x56, x57, x58, x59, x60, x61, x62, x63, x64, x65, s66, s67, s68, s69, s70, s71, s72, s73, s74, s75, s76, s77, s78, s79, s80, s81, s82, s83, s84, s85, s86, s87, s88, s89, s90, s91, s92, s93, s94, s95, s96, s97, s98, s99, s100, s101, s102, s103, s104, s105, s106, s107, s108, s109, s110, s111, s112, s113, s114, s115, s116, s117, s118, s119, s120, s121, s122, s123, s124, s125, s126, s127, s128, s129, s130, s131, s132, s133, s134, s135, s136, s137, s138, s139, s140, s141, s142, s143, s144, s145, s146, s147, s148, s149, s150, s151, s152, s153, s154, s155, s156, s157, s158, s159, s160, s161, s162], defers := [] } wx)) :
    Code.wp Tryz.prog cd Q { tmps := #[s0, s1, s2, s3, s4, .slice (some ⟨b, off, none⟩) nA oc, s6, s7, .int .i64 (k : Int), s9, s10, s11, s12, s13, s14, s15, s16, s17, s18, s19, s20, s21, s22, s23, s24, s25, s26, s27, s28, s29, s30, s31, s32, s33, s34, s35, s36, s37, s38, s39, s40, s41, s42, s43, s44, s45, s46, s47, s48, s49, s50, s51, s52, s53, s54, s55, s56, s57, s58, s59, s60, s61, s62, s63, s64, s65, s66, s67, s68, s69, s70, s71, s72, s73, s74, s75, s76, s77, s78, s79, s80, s81, s82, s83, s84, s85, s86, s87, s88, s89, s90, s91, s92, s93, s94, s95, s96, s97, s98, s99, s100, s101, s102, s103, s104, s105, s106, s107, s108, s109, s110, s111, s112, s113, s114, s115, s116, s117, s118, s119, s120, s121, s122, s123, s124, s125, s126, s127, s128, s129, s130, s131, s132, s133, s134, s135, s136, s137, s138, s139, s140, s141, s142, s143, s144, s145, s146, s147, s148, s149, s150, s151, s152, s153, s154, s155, s156, s157, s158, s159, s160, s161, s162], defers := [] } wr := by
  conv at hcd => lhs; whnf
  obtain rfl := Option.some.inj hcd
  clear hcd
  refine wp_region_inv (T12I wr W1.heap.size b off k oc nA tg.length y) (by kernel_rfl) (by kernel_rfl) ?_ ?_ ?_
  · refine T12_start _ _ _ _ _ _ _ _ _ _ _ (fun _ _ _ _ _ _ _ _ _ _ _ _ _ _ => ?_)
    constructor
    all_goals (first | exact below_drawn wr | (intro e; cases e))
  ·
    intro listed a wx i o hI hil ho hn he
    obtain ⟨b0, b1, b2, b3, b4, b5, b6, b7, b8, b9, b10, b11, b12, b13, b14, x53, x54, x55, x56, x57, x58, x59, x60, x61, x62, x63, x64, x65, x9, rfl, rfl, h⟩ := hI
    have hin : i = 0 ∨ i = 1 ∨ i = 2 ∨ i = 3 ∨ i = 4 ∨ i = 5 ∨ i = 6 ∨ i = 7 ∨ i = 8 ∨ i = 9 ∨ i = 10 ∨ i = 11 ∨ i = 12 ∨ i = 13 ∨ i = 14 := by
      have : i < 15 := hil
      omega
    have H := Lib.hid h
    clear h hil
    rcases hin with rfl | rfl | rfl | rfl | rfl | rfl | rfl | rfl | rfl | rfl | rfl | rfl | rfl | rfl | rfl <;> obtain rfl := Option.some.inj ho
    ·
      refine wpOp_hid rfl (fun K hK => ?_)
      simp only [List.setIfInBounds_toArray, List.set_cons_succ, List.set_cons_zero]
      go_simp
      refine hK.out _ _ ⟨true, b1, b2, b3, b4, b5, b6, b7, b8, b9, b10, b11, b12, b13, b14, (.slice (some ⟨b, off, none⟩) nA oc), x54, x55, x56, x57, x58, x59, x60, x61, x62, x63, x64, x65, x9, rfl, ?_, ?_⟩
      · simp only [List.setIfInBounds_toArray, List.set_cons_succ, List.set_cons_zero]
      exact { H.out with
        k0 := fun _ => rfl
        c2_0 := fun _ => rfl }
    ·
      refine wpOp_hid rfl (fun K hK => ?_)
      simp only [List.setIfInBounds_toArray, List.set_cons_succ, List.set_cons_zero]
      go_simp
      refine hK.out _ _ ⟨b0, true, b2, b3, b4, b5, b6, b7, b8, b9, b10, b11, b12, b13, b14, x53, (.int .i64 (k : Int)), x55, x56, x57, x58, x59, x60, x61, x62, x63, x64, x65, x9, rfl, ?_, ?_⟩
      · simp only [List.setIfInBounds_toArray, List.set_cons_succ, List.set_cons_zero]
      exact { H.out with
        k1 := fun _ => rfl
        c2_1 := fun _ => rfl }
    ·
      have d0 : b0 = true := he { on := 0, ground := .data } (by simp) (by kernel_rfl)
      obtain rfl := H.out.k0 d0
      have d1 : b1 = true := he { on := 1, ground := .data } (by simp) (by kernel_rfl)
      obtain rfl := H.out.k1 d1
      refine wpOp_hid rfl (fun K hK => ?_)
      simp only [List.setIfInBounds_toArray, List.set_cons_succ, List.set_cons_zero]
      go_simp
      refine hK.out _ _ ⟨b0, b1, true, b3, b4, b5, b6, b7, b8, b9, b10, b11, b12, b13, b14, (.slice (some ⟨b, off, none⟩) nA oc), (.int .i64 (k : Int)), (.pointer (some ⟨b, off + k * 2, none⟩)), x56, x57, x58, x59, x60, x61, x62, x63, x64, x65, x9, rfl, ?_, ?_⟩
      · simp only [List.setIfInBounds_toArray, List.set_cons_succ, List.set_cons_zero]
      exact { H.out with
        k2 := fun _ => rfl
        c2_0 := fun _ => d0
        c2_1 := fun _ => d1
        c3_2 := fun _ => rfl }
    ·
      have d2 : b2 = true := he { on := 2, ground := .data } (by simp) (by kernel_rfl)
      obtain rfl := H.out.k2 d2
      refine wpOp_hid rfl (fun K hK => ?_)
      simp only [List.setIfInBounds_toArray, List.set_cons_succ, List.set_cons_zero]
      obtain ⟨c0, c1⟩ := HKS.out _ H.out.kin
      go_simp
      refine hK.out _ _ ⟨b0, b1, b2, true, b4, b5, b6, b7, b8, b9, b10, b11, b12, b13, b14, x53, x54, (.pointer (some ⟨b, off + k * 2, none⟩)), (idV y), x57, x58, x59, x60, x61, x62, x63, x64, x65, x9, rfl, ?_, ?_⟩
      · simp only [List.setIfInBounds_toArray, List.set_cons_succ, List.set_cons_zero]
      exact { H.out with
        k3 := fun _ => rfl
        c3_2 := fun _ => d2
        c12_3 := fun _ => rfl }
    ·
      refine wpOp_hid rfl (fun K hK => ?_)
      simp only [List.setIfInBounds_toArray, List.set_cons_succ, List.set_cons_zero]
      go_simp
      refine hK.out _ _ ⟨b0, b1, b2, b3, true, b5, b6, b7, b8, b9, b10, b11, b12, b13, b14, x53, x54, x55, x56, (.slice (some ⟨b, off, none⟩) nA oc), x58, x59, x60, x61, x62, x63, x64, x65, x9, rfl, ?_, ?_⟩
      · simp only [List.setIfInBounds_toArray, List.set_cons_succ, List.set_cons_zero]
      exact { H.out with
        k4 := fun _ => rfl
        c5_4 := fun _ => rfl }
    ·
      have hy10 : b10 = false := by
        cases h : b10 with
        | false => rfl
        | true =>
          have h1 := (H.out.c10_5 h)
          have h2 : b5 = false := hn
          rw [h2] at h1
          cases h1
      have d4 : b4 = true := he { on := 4, ground := .data } (by simp) (by kernel_rfl)
      obtain rfl := H.out.k4 d4
      refine wpOp_hid rfl (fun K hK => ?_)
      simp only [List.setIfInBounds_toArray, List.set_cons_succ, List.set_cons_zero]
      go_simp
      go_at_call 12
      refine (HSETA.out wx (HBR.out.trans (H.out.kin.mono hWr))).mono ?_
      rintro e w7 ⟨so, sc, rfl, how, hb⟩
      have HIV := Lib.hid (show OwnL w7 0 so sc (setI (allN tg.length)) from own_base how (fun _ _ => Nat.zero_le _))
      refine hK.out _ _ ⟨b0, b1, b2, b3, b4, true, b6, b7, b8, b9, b10, b11, b12, b13, b14, x53, x54, x55, x56, (.slice (some ⟨b, off, none⟩) nA oc), (.slice so (setI (allN tg.length)).length sc), x59, x60, x61, x62, x63, x64, x65, x9, rfl, ?_, ?_⟩
      · simp only [List.setIfInBounds_toArray, List.set_cons_succ, List.set_cons_zero]
      exact { H.out with
        kin := H.out.kin.trans (hb.mono H.out.kin.size)
        ks := fun _ => ⟨so, sc, rfl, HIV.out⟩
        kw := fun e _ => (by rw [hy10] at e; cases e)
        kb := fun e1 e2 => (by obtain ⟨g9, e3, e4, e5⟩ := H.out.kb e1 e2; exact ⟨g9, e3, e4, (hb.block _ (M.heap_lt e5)).trans e5⟩)
        kz := fun e => absurd (H.out.c12_11 (H.out.c14_12 e)) (fun e2 => by have := H.out.c11_10 e2; rw [hy10] at this; cases this)
        c5_4 := fun _ => d4
        c10_5 := fun _ => rfl }
    ·
      refine wpOp_hid rfl (fun K hK => ?_)
      simp only [List.setIfInBounds_toArray, List.set_cons_succ, List.set_cons_zero]
      go_simp
      refine hK.out _ _ ⟨b0, b1, b2, b3, b4, b5, true, b7, b8, b9, b10, b11, b12, b13, b14, x53, x54, x55, x56, x57, x58, (.slice (some ⟨b, off, none⟩) nA oc), x60, x61, x62, x63, x64, x65, x9, rfl, ?_, ?_⟩
      · simp only [List.setIfInBounds_toArray, List.set_cons_succ, List.set_cons_zero]
      exact { H.out with
        k6 := fun _ => rfl
        c8_6 := fun _ => rfl }
    ·
      refine wpOp_hid rfl (fun K hK => ?_)
      simp only [List.setIfInBounds_toArray, List.set_cons_succ, List.set_cons_zero]
      go_simp
      refine hK.out _ _ ⟨b0, b1, b2, b3, b4, b5, b6, true, b8, b9, b10, b11, b12, b13, b14, x53, x54, x55, x56, x57, x58, x59, (.int .i64 (k : Int)), x61, x62, x63, x64, x65, x9, rfl, ?_, ?_⟩
      · simp only [List.setIfInBounds_toArray, List.set_cons_succ, List.set_cons_zero]
      exact { H.out with
        k7 := fun _ => rfl
        c8_7 := fun _ => rfl }
    ·
      have d6 : b6 = true := he { on := 6, ground := .data } (by simp) (by kernel_rfl)
      obtain rfl := H.out.k6 d6
      have d7 : b7 = true := he { on := 7, ground := .data } (by simp) (by kernel_rfl)
      obtain rfl := H.out.k7 d7
      refine wpOp_hid rfl (fun K hK => ?_)
      simp only [List.setIfInBounds_toArray, List.set_cons_succ, List.set_cons_zero]
      go_simp
      refine hK.out _ _ ⟨b0, b1, b2, b3, b4, b5, b6, b7, true, b9, b10, b11, b12, b13, b14, x53, x54, x55, x56, x57, x58, (.slice (some ⟨b, off, none⟩) nA oc), (.int .i64 (k : Int)), (.pointer (some ⟨b, off + k * 2, none⟩)), x62, x63, x64, x65, x9, rfl, ?_, ?_⟩
      · simp only [List.setIfInBounds_toArray, List.set_cons_succ, List.set_cons_zero]
      exact { H.out with
        k8 := fun _ => rfl
        c8_6 := fun _ => d6
        c8_7 := fun _ => d7
        c9_8 := fun _ => rfl }
    ·
      have d8 : b8 = true := he { on := 8, ground := .data } (by simp) (by kernel_rfl)
      obtain rfl := H.out.k8 d8
      refine wpOp_hid rfl (fun K hK => ?_)
      simp only [List.setIfInBounds_toArray, List.set_cons_succ, List.set_cons_zero]
      obtain ⟨c0, c1⟩ := HKS.out _ H.out.kin
      go_simp
      refine hK.out _ _ ⟨b0, b1, b2, b3, b4, b5, b6, b7, b8, true, b10, b11, b12, b13, b14, x53, x54, x55, x56, x57, x58, x59, x60, (.pointer (some ⟨b, off + k * 2, none⟩)), (idV y), x63, x64, x65, x9, rfl, ?_, ?_⟩
      · simp only [List.setIfInBounds_toArray, List.set_cons_succ, List.set_cons_zero]
      exact { H.out with
        k9 := fun _ => rfl
        c9_8 := fun _ => d8
        c10_9 := fun _ => rfl }
    ·
      have hy11 : b11 = false := by
        cases h : b11 with
        | false => rfl
        | true =>
          have h1 := (H.out.c11_10 h)
          have h2 : b10 = false := hn
          rw [h2] at h1
          cases h1
      have hy14 : b14 = false := by
        cases h : b14 with
        | false => rfl
        | true =>
          have h1 := (H.out.c11_10 (H.out.c12_11 (H.out.c14_12 h)))
          have h2 : b10 = false := hn
          rw [h2] at h1
          cases h1
      have d5 : b5 = true := he { on := 5, ground := .data } (by simp) (by kernel_rfl)
      have d9 : b9 = true := he { on := 9, ground := .data } (by simp) (by kernel_rfl)
      obtain rfl := H.out.k9 d9
      obtain ⟨so, sc, rfl, his⟩ := H.out.ks d5
      have HIS := Lib.hid his
      clear his
      refine wpOp_hid rfl (fun K hK => ?_)
      simp only [List.setIfInBounds_toArray, List.set_cons_succ, List.set_cons_zero]
      go_simp
      go_at_call 11
      refine (refwithout_any (setI (allN tg.length)) so sc y wx (IdsV.of_own (B := 0) HIS.out (fun x hx => allN_ok (n := tg.length) (by omega) x ((setI_mem _ _).1 hx))) (by have := setI_len (allN tg.length); rw [allN_len] at this; omega)).mono ?_
      rintro e w7 ⟨wo, wc, rfl, how, hb⟩
      have HOW2 := Lib.hid (own_base (base' := W1.heap.size) how (fun q hq => by have := (how.lt q hq).1; have := H.out.kin.size; omega))
      refine hK.out _ _ ⟨b0, b1, b2, b3, b4, b5, b6, b7, b8, b9, true, b11, b12, b13, b14, x53, x54, x55, x56, x57, (.slice so (setI (allN tg.length)).length sc), x59, x60, x61, (idV y), (.slice wo (withoutI (setI (allN tg.length)) y).length wc), x64, x65, x9, rfl, ?_, ?_⟩
      · simp only [List.setIfInBounds_toArray, List.set_cons_succ, List.set_cons_zero]
      exact { H.out with
        kin := H.out.kin.trans (hb.mono H.out.kin.size)
        ks := fun _ => ⟨so, sc, rfl, ownl_below HIS.out hb⟩
        kw := fun _ _ => ⟨wo, wc, rfl, HOW2.out, fun e => (by rw [hy11] at e; cases e), fun e => (by have := H.out.c12_11 e; rw [hy11] at this; cases this)⟩
        kb := fun e1 e2 => (by obtain ⟨g9, e3, e4, e5⟩ := H.out.kb e1 e2; exact ⟨g9, e3, e4, (hb.block _ (M.heap_lt e5)).trans e5⟩)
        kz := fun e => (by rw [hy14] at e; cases e)
        c10_5 := fun _ => d5
        c10_9 := fun _ => d9
        c11_10 := fun _ => rfl }
    ·
      have hy14 : b14 = false := by
        cases h : b14 with
        | false => rfl
        | true =>
          have h1 := (H.out.c12_11 (H.out.c14_12 h))
          have h2 : b11 = false := hn
          rw [h2] at h1
          cases h1
      have hy12 : b12 = false := by
        cases h : b12 with
        | false => rfl
        | true =>
          have h1 := (H.out.c12_11 h)
          have h2 : b11 = false := hn
          rw [h2] at h1
          cases h1
      have d10 : b10 = true := he { on := 10, ground := .data } (by simp) (by kernel_rfl)
      obtain ⟨wo, wc, rfl, how, k1, k2⟩ := H.out.kw d10 hy14
      have HOW := Lib.hid how
      clear how k1 k2
      refine wpOp_hid rfl (fun K hK => ?_)
      simp only [List.setIfInBounds_toArray, List.set_cons_succ, List.set_cons_zero]
      go_simp
      refine hK.out _ _ ⟨b0, b1, b2, b3, b4, b5, b6, b7, b8, b9, b10, true, b12, b13, b14, x53, x54, x55, x56, x57, x58, x59, x60, x61, x62, (.slice wo (withoutI (setI (allN tg.length)) y).length wc), (.agg #[.slice wo (withoutI (setI (allN tg.length)) y).length wc, .int .i64 0, .int .i64 2]), x65, x9, rfl, ?_, ?_⟩
      · simp only [List.setIfInBounds_toArray, List.set_cons_succ, List.set_cons_zero]
      exact { H.out with
        kw := fun _ _ => ⟨wo, wc, rfl, HOW.out, fun _ => rfl, fun e => (by rw [hy12] at e; cases e)⟩
        c11_10 := fun _ => d10
        c12_11 := fun _ => rfl }
    ·
      have hy14 : b14 = false := by
        cases h : b14 with
        | false => rfl
        | true =>
          have h1 := (H.out.c14_12 h)
          have h2 : b12 = false := hn
          rw [h2] at h1
          cases h1
      have d3 : b3 = true := he { on := 3, ground := .data } (by simp) (by kernel_rfl)
      obtain rfl := H.out.k3 d3
      have d11 : b11 = true := he { on := 11, ground := .data } (by simp) (by kernel_rfl)
      have d10 := H.out.c11_10 d11
      obtain ⟨wo, wc, rfl, how, k1, k2⟩ := H.out.kw d10 hy14
      obtain rfl := k1 d11
      have HOW := Lib.hid how
      clear how k1 k2
      refine wpOp_hid rfl (fun K hK => ?_)
      simp only [List.setIfInBounds_toArray, List.set_cons_succ, List.set_cons_zero]
      go_simp
      refine hK.out _ _ ⟨b0, b1, b2, b3, b4, b5, b6, b7, b8, b9, b10, b11, true, b13, b14, x53, x54, x55, (idV y), x57, x58, x59, x60, x61, x62, (.slice wo (withoutI (setI (allN tg.length)) y).length wc), (.agg #[.slice wo (withoutI (setI (allN tg.length)) y).length wc, .int .i64 0, .int .i64 2]), (.agg #[.int .i64 y.r, .int .i64 y.n, .int .i64 3, .int .i64 0, .int .i64 0, .int .i64 0, .int .i64 0, .int .i64 0, .int .i64 0, .int .i64 0, .string ⟨#[]⟩, .string ⟨#[]⟩, .int .i64 0, .slice wo (withoutI (setI (allN tg.length)) y).length wc, .int .i64 0, .int .i64 2]), x9, rfl, ?_, ?_⟩
      · simp only [List.setIfInBounds_toArray, List.set_cons_succ, List.set_cons_zero]
      exact { H.out with
        kw := fun _ _ => ⟨wo, wc, rfl, HOW.out, fun _ => rfl, fun _ => rfl⟩
        c12_3 := fun _ => d3
        c12_11 := fun _ => d11
        c14_12 := fun _ => rfl }
    ·
      have hy14 : b14 = false := by
        cases h : b14 with
        | false => rfl
        | true =>
          have h1 := (H.out.c14_13 h)
          have h2 : b13 = false := hn
          rw [h2] at h1
          cases h1
      have HB := Lib.hid (show Below wx.heap.size wx (wx.alloc (recO zeroT)) from (Below.refl _ _).alloc (Nat.le_refl _) _)
      refine wpOp_hid rfl (fun K hK => ?_)
      simp only [List.setIfInBounds_toArray, List.set_cons_succ, List.set_cons_zero]
      go_simp
      refine hK.out _ _ ⟨b0, b1, b2, b3, b4, b5, b6, b7, b8, b9, b10, b11, b12, true, b14, x53, x54, x55, x56, x57, x58, x59, x60, x61, x62, x63, x64, x65, (.pointer (some ⟨wx.heap.size, 0, none⟩)), rfl, ?_, ?_⟩
      · simp only [List.setIfInBounds_toArray, List.set_cons_succ, List.set_cons_zero]
      exact { H.out with
        kin := H.out.kin.trans (HB.out.mono H.out.kin.size)
        ks := fun e1 => (by obtain ⟨so, sc, e3, e4⟩ := H.out.ks e1; exact ⟨so, sc, e3, ownl_below e4 HB.out⟩)
        kw := fun e1 e2 => (by obtain ⟨wo, wc, e3, e4, e5, e6⟩ := H.out.kw e1 e2; exact ⟨wo, wc, e3, ownl_below e4 HB.out, e5, e6⟩)
        kb := fun _ _ => ⟨wx.heap.size, rfl, H.out.kin.size, heap_alloc_new wx _⟩
        kz := fun e => (by rw [hy14] at e; cases e)
        c14_13 := fun _ => rfl }
    ·
      have hst : b14 = false := hn
      have d13 : b13 = true := he { on := 13, ground := .data } (by simp) (by kernel_rfl)
      have d12 : b12 = true := he { on := 12, ground := .data } (by simp) (by kernel_rfl)
      have d11 := H.out.c12_11 d12
      have d10 := H.out.c11_10 d11
      obtain ⟨wo, wc, rfl, how, k1, k2⟩ := H.out.kw d10 hst
      obtain rfl := k1 d11
      obtain rfl := k2 d12
      obtain ⟨g, rfl, hg1, hg⟩ := H.out.kb d13 hst
      have HG := Lib.hid hg
      have HOW := Lib.hid how
      obtain ⟨n0, n1, n2, n3, n4, n5, n6, n7, n8, n9, n10, n11, n12, n13, n14, n15⟩ := box16 hg
      have nf := frz hg
      clear hg how k1 k2
      refine wpOp_hid rfl (fun K hK => ?_)
      simp only [List.setIfInBounds_toArray, List.set_cons_succ, List.set_cons_zero]
      go_simp
      refine hK.out _ _ ⟨b0, b1, b2, b3, b4, b5, b6, b7, b8, b9, b10, b11, b12, b13, true, x53, x54, x55, x56, x57, x58, x59, x60, x61, x62, (.slice wo (withoutI (setI (allN tg.length)) y).length wc), (.agg #[.slice wo (withoutI (setI (allN tg.length)) y).length wc, .int .i64 0, .int .i64 2]), (.agg #[.int .i64 y.r, .int .i64 y.n, .int .i64 3, .int .i64 0, .int .i64 0, .int .i64 0, .int .i64 0, .int .i64 0, .int .i64 0, .int .i64 0, .string ⟨#[]⟩, .string ⟨#[]⟩, .int .i64 0, .slice wo (withoutI (setI (allN tg.length)) y).length wc, .int .i64 0, .int .i64 2]), (.pointer (some ⟨g, 0, none⟩)), rfl, ?_, ?_⟩
      · simp only [List.setIfInBounds_toArray, List.set_cons_succ, List.set_cons_zero]
      obtain ⟨s16, ms⟩ := set16 HG.out (tagY tg.length y wo wc)
      exact { H.out with
        kin := H.out.kin.trans (ms.below (fun j e => by omega) H.out.kin.size)
        ks := fun e1 => (by obtain ⟨so, sc, e3, e4⟩ := H.out.ks e1; exact ⟨so, sc, e3, ownl_apart e4 HG.out ms⟩)
        kw := fun _ e => (by cases e)
        kb := fun _ e => (by cases e)
        kz := fun _ => ⟨g, wo, wc, rfl, hg1, s16, ownl_apart HOW.out HG.out ms⟩
        c14_13 := fun _ => d13
        c14_12 := fun _ => d12 }
  · intro listed a wy hI hall
    obtain ⟨b0, b1, b2, b3, b4, b5, b6, b7, b8, b9, b10, b11, b12, b13, b14, x53, x54, x55, x56, x57, x58, x59, x60, x61, x62, x63, x64, x65, x9, rfl, rfl, h⟩ := hI
    obtain rfl : b14 = true := hall 14 (by decide)
    obtain ⟨g, wo, wc, rfl, hg1, hg, how⟩ := h.kz rfl
    simp only [List.setIfInBounds_toArray, List.set_cons_succ, List.set_cons_zero]
    exact hQ.out _ _ _ _ _ _ _ _ _ _ _ _ _ g wo wc wy hg1 hg how h.kin
end Go.Proofs.YtndfhejfhfhbdaaGreatDoor.O
