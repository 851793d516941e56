/- The document's engine: Run. -/
import Derived.Test.YtndfhejfhfhbdaaGreatDoorMrg23
import Derived.Test.YtndfhejfhfhbdaaGreatDoorOrdBB
import Derived.Test.YtndfhejfhfhbdaaGreatDoorMrg32
namespace Go.Proofs.YtndfhejfhfhbdaaGreatDoor.O
open Go.RowKit Go.Proofs.YtndfhejfhfhbdaaGreatDoor.M Go.BigFrame Go.Proofs.YtndfhejfhfhbdaaGreatDoor.K
set_option linter.unusedVariables false
set_option linter.unusedSimpArgs false

/-- a record of the row that may run: as in Y, on deps of its own -/
structure MayAt (w : World) (B : Nat) (M : List Rv) : Prop where
  own : ∀ z ∈ M, OwnL w B z.ao z.cap z.deps
theorem MayAt.below {w w1 : World} {B : Nat} {M : List Rv} (h : MayAt w B M) (hb : Below w.heap.size w w1) : MayAt w1 B M := ⟨fun z hz => Go.Proofs.YtndfhejfhfhbdaaGreatDoor.R.own_below (h.own z hz) hb⟩
theorem mayL_next {Y : List Rv} {D O : List Id} {k : Nat} {x : Rv} (h : Y[k]? = some x) : mayL (Y.take (k + 1)) D O = mayL (Y.take k) D O ++ (if x.id ∈ D ∨ x.id ∈ O then [] else [rest D x]) := by
  unfold mayL
  rw [List.take_add_one, h, List.filter_append, List.map_append]
  by_cases e1 : x.id ∈ D <;> by_cases e2 : x.id ∈ O <;> simp [e1, e2]
theorem may_core {M : List Rv} {Y : List Rv} {D O : List Id} (h : M.map core = mayL Y D O) : ∀ z ∈ M, ∃ x ∈ Y, core z = rest D x := fun z hz => by
  have h1 : core z ∈ mayL Y D O := by rw [← h]; exact List.mem_map.2 ⟨z, hz, rfl⟩
  obtain ⟨x, hx, e⟩ := List.mem_map.1 h1
  exact ⟨x, (List.mem_filter.1 hx).1, e.symm⟩
theorem may_len {M : List Rv} {Y : List Rv} {D O : List Id} (h : M.map core = mayL Y D O) : M.length ≤ Y.length := by
  have := congrArg List.length h
  rw [List.length_map] at this
  rw [this]
  unfold mayL
  rw [List.length_map]
  exact List.length_filter_le _ _
theorem may_ok {w0 w : World} {B : Nat} {M Y : List Rv} {D O : List Id} (h : M.map core = mayL Y D O) (hm : MayAt w B M) (hok : ∀ x ∈ Y, RvOk w0 x) : ∀ z ∈ M, RvOk w z := fun z hz => by
  obtain ⟨x, hx, e⟩ := may_core h z hz
  have e1 : z.cmd = x.cmd := by have h0 := congrArg Rv.cmd e; exact h0
  have e2 : z.id = x.id := by have h0 := congrArg Rv.id e; exact h0
  have e3 : z.deps = x.deps.filter fun d => !decide (d ∈ D) := by have h0 := congrArg Rv.deps e; exact h0
  refine ⟨by rw [e1]; exact (hok x hx).cmd, IdsV.of_own (B := B) (by have := hm.own z hz; unfold OwnL at this; exact this) (fun d hd => ?_), by rw [e2]; exact (hok x hx).id⟩
  rw [e3] at hd
  exact (hok x hx).deps.ok d (List.mem_filter.1 hd).1
theorem may_size {M Y : List Rv} {D O : List Id} {n m : Nat} (h : M.map core = mayL Y D O) (hd : ∀ x ∈ Y, x.deps.length ≤ n) (hk : ∀ x ∈ Y, x.cmd.key.size ≤ m) : ∀ z ∈ M, z.deps.length ≤ n ∧ z.cmd.key.size ≤ m := fun z hz => by
  obtain ⟨x, hx, e⟩ := may_core h z hz
  have e1 : z.cmd = x.cmd := by have h0 := congrArg Rv.cmd e; exact h0
  have e3 : z.deps = x.deps.filter fun d => !decide (d ∈ D) := by have h0 := congrArg Rv.deps e; exact h0
  rw [e1, e3]
  exact ⟨Nat.le_trans (List.length_filter_le _ _) (hd x hx), hk x hx⟩
theorem may_more {w w7 : World} {B : Nat} {M : List Rv} {z : Rv} {mo : Option Addr} {mc : Nat} (h : MayAt w B M) (hz : OwnL w B z.ao z.cap z.deps) (ho : OwnR w B mo mc M) (hm : Mods (fun j => ∃ a, mo = some a ∧ j = a.block) w w7) : MayAt w7 B (M ++ [z]) := ⟨fun y hy => by
  rcases List.mem_append.1 hy with hy | hy
  · exact own_beside (h.own y hy) ho (by decide) hm
  · rw [List.mem_singleton.1 hy]
    exact own_beside hz ho (by decide) hm⟩
theorem run_len {X : List Rv} {a : List Id} (hU : Unl (nds X)) (hr : Row (byIds (nds X)) a) : a.length = X.length := by
  obtain ⟨L, q, hc, rfl⟩ := hr.cmps
  rw [rowI_len hc (hU.perm (byIds_perm _)), (byIds_perm (nds X)).length_eq, nds_len]
theorem run_perm {X : List Rv} {a : List Id} (hU : Unl (nds X)) (hr : Row (byIds (nds X)) a) : a.Perm (idsX X) := by
  obtain ⟨L, q, hc, rfl⟩ := hr.cmps
  refine (rowI_perm hc (hU.perm (byIds_perm _))).trans ?_
  rw [← nds_ids]
  exact (byIds_perm (nds X)).map _
theorem run_fin {w0 w w5 w6 : World} {p : Nat} {Y : List Rv} {D a : List Id} {G : Nat → Prop} {lo oo : Option Addr} {lc oc B : Nat} (h : RefE w0 w p Y D G) (ho : OwnR w w0.heap.size lo lc Y) (g7 : ∀ a, lo = some a → G a.block ∧ a.block ≠ p) (hb : Below w.heap.size w w5)
    (hown : w5.ownsRow B 27 2 (.slice oo (D.length + a.length) oc) (D.length + a.length) ((D ++ a).flatMap idC)) (hB : w.heap.size ≤ B) (hs : w6.heap[p]? = some (refO lo Y.length lc oo (D.length + a.length) oc)) (ms : Mods (fun j => j = p) w5 w6) (hdi : ∀ d ∈ a, IdI d) :
    RefE w0 w6 p Y (D ++ a) (FGrow G w w6) ∧ Mods G w w6 := by
  have hlen : (D ++ a).length = D.length + a.length := List.length_append
  have hM : Mods G w w6 := (Mods.of_below (S := G) hb).then ms (fun k _ e => by rw [e]; exact h.gp)
  have hwz := h.bl.size
  have hpl := h.lt p h.gp
  have hlt : ∀ x, oo = some x → B ≤ x.block ∧ x.block < w5.heap.size := fun x e => hown.lt x.block (by rw [e]; rfl)
  refine ⟨⟨⟨lo, lc, oo, oc, by rw [hlen]; exact hs, own_kept2 (Go.Proofs.YtndfhejfhfhbdaaGreatDoor.R.own_below ho hb) ms (fun x e => (g7 x e).2), ?_, fun x e => .inl (g7 x e).1, fun x e => .inr ⟨Nat.le_trans hB (hlt x e).1, Nat.lt_of_lt_of_le (hlt x e).2 ms.size⟩⟩, .inl h.gp, h.ok, fun d hd => ?_, fun j hj => ?_, fun j hj => ?_, h.bl.trans (hM.below h.ge hwz)⟩, hM⟩
  · unfold OwnL
    rw [hlen]
    exact own_base (own_kept2 hown ms (fun x e ea => by have := (hlt x e).1; omega)) (fun q hq => Nat.le_trans hwz (Nat.le_trans hB (hown.lt q hq).1))
  · rcases List.mem_append.1 hd with h1 | h1
    · exact h.di d h1
    · exact hdi d h1
  · rcases hj with hj | hj
    · exact h.ge j hj
    · exact Nat.le_trans hwz hj.1
  · rcases hj with hj | hj
    · exact Nat.lt_of_lt_of_le (h.lt j hj) hM.size
    · exact hj.2
theorem keep3 {W w' : World} {p1 p2 p3 : Addr} {v1 v2 v3 : Value} (hb : Below W.heap.size W w') (h1 : W.cell? p1 = some v1) (h2 : W.cell? p2 = some v2) (h3 : W.cell? p3 = some v3) : w'.cell? p1 = some v1 ∧ w'.cell? p2 = some v2 ∧ w'.cell? p3 = some v3 :=
  ⟨(hb.cell (World.block_lt_of_cell? W _ h1)).trans h1, (hb.cell (World.block_lt_of_cell? W _ h2)).trans h2, (hb.cell (World.block_lt_of_cell? W _ h3)).trans h3⟩
set_option maxRecDepth 100000 in
set_option maxHeartbeats 4000000 in
theorem refrun_any (w0 : World) (p : Nat) (Y : List Rv) (D : List Id) (G : Nat → Prop) (w : World) (h : RefE w0 w p Y D G) (hY : Y.length ≤ 20) (hn : (idsX Y).Nodup) (hdl : ∀ x ∈ Y, x.deps.length ≤ 10000) (hkl : ∀ x ∈ Y, x.cmd.key.size ≤ 1000000) (hD : D.length ≤ 1000)
    (O : List Id) (hfree : ∀ x ∈ Y, x.id ∉ D → ∀ inn out, ClO (srtR Y) x.id inn out → (out = [] ↔ x.id ∉ O)) (a : List Id) (hrow : Row (byIds (nds (mayL Y D O))) a) (herr : errO (okR (mayL Y D O)) (nds (mayL Y D O)) = 0) :
    Calls Tryz.prog 32 #[.pointer (some ⟨p, 0, none⟩)] w fun e w' => ∃ oo oc, e = .returned (.slice oo a.length oc) ∧ (IdsV w' oo oc a ∧ RefE w0 w' p Y (D ++ a) (FGrow G w w') ∧ Mods G w w') := by
  obtain ⟨i0, hi0, hz0, hz1, hz2⟩ := info_parts info_rec
  obtain ⟨i1, hi1, hy0, hy1, hy2⟩ := info_parts info_id
  have H := Lib.hid h
  have HN := Lib.hid hn
  have HDL := Lib.hid hdl
  have HKL := Lib.hid hkl
  have HFREE := Lib.hid hfree
  have HROW := Lib.hid hrow
  have HERR := Lib.hid herr
  obtain ⟨lo, lc, dn, dc, g0, g1, g2, g3, g4, g5, g6, g7, g8⟩ := h.view
  have hpl := h.lt p h.gp
  have HG0 := Lib.hid g0
  have HG1 := Lib.hid g1
  have HG2 := Lib.hid g2
  have HRV := Lib.hid g3
  have HDV := Lib.hid g4
  have HOR := Lib.hid g5
  have HOL := Lib.hid g6
  have HG7 := Lib.hid g7
  have HG8 := Lib.hid g8
  obtain ⟨hl1, hl2⟩ := g3.le
  unfold maxLen at hl2
  clear g0 g1 g2 g3 g4 g5 g6 g7 g8 h hdl hn hkl hfree hrow herr
  go_enter Tryz.func32, Tryz.ntmps32
  go_wp2_with fail
  go_loopw [3, 4] (fun mv kv wr => ∃ (k : Nat) (M : List Rv) (mo : Option Addr) (mc : Nat), mv = .slice mo M.length mc ∧ kv = .int .i64 k ∧ k ≤ Y.length ∧ M.map core = mayL (Y.take k) D O ∧ OwnR wr w.heap.size mo mc M ∧ MayAt wr w.heap.size M ∧ Below w.heap.size w wr) (fun _ kv _ => Y.length - (intOf kv).toNat)
  case atStart => exact ⟨0, [], none, 0, rfl, rfl, Nat.zero_le _, by simp [mayL], World.ownsRow_nil _ _ _ _, ⟨fun z hz => by cases hz⟩, Below.refl _ _⟩
  case round =>
    obtain ⟨k, M, mo, mc, rfl, rfl, hk, hM, hown, hma, hb⟩ := hrel
    have hMl : M.length ≤ 20 := by
      have h1 := may_len hM
      rw [List.length_take] at h1
      omega
    have HM := Lib.hid hM
    have HOW := Lib.hid hown
    have HMA := Lib.hid hma
    have HBR := Lib.hid hb
    clear hM hown hma hb
    have hWr := HBR.out.size
    have s0 := (HBR.out.cell (p := ⟨p, 0, none⟩) hpl).trans HG1.out
    have s1 := (HBR.out.cell (p := ⟨p, 1, none⟩) hpl).trans HG2.out
    by_cases hkl : k < Y.length
    · have hii : (k : Int) < (Y.length : Int) := by omega
      obtain ⟨x, hx⟩ : ∃ x, Y[k]? = some x := ⟨_, List.getElem?_eq_getElem hkl⟩
      obtain ⟨b, off, e0, hbl, hrec⟩ := HRV.out.row k x hx
      subst e0
      have HX := Lib.hid hx
      have HREC := Lib.hid hrec
      have HD := Lib.hid ((HRV.out.ok x (List.mem_of_getElem? hx)).deps)
      have HXI := Lib.hid ((HRV.out.ok x (List.mem_of_getElem? hx)).id)
      have hdx := HDL.out x (List.mem_of_getElem? hx)
      have hc := hrec.below HBR.out hbl
      clear hx hrec
      obtain ⟨bv, hbv⟩ : ∃ b, decide (x.id ∈ D) = b := ⟨_, rfl⟩
      have HBV := Lib.hid hbv
      go_upto_region 5 with fail
      have k0 := Kin.cell s0
      have k1 := Kin.cell s1
      have k2 := Kin.cell hc.c0
      have k3 := Kin.cell hc.c1
      have HKH := Lib.hid (fun v : Kin wr => refhas_any D dn dc x.id v.w (HDV.out.below (B := 0) (HBR.out.trans (v.h.mono hWr))) bv hbv)
      clear hc hbv s0 s1
      refine wp_region_kin (by kernel_rfl) (by kernel_rfl) ?_
      repeat (go_big_quiet_step ((go_at_call 38; with_reducible exact Kin.call _ (HKH.out _))))
      refine wpQuiet_nil ?_
      intro _ hxx
      obtain ⟨xk, rfl⟩ := hxx
      clear k0 k1 k2 k3 HKH
      obtain ⟨wb, hwb⟩ : ∃ wb, xk.w = wb := ⟨_, rfl⟩
      have hbb := xk.h
      rw [hwb] at hbb
      rw [hwb]
      have HBB := Lib.hid (HBR.out.trans (hbb.mono hWr))
      have HOB := Lib.hid (Go.Proofs.YtndfhejfhfhbdaaGreatDoor.R.own_below HOW.out hbb)
      have HMB := Lib.hid (HMA.out.below hbb)
      clear hwb hbb xk
      cases bv with
      | true =>
        have HN2 := Lib.hid (show M.map core = mayL (Y.take (k + 1)) D O by rw [mayL_next HX.out, if_pos (.inl (of_decide_eq_true HBV.out)), List.append_nil]; exact HM.out)
        go_wp2_with fail
        go_roundw
        case rel => exact ⟨k + 1, M, mo, mc, rfl, by go_num, by omega, HN2.out, HOB.out, HMB.out, HBB.out⟩
        case measure => simp [intOf]; omega
      | false =>
        have hxD : x.id ∉ D := of_decide_eq_false HBV.out
        have HXD := Lib.hid hxD
        have HFR := Lib.hid (HFREE.out x (List.mem_of_getElem? HX.out) hxD)
        have hsb := HBB.out.size
        have t0 := (HBB.out.cell (p := ⟨p, 0, none⟩) hpl).trans HG1.out
        have hc := HREC.out.below HBB.out hbl
        have a0 := hc.c0
        have a1 := hc.c1
        clear hxD hc
        go_upto_region 6 with fail
        have HCL := Lib.hid (fun (wz : World) (hb : Below wb.heap.size wb wz) => refclosed_any Y _ lc x.id wz (HRV.out.below (HBB.out.trans (hb.mono hsb))) HXI.out HN.out hY HDL.out)
        have HKE := Lib.hid (fun (wz : World) (hb : Below wb.heap.size wb wz) => keep3 hb t0 a0 a1)
        go_region_held3 (fun w' => w'.cell? ⟨p, 0, none⟩ = some (.slice (some ⟨b, off, none⟩) Y.length lc) ∧ w'.cell? ⟨b, off + k * 16, none⟩ = some (.int .i64 x.id.r) ∧ w'.cell? ⟨b, off + k * 16 + 1, none⟩ = some (.int .i64 x.id.n))
          (first | exact HKE.out _ (Below.refl _ _).drew | exact HKE.out _ HB1.out)
          ((go_at_call 21
            refine (HCL.out _ (Below.refl _ _).drew).mono ?_
            rintro e w1 ⟨no, nc, inn, oo, oc, out, rfl, hcl, _, _, hb1⟩
            have HB1 := Lib.hid (Below.trans (B := wb.heap.size) (Below.refl wb.heap.size wb).drew hb1)
            have HFI := Lib.hid (HFR.out inn out hcl)
            clear hcl hb1))
        all_goals
          have HB2 := Lib.hid (HBB.out.trans (HB1.out.mono hsb))
          have HO1 := Lib.hid (Go.Proofs.YtndfhejfhfhbdaaGreatDoor.R.own_below HOB.out HB1.out)
          have HM1 := Lib.hid (HMB.out.below HB1.out)
          have hs1 := HB2.out.size
          clear HKE HCL t0 a0 a1
          by_cases hxO : x.id ∈ O
          · have hne : 0 < out.length := List.length_pos_iff.2 fun h => HFI.out.1 h hxO
            have hgt : (0 : Int) < (out.length : Int) := by omega
            have HN2 := Lib.hid (show M.map core = mayL (Y.take (k + 1)) D O by rw [mayL_next HX.out, if_pos (.inr hxO), List.append_nil]; exact HM.out)
            clear hxO
            go_wp2_with fail
            go_roundw
            case rel => exact ⟨k + 1, M, mo, mc, rfl, by go_num, by omega, HN2.out, HO1.out, HM1.out, HB2.out⟩
            case measure => simp [intOf]; omega
          · have hout : out = [] := HFI.out.2 hxO
            subst hout
            have HNX := Lib.hid (show mayL (Y.take (k + 1)) D O = M.map core ++ [rest D x] by rw [mayL_next HX.out, if_neg (fun h => h.elim HXD.out hxO), HM.out])
            have t0 := (HB2.out.cell (p := ⟨p, 0, none⟩) hpl).trans HG1.out
            obtain ⟨c0, c1, c2, c3, c4, c5, c6, c7, c8, c9, c10, c11, c12, c13, c14, c15⟩ := HREC.out.below HB2.out hbl
            clear hxO HFI
            go_upto_region 9 with fail
            clear t0 c0 c1 c2 c3 c4 c5 c6 c7 c8 c9 c10 c11 c12 c13 c14 c15
            obtain ⟨w2, hw2⟩ : ∃ w2, w2 = w1.alloc (recO x) := ⟨_, rfl⟩
            obtain ⟨gb, hgb⟩ : ∃ gb, gb = w1.heap.size := ⟨_, rfl⟩
            have hb2 : Below w1.heap.size w1 w2 := by rw [hw2]; exact (Below.refl _ _).alloc (Nat.le_refl _) _
            have hx2 : w2.heap[gb]? = some (recO x) := by rw [hw2, hgb]; exact heap_alloc_new w1 _
            rw [← hw2, ← hgb]
            have HX2 := Lib.hid hx2
            have HB3 := Lib.hid (HB2.out.trans (hb2.mono hs1))
            have HO3 := Lib.hid (Go.Proofs.YtndfhejfhfhbdaaGreatDoor.R.own_below HO1.out hb2)
            have HM3 := Lib.hid (HM1.out.below hb2)
            have HGN := Lib.hid (show ∀ a, mo = some a → ¬ a.block = gb from fun a e ea => by have := (HO1.out.lt a.block (by rw [e]; rfl)).2; omega)
            have HGM := Lib.hid (show ∀ z ∈ M, ∀ a, z.ao = some a → ¬ a.block = gb from fun z hz a e ea => by have := ((HM1.out.own z hz).lt a.block (by rw [e]; rfl)).2; omega)
            have hgl := Go.Proofs.YtndfhejfhfhbdaaGreatDoor.M.heap_lt hx2
            have hgw : w.heap.size ≤ gb := by omega
            have hg2 : gb < w2.heap.size := hgl
            have hs3 := HB3.out.size
            clear hw2 hb2 hx2 hgb
            obtain ⟨hdl1, hdl2⟩ := HD.out.le
            unfold maxLen at hdl2
            obtain ⟨xo, hxo⟩ : ∃ xo, x.ao = xo := ⟨_, rfl⟩
            have HXO := Lib.hid hxo
            clear hxo
            obtain ⟨wa, rfl⟩ : ∃ wa, wa = wr := ⟨_, rfl⟩
            go_wp2_with fail
            go_loopw [8, 9] (fun ev jv wr => ∃ (j : Nat) (E : List Id) (eo : Option Addr) (ec : Nat), ev = .slice eo E.length ec ∧ jv = .int .i64 j ∧ j ≤ x.deps.length ∧ E = (x.deps.take j).filter (fun d => !decide (d ∈ D)) ∧ OwnL wr w2.heap.size eo ec E ∧ Below w2.heap.size w2 wr) (fun _ jv _ => x.deps.length - (intOf jv).toNat)
            case atStart => exact ⟨0, [], none, 0, rfl, rfl, Nat.zero_le _, by simp, World.ownsRow_nil _ _ _ _, Below.refl _ _⟩
            case round =>
              obtain ⟨j, E, eo, ec, rfl, rfl, hj, hE, heo, hbe⟩ := hrel
              have hel : E.length ≤ 10000 := by
                rw [hE]
                have h1 := List.length_filter_le (fun d => !decide (d ∈ D)) (x.deps.take j)
                rw [List.length_take] at h1
                omega
              have HE := Lib.hid hE
              have HEO := Lib.hid heo
              have HBE := Lib.hid hbe
              have HBA := Lib.hid (HB3.out.trans (hbe.mono hs3))
              clear hE heo hbe
              have hsq := HBE.out.size
              have HXQ := Lib.hid ((HBE.out.block _ hgl).trans HX2.out)
              have c13 : wr.cell? ⟨gb, 13, none⟩ = some (.slice xo x.deps.length x.cap) := by rw [← HXO.out]; exact (box16 HXQ.out).2.2.2.2.2.2.2.2.2.2.2.2.2.1
              by_cases hjl : j < x.deps.length
              · have hjj : (j : Int) < (x.deps.length : Int) := by omega
                obtain ⟨d, hd⟩ : ∃ d, x.deps[j]? = some d := ⟨_, List.getElem?_eq_getElem hjl⟩
                have HDJ := Lib.hid hd
                obtain ⟨b2, off2, e2, hbl2, y0, y1⟩ := HD.out.row j d hd
                obtain rfl : xo = some ⟨b2, off2, none⟩ := HXO.out.symm.trans e2
                have HY := Lib.hid (And.intro y0 y1)
                obtain ⟨dv, hdv⟩ : ∃ b, decide (d ∈ D) = b := ⟨_, rfl⟩
                have HDVD := Lib.hid hdv
                have u1 := (HBA.out.cell (p := ⟨p, 1, none⟩) hpl).trans HG2.out
                clear hd e2 y0 y1
                go_upto_region 13 with fail
                have k0 := Kin.cell u1
                have k1 := Kin.cell c13
                have k2 := Kin.cell ((HBA.out.cell (p := ⟨b2, _, none⟩) hbl2).trans HY.out.1)
                have k3 := Kin.cell ((HBA.out.cell (p := ⟨b2, _, none⟩) hbl2).trans HY.out.2)
                have HKH := Lib.hid (fun v : Kin wr => refhas_any D dn dc d v.w (HDV.out.below (B := 0) (HBA.out.trans (v.h.mono HBA.out.size))) dv hdv)
                clear u1 c13 hdv
                refine wp_region_kin (by kernel_rfl) (by kernel_rfl) ?_
                repeat (go_big_quiet_step ((go_at_call 38; with_reducible exact Kin.call _ (HKH.out _))))
                refine wpQuiet_nil ?_
                intro _ hxx
                obtain ⟨xk, rfl⟩ := hxx
                clear k0 k1 k2 k3 HKH
                obtain ⟨wc, hwc⟩ : ∃ wc, xk.w = wc := ⟨_, rfl⟩
                have hbc := xk.h
                rw [hwc] at hbc
                rw [hwc]
                have HBC := Lib.hid (HBE.out.trans (hbc.mono hsq))
                have HBD := Lib.hid (HBA.out.trans (hbc.mono HBA.out.size))
                have HOC := Lib.hid (Go.Proofs.YtndfhejfhfhbdaaGreatDoor.R.own_below HEO.out hbc)
                have hsc := HBC.out.size
                clear hwc hbc xk
                cases dv with
                | true =>
                  have HN2 := Lib.hid (show E = (x.deps.take (j + 1)).filter (fun d => !decide (d ∈ D)) by rw [List.take_add_one, HDJ.out, List.filter_append, ← HE.out, Option.toList_some, fil_in (of_decide_eq_true HDVD.out), List.append_nil])
                  go_wp2_with fail
                  go_roundw
                  case rel => exact ⟨j + 1, E, eo, ec, rfl, by go_num, by omega, HN2.out, HOC.out, HBC.out⟩
                  case measure => simp [intOf]; omega
                | false =>
                  have HN2 := Lib.hid (show E ++ [d] = (x.deps.take (j + 1)).filter (fun d => !decide (d ∈ D)) by rw [List.take_add_one, HDJ.out, List.filter_append, ← HE.out, Option.toList_some, fil_out (of_decide_eq_false HDVD.out)])
                  have c13 : wc.cell? ⟨gb, 13, none⟩ = some (.slice (some ⟨b2, off2, none⟩) x.deps.length x.cap) := by rw [← HXO.out]; exact (box16 ((HBC.out.block _ hgl).trans HX2.out)).2.2.2.2.2.2.2.2.2.2.2.2.2.1
                  have d0 := (HBD.out.cell (p := ⟨b2, _, none⟩) hbl2).trans HY.out.1
                  have d1 := (HBD.out.cell (p := ⟨b2, _, none⟩) hbl2).trans HY.out.2
                  go_wp2_with (refine wpList_app idC 2 (fun _ => rfl) (by decide) idC_one (by rfl) (.tmp 80) (.tmp 87) 25 (by rfl) w2.heap.size 27 i1 _ 16 Tryz.underlying25 hi1 hy0 hy1 hy2 (by decide) rfl eo ec E d #[.int .i64 d.r, .int .i64 d.n] rfl (by rfl) (by exact HOC.out) (by rfl) (by omega) (by omega) ?_; intro eo' ec' w9 hown hmod hbel; have HEO9 := Lib.hid hown; have HB9 := Lib.hid (HBC.out.trans hbel); clear hown hmod hbel)
                  clear c13 d0 d1
                  go_roundw
                  case rel =>
                    repeat apply Exists.intro
                    exact ⟨⟨j + 1, E ++ [d], eo', ec', by simp, by go_num, by omega, HN2.out, HEO9.out, HB9.out⟩, rfl⟩
                  case measure => simp [intOf]; omega
              · obtain rfl : j = x.deps.length := by omega
                have hjj : ¬ (x.deps.length : Int) < (x.deps.length : Int) := by omega
                obtain ⟨z, hz⟩ : ∃ z : Rv, z = { x with deps := E, ao := eo, cap := ec } := ⟨_, rfl⟩
                have HZC := Lib.hid (show core z = rest D x by rw [hz, HE.out, List.take_length]; rfl)
                have nf : wr.frozen? ⟨gb, 13, none⟩ = false := by simp [World.frozen?, HXQ.out, recO]
                go_upto_region 16 with fail
                obtain ⟨w4, hw4⟩ : ∃ w4, w4 = wr.setCell ⟨gb, 13, none⟩ (.slice eo E.length ec) := ⟨_, rfl⟩
                have sx := heap_set wr gb 13 (.slice eo E.length ec) gb _ _ _ HXQ.out
                rw [if_pos rfl, ← hw4] at sx
                have ms : Mods (fun j => j = gb) wr w4 := by rw [hw4]; exact (Mods.refl (fun j => j = gb) wr).setCell (p := ⟨gb, 13, none⟩) (fun _ => rfl) _
                rw [← hw4]
                have HX4 := Lib.hid (show w4.heap[gb]? = some (recO z) by rw [sx, hz]; rfl)
                have HB4 := Lib.hid (show Below w.heap.size w w4 from HBA.out.trans (ms.below (fun j e => by rw [e]; omega) HBA.out.size))
                have HO4 := Lib.hid (show OwnR w4 w.heap.size mo mc M from own_kept2 (Go.Proofs.YtndfhejfhfhbdaaGreatDoor.R.own_below HO3.out HBE.out) ms HGN.out)
                have HM4 := Lib.hid (show MayAt w4 w.heap.size M from ⟨fun y hy => own_kept2 ((HM3.out.below HBE.out).own y hy) ms (HGM.out y hy)⟩)
                have HE4 := Lib.hid (show OwnL w4 w.heap.size z.ao z.cap z.deps from by
                  have h9 : OwnL w4 w.heap.size eo ec E := own_base (own_kept2 HEO.out ms (fun a e ea => by have := (HEO.out.lt a.block (by rw [e]; rfl)).1; omega)) (fun q hq => by have := (HEO.out.lt q hq).1; omega)
                  rw [hz]
                  exact h9)
                have hs4 := HB4.out.size
                clear hw4 sx ms nf c13 hz
                obtain ⟨c0, c1, c2, c3, c4, c5, c6, c7, c8, c9, c10, c11, c12, c13, c14, c15⟩ := box16 HX4.out
                go_wp2_with (refine wpList_app recC 16 (fun _ => rfl) (by decide) recC_one (by rfl) (.tmp 92) (.tmp 94) 28 (by rfl) w.heap.size 38 i0 _ 160 Tryz.underlying28 hi0 hz0 hz1 hz2 (by decide) rfl mo mc M z (recA z) rfl (by rfl) (by exact HO4.out) (by rfl) (by omega) (by omega) ?_; intro mo' mc' w7 hown hmod hbel; have HO7 := Lib.hid hown; have HM7 := Lib.hid (may_more HM4.out HE4.out HO4.out hmod); have HB7 := Lib.hid (HB4.out.trans hbel); clear hown hmod hbel)
                clear c0 c1 c2 c3 c4 c5 c6 c7 c8 c9 c10 c11 c12 c13 c14 c15
                have HN2 := Lib.hid (show (M ++ [z]).map core = mayL (Y.take (k + 1)) D O by rw [HNX.out, List.map_append, List.map_cons, List.map_nil, HZC.out])
                go_roundw
                case rel => exact ⟨k + 1, M ++ [z], mo', mc', by simp, by go_num, by omega, HN2.out, HO7.out, HM7.out, HB7.out⟩
                case measure => simp [intOf]; omega
    · obtain rfl : k = Y.length := by omega
      have hii : ¬ (Y.length : Int) < (Y.length : Int) := by omega
      have hMY : M.map core = mayL Y D O := by rw [HM.out, List.take_length]
      have HMY := Lib.hid hMY
      have HMO := Lib.hid (may_ok hMY HMA.out H.out.ok)
      have hsz := may_size hMY HDL.out HKL.out
      have HMV := Lib.hid (RecsV.of_own HOW.out (may_ok hMY HMA.out HRV.out.ok))
      have hnd : nds M = nds (mayL Y D O) := by rw [← hMY, nds_core]
      have hok : okR M = okR (mayL Y D O) := by rw [← hMY, okR_core]
      have HRO := Lib.hid (reforder_any M mo mc wr HMV.out (by omega) (fun z hz => (hsz z hz).1) (fun z hz => (hsz z hz).2) 0 (by rw [hok, hnd]; exact HERR.out) a (fun _ => by rw [hnd]; exact HROW.out))
      clear hMY hsz hnd hok
      go_wp2_with fail
      refine HRO.out.mono ?_
      rintro e w1 ⟨oo, oc, out, rfl, hoa, _, howo, hb1⟩
      obtain rfl : out = a := hoa (by simp)
      have HB1 := Lib.hid (HBR.out.trans (hb1.mono hWr))
      have HOO := Lib.hid howo
      clear hb1 howo hoa HRO
      have hs1 := HB1.out.size
      have s1 := (HB1.out.cell (p := ⟨p, 1, none⟩) hpl).trans HG2.out
      have HP1 := Lib.hid ((HB1.out.block p hpl).trans HG0.out)
      have HOL1 := Lib.hid (Go.Proofs.YtndfhejfhfhbdaaGreatDoor.R.own_below HOL.out HB1.out)
      have hal : out.length ≤ 20 := by
        rw [run_len (errO_ok.1 HERR.out).2.1 HROW.out, ← HMY.out, List.length_map]
        exact hMl
      have HDO := Lib.hid (SrcAt.of_own HOL1.out)
      have HAO := Lib.hid (SrcAt.of_own HOO.out)
      clear s0
      go_upto_region 18 with fail
      have hp1 : p < w1.heap.size := Nat.lt_of_lt_of_le hpl hs1
      go_wp2_with ((first
        | (refine wpList_apps idC 2 (fun _ => rfl) (by decide) idC_one (by rfl) (.tmp 102) (.tmp 106) 25 (by rfl) w1.heap.size 27 i1 _ 16 Tryz.underlying25 hi1 hy0 hy1 hy2 (by decide) rfl (some ⟨w1.heap.size, 0, none⟩) 0 0 [] rfl dn dc D.length D rfl (by rfl) (by exact own_empty _ _ _ (0, 0)) (by rfl) (by exact HDO.out.below ((Below.refl _ _).alloc (Nat.le_refl _) _)) (by omega) (by simp) ?_; intro oo1 oc1 w4 hown1 hmod1 hbel1; have hbel1 := ((Below.refl w1.heap.size w1).alloc (Nat.le_refl _) (.cells #[] 27)).trans hbel1; rw [List.nil_append, Nat.zero_add] at hown1; rw [Nat.zero_add]; have HOW1 := Lib.hid hown1; have HB4 := Lib.hid hbel1; clear hown1 hmod1 hbel1)
        | (refine wpList_apps idC 2 (fun _ => rfl) (by decide) idC_one (by rfl) (.tmp 107) (.tmp 108) 25 (by rfl) w1.heap.size 27 i1 _ 16 Tryz.underlying25 hi1 hy0 hy1 hy2 (by decide) rfl oo1 oc1 D.length D rfl oo oc out.length out rfl (by rfl) (by exact HOW1.out) (by rfl) (by exact HAO.out.below HB4.out) (by omega) HB4.out.size ?_; intro oo2 oc2 w5 hown2 hmod2 hbel2; have HOW2 := Lib.hid hown2; have HB5 := Lib.hid (HB4.out.trans hbel2); have HX5 := Lib.hid (((HB4.out.trans hbel2).block p hp1).trans HP1.out); have c5 : w5.cell? ⟨p, 1, none⟩ = some (.slice dn D.length dc) := cell_of_row w5 p 1 _ _ _ HX5.out; have nf5 : w5.frozen? ⟨p, 1, none⟩ = false := (by simp [World.frozen?, HX5.out, refO]); clear hown2 hmod2 hbel2)))
      obtain ⟨w6, hw6⟩ : ∃ w6, w6 = w5.setCell ⟨p, 1, none⟩ (.slice oo2 (D.length + out.length) oc2) := ⟨_, rfl⟩
      have sx := heap_set w5 p 1 (.slice oo2 (D.length + out.length) oc2) p _ _ _ HX5.out
      rw [if_pos rfl, ← hw6] at sx
      have ms : Mods (fun j => j = p) w5 w6 := by rw [hw6]; exact (Mods.refl (fun j => j = p) w5).setCell (p := ⟨p, 1, none⟩) (fun _ => rfl) _
      rw [← hw6]
      have HAI := Lib.hid (show ∀ d ∈ out, IdI d from fun d hd => by
        obtain ⟨z, hz, rfl⟩ := List.mem_map.1 ((run_perm (errO_ok.1 HERR.out).2.1 HROW.out).mem_iff.1 hd)
        obtain ⟨x, hx, e⟩ := List.mem_map.1 hz
        rw [← e]
        exact (H.out.ok x (List.mem_filter.1 hx).1).id)
      have HFIN := Lib.hid (run_fin H.out HOR.out HG7.out (HB1.out.trans (HB5.out.mono hs1)) HOW2.out hs1 sx ms HAI.out)
      have HOF := Lib.hid (show IdsV w6 oo oc out from IdsV.of_own (B := wr.heap.size) (by
        have := own_kept2 (Go.Proofs.YtndfhejfhfhbdaaGreatDoor.R.own_below HOO.out HB5.out) ms (fun x e ea => by have := (HOO.out.lt x.block (by rw [e]; rfl)).1; omega)
        unfold OwnL at this
        exact this) HAI.out)
      clear hw6 sx ms
      go_ret
      exact ⟨oo, oc, rfl, HOF.out, HFIN.out⟩
end Go.Proofs.YtndfhejfhfhbdaaGreatDoor.O
