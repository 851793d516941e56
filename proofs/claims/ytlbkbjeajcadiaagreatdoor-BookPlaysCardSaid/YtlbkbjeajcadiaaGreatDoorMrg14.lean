/- Several texts in one. -/
import Derived.Test.YtlbkbjeajcadiaaGreatDoorOrdH
import Derived.Test.YtlbkbjeajcadiaaGreatDoorAppC

/- ids.Set and the document's Set: the contracts. -/
namespace Go.Proofs.YtlbkbjeajcadiaaGreatDoor.O
open Go.RowKit Go.Proofs.YtlbkbjeajcadiaaGreatDoor.M Go.BigFrame
set_option linter.unusedVariables false
set_option linter.unusedSimpArgs false

theorem setI_step {l : List Id} {k : Nat} {x : Id} (hx : l[k]? = some x) : setI (l.take (k + 1)) = if x ∈ setI (l.take k) then setI (l.take k) else insE ilt x (setI (l.take k)) := by
  unfold setI
  rw [List.take_add_one, hx, List.foldl_append]
  rfl
set_option maxRecDepth 100000 in
set_option maxHeartbeats 4000000 in
theorem refset_any (l : List Id) (ao : Option Addr) (cap : Nat) (w : World) (h : IdsV w ao cap l) (hl : l.length ≤ 1000000) :
    Calls Tryz.prog 45 #[.slice ao l.length cap] w fun e w' => ∃ oo oc, e = .returned (.slice oo (setI l).length oc) ∧ (OwnL w' w.heap.size oo oc (setI l) ∧ Below w.heap.size w w') := by
  obtain ⟨hl1, hl2⟩ := h.le
  unfold maxLen at hl2
  have H := Lib.hid h
  clear h
  go_enter Tryz.func45, Tryz.ntmps45
  go_wp2_with fail
  go_loopw [3, 4] (fun ov kv wr => ∃ (k : Nat) (M : List Id) (oo : Option Addr) (oc : Nat), ov = .slice oo M.length oc ∧ kv = .int .i64 k ∧ k ≤ l.length ∧ M = setI (l.take k) ∧ OwnL wr w.heap.size oo oc M ∧ Below w.heap.size w wr) (fun _ kv _ => l.length - (intOf kv).toNat)
  case atStart => exact ⟨0, [], none, 0, rfl, rfl, Nat.zero_le _, by simp [setI], World.ownsRow_nil _ _ _ _, Below.refl _ _⟩
  case round =>
    obtain ⟨k, M, oo, oc, rfl, rfl, hk, hM, hown, hb⟩ := hrel
    have HM := Lib.hid hM
    have HOW := Lib.hid hown
    have HBR := Lib.hid hb
    have hMl : M.length ≤ 1000000 := by rw [hM]; exact Nat.le_trans (setI_len _) (by rw [List.length_take]; omega)
    have HOK := Lib.hid (show ∀ x ∈ M, IdI x from fun x hx => by
      rw [hM, setI_mem] at hx
      exact H.out.ok x (List.mem_of_mem_take hx))
    clear hM hown hb
    have hWr := HBR.out.size
    by_cases hkl : k < l.length
    · have hii : (k : Int) < (l.length : Int) := by omega
      obtain ⟨x, hx⟩ : ∃ x, l[k]? = some x := ⟨_, List.getElem?_eq_getElem hkl⟩
      have HS := Lib.hid (setI_step hx)
      obtain ⟨b, off, rfl, hbl, c0, c1⟩ := H.out.row k x hx
      have HC := Lib.hid (show ∀ wx : World, Below w.heap.size w wx → wx.cell? ⟨b, off + k * 2, none⟩ = some (.int .i64 x.r) ∧ wx.cell? ⟨b, off + k * 2 + 1, none⟩ = some (.int .i64 x.n) from fun wx hb =>
        ⟨(hb.cell (p := ⟨b, _, none⟩) hbl).trans c0, (hb.cell (p := ⟨b, _, none⟩) hbl).trans c1⟩)
      obtain ⟨a0, a1⟩ := HC.out wr HBR.out
      obtain ⟨v, hv⟩ : ∃ v, decide (x ∈ M) = v := ⟨_, rfl⟩
      have HV := Lib.hid hv
      clear hx c0 c1 hv
      go_wp2_with fail
      refine (refhas_any M oo oc x wr (IdsV.of_own HOW.out HOK.out) v HV.out).mono ?_
      rintro e w1 ⟨rfl, hb1⟩
      have HB1 := Lib.hid (HBR.out.trans (hb1.mono hWr))
      have HO1 := Lib.hid (own_kept HOW.out (Mods.of_below (S := fun _ => False) hb1) (fun _ _ h => h))
      clear hb1 a0 a1
      obtain ⟨a0, a1⟩ := HC.out w1 HB1.out
      have hW1 := HB1.out.size
      cases v with
      | true =>
        have HN := Lib.hid (show M = setI (l.take (k + 1)) by rw [HS.out, ← HM.out, if_pos (of_decide_eq_true HV.out)])
        clear a0 a1
        go_wp2_with fail
        go_roundw
        case rel => exact ⟨k + 1, M, oo, oc, rfl, by go_num, by omega, HN.out, HO1.out, HB1.out⟩
        case measure => simp [intOf]; omega
      | false =>
        have HN := Lib.hid (show insE ilt x M = setI (l.take (k + 1)) by rw [HS.out, ← HM.out, if_neg (of_decide_eq_false HV.out)])
        go_wp2_with fail
        refine (refadd_any M oo oc x w1 (IdsV.of_own HO1.out HOK.out) hMl).mono ?_
        rintro e w2 ⟨oo2, oc2, rfl, ho2, hb2⟩
        have HO2 := Lib.hid (own_base ho2 (fun k hk => Nat.le_trans hW1 (ho2.lt k hk).1))
        have HB2 := Lib.hid (HB1.out.trans (hb2.mono hW1))
        clear ho2 hb2 a0 a1
        go_wp2_with fail
        go_roundw
        case rel => exact ⟨k + 1, insE ilt x M, oo2, oc2, rfl, by go_num, by omega, HN.out, HO2.out, HB2.out⟩
        case measure => simp [intOf]; omega
    · obtain rfl : k = l.length := by omega
      have hii : ¬ (l.length : Int) < (l.length : Int) := by omega
      have HE := Lib.hid (show M = setI l by rw [HM.out, List.take_of_length_le (Nat.le_refl _)])
      go_wp2_with fail
      go_ret
      refine ⟨oo, oc, ret_val (by rw [← HE.out]; rfl), ?_⟩
      rw [← HE.out]
      exact ⟨HOW.out, HBR.out⟩
set_option maxRecDepth 100000 in
set_option maxHeartbeats 4000000 in
theorem compact_nil (w : World) :
    Calls Tryz.prog 74 #[.slice none 0 0] w fun e w' => e = .returned (.slice none 0 0) ∧ w = w' := by
  go_enter Tryz.func74, Tryz.ntmps74
  go_wp2_with fail
  go_ret
  exact ⟨rfl, rfl⟩
set_option maxRecDepth 100000 in
set_option maxHeartbeats 4000000 in
theorem set_any (l : List Id) (ao : Option Addr) (cap : Nat) (w : World) (h : IdsV w ao cap l) (hl : l.length ≤ 1000000) :
    Calls Tryz.prog 39 #[.slice ao l.length cap] w fun e w' => ∃ oo oc, e = .returned (.slice oo (setI l).length oc) ∧ (OwnL w' w.heap.size oo oc (setI l) ∧ Below w.heap.size w w') := by
  have HC := Lib.hid (cloneI_any l ao cap w h hl)
  clear h
  go_enter Tryz.func39, Tryz.ntmps39
  go_wp2_with fail
  refine HC.out.mono ?_
  rintro e w1 ⟨a1, c1, rfl, ho1, hb1⟩
  have HO1 := Lib.hid ho1
  have HB1 := Lib.hid hb1
  have hs1 := hb1.size
  have hc1 : a1 = none → c1 = 0 := fun e => by
    obtain ⟨ao', cap', e0, _, _, h3, _⟩ := own_view ho1
    cases e0
    exact (h3 e).2
  clear ho1 hb1 HC
  go_wp2_with fail
  refine (sortI_any w.heap.size w1 a1 c1 l HO1.out hl).mono ?_
  rintro e w2 ⟨rfl, m, hp, hs, hml, ho2, hm2⟩
  have HE := Lib.hid (keepN_set hp hs)
  have HB2 := Lib.hid (HB1.out.trans (hm2.below (B := w.heap.size) (fun j ⟨a, e1, e2⟩ => by subst e1; rw [e2]; exact (HO1.out.lt a.block rfl).1) hs1))
  have HO2 := Lib.hid ho2
  clear hp hs ho2 hm2
  cases a1 with
  | none =>
    obtain rfl := hc1 rfl
    have hl0 : l.length = 0 := by
      obtain ⟨ao', cap', e0, _, _, h3, _⟩ := own_view HO1.out
      cases e0
      exact (h3 rfl).1
    have hm0 : m = [] := List.length_eq_zero_iff.1 (by omega)
    have HE2 := Lib.hid (show setI l = [] by rw [← HE.out, hm0]; rfl)
    rw [hl0]
    clear hm0
    go_wp2_with fail
    refine (compact_nil w2).mono ?_
    rintro e w3 ⟨rfl, rfl⟩
    go_wp2_with fail
    go_ret
    refine ⟨none, 0, ret_val (by rw [HE2.out]; rfl), ?_⟩
    rw [HE2.out]
    exact ⟨World.ownsRow_nil _ _ _ _, HB2.out⟩
  | some a =>
    obtain ⟨g, rfl⟩ : ∃ g, a = ⟨g, 0, none⟩ := by
      obtain ⟨ao', cap', e0, _, _, _, h4⟩ := own_view HO1.out
      cases e0
      obtain ⟨g, cur, e1, _⟩ := h4 a rfl
      exact ⟨g, e1⟩
    have hgB := (HO1.out.lt g rfl).1
    have HO3 := Lib.hid (show OwnI w2 w.heap.size g m.length c1 m by have := HO2.out; rw [← hml] at this; exact this)
    have hmm : m.length ≤ 1000000 := by omega
    rw [← hml]
    clear HO2 HO1 hml
    go_wp2_with fail
    refine (compactI_any w.heap.size w2 g c1 m HO3.out hmm).mono ?_
    rintro e w3 ⟨m3, rfl, hm3, ho3, hmod⟩
    have HE3 := Lib.hid (hm3.trans HE.out)
    have HFIN := Lib.hid (show OwnL w3 w.heap.size (some ⟨g, 0, none⟩) c1 m3 ∧ Below w.heap.size w w3 from ⟨ho3, HB2.out.trans (hmod.below (B := w.heap.size) (fun j e => by rw [e]; exact hgB) HB2.out.size)⟩)
    clear hm3 ho3 hmod
    go_wp2_with fail
    go_ret
    refine ⟨some ⟨g, 0, none⟩, c1, ret_val (by rw [← HE3.out]; rfl), ?_⟩
    rw [← HE3.out]
    exact HFIN.out
end Go.Proofs.YtlbkbjeajcadiaaGreatDoor.O

/- The contract of cmd.Check. -/
namespace Go.Proofs.YtlbkbjeajcadiaaGreatDoor.P
open Go.RowKit Go.Proofs.YtlbkbjeajcadiaaGreatDoor.R Go.Proofs.YtlbkbjeajcadiaaGreatDoor.M Go.BigFrame
set_option linter.unusedVariables false
set_option linter.unusedSimpArgs false

def cmdEq (c d : Cmd) : Bool := (c.kind == d.kind) && ((c.client == d.client) && ((c.seq == d.seq) && ((c.key.toList == d.key.toList) && ((c.val.toList == d.val.toList) && (c.rev == d.rev)))))
set_option maxHeartbeats 2000000 in
theorem run_cmd_neq (c d : Cmd) (w : World) : (binOp .neq 24 (cmdV c) (cmdV d)).run Tryz.prog w = .ok (.bool (!cmdEq c d)) w := by
  have h1 : Tryz.prog.underlying 24 = some (.struct (Tryz.prog.fieldsOf 24)) := by kernel_rfl
  have h2 : Tryz.prog.stoodInHeld 24 = false := by kernel_rfl
  unfold cmdEq
  rw [run_neq_struct, show (10000 : Nat) = 9999 + 1 from rfl, run_equalIn_struct _ _ _ _ _ h1 h2]
  cases e1 : (c.kind == d.kind)
  · simp [go_sem, e1, Result.andThen]
  cases e2 : (c.client == d.client)
  · simp [go_sem, e1, e2, Result.andThen]
  cases e3 : (c.seq == d.seq)
  · simp [go_sem, e1, e2, e3, Result.andThen]
  cases e4 : (c.key.toList == d.key.toList)
  · simp [go_sem, e1, e2, e3, e4, Result.andThen]
  cases e5 : (c.val.toList == d.val.toList)
  · simp [go_sem, e1, e2, e3, e4, e5, Result.andThen]
  cases e6 : (c.rev == d.rev)
  · simp [go_sem, e1, e2, e3, e4, e5, e6, Result.andThen]
  simp [go_sem, e1, e2, e3, e4, e5, e6, Result.andThen]
theorem ba_eq (a b : ByteArray) : (a.toList == b.toList) = decide (a = b) := by
  rw [Bool.eq_iff_iff, beq_iff_eq, decide_eq_true_eq]
  constructor
  · intro h
    apply ba_ext
    rw [ByteArray.toList_eq, ByteArray.toList_eq] at h
    exact h
  · intro h; rw [h]
theorem cmdEq_iff (c d : Cmd) : cmdEq c d = true ↔ c = d := by
  unfold cmdEq
  rw [ba_eq, ba_eq]
  simp only [Bool.and_eq_true, beq_iff_eq, decide_eq_true_eq]
  constructor
  · rintro ⟨h1, h2, h3, h4, h5, h6⟩
    cases c; cases d
    simp only at *
    subst h1 h2 h3 h4 h5 h6
    rfl
  · intro h; subst h; exact ⟨rfl, rfl, rfl, rfl, rfl, rfl⟩
/-- what is wrong in form, as the program asks -/
theorem formBad_eq (c : Cmd) (hk : out c.kind 6 = false) : formBad c = (!cmdEq c (namedC c) || (!bare c && (decide (c.client = 0) || decide (c.seq = 0)))) := by
  have hk2 : 0 ≤ c.kind ∧ c.kind ≤ 6 := by
    unfold out at hk
    simp only [Bool.or_eq_false_iff, decide_eq_false_iff_not] at hk
    omega
  have he : ((!cmdEq c (namedC c)) = true) ↔ ¬ c = namedC c := by
    rw [Bool.not_eq_true', ← Bool.not_eq_true, cmdEq_iff]
  rw [Bool.eq_iff_iff, Bool.or_eq_true, he]
  obtain ⟨kind, client, seq, key, val, rev⟩ := c
  simp only at hk2
  have hkk : kind = 0 ∨ kind = 1 ∨ kind = 2 ∨ kind = 3 ∨ kind = 4 ∨ kind = 5 ∨ kind = 6 := by omega
  unfold formBad bare namedC
  clear he hk hk2
  rcases hkk with rfl | rfl | rfl | rfl | rfl | rfl | rfl <;> by_cases a : client = 0 <;> by_cases b : seq = 0 <;> by_cases d : key = nul <;> by_cases e : val = nul <;> by_cases f : rev = 0 <;> simp [a, b, d, e, f]
end Go.Proofs.YtlbkbjeajcadiaaGreatDoor.P

/- The contract of cmd.Check: the walk. -/
namespace Go.Proofs.YtlbkbjeajcadiaaGreatDoor.P
open Go.RowKit Go.Proofs.YtlbkbjeajcadiaaGreatDoor.R Go.Proofs.YtlbkbjeajcadiaaGreatDoor.M Go.BigFrame
set_option linter.unusedVariables false
set_option linter.unusedSimpArgs false

abbrev cmdA (c : Cmd) : Array Value := #[.int .i64 c.kind, .int .i64 c.client, .int .i64 c.seq, .string c.key, .string c.val, .int .i64 c.rev]
/-- what the box of a command gives in every world that keeps it -/
theorem kin_cmd (c : Cmd) (w : World) : (∀ x : Kin (w.alloc (.cells (cmdA c) 24)), x.w.cell? ⟨w.heap.size, 0, none⟩ = some (.int .i64 c.kind)) ∧ (∀ x : Kin (w.alloc (.cells (cmdA c) 24)), x.w.cell? ⟨w.heap.size, 1, none⟩ = some (.int .i64 c.client)) ∧
    (∀ x : Kin (w.alloc (.cells (cmdA c) 24)), x.w.cell? ⟨w.heap.size, 2, none⟩ = some (.int .i64 c.seq)) ∧ (∀ x : Kin (w.alloc (.cells (cmdA c) 24)), x.w.cell? ⟨w.heap.size, 3, none⟩ = some (.string c.key)) ∧
    (∀ x : Kin (w.alloc (.cells (cmdA c) 24)), x.w.cell? ⟨w.heap.size, 4, none⟩ = some (.string c.val)) ∧ (∀ x : Kin (w.alloc (.cells (cmdA c) 24)), x.w.cell? ⟨w.heap.size, 5, none⟩ = some (.int .i64 c.rev)) := by
  obtain ⟨⟨h0, h1, h2, h3, h4, h5⟩, _⟩ := box6 (heap_alloc_new w (.cells (cmdA c) 24))
  exact ⟨Kin.cell h0, Kin.cell h1, Kin.cell h2, Kin.cell h3, Kin.cell h4, Kin.cell h5⟩
/-- what holds behind the first test -/
structure Tested (c : Cmd) (W : World) (v : Value) (wx : World) : Prop where
  val : v = .bool (formBad c)
  bel : Below W.heap.size W wx
theorem formBad_out {c : Cmd} (h : out c.kind 6 = true) : formBad c = true := by
  unfold out at h
  unfold formBad
  rw [h]
  rfl
set_option maxRecDepth 100000 in
set_option maxHeartbeats 4000000 in
theorem check_any (c : Cmd) (w : World) (hT : Tabs w) (hs : c.key.size ≤ 1000000) :
    Calls Tryz.prog 51 #[cmdV c] w fun e w' => e = .returned (.int .i64 (chk c)) ∧ Below w.heap.size w w' := by
  go_enter Tryz.func51, Tryz.ntmps51
  go_wp2_with fail
  obtain ⟨k0, k1, k2, k3, k4, k5⟩ := kin_cmd c w
  obtain ⟨W, hW⟩ : ∃ W, W = w.alloc (.cells (cmdA c) 24) := ⟨_, rfl⟩
  rw [← hW] at k0 k1 k2 k3 k4 k5 ⊢
  have HWW := Lib.hid hW
  have hbx : W.heap[w.heap.size]? = some (.cells (cmdA c) 24 (0, 0)) := by rw [hW]; exact heap_alloc_new w _
  have HBX := Lib.hid hbx
  clear hW hbx
  go_cut [3] (fun v wx => Tested c W v wx)
  case first =>
    clear hT hs
    obtain ⟨bk, hbk⟩ : ∃ bk, bk = !out c.kind 6 := ⟨_, rfl⟩
    have HW := Lib.hid (fun x : World => within_any c.kind 6 (by decide) x)
    have HB := Lib.hid (fun x : World => bare_any c x)
    rw [← hbk] at HW
    cases bk with
    | false =>
      have HV : Hid (formBad c = true) := Lib.hid (formBad_out (by cases h : out c.kind 6 with
        | true => rfl
        | false => rw [h] at hbk; cases hbk))
      clear hbk
      refine wp_region_kin (by kernel_rfl) (by kernel_rfl) ?_
      repeat (go_big_quiet_step ((first
          | (go_at_call 78; exact Kin.same _ (HW.out _))
          | (go_at_call 79; exact Kin.call _ (named_any c _))
          | (go_at_call 80; exact Kin.call _ (HB.out _)))))
      refine wpQuiet_nil ?_
      intro _ hx
      obtain ⟨xk, rfl⟩ := hx
      (first | go_meet | (go_wp2_with fail; go_meet))
      exact ⟨by rw [HV.out], xk.h⟩
    | true =>
      have hout : out c.kind 6 = false := by
        cases h : out c.kind 6 with
        | false => rfl
        | true => rw [h] at hbk; cases hbk
      have hfb := formBad_eq c hout
      have hne := run_cmd_neq c (namedC c)
      obtain ⟨bn, hbn⟩ : ∃ bn, bn = !cmdEq c (namedC c) := ⟨_, rfl⟩
      obtain ⟨bb, hbb⟩ : ∃ bb, bb = bare c := ⟨_, rfl⟩
      rw [← hbn] at hne hfb
      rw [← hbb] at hfb HB
      clear hbk hbn hbb hout
      cases bn with
      | true =>
        have HV : Hid (formBad c = true) := Lib.hid (by rw [hfb]; rfl)
        clear hfb
        refine wp_region_kin (by kernel_rfl) (by kernel_rfl) ?_
        repeat (go_big_quiet_step ((first
          | (go_at_call 78; exact Kin.same _ (HW.out _))
          | (go_at_call 79; exact Kin.call _ (named_any c _))
          | (go_at_call 80; exact Kin.call _ (HB.out _)))))
        refine wpQuiet_nil ?_
        intro _ hx
        obtain ⟨xk, rfl⟩ := hx
        (first | go_meet | (go_wp2_with fail; go_meet))
        exact ⟨by rw [HV.out], xk.h⟩
      | false =>
        cases bb with
        | true =>
          have HV : Hid (formBad c = false) := Lib.hid (by rw [hfb]; rfl)
          clear hfb
          refine wp_region_kin (by kernel_rfl) (by kernel_rfl) ?_
          repeat (go_big_quiet_step ((first
          | (go_at_call 78; exact Kin.same _ (HW.out _))
          | (go_at_call 79; exact Kin.call _ (named_any c _))
          | (go_at_call 80; exact Kin.call _ (HB.out _)))))
          refine wpQuiet_nil ?_
          intro _ hx
          obtain ⟨xk, rfl⟩ := hx
          (first | go_meet | (go_wp2_with fail; go_meet))
          exact ⟨by rw [HV.out], xk.h⟩
        | false =>
          by_cases hc0 : c.client = 0
          · have e1 : (c.client == 0) = true := by rw [beq_iff_eq]; exact hc0
            have HV : Hid (formBad c = true) := Lib.hid (by rw [hfb]; simp [hc0])
            clear hfb hc0
            refine wp_region_kin (by kernel_rfl) (by kernel_rfl) ?_
            repeat (go_big_quiet_step ((first
          | (go_at_call 78; exact Kin.same _ (HW.out _))
          | (go_at_call 79; exact Kin.call _ (named_any c _))
          | (go_at_call 80; exact Kin.call _ (HB.out _)))))
            refine wpQuiet_nil ?_
            intro _ hx
            obtain ⟨xk, rfl⟩ := hx
            (first | go_meet | (go_wp2_with fail; go_meet))
            exact ⟨by rw [HV.out], xk.h⟩
          · have e1 : (c.client == 0) = false := by rw [beq_eq_false_iff_ne]; exact hc0
            by_cases hs0 : c.seq = 0
            · have e2 : (c.seq == 0) = true := by rw [beq_iff_eq]; exact hs0
              have HV : Hid (formBad c = true) := Lib.hid (by rw [hfb]; simp [hs0])
              clear hfb hc0 hs0
              refine wp_region_kin (by kernel_rfl) (by kernel_rfl) ?_
              repeat (go_big_quiet_step ((first
          | (go_at_call 78; exact Kin.same _ (HW.out _))
          | (go_at_call 79; exact Kin.call _ (named_any c _))
          | (go_at_call 80; exact Kin.call _ (HB.out _)))))
              refine wpQuiet_nil ?_
              intro _ hx
              obtain ⟨xk, rfl⟩ := hx
              (first | go_meet | (go_wp2_with fail; go_meet))
              exact ⟨by rw [HV.out], xk.h⟩
            · have e2 : (c.seq == 0) = false := by rw [beq_eq_false_iff_ne]; exact hs0
              have HV : Hid (formBad c = false) := Lib.hid (by rw [hfb]; simp [hs0, hc0])
              clear hfb hc0 hs0
              refine wp_region_kin (by kernel_rfl) (by kernel_rfl) ?_
              repeat (go_big_quiet_step ((first
          | (go_at_call 78; exact Kin.same _ (HW.out _))
          | (go_at_call 79; exact Kin.call _ (named_any c _))
          | (go_at_call 80; exact Kin.call _ (HB.out _)))))
              refine wpQuiet_nil ?_
              intro _ hx
              obtain ⟨xk, rfl⟩ := hx
              (first | go_meet | (go_wp2_with fail; go_meet))
              exact ⟨by rw [HV.out], xk.h⟩
  case rest =>
    obtain ⟨rfl, hbel⟩ := hcut
    have hwc : Below w.heap.size w wc := ((Below.refl w.heap.size w).alloc (Nat.le_refl _) _).trans (by rw [← HWW.out]; exact hbel.mono (by rw [HWW.out]; simp))
    have hbox : wc.heap[w.heap.size]? = some (.cells (cmdA c) 24 (0, 0)) := (hbel.block _ (M.heap_lt HBX.out)).trans HBX.out
    obtain ⟨⟨d0, d1, d2, d3, d4, d5⟩, _⟩ := box6 hbox
    have HWC := Lib.hid hwc
    have HBO := Lib.hid hbox
    have HT := Lib.hid (hT.next hwc)
    clear hbel hwc hbox k0 k1 k2 k3 k4 k5 hT HBX HWW
    cases hfb : formBad c with
    | true =>
      have HV : Hid (chk c = 4) := Lib.hid (by unfold chk; rw [hfb]; rfl)
      clear hfb
      go_wp2_with fail
      go_ret
      exact ⟨by rw [HV.out]; rfl, HWC.out⟩
    | false =>
      obtain ⟨b1, hb1⟩ : ∃ b1, b1 = !out c.client 1048576 := ⟨_, rfl⟩
      obtain ⟨b2, hb2⟩ : ∃ b2, b2 = !out c.seq 1099511627776 := ⟨_, rfl⟩
      obtain ⟨b3, hb3⟩ : ∃ b3, b3 = !out c.rev 1099511627776 := ⟨_, rfl⟩
      have HW1 := Lib.hid (fun x : World => within_any c.client 1048576 (by decide) x)
      have HW2 := Lib.hid (fun x : World => within_any c.seq 1099511627776 (by decide) x)
      have HW3 := Lib.hid (fun x : World => within_any c.rev 1099511627776 (by decide) x)
      rw [← hb1] at HW1
      rw [← hb2] at HW2
      rw [← hb3] at HW3
      have hrb : rangeBad c = !(b1 && (b2 && b3)) := by
        rw [hb1, hb2, hb3]
        unfold rangeBad
        cases out c.client 1048576 <;> cases out c.seq 1099511627776 <;> cases out c.rev 1099511627776 <;> rfl
      have hch : chk c = if rangeBad c then 6 else if 1024 < c.val.size then 12 else if bare c then 0 else if c.kind = 5 then errV (beginV c.key) else errV (keyV c.key) := by
        unfold chk
        rw [hfb]
        rfl
      clear hb1 hb2 hb3 hfb
      cases b1 with
      | false =>
        have HV : Hid (chk c = 6) := Lib.hid (by rw [hch, hrb]; rfl)
        clear hrb hch
        go_wp2_with (go_at_call 78; refine (HW1.out _).mono ?_; rintro e w' ⟨rfl, rfl⟩)
        go_ret
        exact ⟨by rw [HV.out]; rfl, HWC.out⟩
      | true =>
        cases b2 with
        | false =>
          have HV : Hid (chk c = 6) := Lib.hid (by rw [hch, hrb]; rfl)
          clear hrb hch
          go_wp2_with (first | (go_at_call 78; ((with_reducible refine (HW1.out _).mono ?_); rintro e w' ⟨rfl, rfl⟩)) | (go_at_call 78; ((with_reducible refine (HW2.out _).mono ?_); rintro e w' ⟨rfl, rfl⟩)))
          go_ret
          exact ⟨by rw [HV.out]; rfl, HWC.out⟩
        | true =>
          cases b3 with
          | false =>
            have HV : Hid (chk c = 6) := Lib.hid (by rw [hch, hrb]; rfl)
            clear hrb hch
            go_wp2_with (first | (go_at_call 78; ((with_reducible refine (HW1.out _).mono ?_); rintro e w' ⟨rfl, rfl⟩)) | (go_at_call 78; ((with_reducible refine (HW2.out _).mono ?_); rintro e w' ⟨rfl, rfl⟩)) | (go_at_call 78; ((with_reducible refine (HW3.out _).mono ?_); rintro e w' ⟨rfl, rfl⟩)))
            go_ret
            exact ⟨by rw [HV.out]; rfl, HWC.out⟩
          | true =>
            rw [hrb] at hch
            simp only [Bool.and_self, Bool.not_true, Bool.false_eq_true, if_false] at hch
            clear hrb
            by_cases hv : 1024 < c.val.size
            · have HV : Hid (chk c = 12) := Lib.hid (by rw [hch, if_pos hv])
              have hvi : (1024 : Int) < (c.val.size : Int) := by omega
              clear hch
              go_wp2_with (first | (go_at_call 78; ((with_reducible refine (HW1.out _).mono ?_); rintro e w' ⟨rfl, rfl⟩)) | (go_at_call 78; ((with_reducible refine (HW2.out _).mono ?_); rintro e w' ⟨rfl, rfl⟩)) | (go_at_call 78; ((with_reducible refine (HW3.out _).mono ?_); rintro e w' ⟨rfl, rfl⟩)))
              go_ret
              exact ⟨by rw [HV.out]; rfl, HWC.out⟩
            · rw [if_neg hv] at hch
              have hvi : ¬ (1024 : Int) < (c.val.size : Int) := by omega
              have HBA := Lib.hid (bare_any c wc)
              obtain ⟨bb, hbb⟩ : ∃ bb, bb = bare c := ⟨_, rfl⟩
              rw [← hbb] at HBA hch
              clear hbb hv
              go_upto_region 7 with (first | (go_at_call 78; ((with_reducible refine (HW1.out _).mono ?_); rintro e w' ⟨rfl, rfl⟩)) | (go_at_call 78; ((with_reducible refine (HW2.out _).mono ?_); rintro e w' ⟨rfl, rfl⟩)) | (go_at_call 78; ((with_reducible refine (HW3.out _).mono ?_); rintro e w' ⟨rfl, rfl⟩)))
              go_wp2_with fail
              refine HBA.out.mono ?_
              rintro e w2 ⟨rfl, hb2⟩
              have hbo2 := (hb2.block _ (M.heap_lt HBO.out)).trans HBO.out
              obtain ⟨⟨g0, g1, g2, g3, g4, g5⟩, _⟩ := box6 hbo2
              have HB2 := Lib.hid (HWC.out.trans (hb2.mono HWC.out.size))
              have HT2 := Lib.hid (HT.out.next hb2)
              clear hb2 hbo2 d0 d1 d2 d3 d4 d5 HBA HW1 HW2 HW3
              cases bb with
              | true =>
                have HV : Hid (chk c = 0) := Lib.hid (by rw [hch]; rfl)
                clear hch
                go_wp2_with fail
                go_ret
                exact ⟨by rw [HV.out]; rfl, HB2.out⟩
              | false =>
                by_cases h5 : c.kind = 5
                · have e5 : (c.kind == 5) = true := by rw [beq_iff_eq]; exact h5
                  have HV : Hid (chk c = errV (beginV c.key)) := Lib.hid (by rw [hch]; simp [h5])
                  clear hch h5
                  go_wp2_with fail
                  refine (begin_t c.key w2 hs HT2.out _ rfl).mono ?_
                  rintro e w3 ⟨rfl, hb3, _⟩
                  have HB3 := Lib.hid (HB2.out.trans (hb3.mono HB2.out.size))
                  clear hb3
                  go_wp2_with fail
                  go_ret
                  exact ⟨by rw [HV.out]; rfl, HB3.out⟩
                · have e5 : (c.kind == 5) = false := by rw [beq_eq_false_iff_ne]; exact h5
                  have HV : Hid (chk c = errV (keyV c.key)) := Lib.hid (by rw [hch]; simp [h5])
                  clear hch h5
                  go_wp2_with fail
                  refine (key_t c.key w2 hs HT2.out _ rfl).mono ?_
                  rintro e w3 ⟨rfl, hb3, _⟩
                  have HB3 := Lib.hid (HB2.out.trans (hb3.mono HB2.out.size))
                  clear hb3
                  go_wp2_with fail
                  go_ret
                  exact ⟨by rw [HV.out]; rfl, HB3.out⟩
end Go.Proofs.YtlbkbjeajcadiaaGreatDoor.P
