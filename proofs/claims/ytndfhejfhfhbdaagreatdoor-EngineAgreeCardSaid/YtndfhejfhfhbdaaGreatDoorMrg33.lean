/- Several texts in one. -/
import Derived.Test.YtndfhejfhfhbdaaGreatDoorMrg30
import Derived.Test.YtndfhejfhfhbdaaGreatDoorMrg21
import Derived.Test.YtndfhejfhfhbdaaGreatDoorMrg22
import Derived.Test.YtndfhejfhfhbdaaGreatDoorMrg24
import Derived.Test.YtndfhejfhfhbdaaGreatDoorMrg31
import Derived.Test.YtndfhejfhfhbdaaGreatDoorMrg32

/- append of rows as one step of a region that draws; the law's turned. -/
namespace Go.Proofs.YtndfhejfhfhbdaaGreatDoor.O
open Go.RowKit Go.Proofs.YtndfhejfhfhbdaaGreatDoor.M Go.BigFrame Go.Proofs.YtndfhejfhfhbdaaGreatDoor.K
set_option linter.unusedVariables false
set_option linter.unusedSimpArgs false

section
variable {P : Program} {w : World} {α : Type}
theorem step_apps (enc : α → List Value) (k : Nat) (hk : ∀ x, (enc x).length = k) (h0 : 0 < k) (h1 : ∀ x, ∀ v ∈ enc x, v.oneCell' = true) {ops : Array Oper} {o : Oper} {a : Act} {K : Act → World → Prop} {Q : Exit → Act → World → Prop} {E : Prop} (hgd : o.guard = none) (s x : Operand) (t : TypeId)
    (ho : o.op = .call { callee := .builtin .append, args := #[s, x], argTypes := #[t, t] }) (B : Nat) (e : TypeId) (i : TypeInfo) (z : Value) (bytes : Nat) (ht : P.underlying t = some (.slice e)) (hi : P.info? e = some i) (hz : i.zero = some z)
    (hsize : i.size = k) (hby : i.bytes = bytes) (hb2 : bytes ≤ 1000) (hzs : z.cells.size = k) (oo : Option Addr) (oc m : Nat) (M : List α) (hMl : M.length = m) (so : Option Addr) (sc n : Nat) (N : List α) (hNl : N.length = n) (hs : a.eval s = .slice oo m oc)
    (hown : w.ownsRow B e k (.slice oo m oc) m (M.flatMap enc)) (hx : a.eval x = .slice so n sc) (hsrc : SrcAt w so (N.flatMap enc)) (hM : m + n ≤ 100000000) (hB : B ≤ w.heap.size)
    (h : ∀ oo' oc' w', w'.ownsRow B e k (.slice oo' (m + n) oc') (m + n) ((M ++ N).flatMap enc) → Below B w w' → K (a.put o.dst (.slice oo' (m + n) oc')) w') :
    if Region.wanted o (yielded ops a.tmps) = true then Oper.wp P o a w K Q else E := by
  cases N with
  | nil =>
    obtain rfl : n = 0 := by rw [← hNl]; rfl
    have hrun := run_append_owned_empty (P := P) (w := w) B t o.type e i k ht hi _ _ _ hown so sc
    have hK := h oo oc w (by simpa using hown) (Below.refl _ _)
    rw [Nat.add_zero] at hK
    have hw : Region.wanted o (yielded ops a.tmps) = true := by simp [Region.wanted, hgd]
    rw [if_pos hw]
    unfold Oper.wp
    simp [execOp, ho, resolve, invoke, builtin, hs, hx, hrun, Result.andThen]
    exact hK
  | cons y N' =>
    obtain ⟨N, hN⟩ : ∃ N, y :: N' = N := ⟨_, rfl⟩
    have hpos : 0 < n := by rw [← hNl]; simp
    rw [hN] at hNl hsrc h
    clear hN
    have hlen : (N.flatMap enc).length = n * k := by rw [← hNl]; exact flat_len enc k hk N
    have hne : N.flatMap enc ≠ [] := fun e0 => by
      rw [e0] at hlen
      have := Nat.mul_pos hpos h0
      simp at hlen
      omega
    obtain ⟨ad, rfl, hcells⟩ := hsrc hne
    refine step_append_lies _ hgd s x t ho B e i z k bytes ht hi hz hsize hby hzs h0 (.slice oo m oc) m (M.flatMap enc) hs hown ad n sc (N.flatMap enc) hx hlen hcells
      (fun u hu => by obtain ⟨x, hx1, hx2⟩ := List.mem_flatMap.1 hu; exact h1 x u hx2) hpos (by unfold maxLen; omega) ?_ hB w.heap.size rfl ?_
    · have : (m + n) * bytes ≤ 100000000 * 1000 := Nat.mul_le_mul (by omega) hb2
      omega
    · intro g cap w' hown' hgrow _ _
      have hm : Mods (fun j => ∃ a, oo = some a ∧ j = a.block) w w' := (Mods.refl _ w).then (Mods.of_grown hgrow) (fun k _ hk => by
        cases oo with
        | none => cases hk
        | some a => exact ⟨a, rfl, (Option.some.inj hk).symm⟩)
      have hb : Below B w w' := hm.below (fun j ⟨a, e1, e2⟩ => by
        subst e1
        rw [e2]
        exact (hown.lt a.block rfl).1) hB
      exact h (some ⟨g, 0, none⟩) cap w' (by rw [List.flatMap_append]; exact hown') hb
end
theorem SrcAt.below2 {w w2 : World} {so : Option Addr} {l : List Value} (h : SrcAt w so l) (hb : Below w.heap.size w w2) : SrcAt w2 so l := by
  intro hne
  obtain ⟨ad, h1, h2⟩ := h hne
  exact ⟨ad, h1, fun j u hj => (hb.cell (World.block_lt_of_cell? w _ (h2 j u hj))).trans (h2 j u hj)⟩
theorem SrcAt.of_recs {w : World} {ao : Option Addr} {cap : Nat} {X : List Rv} (h : RecsV w ao cap X) : SrcAt w ao (X.flatMap recC) := by
  intro hne
  obtain ⟨x, t, rfl⟩ : ∃ x t, X = x :: t := by
    cases X with
    | nil => exact absurd rfl hne
    | cons x t => exact ⟨x, t, rfl⟩
  obtain ⟨b, off, rfl, _, _⟩ := h.row 0 x rfl
  refine ⟨_, rfl, fun j u hj => ?_⟩
  have hjl : j < ((x :: t).flatMap recC).length := (List.getElem?_eq_some_iff.1 hj).1
  rw [show ((x :: t).flatMap recC).length = (x :: t).length * 16 from cellsR_len (x :: t)] at hjl
  obtain ⟨y, hy⟩ : ∃ y, (x :: t)[j / 16]? = some y := ⟨_, List.getElem?_eq_getElem (by omega)⟩
  obtain ⟨b2, off2, e2, _, hr⟩ := h.row (j / 16) y hy
  cases e2
  have h1 := hr.get (j % 16) (Nat.mod_lt _ (by decide))
  have h2 := cellsR_get (x :: t) (j / 16) y hy (j % 16) (Nat.mod_lt _ (by decide))
  have h3 : j / 16 * 16 + j % 16 = j := by omega
  rw [h3] at h2
  have h4 : (recC y)[j % 16]? = some u := h2.symm.trans hj
  rw [h4] at h1
  have ea : (⟨b, off, none⟩ : Addr).add j = ⟨b, off + j / 16 * 16 + j % 16, none⟩ := by
    unfold Addr.add
    split
    · next e => subst e; simp
    · rw [Nat.add_assoc, h3]
  rw [ea]
  exact h1
set_option maxRecDepth 100000 in
set_option maxHeartbeats 4000000 in
theorem turned_any (X : List Rv) (ao : Option Addr) (cap : Nat) (by_ : Int) (w : World) (h : RecsV w ao cap X) (hi0 : P.InI by_) (hl : X.length ≤ 1000) :
    Calls Tryz.prog 25 #[.slice ao X.length cap, .int .i64 by_] w fun e w' => ∃ (ta : Option Addr) (tc : Nat) (T : List Rv), e = .returned (.slice ta X.length tc) ∧ (T.Perm X ∧ T.length = X.length ∧ RecsV w' ta tc T ∧ Below w.heap.size w w') := by
  obtain ⟨hl1, hl2⟩ := h.le
  unfold maxLen at hl2
  obtain ⟨i0, hi, hz0, hz1, hz2⟩ := info_parts info_rec
  have H := Lib.hid h
  have HPK := Lib.hid (pick_any by_ X.length w hi0 hl)
  have HSRC := Lib.hid (SrcAt.of_recs h)
  clear h
  go_enter Tryz.func25, Tryz.ntmps25
  go_wp2_with fail
  refine HPK.out.mono ?_
  rintro e w1 ⟨j, rfl, hj, rfl⟩
  have HJT := Lib.hid (show (X.take j).length = j by rw [List.length_take]; omega)
  have HJD := Lib.hid (show (X.drop j).length = X.length - j from List.length_drop)
  have HDR : Hid (Below w.heap.size w (w.alloc (.cells #[] 38)).drew) := Lib.hid (((Below.refl _ _).alloc (Nat.le_refl _) _).drew)
  have HDA := Lib.hid (show SrcAt (w.alloc (.cells #[] 38)).drew (Option.map (fun x => x.add (j * 16)) ao) (List.flatMap recC (List.drop j X)) by
    rw [flat_drop recC 16 (fun _ => rfl)]
    exact (HSRC.out.below2 HDR.out).back _)
  have HLZ := Lib.hid (show ([] ++ X.drop j).length = X.length - j by rw [List.nil_append, List.length_drop])
  have HPM := Lib.hid (show ([] ++ X.drop j ++ X.take j).Perm X by
    rw [List.nil_append]
    exact List.perm_append_comm.trans (List.Perm.of_eq (List.take_append_drop j X)))
  by_cases hcj : cap = j
  · have hXj : X.length = j := by omega
    have HDB := Lib.hid (show SrcAt (w.alloc (.cells #[] 38)).drew ao (List.flatMap recC (List.drop j X)) by
      intro hne
      exact absurd (by rw [List.drop_eq_nil_of_le (by omega)]; rfl) hne)
    clear hXj
    by_cases hc0 : cap = 0
    ·
      go_upto_region 2 with fail
      go_region_held3 (fun _ => True) (trivial)
        ((first
          | (refine step_apps recC 16 (fun _ => rfl) (by decide) recC_one (by rfl) (.tmp 10) (.tmp 13) 28 (by rfl) w.heap.size 38 i0 _ 160 Tryz.underlying28 hi hz0 hz1 hz2 (by decide) rfl _ 0 0 [] rfl _ _ (X.length - j) (X.drop j) HJD.out (by rfl) (by exact own_empty _ _ _ (0, 0)) (by rfl) (by exact HDB.out) (by omega) (by simp) ?_; intro oo1 oc1 w4 hown1 hbel1; rw [Nat.zero_add] at hown1; rw [Nat.zero_add])
          | (refine step_apps recC 16 (fun _ => rfl) (by decide) recC_one (by rfl) (.tmp 14) (.tmp 17) 28 (by rfl) w.heap.size 38 i0 _ 160 Tryz.underlying28 hi hz0 hz1 hz2 (by decide) rfl oo1 oc1 (X.length - j) ([] ++ X.drop j) HLZ.out _ _ j (X.take j) HJT.out (by rfl) (by exact hown1) (by rfl) (by rw [flat_take recC 16 (fun _ => rfl)]; exact (HSRC.out.below2 (HDR.out.trans hbel1)).front _) (by omega) (HDR.out.trans hbel1).size ?_; intro oo2 oc2 w5 hown2 hbel2)))
      all_goals
        have HOW := Lib.hid hown2
        have HBF := Lib.hid ((HDR.out.trans hbel1).trans hbel2)
        clear hown1 hown2 hbel1 hbel2
        have HLT := Lib.hid (show ([] ++ X.drop j ++ X.take j).length = X.length - j + j by rw [List.length_append, HLZ.out, HJT.out])
        have HLX := Lib.hid (show X.length - j + j = X.length by omega)
        have HRV := Lib.hid (show RecsV w5 oo2 oc2 ([] ++ X.drop j ++ X.take j) from RecsV.of_own (B := w.heap.size) (by rw [HLT.out]; exact HOW.out) (fun x hx => (H.out.ok x (HPM.out.mem_iff.1 hx)).below HBF.out))
        go_wp2_with fail
        go_ret
        exact ⟨oo2, oc2, _, rfl, HPM.out, HPM.out.length_eq, HRV.out, HBF.out⟩
    ·
      have hj0 : ¬ j = 0 := by omega
      go_upto_region 2 with fail
      go_region_held3 (fun _ => True) (trivial)
        ((first
          | (refine step_apps recC 16 (fun _ => rfl) (by decide) recC_one (by rfl) (.tmp 10) (.tmp 13) 28 (by rfl) w.heap.size 38 i0 _ 160 Tryz.underlying28 hi hz0 hz1 hz2 (by decide) rfl _ 0 0 [] rfl _ _ (X.length - j) (X.drop j) HJD.out (by rfl) (by exact own_empty _ _ _ (0, 0)) (by rfl) (by exact HDB.out) (by omega) (by simp) ?_; intro oo1 oc1 w4 hown1 hbel1; rw [Nat.zero_add] at hown1; rw [Nat.zero_add])
          | (refine step_apps recC 16 (fun _ => rfl) (by decide) recC_one (by rfl) (.tmp 14) (.tmp 17) 28 (by rfl) w.heap.size 38 i0 _ 160 Tryz.underlying28 hi hz0 hz1 hz2 (by decide) rfl oo1 oc1 (X.length - j) ([] ++ X.drop j) HLZ.out _ _ j (X.take j) HJT.out (by rfl) (by exact hown1) (by rfl) (by rw [flat_take recC 16 (fun _ => rfl)]; exact (HSRC.out.below2 (HDR.out.trans hbel1)).front _) (by omega) (HDR.out.trans hbel1).size ?_; intro oo2 oc2 w5 hown2 hbel2)))
      all_goals
        have HOW := Lib.hid hown2
        have HBF := Lib.hid ((HDR.out.trans hbel1).trans hbel2)
        clear hown1 hown2 hbel1 hbel2
        have HLT := Lib.hid (show ([] ++ X.drop j ++ X.take j).length = X.length - j + j by rw [List.length_append, HLZ.out, HJT.out])
        have HLX := Lib.hid (show X.length - j + j = X.length by omega)
        have HRV := Lib.hid (show RecsV w5 oo2 oc2 ([] ++ X.drop j ++ X.take j) from RecsV.of_own (B := w.heap.size) (by rw [HLT.out]; exact HOW.out) (fun x hx => (H.out.ok x (HPM.out.mem_iff.1 hx)).below HBF.out))
        go_wp2_with fail
        go_ret
        exact ⟨oo2, oc2, _, rfl, HPM.out, HPM.out.length_eq, HRV.out, HBF.out⟩
  · have hc0 : ¬ cap = 0 := by omega
    have hjc : (j : Int) ≤ (cap : Int) := by omega
    have hjc2 : j ≤ cap := by omega
    go_upto_region 2 with fail
    go_region_held3 (fun _ => True) (trivial)
      ((first
        | (refine step_apps recC 16 (fun _ => rfl) (by decide) recC_one (by rfl) (.tmp 10) (.tmp 13) 28 (by rfl) w.heap.size 38 i0 _ 160 Tryz.underlying28 hi hz0 hz1 hz2 (by decide) rfl _ 0 0 [] rfl _ _ (X.length - j) (X.drop j) HJD.out (by rfl) (by exact own_empty _ _ _ (0, 0)) (by rfl) (by exact HDA.out) (by omega) (by simp) ?_; intro oo1 oc1 w4 hown1 hbel1; rw [Nat.zero_add] at hown1; rw [Nat.zero_add])
        | (refine step_apps recC 16 (fun _ => rfl) (by decide) recC_one (by rfl) (.tmp 14) (.tmp 17) 28 (by rfl) w.heap.size 38 i0 _ 160 Tryz.underlying28 hi hz0 hz1 hz2 (by decide) rfl oo1 oc1 (X.length - j) ([] ++ X.drop j) HLZ.out _ _ j (X.take j) HJT.out (by rfl) (by exact hown1) (by rfl) (by rw [flat_take recC 16 (fun _ => rfl)]; exact (HSRC.out.below2 (HDR.out.trans hbel1)).front _) (by omega) (HDR.out.trans hbel1).size ?_; intro oo2 oc2 w5 hown2 hbel2)))
    all_goals
      have HOW := Lib.hid hown2
      have HBF := Lib.hid ((HDR.out.trans hbel1).trans hbel2)
      clear hown1 hown2 hbel1 hbel2
      have HLT := Lib.hid (show ([] ++ X.drop j ++ X.take j).length = X.length - j + j by rw [List.length_append, HLZ.out, HJT.out])
      have HLX := Lib.hid (show X.length - j + j = X.length by omega)
      have HRV := Lib.hid (show RecsV w5 oo2 oc2 ([] ++ X.drop j ++ X.take j) from RecsV.of_own (B := w.heap.size) (by rw [HLT.out]; exact HOW.out) (fun x hx => (H.out.ok x (HPM.out.mem_iff.1 hx)).below HBF.out))
      go_wp2_with fail
      go_ret
      exact ⟨oo2, oc2, _, rfl, HPM.out, HPM.out.length_eq, HRV.out, HBF.out⟩
end Go.Proofs.YtndfhejfhfhbdaaGreatDoor.O

/- The walk of OrderParts. -/
namespace Go.Proofs.YtndfhejfhfhbdaaGreatDoor.O
open Go.RowKit Go.Proofs.YtndfhejfhfhbdaaGreatDoor.M Go.BigFrame Go.Proofs.YtndfhejfhfhbdaaGreatDoor.K Go.Proofs.YtndfhejfhfhbdaaGreatDoor.R
set_option linter.unusedVariables false
set_option linter.unusedSimpArgs false

theorem Row.nil_of {X : List Rv} {v : Int} {out : List Id} (h1 : v = 0 → Row (byIds (nds X)) out) (hv : v = 0) : Row (byIds (nds X)) out := h1 hv
theorem idsV_own {B : Nat} {w : World} {oo : Option Addr} {oc : Nat} {l m : List Id} (h : OwnL w B oo oc l) (hm : ∀ x ∈ l, x ∈ m) (hok : ∀ x ∈ m, IdI x) : IdsV w oo oc l :=
  IdsV.of_own (B := B) h fun x hx => hok x (hm x hx)
theorem okR_sub {X Y : List Rv} (h : okR X = true) (hs : ∀ x ∈ Y, x ∈ X) : okR Y = true := List.all_eq_true.2 fun x hx => List.all_eq_true.1 h x (hs x hx)
theorem partR_ok {s : List Rv} {l : List Nat} {w : World} (h : ∀ x ∈ s, RvOk w x) : ∀ x ∈ partR s l, RvOk w x ∨ x = default := fun x hx => by
  obtain ⟨i, _, rfl⟩ := List.mem_map.1 hx
  by_cases hi : i < s.length
  · exact .inl (h _ (by rw [List.getD, List.getElem?_eq_getElem hi]; exact List.getElem_mem hi))
  · exact .inr (by rw [List.getD, List.getElem?_eq_none (by omega)]; rfl)
theorem clo_mem {s : List Rv} {i : Id} {inn : List Rv} {out : List Id} (h : ClO s i inn out) : (∀ x ∈ inn, x ∈ s) ∧ inn.length ≤ s.length := by
  by_cases hi : i ∈ idsX s
  · obtain ⟨l, h1, h2, _⟩ := h.yes hi
    have hlt : ∀ u ∈ l, u < s.length := fun u hu => ((h1.mem u).1 hu).1
    refine ⟨fun x hx => ?_, ?_⟩
    · rw [h2] at hx
      obtain ⟨u, hu, rfl⟩ := List.mem_map.1 hx
      rw [List.getD, List.getElem?_eq_getElem (hlt u hu)]; exact List.getElem_mem (hlt u hu)
    · rw [h2, partR_len]
      exact nodup_le _ _ (h1.srt.imp fun h => Nat.ne_of_lt h) hlt
  · obtain ⟨rfl, _⟩ := h.no hi
    exact ⟨fun x hx => (by cases hx), Nat.zero_le _⟩
theorem recsV_cl {B : Nat} {w w0 : World} {oo : Option Addr} {oc : Nat} {X inn : List Rv} {i : Id} {out : List Id} (h : OwnR w B oo oc inn) (hc : ClO (srtR X) i inn out) (hok : ∀ x ∈ X, RvOk w0 x) (hb : Below w0.heap.size w0 w) : RecsV w oo oc inn :=
  RecsV.of_own h fun x hx => (hok x ((srtR_perm X).mem_iff.1 ((clo_mem hc).1 x hx))).below hb
set_option maxRecDepth 100000 in
set_option maxHeartbeats 4000000 in
theorem parts_law (X : List Rv) (ao : Option Addr) (cap : Nat) (i : Id) (w : World) (hV : RecsV w ao cap X) (hi : IdI i) (hT : Tabs w) :
    Calls Tryz.prog 6 #[.slice ao X.length cap, idV i] w fun e w' => e = .returned (.bool true) ∧ Below w.heap.size w w' := by
  have HV0 := Lib.hid hV
  have HT0 := Lib.hid hT
  have HI := Lib.hid hi
  clear hV hT hi
  go_enter Tryz.func6, Tryz.ntmps6
  go_upto_region 1 with fail
  obtain ⟨W, hW⟩ : ∃ W, W = w.alloc (idO i) := ⟨_, rfl⟩
  rw [← hW]
  have HB : Hid (Below w.heap.size w W) := Lib.hid (by rw [hW]; exact (Below.refl _ _).alloc (Nat.le_refl _) _)
  have HX : Hid (W.heap[w.heap.size]? = some (idO i)) := Lib.hid (by rw [hW]; exact heap_alloc_new w _)
  clear hW
  have HV := Lib.hid (HV0.out.below HB.out)
  have HT := Lib.hid (HT0.out.next HB.out)
  have HXI := Lib.hid (M.heap_lt HX.out)
  clear HV0 HT0
  obtain ⟨gr, hgr⟩ : ∃ g, greatR X 20 = g := ⟨_, rfl⟩
  have HG := Lib.hid (refgreat_any X 20 ao cap W HV.out (by omega) gr hgr)
  cases gr with
  | true =>
    clear hgr
    go_wp2_with fail
    refine HG.out.mono ?_
    rintro e w1 ⟨rfl, rfl⟩
    go_wp2_with fail
    refine (awake_any _ (HT.out)).mono ?_
    rintro e wz ⟨rfl, hbz⟩
    have HBZ := Lib.hid ((HB.out).trans (hbz.mono (HB.out).size))
    clear hbz
    go_wp2_with fail
    go_ret
    exact ⟨rfl, HBZ.out⟩
  | false =>
    obtain ⟨hl20, hsz⟩ := greatR_no hgr
    have HSZ := Lib.hid hsz
    obtain ⟨v, hv⟩ : ∃ v, errO (okR X) (nds X) = v := ⟨_, rfl⟩
    have HVV := Lib.hid hv
    have HO := Lib.hid (Order_any X ao cap W HV.out HT.out hl20 (fun x hx => by have := hsz x hx; omega) (fun x hx => by have := hsz x hx; omega) v hv)
    clear hgr hsz hv
    go_wp2_with fail
    refine HG.out.mono ?_
    rintro e w1 ⟨rfl, rfl⟩
    clear HG
    go_wp2_with fail
    refine HO.out.mono ?_
    rintro e w1 ⟨oo, oc, a, rfl, hra, hna, howa, hb1⟩
    have HB1 := Lib.hid hb1
    have HOA := Lib.hid howa
    clear hb1 howa HO
    by_cases hv0 : v = 0
    · subst hv0
      obtain ⟨hok, hU, hms⟩ := errO_ok.1 HVV.out
      have hnd : (idsX X).Nodup := unl_nds.1 hU
      have HOK := Lib.hid hok
      have HND := Lib.hid hnd
      have HSD := Lib.hid (Sd.of hnd)
      have HMS := Lib.hid (show missB (nds (srtR X)) = false by rw [srtR_nd, missB_perm (byIds_perm _)]; exact hms)
      have HRA := Lib.hid (show Row (nds (srtR X)) a by rw [srtR_nd]; exact hra rfl)
      have HCL := Lib.hid (fun (j : Id) (wx : World) (hj : IdI j) (hbx : Below W.heap.size W wx) => closedd_any X ao cap j wx (HV.out.below hbx) hj hnd hl20 (fun x hx => by have := HSZ.out x hx; omega))
      have HAT := Lib.hid (fun (wx : World) (hbx : Below W.heap.size W wx) (j : Id) => refat_any X ao cap j wx (HV.out.below hbx) _ rfl)
      clear hok hU hms hnd hra hna HVV
      obtain ⟨⟨x0, x1⟩, _⟩ := box2 ((HB1.out.block _ HXI.out).trans HX.out)
      go_wp2_with fail
      refine (HCL.out i w1 HI.out HB1.out).mono ?_
      rintro e w2 ⟨no, nc, inn, mo, mc, out, rfl, hcl, hin, hout, hb2⟩
      have HB2 := Lib.hid (HB1.out.trans (hb2.mono HB1.out.size))
      have HD2 := Lib.hid hb2
      have HCI := Lib.hid hcl
      have HIN := Lib.hid hin
      clear hcl hin hout hb2 x0 x1
      obtain ⟨⟨x0, x1⟩, _⟩ := box2 ((HB2.out.block _ HXI.out).trans HX.out)
      obtain ⟨k, hk⟩ : ∃ k, atI (idsX X) i = k := ⟨_, rfl⟩
      have HAI := Lib.hid (HAT.out w2 HB2.out i)
      rw [hk] at HAI
      go_wp2_with fail
      refine HAI.out.mono ?_
      rintro e w3 ⟨rfl, hb3⟩
      have HB3 := Lib.hid (HB2.out.trans (hb3.mono HB2.out.size))
      have HD3 := Lib.hid (HD2.out.trans (hb3.mono HD2.out.size))
      have HB23 := Lib.hid hb3
      clear hb3 HAI x0 x1
      by_cases hk0 : k < 0
      · have hno : i ∉ idsX (srtR X) := fun h => atI_neg.1 (hk ▸ hk0) (((srtR_perm X).map Rv.id).mem_iff.1 h)
        obtain ⟨rfl, rfl⟩ := HCI.out.no hno
        clear hno
        go_wp2_with fail
        refine (awake_any _ (HT.out.next HB3.out)).mono ?_
        rintro e wz ⟨rfl, hbz⟩
        have HBZ := Lib.hid ((HB.out.trans (HB3.out.mono HB.out.size)).trans (hbz.mono (HB.out.trans (HB3.out.mono HB.out.size)).size))
        clear hbz
        go_wp2_with fail
        go_ret
        exact ⟨rfl, HBZ.out⟩
      · have hyes : i ∈ idsX (srtR X) := by
          have : i ∈ idsX X := Classical.byContradiction fun h => hk0 (hk ▸ atI_neg.2 h)
          exact ((srtR_perm X).map Rv.id).mem_iff.2 this
        have HYES := Lib.hid hyes
        obtain ⟨l, g1, g2, g3, g4, hout0, hsdi, hmsi, hii, hmem, hlen⟩ := cl_part HSD.out HMS.out hyes HCI.out
        subst hout0
        rw [srtR_len] at hlen
        have HSI := Lib.hid hsdi
        have hmemX : ∀ x ∈ inn, x ∈ X := fun x hx => (srtR_perm X).mem_iff.1 (hmem x hx)
        have HV3 := Lib.hid (recsV_cl (Go.Proofs.YtndfhejfhfhbdaaGreatDoor.R.own_below HIN.out HB23.out) HCI.out HV.out.ok HB3.out)
        have hv2 : errO (okR inn) (nds inn) = 0 := errO_ok.2 ⟨okR_sub HOK.out hmemX, hsdi.unl, hmsi⟩
        have HO2 := Lib.hid (Order_any inn no nc w3 HV3.out (HT.out.next HB3.out) (by omega) (fun x hx => by have := HSZ.out x (hmemX x hx); omega) (fun x hx => by have := HSZ.out x (hmemX x hx); omega) 0 hv2)
        have hat2 : ¬ atI (idsX inn) i < 0 := fun h => atI_neg.1 h hii
        have HMX := Lib.hid hmemX
        obtain ⟨k2, hk2⟩ : ∃ k2, atI (idsX inn) i = k2 := ⟨_, rfl⟩
        rw [hk2] at hat2
        have HK2 := Lib.hid hk2
        have hd0 : decide (k < 0) = false := decide_eq_false hk0
        clear hyes g1 g2 g3 g4 hsdi hmsi hii hmem hlen hmemX hv2 hk2 hk
        go_wp2_with fail
        refine HO2.out.mono ?_
        rintro e w4 ⟨bo, bc, b, rfl, hrb, _, hob, hb4⟩
        have HB4 := Lib.hid (HB3.out.trans (hb4.mono HB3.out.size))
        have HD4 := Lib.hid (HD3.out.trans (hb4.mono HD3.out.size))
        have HRB := Lib.hid (show Row (nds inn) b by rw [← HSI.out.ids]; exact hrb (by simp))
        have HOB := Lib.hid hob
        have HAT2 := Lib.hid (refat_any inn no nc i w4 (HV3.out.below hb4) k2 HK2.out)
        clear hrb hob hb4 HO2
        obtain ⟨⟨x0, x1⟩, _⟩ := box2 ((HB4.out.block _ HXI.out).trans HX.out)
        go_wp2_with fail
        refine HAT2.out.mono ?_
        rintro e W5 ⟨rfl, hb5⟩
        have HB5 := Lib.hid (HB4.out.trans (hb5.mono HB4.out.size))
        have HD5 := Lib.hid (HD4.out.trans (hb5.mono HD4.out.size))
        have HOB5 := Lib.hid (Go.Proofs.YtndfhejfhfhbdaaGreatDoor.R.own_below HOB.out hb5)
        clear hb5 HAT2 x0 x1
        have HXOK := Lib.hid (show ∀ z ∈ idsX X, IdI z from fun z hz => by
          obtain ⟨y, hy, rfl⟩ := List.mem_map.1 hz
          exact (HV.out.ok y hy).id)
        have HAV := Lib.hid (show IdsV W5 oo oc a from idsV_own (m := idsX X) (Go.Proofs.YtndfhejfhfhbdaaGreatDoor.R.own_below HOA.out HD5.out) (fun z hz => ((srtR_perm X).map Rv.id).mem_iff.1 ((row_mem HSD.out HRA.out).mem_iff.1 hz)) HXOK.out)
        have HBM := Lib.hid (show ∀ z ∈ b, z ∈ idsX X from fun z hz => by
          obtain ⟨y, hy, rfl⟩ := List.mem_map.1 ((row_mem HSI.out HRB.out).mem_iff.1 hz)
          exact List.mem_map.2 ⟨y, HMX.out y hy, rfl⟩)
        have HBV := Lib.hid (show IdsV W5 bo bc b from idsV_own (m := idsX X) HOB5.out HBM.out HXOK.out)
        have HPO := Lib.hid (fun (x y : Nat) (bx b_y : Id) (le : List Rv) (lo : List Id) (hx : b[x]? = some bx) (hy : b[y]? = some b_y) (hle : ClO (srtR X) bx le lo) (hin : b_y ∈ idsX le) => parts_ok HSD.out HMS.out HYES.out HCI.out HRA.out HRB.out hx hy hle hin)
        have HCL5 := Lib.hid (fun (j : Id) (wx : World) (hj : IdI j) (hbx : Below W5.heap.size W5 wx) => HCL.out j wx hj (HB5.out.trans (hbx.mono HB5.out.size)))
        have hble := HBV.out.le
        have HBW := Lib.hid (HB.out.trans (HB5.out.mono HB.out.size))
        have HT5 := Lib.hid (HT.out.next HB5.out)
        obtain ⟨hbl1, hbl2⟩ := hble
        unfold maxLen at hbl2
        clear HCL HAT HCI HIN HSI HMS HRA HRB HOA HOB HOB5 HOK HND HSD HMX HYES HV3 HD2 HD3 HD4 HD5 HB1 HB2 HB3 HB4 HB23 HK2 hd0 hk0
        have hd2 : decide (k2 < 0) = false := decide_eq_false (by omega)
        go_wp2_with fail
        go_loopw [11] (fun xv wr => ∃ (x : Nat), xv = .int .i64 x ∧ x ≤ b.length ∧ Below W5.heap.size W5 wr) (fun xv _ => b.length - (intOf xv).toNat)
        case atStart => exact ⟨0, rfl, Nat.zero_le _, Below.refl _ _⟩
        case round =>
          obtain ⟨x, rfl, hx, hbr⟩ := hrel
          have HBR := Lib.hid hbr
          clear hbr
          have hWr := HBR.out.size
          by_cases hxl : x < b.length
          · have hii : (x : Int) < (b.length : Int) := by omega
            obtain ⟨bx, hbx⟩ : ∃ z, b[x]? = some z := ⟨_, List.getElem?_eq_getElem hxl⟩
            obtain ⟨gb, offb, e0, hgl, y0, y1⟩ := HBV.out.row x bx hbx
            subst e0
            have c0 := (HBR.out.cell (p := ⟨gb, _, none⟩) hgl).trans y0
            have c1 := (HBR.out.cell (p := ⟨gb, _, none⟩) hgl).trans y1
            have HBX := Lib.hid hbx
            have HC6 := Lib.hid (HCL5.out bx wr (HXOK.out bx (HBM.out bx (List.mem_of_getElem? hbx))) HBR.out)
            have HY0 := Lib.hid (And.intro y0 y1)
            clear hbx y0 y1
            go_wp2_with fail
            refine HC6.out.mono ?_
            rintro e w6 ⟨lo, lc, le, zo, zc, lz, rfl, hcl, hle, _, hb6⟩
            have HB6 := Lib.hid (HBR.out.trans (hb6.mono hWr))
            have HLE := Lib.hid (show RecsV w6 lo lc le from recsV_cl hle hcl HV.out.ok (HB5.out.trans (HB6.out.mono HB5.out.size)))
            have HPX := Lib.hid (fun (y : Nat) (b_y : Id) (hy : b[y]? = some b_y) (hin : b_y ∈ idsX le) => HPO.out x y bx b_y le lz HBX.out hy hcl hin)
            clear hcl hle hb6 HC6 c0 c1
            have hW6 := HB6.out.size
            obtain ⟨wa, rfl⟩ : ∃ wa, wa = wr := ⟨_, rfl⟩
            go_wp2_with fail
            go_loopw [14] (fun yv wr => ∃ (y : Nat), yv = .int .i64 y ∧ y ≤ b.length ∧ Below w6.heap.size w6 wr) (fun yv _ => b.length - (intOf yv).toNat)
            case atStart => exact ⟨0, rfl, Nat.zero_le _, Below.refl _ _⟩
            case round =>
              obtain ⟨y, rfl, hy, hbq⟩ := hrel
              have HBQ := Lib.hid hbq
              have HB7 := Lib.hid (HB6.out.trans (hbq.mono hW6))
              clear hbq
              by_cases hyl : y < b.length
              · have hjj : (y : Int) < (b.length : Int) := by omega
                obtain ⟨b_y, hby⟩ : ∃ z, b[y]? = some z := ⟨_, List.getElem?_eq_getElem hyl⟩
                obtain ⟨gb2, offb2, e2, _, z0, z1⟩ := HBV.out.row y b_y hby
                cases e2
                have k0 := Kin.cell ((HB7.out.cell (p := ⟨gb, _, none⟩) hgl).trans HY0.out.1)
                have k1 := Kin.cell ((HB7.out.cell (p := ⟨gb, _, none⟩) hgl).trans HY0.out.2)
                have k2 := Kin.cell ((HB7.out.cell (p := ⟨gb, _, none⟩) hgl).trans z0)
                have k3 := Kin.cell ((HB7.out.cell (p := ⟨gb, _, none⟩) hgl).trans z1)
                obtain ⟨c, hc⟩ : ∃ c, atI (idsX le) b_y = c := ⟨_, rfl⟩
                obtain ⟨pa, hpa⟩ : ∃ c, atI a bx = c := ⟨_, rfl⟩
                obtain ⟨pb, hpb⟩ : ∃ c, atI a b_y = c := ⟨_, rfl⟩
                have HKA := Lib.hid (fun v : Kin wr => refat_any le lo lc b_y v.w (HLE.out.below (HBQ.out.trans (v.h.mono HBQ.out.size))) c hc)
                have HKP := Lib.hid (fun v : Kin wr => place_any a oo oc bx v.w (HAV.out.below (B := 0) (HB7.out.trans (v.h.mono HB7.out.size))) pa hpa)
                have HKQ := Lib.hid (fun v : Kin wr => place_any a oo oc b_y v.w (HAV.out.below (B := 0) (HB7.out.trans (v.h.mono HB7.out.size))) pb hpb)
                have HFIN := Lib.hid (show 0 ≤ c → (pa < pb ↔ x < y) from fun h => by
                  rw [← hpa, ← hpb]
                  refine HPX.out y b_y hby ?_
                  exact Classical.byContradiction fun hn => by have := atI_neg.2 hn; omega)
                clear z0 z1 hby hc hpa hpb
                by_cases hc0 : 0 ≤ c
                · have hcd : decide (0 ≤ c) = true := decide_eq_true hc0
                  by_cases hxy : x < y
                  · have hxi : (x : Int) < (y : Int) := by omega
                    have hpp := (HFIN.out hc0).2 hxy
                    go_upto_region 19 with fail
                    refine wp_region_kin (by kernel_rfl) (by kernel_rfl) ?_
                    repeat (go_big_quiet_step ((first | (go_at_call 14; with_reducible exact Kin.call _ (HKA.out _)) | (go_at_call 26; first | with_reducible exact Kin.call _ (HKP.out _) | with_reducible exact Kin.call _ (HKQ.out _)))))
                    refine wpQuiet_nil ?_
                    intro _ hxx
                    obtain ⟨xk, rfl⟩ := hxx
                    have HBK := Lib.hid (HBQ.out.trans (xk.h.mono HBQ.out.size))
                    clear k0 k1 k2 k3 HKA HKP HKQ
                    go_wp2_with fail
                    go_roundw
                    case rel => exact ⟨y + 1, by go_num, by omega, HBK.out⟩
                    case measure => simp [intOf]; omega
                  · have hxi : ¬ (x : Int) < (y : Int) := by omega
                    have hxd : decide (x < y) = false := decide_eq_false hxy
                    have hpp : ¬ pa < pb := fun h => hxy ((HFIN.out hc0).1 h)
                    have hpd : decide (pa < pb) = false := decide_eq_false hpp
                    go_upto_region 19 with fail
                    refine wp_region_kin (by kernel_rfl) (by kernel_rfl) ?_
                    repeat (go_big_quiet_step ((first | (go_at_call 14; with_reducible exact Kin.call _ (HKA.out _)) | (go_at_call 26; first | with_reducible exact Kin.call _ (HKP.out _) | with_reducible exact Kin.call _ (HKQ.out _)))))
                    refine wpQuiet_nil ?_
                    intro _ hxx
                    obtain ⟨xk, rfl⟩ := hxx
                    have HBK := Lib.hid (HBQ.out.trans (xk.h.mono HBQ.out.size))
                    clear k0 k1 k2 k3 HKA HKP HKQ
                    go_wp2_with fail
                    go_roundw
                    case rel => exact ⟨y + 1, by go_num, by omega, HBK.out⟩
                    case measure => simp [intOf]; omega
                · have hcd : decide (0 ≤ c) = false := decide_eq_false hc0
                  go_upto_region 19 with fail
                  refine wp_region_kin (by kernel_rfl) (by kernel_rfl) ?_
                  repeat (go_big_quiet_step ((first | (go_at_call 14; with_reducible exact Kin.call _ (HKA.out _)) | (go_at_call 26; first | with_reducible exact Kin.call _ (HKP.out _) | with_reducible exact Kin.call _ (HKQ.out _)))))
                  refine wpQuiet_nil ?_
                  intro _ hxx
                  obtain ⟨xk, rfl⟩ := hxx
                  have HBK := Lib.hid (HBQ.out.trans (xk.h.mono HBQ.out.size))
                  clear k0 k1 k2 k3 HKA HKP HKQ
                  go_wp2_with fail
                  go_roundw
                  case rel => exact ⟨y + 1, by go_num, by omega, HBK.out⟩
                  case measure => simp [intOf]; omega
              · obtain rfl : y = b.length := by omega
                have hjj : ¬ (b.length : Int) < (b.length : Int) := by omega
                go_wp2_with fail
                go_roundw
                case rel => exact ⟨x + 1, by go_num, by omega, HB7.out⟩
                case measure => simp [intOf]; omega
          · obtain rfl : x = b.length := by omega
            have hii : ¬ (b.length : Int) < (b.length : Int) := by omega
            go_wp2_with fail
            refine (awake_any _ (HT5.out.next HBR.out)).mono ?_
            rintro e wz ⟨rfl, hbz⟩
            have HBZ := Lib.hid ((HBW.out.trans (HBR.out.mono HBW.out.size)).trans (hbz.mono (HBW.out.trans (HBR.out.mono HBW.out.size)).size))
            clear hbz
            go_wp2_with fail
            go_ret
            exact ⟨rfl, HBZ.out⟩
    · have hne : (v != 0) = true := by simpa using hv0
      clear hv0 hra hna
      go_wp2_with fail
      refine (awake_any _ (HT.out.next HB1.out)).mono ?_
      rintro e wz ⟨rfl, hbz⟩
      have HBZ := Lib.hid ((HB.out.trans (HB1.out.mono HB.out.size)).trans (hbz.mono (HB.out.trans (HB1.out.mono HB.out.size)).size))
      clear hbz
      go_wp2_with fail
      go_ret
      exact ⟨rfl, HBZ.out⟩
end Go.Proofs.YtndfhejfhfhbdaaGreatDoor.O
