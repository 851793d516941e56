/- Several texts in one. -/
import Derived.Test.YtndfhejfhfhbdaaGreatDoorMrg22
import Derived.Test.YtndfhejfhfhbdaaGreatDoorCompS
import Derived.Test.YtndfhejfhfhbdaaGreatDoorMrg1
import Derived.Test.YtndfhejfhfhbdaaGreatDoorMrg20

/- What the order of records is: by nodes, and by records. -/
namespace Go.Proofs.YtndfhejfhfhbdaaGreatDoor.O
open Go.RowKit Go.Proofs.YtndfhejfhfhbdaaGreatDoor.M Go.BigFrame Go.Proofs.YtndfhejfhfhbdaaGreatDoor.K Go.Proofs.YtndfhejfhfhbdaaGreatDoor.T
set_option linter.unusedVariables false
set_option linter.unusedSimpArgs false

theorem Cmps.of {E : Nat → List Int} {n : Nat} {L : List (List Nat)} {q : Nat → Nat} (h : Comp E n L q) : Cmps E n L q := ⟨h.d1, h.d2, h.d3, h.d4, h.d5⟩
theorem inorder_ext {E E2 : Nat → List Int} {n : Nat} {L : List (List Nat)} {q : Nat → Nat} (he : ∀ u w, T.Edge E n u w ↔ T.Edge E2 n u w) (h : InOrder E n L q) : InOrder E2 n L q := by
  have hc := Cmps.ext (Cmps.of h.co) he
  refine ⟨⟨hc.d1, hc.d2, hc.d3, hc.d4, hc.d5⟩, fun p p' h1 h2 h3 => ?_⟩
  obtain ⟨u, v, a, b, c, d⟩ := h.le p p' h1 h2 h3
  exact ⟨u, v, a, (he u v).1 b, c, d⟩
theorem leads_ext {E E2 : Nat → List Int} {n : Nat} {f : Int} {l : List Nat} (he : ∀ u w, T.Edge E n u w ↔ T.Edge E2 n u w) (h : LeadsTo E n f l) : LeadsTo E2 n f l := by
  refine ⟨h.srt, fun v => (h.mem v).trans ⟨?_, ?_⟩⟩
  · rintro ⟨h1, u, h2, h3, h4⟩
    exact ⟨h1, u, h2, h3, path_ext (fun u w => (he u w).1) h4⟩
  · rintro ⟨h1, u, h2, h3, h4⟩
    exact ⟨h1, u, h2, h3, path_ext (fun u w => (he u w).2) h4⟩
theorem EdAt.ext {B : Nat} {w : World} {eo : Option Addr} {n ec : Nat} {E E2 : Nat → List Int} (h : EdAt B w eo n ec E) (he : ∀ i, i < n → E i = E2 i) : EdAt B w eo n ec E2 :=
  ⟨h.le, fun i hi => by rw [← he i hi]; exact h.row i hi⟩
/-- the order of nodes that lie by their ids -/
def Row (s : List Nd) (out : List Id) : Prop := ∃ L q, InOrder (edR s) s.length L q ∧ out = rowI s L
theorem Row.one {s : List Nd} {a b : List Id} (h : Row s a) (h2 : Row s b) : a = b := by
  obtain ⟨L, q, h3, rfl⟩ := h
  obtain ⟨L2, q2, h4, rfl⟩ := h2
  rw [h3.one h4]
theorem Row.cmps {s : List Nd} {a : List Id} (h : Row s a) : ∃ L q, Cmps (edR s) s.length L q ∧ a = rowI s L := by
  obtain ⟨L, q, h3, rfl⟩ := h
  exact ⟨L, q, .of h3.co, rfl⟩
/-- records by their ids -/
def iR (a b : Rv) : Bool := ilt a.id b.id
def srtR (X : List Rv) : List Rv := srt iR X
def nds (X : List Rv) : List Nd := X.map Rv.nd
theorem nds_ids (X : List Rv) : idsOf (nds X) = idsX X := by unfold idsOf nds; rw [List.map_map]; rfl
theorem srtR_nd (X : List Rv) : nds (srtR X) = byIds (nds X) := (srt_map iln Rv.nd X).symm
theorem srtR_perm (X : List Rv) : (srtR X).Perm X := srt_perm X
theorem srtR_len (X : List Rv) : (srtR X).length = X.length := (srtR_perm X).length_eq
theorem nodup_inj {α β : Type} (f : α → β) : ∀ {l : List α}, (l.map f).Nodup → ∀ {a b}, a ∈ l → b ∈ l → f a = f b → a = b
  | [], _, _, _, h, _, _ => by cases h
  | x :: l, hn, a, b, ha, hb, e => by
    rw [List.map_cons, List.nodup_cons] at hn
    rcases List.mem_cons.1 ha with e1 | e1 <;> rcases List.mem_cons.1 hb with e2 | e2
    · rw [e1, e2]
    · exact absurd (List.mem_map.2 ⟨b, e2, by rw [← e, e1]⟩) hn.1
    · exact absurd (List.mem_map.2 ⟨a, e1, by rw [e, e2]⟩) hn.1
    · exact nodup_inj f hn.2 e1 e2 e
theorem nodup_of_map {α β : Type} (f : α → β) {l : List α} (h : (l.map f).Nodup) : l.Nodup := List.Pairwise.of_map f (fun a b h e => h (congrArg f e)) h
theorem iR_tot {X : List Rv} (h : (idsX X).Nodup) : Tot iR X :=
  ⟨fun a => ilt_irr _, fun a b c => ilt_trans, fun a ha b hb hne => ilt_tri fun e => hne (nodup_inj Rv.id h ha hb e)⟩
theorem pw_strict {α : Type} {lt : α → α → Bool} {l : List α} (hT : Tot lt l) (hn : l.Nodup) (h : l.Pairwise (fun a b => lt b a = false)) : l.Pairwise (fun a b => lt a b = true) := by
  have h2 : l.Pairwise (fun a b => a ∈ l ∧ b ∈ l ∧ a ≠ b) := by
    have := List.Pairwise.and_mem.1 hn
    exact this.imp fun ⟨a, b, c⟩ => ⟨a, b, c⟩
  exact (List.Pairwise.and h h2).imp fun ⟨h1, ha, hb, hne⟩ => (hT.tri _ ha _ hb hne).resolve_right (by rw [h1]; simp)
theorem srtR_one {X m : List Rv} (hn : (idsX X).Nodup) (hp : m.Perm X) (hs : m.Pairwise (fun a b => ilt b.id a.id = false)) : m = srtR X := by
  have hT := iR_tot hn
  have hX := nodup_of_map _ hn
  exact srt_one hT hX hp (pw_strict (hT.perm hp) (hp.nodup_iff.2 hX) hs)
theorem srtR_same {X m : List Rv} (hn : (idsX X).Nodup) (hp : m.Perm X) : srtR m = srtR X := srt_same (iR_tot hn) (nodup_of_map _ hn) hp
theorem srtR_ids {X : List Rv} (hn : (idsX X).Nodup) : (idsX (srtR X)).Nodup := ((srtR_perm X).map Rv.id).nodup_iff.2 hn
/-- the records of a component -/
def partR (s : List Rv) (c : List Nat) : List Rv := c.map fun i => s.getD i default
theorem partR_nd (s : List Rv) (c : List Nat) : nds (partR s c) = part (nds s) c := by
  unfold nds partR part
  rw [List.map_map]
  congr 1
  funext i
  simp only [Function.comp_apply, List.getD, List.getElem?_map]
  cases s[i]? with
  | none => rfl
  | some a => rfl
theorem partR_app (s : List Rv) (c d : List Nat) : partR s (c ++ d) = partR s c ++ partR s d := List.map_append
theorem partR_one {s : List Rv} {i : Nat} {x : Rv} (h : s[i]? = some x) : partR s [i] = [x] := by unfold partR; simp [List.getD, h]
/-- what is sorted within is one -/
theorem within_one {l m : List Rv} (hn : (idsX l).Nodup) (hp : m.Perm l) (hs : m.Pairwise (fun a b => wlt b.nd a.nd = false)) : m.map Rv.id = O.within (nds l) := by
  have hU : Unl (nds l) := by unfold Unl; rw [nds_ids]; exact hn
  have hp2 : (nds m).Perm (nds l) := hp.map _
  have hs2 : (nds m).Pairwise (fun a b => wlt b a = false) := by unfold nds; rw [List.pairwise_map]; exact hs
  have := srt_one hU.wlt hU.nodup hp2 (pw_strict (hU.wlt.perm hp2) (hp2.nodup_iff.2 hU.nodup) hs2)
  unfold O.within
  rw [← this, nds_ids]
theorem edR_get {s : List Rv} {u : Nat} {x : Rv} (h : s[u]? = some x) : edR (nds s) u = x.deps.map (atI (idsX s)) := by
  unfold edR
  have : (nds s)[u]? = some x.nd := by unfold nds; rw [List.getElem?_map, h]; rfl
  rw [this]
  simp only [nds_ids]
  rfl
theorem rows_ed (X : List Rv) (i : Nat) (hi : i < X.length) : (((rowsG X X.length)[i]?).getD []).map (fun k : Nat => (k : Int)) = edP (nds X) i := by
  have hx : X[i]? = some X[i] := List.getElem?_eq_getElem hi
  unfold rowsG edP
  rw [List.take_length, List.getElem?_map, hx, edR_get hx]
  exact plN_ed _ _
end Go.Proofs.YtndfhejfhfhbdaaGreatDoor.O

/- The document's At, ahead, names. -/
namespace Go.Proofs.YtndfhejfhfhbdaaGreatDoor.O
open Go.RowKit Go.Proofs.YtndfhejfhfhbdaaGreatDoor.M Go.BigFrame Go.Proofs.YtndfhejfhfhbdaaGreatDoor.K
set_option linter.unusedVariables false
set_option linter.unusedSimpArgs false

theorem atI_here {l : List Id} {k : Nat} {i : Id} (hk : l[k]? = some i) (hno : ∀ j y, j < k → l[j]? = some y → y ≠ i) : atI l i = (k : Int) := by
  have hm := List.mem_of_getElem? hk
  unfold atI
  rw [if_pos hm]
  have h1 : l[l.idxOf i]? = some i := by rw [List.getElem?_eq_getElem (List.idxOf_lt_length_iff.2 hm), List.getElem_idxOf]
  have h2 : ¬ l.idxOf i < k := fun h => hno _ _ h h1 rfl
  have h3 : l.idxOf i ≤ k := by
    obtain ⟨hl, he⟩ := List.getElem?_eq_some_iff.1 hk
    refine Nat.not_lt.1 fun hlt => ?_
    have := List.not_of_lt_findIdx (xs := l) (p := (· == i)) hlt
    simp [he] at this
  have : l.idxOf i = k := by omega
  rw [this]
theorem atI_none {l : List Id} {i : Id} (hno : ∀ j y, j < l.length → l[j]? = some y → y ≠ i) : atI l i = -1 := by
  unfold atI
  rw [if_neg]
  intro hm
  obtain ⟨j, hj⟩ := List.mem_iff_getElem?.1 hm
  exact hno j i (List.getElem?_eq_some_iff.1 hj).1 hj rfl
set_option maxRecDepth 100000 in
set_option maxHeartbeats 4000000 in
theorem refat_any (X : List Rv) (ao : Option Addr) (cap : Nat) (i : Id) (w : World) (h : RecsV w ao cap X) (v : Int) (hv : atI (idsX X) i = v) :
    Calls Tryz.prog 14 #[.slice ao X.length cap, idV i] w fun e w' => e = .returned (.int .i64 v) ∧ Below w.heap.size w w' := by
  obtain ⟨hl1, hl2⟩ := h.le
  unfold maxLen at hl2
  have H := Lib.hid h
  have HV := Lib.hid hv
  clear h hv
  go_enter Tryz.func14, Tryz.ntmps14
  go_upto_region 1 with fail
  obtain ⟨W, hW⟩ : ∃ W, W = w.alloc (idO i) := ⟨_, rfl⟩
  rw [← hW]
  have HB : Hid (Below w.heap.size w W) := Lib.hid (by rw [hW]; exact (Below.refl _ _).alloc (Nat.le_refl _) _)
  have HX : Hid (W.heap[w.heap.size]? = some (idO i)) := Lib.hid (by rw [hW]; exact heap_alloc_new w _)
  clear hW
  have HL := Lib.hid (H.out.below HB.out)
  have hlt := M.heap_lt HX.out
  clear H
  go_wp2_with fail
  go_loopw [5] (fun iv wr => ∃ k : Nat, iv = .int .i64 k ∧ k ≤ X.length ∧ Below W.heap.size W wr ∧ (∀ j y, j < k → (idsX X)[j]? = some y → y ≠ i)) (fun iv _ => X.length - (intOf iv).toNat)
  case atStart => exact ⟨0, rfl, Nat.zero_le _, Below.refl _ _, fun j x hj => absurd hj (by omega)⟩
  case round =>
    obtain ⟨k, rfl, hk, hb, hno⟩ := hrel
    have HNO := Lib.hid hno
    have HBR := Lib.hid hb
    clear hno hb
    by_cases hkl : k < X.length
    · have hii : (k : Int) < (X.length : Int) := by omega
      obtain ⟨x, hx⟩ : ∃ x, X[k]? = some x := ⟨_, List.getElem?_eq_getElem hkl⟩
      obtain ⟨b, off, e0, hbl, hrec⟩ := HL.out.row k x hx
      subst e0
      have hrb := hrec.below HBR.out hbl
      obtain ⟨⟨d0, d1⟩, _⟩ := box2 HX.out
      have k0 := Kin.cell hrb.c0
      have k1 := Kin.cell hrb.c1
      have k2 := Kin.cell ((HBR.out.cell (p := ⟨w.heap.size, _, none⟩) hlt).trans d0)
      have k3 := Kin.cell ((HBR.out.cell (p := ⟨w.heap.size, _, none⟩) hlt).trans d1)
      have hxk : (idsX X)[k]? = some x.id := by rw [List.getElem?_map, hx]; rfl
      clear d0 d1 hrb hrec
      by_cases hxi : x.id = i
      · have HE := Lib.hid (show v = (k : Int) by rw [← HV.out]; exact atI_here (hxi ▸ hxk) HNO.out)
        subst hxi
        have q := eql_yes x.id
        clear hx hxk
        go_upto_region 4 with fail
        refine wp_region_kin (by kernel_rfl) (by kernel_rfl) ?_
        repeat (go_big_quiet_step (fail))
        refine wpQuiet_nil ?_
        intro _ hxx
        obtain ⟨xk, rfl⟩ := hxx
        have HBK := Lib.hid (HBR.out.trans (xk.h.mono HBR.out.size))
        clear k0 k1 k2 k3 q
        go_wp2_with fail
        go_ret
        exact ⟨by rw [HE.out]; rfl, HB.out.trans (HBK.out.mono HB.out.size)⟩
      · have HN := Lib.hid (show ∀ j y, j < k + 1 → (idsX X)[j]? = some y → y ≠ i from fun j y hj hy => by
          by_cases e : j = k
          · subst e; rw [hxk] at hy; cases hy; exact hxi
          · exact HNO.out j y (by omega) hy)
        have q := eql_no hxi
        clear hx hxk hxi
        go_upto_region 4 with fail
        refine wp_region_kin (by kernel_rfl) (by kernel_rfl) ?_
        repeat (go_big_quiet_step (fail))
        refine wpQuiet_nil ?_
        intro _ hxx
        obtain ⟨xk, rfl⟩ := hxx
        have HBK := Lib.hid (HBR.out.trans (xk.h.mono HBR.out.size))
        clear k0 k1 k2 k3 q
        go_wp2_with fail
        go_roundw
        case rel => exact ⟨k + 1, by go_num, by omega, HBK.out, HN.out⟩
        case measure => simp [intOf]; omega
    · obtain rfl : k = X.length := by omega
      have hii : ¬ (X.length : Int) < (X.length : Int) := by omega
      have HE := Lib.hid (show v = -1 by rw [← HV.out]; exact atI_none (fun j y hj => HNO.out j y (by simpa using hj)))
      go_wp2_with fail
      go_ret
      exact ⟨by rw [HE.out]; rfl, HB.out.trans (HBR.out.mono HB.out.size)⟩
set_option maxRecDepth 100000 in
set_option maxHeartbeats 4000000 in
theorem refahead_any (x y : Rv) (w : World) (v : Bool) (hv : wlt x.nd y.nd = v) :
    Calls Tryz.prog 83 #[recV x, recV y] w fun e w' => e = .returned (.bool v) ∧ Grew w w' := by
  have HV := Lib.hid hv
  clear hv
  go_enter Tryz.func83, Tryz.ntmps83
  go_upto_region 1 with fail
  obtain ⟨hba, hbb, hg⟩ := two_recs x y w
  obtain ⟨W, hW⟩ : ∃ W, W = (w.alloc (recO x)).alloc (recO y) := ⟨_, rfl⟩
  rw [← hW] at hba hbb hg ⊢
  have HG := Lib.hid hg
  have HBA := Lib.hid hba
  have HBB := Lib.hid hbb
  clear hW hg hba hbb
  obtain ⟨c0, c1, c2, c3, c4, c5, c6, c7, c8, c9, c10, c11, c12, c13, c14, c15⟩ := box16 (HBA.out)
  obtain ⟨d0, d1, d2, d3, d4, d5, d6, d7, d8, d9, d10, d11, d12, d13, d14, d15⟩ := box16 (HBB.out)
  cases e1 : (x.tag != y.tag) with
  | true =>
    have hne : ¬ x.tag = y.tag := by simpa using e1
    have HE := Lib.hid (show v = decide (x.tag < y.tag) by
      rw [← HV.out]
      unfold wlt Rv.nd
      simp [hne])
    go_wp2_with fail
    go_ret
    exact ⟨by rw [HE.out]; rfl, HG.out⟩
  | false =>
    have heq : x.tag = y.tag := by simpa using e1
    cases e2 : (x.tag == 1) with
    | true =>
      have h1 : x.tag = 1 := by simpa using e2
      have h1' : y.tag = 1 := heq ▸ h1
      cases e3 : (x.seq != y.seq) with
      | true =>
        have h3 : ¬ x.seq = y.seq := by simpa using e3
        have HE := Lib.hid (show v = decide (x.seq < y.seq) by
          rw [← HV.out]
          unfold wlt Rv.nd
          simp [h1, h1', h3])
        clear heq h1 h1' h3
        go_wp2_with fail
        go_ret
        exact ⟨by rw [HE.out]; rfl, HG.out⟩
      | false =>
        have h3 : x.seq = y.seq := by simpa using e3
        have HE := Lib.hid (show ilt x.id y.id = v by
          rw [← HV.out]
          unfold wlt Rv.nd
          simp [h1, h1', h3])
        clear heq h1 h1' h3
        go_wp2_with fail
        refine (refless_any x.id y.id W v HE.out).mono ?_
        rintro e w1 ⟨rfl, hg1⟩
        go_wp2_with fail
        go_ret
        exact ⟨rfl, HG.out.trans hg1⟩
    | false =>
      have h1 : ¬ x.tag = 1 := by simpa using e2
      have HE := Lib.hid (show ilt x.id y.id = v by
        rw [← HV.out]
        unfold wlt Rv.nd
        have h1' : ¬ y.tag = 1 := heq ▸ h1
        simp [heq, h1'])
      clear heq h1
      go_wp2_with fail
      refine (refless_any x.id y.id W v HE.out).mono ?_
      rintro e w1 ⟨rfl, hg1⟩
      go_wp2_with fail
      go_ret
      exact ⟨rfl, HG.out.trans hg1⟩
set_option maxRecDepth 100000 in
set_option maxHeartbeats 4000000 in
theorem refnames_any (X : List Rv) (ao : Option Addr) (cap : Nat) (w : World) (h : RecsV w ao cap X) (hl : X.length ≤ 1000000) :
    Calls Tryz.prog 61 #[.slice ao X.length cap] w fun e w' => ∃ oo oc, e = .returned (.slice oo X.length oc) ∧ (OwnL w' w.heap.size oo oc (X.map Rv.id) ∧ Below w.heap.size w w') := by
  obtain ⟨hl1, hl2⟩ := h.le
  unfold maxLen at hl2
  obtain ⟨i0, hi, hz0, hz1, hz2⟩ := info_parts info_id
  have H := Lib.hid h
  clear h
  go_enter Tryz.func61, Tryz.ntmps61
  go_wp2_with fail
  go_loopw [3, 4] (fun ov kv wr => ∃ (k : Nat) (M : List Id) (oo : Option Addr) (oc : Nat), ov = .slice oo M.length oc ∧ kv = .int .i64 k ∧ k ≤ X.length ∧ M = (X.take k).map Rv.id ∧ OwnL wr w.heap.size oo oc M ∧ Below w.heap.size w wr) (fun _ kv _ => X.length - (intOf kv).toNat)
  case atStart => exact ⟨0, [], none, 0, rfl, rfl, Nat.zero_le _, by simp, World.ownsRow_nil _ _ _ _, Below.refl _ _⟩
  case round =>
    obtain ⟨k, M, oo, oc, rfl, rfl, hk, hM, hown, hb⟩ := hrel
    have HM := Lib.hid hM
    have HOW := Lib.hid hown
    have HBR := Lib.hid hb
    have hMl : M.length = k := by rw [hM, List.length_map, List.length_take]; omega
    have hMl2 : M.length ≤ 1000000 := by omega
    clear hM hown hb
    have hWr := HBR.out.size
    by_cases hkl : k < X.length
    · have hii : (k : Int) < (X.length : Int) := by omega
      obtain ⟨x, hx⟩ : ∃ x, X[k]? = some x := ⟨_, List.getElem?_eq_getElem hkl⟩
      obtain ⟨b, off, e0, hbl, hrec⟩ := H.out.row k x hx
      subst e0
      have hrb := hrec.below HBR.out hbl
      obtain ⟨c0, c1⟩ := And.intro hrb.c0 hrb.c1
      have HL := Lib.hid hMl
      have HN := Lib.hid (show M ++ [x.id] = (X.take (k + 1)).map Rv.id by rw [HM.out, List.take_add_one, hx]; simp)
      clear hx hMl hrec hrb
      go_wp2_with (refine wpList_app idC 2 (fun _ => rfl) (by decide) idC_one (by rfl) (.tmp 11) (.tmp 17) 25 (by rfl) w.heap.size 27 i0 _ 16 Tryz.underlying25 hi hz0 hz1 hz2 (by decide) rfl oo oc M x.id #[.int .i64 (x.id).r, .int .i64 (x.id).n] rfl (by rfl) (by exact HOW.out) (by rfl) (by omega) (by omega) ?_; intro oo' oc' w7 hown hmod hbel; have HOW7 := Lib.hid hown; have HBE7 := Lib.hid hbel; clear hown hmod hbel)
      clear c0 c1
      go_roundw
      case rel => exact ⟨k + 1, M ++ [x.id], oo', oc', by simp, by go_num, by omega, HN.out, HOW7.out, HBR.out.trans HBE7.out⟩
      case measure => simp [intOf]; omega
    · obtain rfl : k = X.length := by omega
      have hii : ¬ (X.length : Int) < (X.length : Int) := by omega
      have HE := Lib.hid (show M = X.map Rv.id by rw [HM.out, List.take_length])
      have HFIN := Lib.hid (show OwnL wr w.heap.size oo oc M ∧ Below w.heap.size w wr from ⟨HOW.out, HBR.out⟩)
      have HL := Lib.hid hMl
      clear hMl
      go_wp2_with fail
      go_ret
      refine ⟨oo, oc, ret_val (by rw [← HL.out]; rfl), ?_⟩
      rw [← HE.out]
      exact HFIN.out
end Go.Proofs.YtndfhejfhfhbdaaGreatDoor.O
