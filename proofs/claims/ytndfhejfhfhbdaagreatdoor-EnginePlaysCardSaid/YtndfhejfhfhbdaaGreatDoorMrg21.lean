/- Several texts in one. -/
import Derived.Test.YtndfhejfhfhbdaaGreatDoorMrg20
import Derived.Test.YtndfhejfhfhbdaaGreatDoorMrg19
import Derived.Test.YtndfhejfhfhbdaaGreatDoorMrg15

/- Rows of two kinds: one stays where the other grows. -/
namespace Go.Proofs.YtndfhejfhfhbdaaGreatDoor.O
open Go.RowKit Go.Proofs.YtndfhejfhfhbdaaGreatDoor.M Go.BigFrame
set_option linter.unusedVariables false

theorem own_apart {w : World} {B1 B2 : Nat} {e1 e2 : TypeId} {s1 s2 : Nat} {v1 v2 : Value} {n1 n2 : Nat} {xs1 xs2 : List Value} (h1 : w.ownsRow B1 e1 s1 v1 n1 xs1) (h2 : w.ownsRow B2 e2 s2 v2 n2 xs2) (he : e1 ≠ e2) : ∀ k, v1.ownBlock = some k → v2.ownBlock = some k → False := by
  intro k hk1 hk2
  rcases h1.2 with ⟨rfl, _⟩ | ⟨g, cap, cur, rfl, _, hg, _⟩
  · cases hk1
  · rcases h2.2 with ⟨rfl, _⟩ | ⟨g2, cap2, cur2, rfl, _, hg2, _⟩
    · cases hk2
    · obtain rfl := Option.some.inj hk1
      obtain rfl := Option.some.inj hk2
      rw [hg] at hg2
      simp only [Option.some.injEq, Obj.cells.injEq] at hg2
      exact he hg2.2.1
/-- a row of one kind stays, where one of another kind grows -/
theorem own_beside {w w1 : World} {B1 B2 : Nat} {e1 e2 : TypeId} {s1 s2 : Nat} {v1 : Value} {oo : Option Addr} {oc l n1 n2 : Nat} {xs1 xs2 : List Value} (h1 : w.ownsRow B1 e1 s1 v1 n1 xs1) (h2 : w.ownsRow B2 e2 s2 (.slice oo l oc) n2 xs2) (he : e1 ≠ e2)
    (hm : Mods (fun j => ∃ a, oo = some a ∧ j = a.block) w w1) : w1.ownsRow B1 e1 s1 v1 n1 xs1 :=
  own_kept h1 hm fun k hk ⟨a, e, ek⟩ => own_apart h1 h2 he k hk (by subst e; rw [ek]; rfl)
end Go.Proofs.YtndfhejfhfhbdaaGreatDoor.O

/- The document's graph. -/
namespace Go.Proofs.YtndfhejfhfhbdaaGreatDoor.O
open Go.RowKit Go.Proofs.YtndfhejfhfhbdaaGreatDoor.M Go.BigFrame Go.Proofs.YtndfhejfhfhbdaaGreatDoor.K
set_option linter.unusedVariables false
set_option linter.unusedSimpArgs false

/-! Rows of whole numbers. -/
def zvI (l : List Int) : List Value := l.map fun i => .int .i64 i
theorem zvI_flat (l : List Int) : l.flatMap (fun n : Int => [Value.int .i64 n]) = zvI l := by
  induction l with
  | nil => rfl
  | cons a l ih => rw [List.flatMap_cons, ih]; rfl
def nat2 (L : List (List Int)) : List (List Nat) := L.map fun c => c.map Int.toNat
theorem nat2_len (L : List (List Int)) : (nat2 L).length = L.length := List.length_map _
structure OutZ (B : Nat) (w : World) (oo : Option Addr) (oc : Nat) (R : List (Option Addr × Nat)) (L : List (List Int)) : Prop where
  top : w.ownsRow B 79 1 (.slice oo L.length oc) L.length (hdrs R (nat2 L))
  rl : R.length = L.length
  row : ∀ (i : Nat) c r, L[i]? = some c → R[i]? = some r → w.ownsRow B 3 1 (.slice r.1 c.length r.2) c.length (zvI c)
theorem OutZ.nil (B : Nat) (w : World) : OutZ B w none 0 [] [] := ⟨World.ownsRow_nil _ _ _ _, rfl, fun i c r h => by simp at h⟩
theorem OutZ.base {B B2 : Nat} {w : World} {oo : Option Addr} {oc : Nat} {R : List (Option Addr × Nat)} {L : List (List Int)} (h : OutZ B w oo oc R L) (hb : B2 ≤ B) : OutZ B2 w oo oc R L :=
  ⟨own_base h.top (fun q hq => Nat.le_trans hb (h.top.lt q hq).1), h.rl, fun i c r hc hr => own_base (h.row i c r hc hr) (fun q hq => Nat.le_trans hb ((h.row i c r hc hr).lt q hq).1)⟩
theorem OutZ.below {B : Nat} {w w1 : World} {oo : Option Addr} {oc : Nat} {R : List (Option Addr × Nat)} {L : List (List Int)} (h : OutZ B w oo oc R L) (hb : Below w.heap.size w w1) : OutZ B w1 oo oc R L :=
  ⟨Go.Proofs.YtndfhejfhfhbdaaGreatDoor.R.own_below h.top hb, h.rl, fun i c r hc hr => Go.Proofs.YtndfhejfhfhbdaaGreatDoor.R.own_below (h.row i c r hc hr) hb⟩
/-- one more row -/
theorem OutZ.more {B : Nat} {w w2 : World} {oo : Option Addr} {oc : Nat} {R : List (Option Addr × Nat)} {L : List (List Int)} (h : OutZ B w oo oc R L) {gg cg cc : Nat} {ro : Option Addr} {c : List Int} {bx : Obj}
    (hrow : w.ownsRow B 3 1 (.slice ro c.length cc) c.length (zvI c))
    (ho : w2.ownsRow B 79 1 (.slice (some ⟨gg, 0, none⟩) (L.length + 1) cg) (L.length + 1) (hdrs R (nat2 L) ++ [.slice ro c.length cc]))
    (hg : (w.alloc bx).grownBy w2 (Value.slice oo L.length oc).ownBlock) :
    OutZ B w2 (some ⟨gg, 0, none⟩) cg (R ++ [(ro, cc)]) (L ++ [c]) ∧ Mods (fun k => ∃ a, oo = some a ∧ k = a.block) w w2 := by
  have hM : Mods (fun k => ∃ a, oo = some a ∧ k = a.block) w w2 := ((Mods.refl _ w).alloc bx).grown hg (fun k hk _ => by
    cases oo with
    | none => cases hk
    | some a => exact ⟨a, rfl, (Option.some.inj hk).symm⟩)
  refine ⟨⟨?_, by simp [h.rl], fun i c' r hc hr => ?_⟩, hM⟩
  · have e : nat2 (L ++ [c]) = nat2 L ++ [c.map Int.toNat] := by unfold nat2; rw [List.map_append]; rfl
    rw [List.length_append, e, hdrs_append (by rw [nat2_len]; exact h.rl), List.length_map]
    exact ho
  · rcases Nat.lt_or_ge i L.length with h1 | h1
    · rw [List.getElem?_append_left h1] at hc
      rw [List.getElem?_append_left (by rw [h.rl]; exact h1)] at hr
      exact own_beside (h.row i c' r hc hr) h.top (by decide) hM
    · rw [List.getElem?_append_right h1] at hc
      rw [List.getElem?_append_right (by rw [h.rl]; exact h1), h.rl] at hr
      have hi0 : i - L.length = 0 := by have := (List.getElem?_eq_some_iff.1 hc).1; simp at this; omega
      rw [hi0] at hc hr
      obtain rfl : c = c' := by simpa using hc
      obtain rfl : (ro, cc) = r := by simpa using hr
      exact own_beside hrow h.top (by decide) hM
theorem OutZ.ed {B : Nat} {w : World} {oo : Option Addr} {oc : Nat} {R : List (Option Addr × Nat)} {L : List (List Int)} (h : OutZ B w oo oc R L) : EdAt w.heap.size w oo L.length oc (fun i => (L[i]?).getD []) := by
  obtain ⟨ao', cap', e0, h1, h2, h3, h4⟩ := M.own_view h.top
  cases e0
  refine ⟨⟨h1, h2⟩, fun i hi => ?_⟩
  cases oo with
  | none => have := (h3 rfl).1; omega
  | some a =>
    obtain ⟨g, cur, rfl, _, hg, hsz, htk⟩ := h4 a rfl
    obtain ⟨c, hc⟩ : ∃ c, L[i]? = some c := ⟨_, List.getElem?_eq_getElem hi⟩
    obtain ⟨r, hr⟩ : ∃ r, R[i]? = some r := ⟨_, List.getElem?_eq_getElem (by rw [h.rl]; exact hi)⟩
    have hrow := h.row i c r hc hr
    obtain ⟨ro, rc⟩ := r
    obtain ⟨ao2, cap2, e2, k1, k2, k3, k4⟩ := M.own_view hrow
    cases e2
    simp only [hc, Option.getD_some]
    cases ro with
    | none =>
      refine ⟨g, 0, none, rc, rfl, M.heap_lt hg, ?_, k1, k2, fun j x hj => ?_⟩
      · have hh : (hdrs R (nat2 L))[i]? = some (.slice none (c.map Int.toNat).length rc) := hdrs_get hr (by unfold nat2; rw [List.getElem?_map, hc]; rfl)
        rw [List.length_map] at hh
        rw [cell_of_row w g _ _ _ _ hg, Nat.zero_add, ← Array.getElem?_toList]
        rw [← htk, List.getElem?_take_of_lt (by omega)] at hh
        exact hh
      · have := (List.getElem?_eq_some_iff.1 hj).1
        have := (k3 rfl).1
        omega
    | some a =>
      obtain ⟨p, cur2, rfl, _, hp, hsz2, htk2⟩ := k4 a rfl
      refine ⟨g, 0, some ⟨p, 0, none⟩, rc, rfl, M.heap_lt hg, ?_, k1, k2, fun j x hj => ?_⟩
      · have hh : (hdrs R (nat2 L))[i]? = some (.slice (some ⟨p, 0, none⟩) (c.map Int.toNat).length rc) := hdrs_get hr (by unfold nat2; rw [List.getElem?_map, hc]; rfl)
        rw [List.length_map] at hh
        rw [cell_of_row w g _ _ _ _ hg, Nat.zero_add, ← Array.getElem?_toList]
        rw [← htk, List.getElem?_take_of_lt (by omega)] at hh
        exact hh
      · have hjl := (List.getElem?_eq_some_iff.1 hj).1
        refine ⟨p, 0, rfl, M.heap_lt hp, ?_⟩
        have hh : (zvI c)[j]? = some (.int .i64 x) := by simp [zvI, hj]
        rw [cell_of_row w p _ _ _ _ hp, Nat.zero_add, ← Array.getElem?_toList]
        rw [← htk2, List.getElem?_take_of_lt (by omega)] at hh
        exact hh
def rowsZ (X : List Rv) (k : Nat) : List (List Int) := (X.take k).map fun x => x.deps.map (atI (idsX X))
theorem rowsZ_ed (X : List Rv) (i : Nat) (hi : i < X.length) : ((rowsZ X X.length)[i]?).getD [] = edR (nds X) i := by
  have hx : X[i]? = some X[i] := List.getElem?_eq_getElem hi
  unfold rowsZ
  rw [List.take_length, List.getElem?_map, hx, edR_get hx]
  rfl
set_option maxRecDepth 100000 in
set_option maxHeartbeats 4000000 in
theorem refgraph_any (X : List Rv) (ao : Option Addr) (cap : Nat) (w : World) (h : RecsV w ao cap X) (hl : X.length ≤ 10000) (hdl : ∀ x ∈ X, x.deps.length ≤ 10000) :
    Calls Tryz.prog 52 #[.slice ao X.length cap] w fun e w' => ∃ oo oc, e = .returned (.slice oo X.length oc) ∧ ((∃ R, OutZ w.heap.size w' oo oc R (rowsZ X X.length)) ∧ Below w.heap.size w w') := by
  obtain ⟨hl1, hl2⟩ := h.le
  unfold maxLen at hl2
  obtain ⟨i0, hi, hz0, hz1, hz2⟩ := info_parts info_int
  obtain ⟨i1, hi1, hy0, hy1, hy2⟩ := info_parts info_ints
  have H := Lib.hid h
  have HDL := Lib.hid hdl
  clear h hdl
  go_enter Tryz.func52, Tryz.ntmps52
  go_wp2_with fail
  go_loopw [3, 4] (fun ov kv wr => ∃ (k : Nat) (oo : Option Addr) (oc : Nat) (R : List (Option Addr × Nat)), ov = .slice oo (rowsZ X k).length oc ∧ kv = .int .i64 k ∧ k ≤ X.length ∧ OutZ w.heap.size wr oo oc R (rowsZ X k) ∧ Below w.heap.size w wr) (fun _ kv _ => X.length - (intOf kv).toNat)
  case atStart => exact ⟨0, none, 0, [], rfl, rfl, Nat.zero_le _, OutZ.nil _ _, Below.refl _ _⟩
  case round =>
    obtain ⟨k, oo, oc, R, rfl, rfl, hk, ho, hb⟩ := hrel
    have HO := Lib.hid ho
    have HBR := Lib.hid hb
    clear ho hb
    have hWr := HBR.out.size
    by_cases hkl : k < X.length
    · have hii : (k : Int) < (X.length : Int) := by omega
      obtain ⟨x, hx⟩ : ∃ x, X[k]? = some x := ⟨_, List.getElem?_eq_getElem hkl⟩
      have HX := Lib.hid hx
      obtain ⟨b, off, e0, hbl, hrec⟩ := H.out.row k x hx
      subst e0
      have HREC := Lib.hid hrec
      have HD := Lib.hid ((H.out.ok x (List.mem_of_getElem? hx)).deps)
      have hdx := HDL.out x (List.mem_of_getElem? hx)
      obtain ⟨hdl1, hdl2⟩ := HD.out.le
      unfold maxLen at hdl2
      obtain ⟨xo, hxo⟩ : ∃ xo, x.ao = xo := ⟨_, rfl⟩
      have HXO := Lib.hid hxo
      clear hx hrec hxo
      obtain ⟨wa, rfl⟩ : ∃ wa, wa = wr := ⟨_, rfl⟩
      go_upto_region 6 with fail
      go_wp2_with fail
      go_loopw [5, 6] (fun ev kv wq => ∃ (j : Nat) (M : List Int) (eo : Option Addr) (ec : Nat), ev = .slice eo M.length ec ∧ kv = .int .i64 j ∧ j ≤ x.deps.length ∧ M = (x.deps.take j).map (atI (idsX X)) ∧ wq.ownsRow wa.heap.size 3 1 (.slice eo M.length ec) M.length (zvI M) ∧ Below wa.heap.size wa wq) (fun _ kv _ => x.deps.length - (intOf kv).toNat)
      case atStart => exact ⟨0, [], none, 0, rfl, rfl, Nat.zero_le _, by simp, World.ownsRow_nil _ _ _ _, Below.refl _ _⟩
      case round =>
        obtain ⟨j, M, eo, ec, rfl, rfl, hj, hM, hown, hbq⟩ := hrel
        have HM := Lib.hid hM
        have HOQ := Lib.hid hown
        have HBQ := Lib.hid hbq
        have hMl : M.length ≤ 10000 := by
          rw [hM, List.length_map, List.length_take]
          omega
        clear hM hown hbq
        have hsq := HBQ.out.size
        have HBA := Lib.hid (HBR.out.trans (HBQ.out.mono hWr))
        obtain ⟨c0, c1, c2, c3, c4, c5, c6, c7, c8, c9, c10, c11, c12, c13, c14, c15⟩ := HREC.out.below HBA.out hbl
        rw [HXO.out] at c13
        by_cases hjl : j < x.deps.length
        · have hjj : (j : Int) < (x.deps.length : Int) := by omega
          obtain ⟨d, hd⟩ : ∃ d, x.deps[j]? = some d := ⟨_, List.getElem?_eq_getElem hjl⟩
          obtain ⟨b2, off2, e2, hbl2, y0, y1⟩ := (HD.out.below (B := 0) HBA.out).row j d hd
          obtain rfl : xo = some ⟨b2, off2, none⟩ := HXO.out.symm.trans e2
          obtain ⟨v, hv⟩ : ∃ v, atI (idsX X) d = v := ⟨_, rfl⟩
          have HN := Lib.hid (show M ++ [v] = (x.deps.take (j + 1)).map (atI (idsX X)) by rw [List.take_add_one, hd, HM.out, ← hv]; simp)
          have HAT := Lib.hid (refat_any X _ cap d wr (H.out.below HBA.out) v hv)
          clear hd e2 hv
          go_wp2_with fail
          refine HAT.out.mono ?_
          rintro e w3 ⟨rfl, hb3⟩
          have HB3 := Lib.hid (HBQ.out.trans (hb3.mono hsq))
          have HO3 := Lib.hid (Go.Proofs.YtndfhejfhfhbdaaGreatDoor.R.own_below HOQ.out hb3)
          have hs3 := HB3.out.size
          clear hb3 HAT c0 c1 c2 c3 c4 c5 c6 c7 c8 c9 c10 c11 c12 c13 c14 c15 y0 y1
          go_wp2_with (refine wpList_app (fun n : Int => [Value.int .i64 n]) 1 (fun _ => rfl) (by decide) (fun n v hv => by rw [List.mem_singleton.1 hv]; rfl) (by rfl) (.tmp 24) (.tmp 36) 79 (by rfl) wa.heap.size 3 i0 _ 8 Tryz.underlying79 hi hz0 hz1 hz2 (by decide) rfl eo ec M v #[.int .i64 v] rfl (by rfl) (by rw [zvI_flat]; exact HO3.out) (by rfl) (by omega) (by omega) ?_; intro oo' oc' w7 hown hmod hbel; rw [zvI_flat] at hown; have HOW7 := Lib.hid hown; have HBE7 := Lib.hid hbel; clear hown hmod hbel)
          go_roundw
          case rel => exact ⟨j + 1, M ++ [v], oo', oc', by simp, by go_num, by omega, HN.out, by simpa using HOW7.out, HB3.out.trans HBE7.out⟩
          case measure => simp [intOf]; omega
        · obtain rfl : j = x.deps.length := by omega
          have hjj : ¬ (x.deps.length : Int) < (x.deps.length : Int) := by omega
          have HN := Lib.hid (show rowsZ X k ++ [M] = rowsZ X (k + 1) by
            unfold rowsZ
            rw [List.take_add_one, HX.out, HM.out, List.take_length]
            simp)
          have HTOP := Lib.hid (show wr.ownsRow w.heap.size 79 1 (.slice oo (rowsZ X k).length oc) (rowsZ X k).length (hdrs R (nat2 (rowsZ X k))) from Go.Proofs.YtndfhejfhfhbdaaGreatDoor.R.own_below HO.out.top HBQ.out)
          have HOA := Lib.hid (HO.out.below HBQ.out)
          have hrl : (rowsZ X k).length ≤ 10000 := by unfold rowsZ; rw [List.length_map, List.length_take]; omega
          go_wp2_with (refine wpList_append_lies _ (by rfl) (.tmp 38) (.tmp 40) 76 (by rfl) w.heap.size 79 i1 _ 1 24 Tryz.underlying76 hi1 hy0 hy1 hy2 rfl (by decide) (.slice oo (rowsZ X k).length oc) (rowsZ X k).length (hdrs R (nat2 (rowsZ X k))) (by rfl) (by exact HTOP.out.alloc _) ⟨wr.heap.size, 0, none⟩ 1 1 [.slice eo M.length ec] (by rfl) (by rfl) (World.news_of_block (cs := #[.slice eo M.length ec]) (t := 79) (fr := (0, 0)) (heap_alloc_new wr _)) (by simp [Value.oneCell']) (by omega) (by unfold maxLen; omega) (by omega) (by simp; omega) (wr.heap.size + 1) (by simp) ?_; intro gg cg w7 hown hgrow hat hlt7; have HG7 := Lib.hid (And.intro hown (And.intro hgrow hat)); clear hown hgrow hat)
          have hmore := HOA.out.more (own_base HOQ.out (fun q hq => Nat.le_trans hWr (HOQ.out.lt q hq).1)) HG7.out.1 HG7.out.2.1
          rw [HN.out] at hmore
          have HZ := Lib.hid hmore.1
          have HBZ := Lib.hid (show Below w.heap.size w w7 from HBA.out.trans (hmore.2.below (fun q ⟨a, e1, e2⟩ => by subst e1; rw [e2]; exact (HTOP.out.lt a.block rfl).1) (Nat.le_trans hWr hsq)))
          clear hmore
          go_roundw
          case rel => exact ⟨k + 1, some ⟨gg, 0, none⟩, cg, _, by rw [← HN.out]; simp, by go_num, by omega, HZ.out, HBZ.out⟩
          case measure => simp [intOf]; omega
    · obtain rfl : k = X.length := by omega
      have hii : ¬ (X.length : Int) < (X.length : Int) := by omega
      have HF := Lib.hid HO.out
      have HBF := Lib.hid HBR.out
      have hrl : (rowsZ X X.length).length = X.length := by unfold rowsZ; simp
      go_wp2_with fail
      go_ret
      exact ⟨oo, oc, rfl, ⟨R, HF.out⟩, HBF.out⟩
end Go.Proofs.YtndfhejfhfhbdaaGreatDoor.O

/- order.closed. -/
namespace Go.Proofs.YtndfhejfhfhbdaaGreatDoor.O
open Go.RowKit Go.Proofs.YtndfhejfhfhbdaaGreatDoor.M Go.BigFrame Go.Proofs.YtndfhejfhfhbdaaGreatDoor.K Go.Proofs.YtndfhejfhfhbdaaGreatDoor.R
set_option linter.unusedVariables false
set_option linter.unusedSimpArgs false

def goodR (x : Rv) : Bool := recOk x && decide (x.st = 3)
def okR (X : List Rv) : Bool := X.all goodR
theorem okR_no {X : List Rv} {x : Rv} (hx : x ∈ X) (h : goodR x = false) : okR X = false := by
  cases e : okR X with
  | false => rfl
  | true => rw [List.all_eq_true.1 e x hx] at h; cases h
theorem okR_perm {X Y : List Rv} (hp : X.Perm Y) : okR X = okR Y := by
  unfold okR
  rw [Bool.eq_iff_iff, List.all_eq_true, List.all_eq_true]
  exact ⟨fun h x hx => h x (hp.mem_iff.2 hx), fun h x hx => h x (hp.mem_iff.1 hx)⟩
theorem errO_form (l : List Nd) : errO false l = 4 := by simp [errO]
theorem errO_there {l : List Nd} (h : ¬ Unl l) : errO true l = 9 := by simp [errO, h]
theorem errO_none {l : List Nd} (h : Unl l) (hm : missB l = true) : errO true l = 8 := by simp [errO, h, hm]
theorem errO_fine {l : List Nd} (h : Unl l) (hm : missB l = false) : errO true l = 0 := by simp [errO, h, hm]
theorem take_next {α : Type} {p : α → Prop} {l : List α} {k : Nat} {x : α} (h : ∀ y ∈ l.take k, p y) (hx : l[k]? = some x) (hp : p x) : ∀ y ∈ l.take (k + 1), p y := by
  intro y hy
  rw [List.take_add_one, hx] at hy
  rcases List.mem_append.1 hy with h1 | h1
  · exact h y h1
  · simp at h1; subst h1; exact hp
theorem miss_yes {X : List Rv} {x : Rv} {d : Id} (hx : x ∈ X) (hd : d ∈ x.deps) (hn : d ∉ idsX X) : missB (nds X) = true := by
  cases e : missB (nds X) with
  | true => rfl
  | false => exact absurd (nds_ids X ▸ missB_no.1 e x.nd (List.mem_map.2 ⟨x, hx, rfl⟩) d hd) hn
theorem miss_no {X : List Rv} (h : ∀ x ∈ X, ∀ d ∈ x.deps, d ∈ idsX X) : missB (nds X) = false :=
  missB_no.2 fun a ha d hd => by
    obtain ⟨x, hx, rfl⟩ := List.mem_map.1 ha
    rw [nds_ids]
    exact h x hx d hd
set_option maxRecDepth 100000 in
set_option maxHeartbeats 4000000 in
theorem closed_any (X : List Rv) (ao : Option Addr) (cap : Nat) (w : World) (h : RecsV w ao cap X) (hT : Tabs w) (hl : X.length ≤ 10000) (hdl : ∀ x ∈ X, x.deps.length ≤ 10000) (hkl : ∀ x ∈ X, x.cmd.key.size ≤ 1000000) (v : Int) (hv : errO (okR X) (nds X) = v) :
    Calls Tryz.prog 43 #[.slice ao X.length cap] w fun e w' => e = .returned (.int .i64 v) ∧ Below w.heap.size w w' := by
  obtain ⟨hl1, hl2⟩ := h.le
  unfold maxLen at hl2
  have HV := Lib.hid hv
  have H0 := Lib.hid h
  have HT0 := Lib.hid hT
  have HDL := Lib.hid hdl
  have HKL := Lib.hid hkl
  have HPL := Lib.hid (places_any X ao cap w h (by omega))
  clear h hT hdl hkl hv
  go_enter Tryz.func43, Tryz.ntmps43
  go_wp2_with fail
  refine HPL.out.mono ?_
  rintro e W ⟨rfl, hp, hb⟩
  have HP := Lib.hid hp
  have HB := Lib.hid hb
  have H := Lib.hid (H0.out.below hb)
  have HT := Lib.hid (HT0.out.next hb)
  have HOK := Lib.hid (show ∀ y ∈ idsX X, IdI y from fun y hy => by
    obtain ⟨z, hz, rfl⟩ := List.mem_map.1 hy
    exact (H.out.ok z hz).id)
  clear hp hb HPL H0 HT0
  go_wp2_with fail
  go_loopw [16] (fun kv wr => ∃ (k : Nat), kv = .int .i64 k ∧ k ≤ X.length ∧ (∀ x ∈ X.take k, goodR x = true) ∧ Below W.heap.size W wr) (fun kv _ => X.length - (intOf kv).toNat)
  case atStart => exact ⟨0, rfl, Nat.zero_le _, by simp, Below.refl _ _⟩
  case round =>
    obtain ⟨k, rfl, hk, hg, hb⟩ := hrel
    have HG := Lib.hid hg
    have HBR := Lib.hid hb
    clear hg hb
    have hWr := HBR.out.size
    by_cases hkl : k < X.length
    · have hii : (k : Int) < (X.length : Int) := by omega
      obtain ⟨x, hx⟩ : ∃ x, X[k]? = some x := ⟨_, List.getElem?_eq_getElem hkl⟩
      have HX := Lib.hid hx
      obtain ⟨b, off, e0, hbl, hrec⟩ := H.out.row k x hx
      subst e0
      obtain ⟨c0, c1, c2, c3, c4, c5, c6, c7, c8, c9, c10, c11, c12, c13, c14, c15⟩ := hrec.below HBR.out hbl
      clear hx hrec
      go_upto_region 5 with fail
      obtain ⟨w1, hw1⟩ : ∃ w1, w1 = wr.alloc (recO x) := ⟨_, rfl⟩
      have HB1 := Lib.hid (show Below W.heap.size W w1 by rw [hw1]; exact HBR.out.alloc hWr _)
      have HX1 : Hid (Boxed x wr.heap.size w1) := Lib.hid ⟨by rw [hw1]; exact heap_alloc_new wr _, (H.out.ok x (List.mem_of_getElem? HX.out)).deps.below (B := 0) HB1.out, HT.out.next HB1.out⟩
      rw [← hw1]
      clear hw1 c0 c1 c2 c3 c4 c5 c6 c7 c8 c9 c10 c11 c12 c13 c14 c15
      obtain ⟨c0, c1, c2, c3, c4, c5, c6, c7, c8, c9, c10, c11, c12, c13, c14, c15⟩ := box16 (HX1.out).box
      have hxm := List.mem_of_getElem? HX.out
      obtain ⟨rb, hrb⟩ : ∃ b, recOk x = b := ⟨_, rfl⟩
      obtain ⟨sb, hsb⟩ : ∃ b, decide (x.st = 3) = b := ⟨_, rfl⟩
      have HGD := Lib.hid (show goodR x = (rb && sb) by unfold goodR; rw [hrb, hsb])
      have HC := Lib.hid (reccheck_any x w1 ⟨(H.out.ok x hxm).cmd, HX1.out.deps, (H.out.ok x hxm).id⟩ HX1.out.tab (by have := HDL.out x hxm; omega) (HKL.out x hxm) _ rfl)
      rw [hrb] at HC
      clear hrb hxm
      cases rb with
      | false =>
        have HE := Lib.hid (show v = 4 by rw [← HV.out, okR_no (List.mem_of_getElem? HX.out) (by rw [HGD.out]; rfl), errO_form])
        clear hsb
        go_wp2_with fail
        refine HC.out.mono ?_
        rintro e w2 ⟨rfl, hb2⟩
        have HB2 := Lib.hid (HB.out.trans ((HB1.out.trans (hb2.mono HB1.out.size)).mono HB.out.size))
        clear hb2 c0 c1 c2 c3 c4 c5 c6 c7 c8 c9 c10 c11 c12 c13 c14 c15
        go_wp2_with fail
        go_ret
        exact ⟨by rw [HE.out]; rfl, HB2.out⟩
      | true =>
        go_wp2_with fail
        refine HC.out.mono ?_
        rintro e w2 ⟨rfl, hb2⟩
        have HB2 := Lib.hid (HB1.out.trans (hb2.mono HB1.out.size))
        have HX2 := Lib.hid (HX1.out.next hb2)
        clear hb2 c0 c1 c2 c3 c4 c5 c6 c7 c8 c9 c10 c11 c12 c13 c14 c15
        obtain ⟨c0, c1, c2, c3, c4, c5, c6, c7, c8, c9, c10, c11, c12, c13, c14, c15⟩ := box16 (HX2.out).box
        cases sb with
        | false =>
          have hst : ¬ x.st = 3 := of_decide_eq_false hsb
          have HE := Lib.hid (show v = 4 by rw [← HV.out, okR_no (List.mem_of_getElem? HX.out) (by rw [HGD.out]; rfl), errO_form])
          have HB3 := Lib.hid (HB.out.trans (HB2.out.mono HB.out.size))
          clear hsb
          go_wp2_with fail
          go_ret
          exact ⟨by rw [HE.out]; rfl, HB3.out⟩
        | true =>
          have hst : x.st = 3 := of_decide_eq_true hsb
          have HN := Lib.hid (take_next HG.out HX.out HGD.out)
          clear hsb
          go_wp2_with fail
          go_roundw
          case rel => exact ⟨k + 1, by go_num, by omega, HN.out, HB2.out⟩
          case measure => simp [intOf]; omega
    · obtain rfl : k = X.length := by omega
      have hii : ¬ (X.length : Int) < (X.length : Int) := by omega
      have HOKR := Lib.hid (show okR X = true from List.all_eq_true.2 fun x hx => HG.out x (by rw [List.take_length]; exact hx))
      have HP1 := Lib.hid (HP.out.below HBR.out)
      have hsz := pmap_size HOK.out X.length (by simp)
      rw [take_ids] at hsz
      obtain ⟨m, hm⟩ : ∃ m, Maps.size (pmap (idsX X) X.length) = m := ⟨_, rfl⟩
      rw [hm] at hsz
      have HM := Lib.hid hm
      obtain ⟨hs1, hs2⟩ := hsz
      have HS2 := Lib.hid hs2
      clear hm hs2 HG
      go_upto_region 8 with fail
      by_cases hml : m = X.length
      · as_aux_lemma =>
        have HU := Lib.hid (show Unl (nds X) by unfold Unl; rw [nds_ids]; exact HS2.out.1 hml)
        subst hml
        have hne : ((X.length : Int) != (X.length : Int)) = false := by simp
        go_wp2_with (at_len; refine wpList_len_own _ rfl _ _ rfl 27 3 Tryz.underlying81 _ w.heap.size X.length (pmap (idsX X) X.length) rfl HP1.out ?_; rw [HM.out])
        clear hne hii
        have HBR0 := Lib.hid HBR.out
        clear HBR HP1
        obtain ⟨wa, rfl⟩ : ∃ wa, wa = wr := ⟨_, rfl⟩
        go_loopw [36] (fun kv wr => ∃ (k : Nat), kv = .int .i64 k ∧ k ≤ X.length ∧ (∀ x ∈ X.take k, ∀ d ∈ x.deps, d ∈ idsX X) ∧ Below W.heap.size W wr) (fun kv _ => X.length - (intOf kv).toNat)
        case atStart => exact ⟨0, rfl, Nat.zero_le _, by simp, HBR0.out⟩
        case round =>
          obtain ⟨k, rfl, hk, hg, hb⟩ := hrel
          have HG := Lib.hid hg
          have HBR := Lib.hid hb
          clear hg hb HBR0
          have hWr := HBR.out.size
          by_cases hkl : k < X.length
          · have hii : (k : Int) < (X.length : Int) := by omega
            obtain ⟨x, hx⟩ : ∃ x, X[k]? = some x := ⟨_, List.getElem?_eq_getElem hkl⟩
            have HX := Lib.hid hx
            obtain ⟨b, off, e0, hbl, hrec⟩ := H.out.row k x hx
            subst e0
            obtain ⟨c0, c1, c2, c3, c4, c5, c6, c7, c8, c9, c10, c11, c12, c13, c14, c15⟩ := hrec.below HBR.out hbl
            clear hx hrec
            go_upto_region 13 with fail
            obtain ⟨w1, hw1⟩ : ∃ w1, w1 = wr.alloc (recO x) := ⟨_, rfl⟩
            have HB1 := Lib.hid (show Below W.heap.size W w1 by rw [hw1]; exact HBR.out.alloc hWr _)
            have HX1 : Hid (Boxed x wr.heap.size w1) := Lib.hid ⟨by rw [hw1]; exact heap_alloc_new wr _, (H.out.ok x (List.mem_of_getElem? HX.out)).deps.below (B := 0) HB1.out, HT.out.next HB1.out⟩
            rw [← hw1]
            clear hw1 c0 c1 c2 c3 c4 c5 c6 c7 c8 c9 c10 c11 c12 c13 c14 c15
            obtain ⟨c0, c1, c2, c3, c4, c5, c6, c7, c8, c9, c10, c11, c12, c13, c14, c15⟩ := box16 (HX1.out).box
            have hdx := HDL.out x (List.mem_of_getElem? HX.out)
            go_wp2_with fail
            obtain ⟨wb, rfl⟩ : ∃ wb, wb = wr := ⟨_, rfl⟩
            obtain ⟨xo, hxo⟩ : ∃ xo, x.ao = xo := ⟨_, rfl⟩
            rw [hxo]
            have HXO := Lib.hid hxo
            clear hxo
            go_loopw [44] (fun kv wr => ∃ (j : Nat), kv = .int .i64 j ∧ j ≤ x.deps.length ∧ (∀ d ∈ x.deps.take j, d ∈ idsX X) ∧ Below w1.heap.size w1 wr) (fun kv _ => x.deps.length - (intOf kv).toNat)
            case atStart => exact ⟨0, rfl, Nat.zero_le _, by simp, Below.refl _ _⟩
            case round =>
              obtain ⟨j, rfl, hj, hgj, hbq⟩ := hrel
              have HGJ := Lib.hid hgj
              have HBQ := Lib.hid hbq
              clear hgj hbq
              have hsq := HBQ.out.size
              have HXQ := Lib.hid (HX1.out.next HBQ.out)
              have HBW := Lib.hid (HB1.out.trans (HBQ.out.mono HB1.out.size))
              by_cases hjl : j < x.deps.length
              · have hjj : (j : Int) < (x.deps.length : Int) := by omega
                obtain ⟨d, hd⟩ : ∃ d, x.deps[j]? = some d := ⟨_, List.getElem?_eq_getElem hjl⟩
                have HD := Lib.hid hd
                obtain ⟨b2, off2, e2, hbl2, y0, y1⟩ := HXQ.out.deps.row j d hd
                have HID := Lib.hid (HXQ.out.deps.ok d (List.mem_of_getElem? hd))
                obtain rfl : xo = some ⟨b2, off2, none⟩ := HXO.out.symm.trans e2
                clear hd e2
                go_upto_region 16 with fail
                obtain ⟨w3, hw3⟩ : ∃ w3, w3 = wr.alloc (idO d) := ⟨_, rfl⟩
                have hb3 : Below wr.heap.size wr w3 := by rw [hw3]; exact (Below.refl _ _).alloc (Nat.le_refl _) _
                have HB3 := Lib.hid (HBQ.out.trans (hb3.mono hsq))
                have HP3 := Lib.hid (HP.out.below (HBW.out.trans (hb3.mono HBW.out.size)))
                obtain ⟨⟨z0, z1⟩, _⟩ := box2 (show w3.heap[wr.heap.size]? = some (idO d) by rw [hw3]; exact heap_alloc_new wr _)
                rw [← hw3]
                clear hw3 hb3 y0 y1
                have hs3 := HB3.out.size
                by_cases hdm : d ∈ idsX X
                · have hhas : Maps.has (pmap (idsX X) X.length) (klI d) = true := by rw [pmap_has HOK.out HID.out _ (by simp), take_ids]; exact decide_eq_true hdm
                  have HHAS := Lib.hid hhas
                  have HN := Lib.hid (take_next HGJ.out HD.out hdm)
                  clear hhas hdm
                  go_wp2_with (at_lookup; refine wpList_lookup_own_ok_int _ rfl (.tmp 49) (.tmp 50) 81 rfl 27 3 .i64 id_keyed Tryz.underlying81 Tryz.underlying3 (Tryz.zeroValue3 _) w.heap.size X.length (pmap (idsX X) X.length) rfl HP3.out (idV d) (klI d) rfl (key_id d HID.out) ?_; intro cc hat hwc; rw [HHAS.out]; clear hat hwc)
                  go_roundw
                  case rel => exact ⟨j + 1, by go_num, by omega, HN.out, HB3.out⟩
                  case measure => simp [intOf]; omega
                · have hhas : Maps.has (pmap (idsX X) X.length) (klI d) = false := by rw [pmap_has HOK.out HID.out _ (by simp), take_ids]; exact decide_eq_false hdm
                  have HHAS := Lib.hid hhas
                  have HE := Lib.hid (show v = 8 by rw [← HV.out, HOKR.out]; exact errO_none HU.out (miss_yes (List.mem_of_getElem? HX.out) (List.mem_of_getElem? HD.out) hdm))
                  have HBF := Lib.hid (HB.out.trans ((HB1.out.trans (HB3.out.mono HB1.out.size)).mono HB.out.size))
                  clear hhas hdm
                  go_wp2_with (at_lookup; refine wpList_lookup_own_ok_int _ rfl (.tmp 49) (.tmp 50) 81 rfl 27 3 .i64 id_keyed Tryz.underlying81 Tryz.underlying3 (Tryz.zeroValue3 _) w.heap.size X.length (pmap (idsX X) X.length) rfl HP3.out (idV d) (klI d) rfl (key_id d HID.out) ?_; intro cc hat hwc; rw [HHAS.out]; clear hat hwc)
                  go_ret
                  exact ⟨by rw [HE.out]; rfl, HBF.out⟩
              · obtain rfl : j = x.deps.length := by omega
                have hjj : ¬ (x.deps.length : Int) < (x.deps.length : Int) := by omega
                have HN := Lib.hid (take_next HG.out HX.out (fun d hd => HGJ.out d (by rw [List.take_length]; exact hd)))
                go_wp2_with fail
                go_roundw
                case rel => exact ⟨k + 1, by go_num, by omega, HN.out, HBW.out⟩
                case measure => simp [intOf]; omega
          · obtain rfl : k = X.length := by omega
            have hii : ¬ (X.length : Int) < (X.length : Int) := by omega
            have HE := Lib.hid (show v = 0 by
              rw [← HV.out, HOKR.out]
              exact errO_fine HU.out (miss_no fun x hx => HG.out x (by rw [List.take_length]; exact hx)))
            have HBF := Lib.hid (HB.out.trans (HBR.out.mono HB.out.size))
            go_wp2_with fail
            go_ret
            exact ⟨by rw [HE.out]; rfl, HBF.out⟩
      · have HE := Lib.hid (show v = 9 by rw [← HV.out, HOKR.out]; exact errO_there (fun h => hml (HS2.out.2 (nds_ids X ▸ h))))
        have HBF := Lib.hid (HB.out.trans (HBR.out.mono HB.out.size))
        have hne : ((m : Int) != (X.length : Int)) = true := by simp; omega
        go_wp2_with (at_len; refine wpList_len_own _ rfl _ _ rfl 27 3 Tryz.underlying81 _ w.heap.size X.length (pmap (idsX X) X.length) rfl HP1.out ?_; rw [HM.out])
        go_ret
        exact ⟨by rw [HE.out]; rfl, HBF.out⟩
end Go.Proofs.YtndfhejfhfhbdaaGreatDoor.O
