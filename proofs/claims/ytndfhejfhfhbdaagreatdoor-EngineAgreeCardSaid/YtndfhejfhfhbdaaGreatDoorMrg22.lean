/- Several texts in one. -/
import Derived.Test.YtndfhejfhfhbdaaGreatDoorMrg20
import Derived.Test.YtndfhejfhfhbdaaGreatDoorMrg21
import Derived.Test.YtndfhejfhfhbdaaGreatDoorMrg16

/- order.graph. -/
namespace Go.Proofs.YtndfhejfhfhbdaaGreatDoor.O
open Go.RowKit Go.Proofs.YtndfhejfhfhbdaaGreatDoor.M Go.BigFrame Go.Proofs.YtndfhejfhfhbdaaGreatDoor.K
set_option linter.unusedVariables false
set_option linter.unusedSimpArgs false

theorem PMap.below {w w1 : World} {b k : Nat} {ids : List Id} (h : PMap w b ids k) (hb : Below w.heap.size w w1) : PMap w1 b ids k := by
  have hl := h.lt
  obtain ⟨es, clock, h1, h2⟩ := h
  exact ⟨es, clock, (hb.block b hl).trans h1, h2⟩
theorem iv_flat (l : List Nat) : l.flatMap (fun n : Nat => [Value.int .i64 (n : Int)]) = iv l := by
  induction l with
  | nil => rfl
  | cons a l ih => rw [List.flatMap_cons, ih]; rfl
theorem own_empty (w : World) (e : TypeId) (s : Nat) (t : Nat × Nat) : (w.alloc (.cells #[] e)).ownsRow w.heap.size e s (.slice (some ⟨w.heap.size, 0, none⟩) 0 0) 0 [] := by
  have h := heap_alloc_new w (.cells #[] e)
  exact ⟨by simp, .inr ⟨w.heap.size, 0, #[], rfl, Nat.le_refl _, h, Nat.le_refl _, by simp, by simp, by simp⟩⟩
theorem at_idx {l : List Id} {d : Id} (h : d ∈ l) : l[l.idxOf d]? = some d := by
  rw [List.getElem?_eq_getElem (List.idxOf_lt_length_iff.2 h), List.getElem_idxOf]
theorem take_ids (X : List Rv) : (idsX X).take X.length = idsX X := List.take_of_length_le (by simp)
theorem own_some {w : World} {B : Nat} {e : TypeId} {s : Nat} {oo : Option Addr} {n c : Nat} {xs : List Value} (h : w.ownsRow B e s (.slice oo n c) n xs) (h0 : 0 < n) : ∃ g, oo = some ⟨g, 0, none⟩ := by
  obtain ⟨ao', cap', e0, h1, h2, h3, h4⟩ := M.own_view h
  cases e0
  cases oo with
  | none => have := (h3 rfl).1; omega
  | some a =>
    obtain ⟨g, cur, rfl, _⟩ := h4 a rfl
    exact ⟨g, rfl⟩
theorem OutAt.base {B B2 : Nat} {w : World} {oo : Option Addr} {oc : Nat} {R : List (Option Addr × Nat)} {L : List (List Nat)} (h : OutAt B w oo oc R L) (hb : B2 ≤ B) : OutAt B2 w oo oc R L :=
  ⟨own_base h.top (fun q hq => Nat.le_trans hb (h.top.lt q hq).1), h.rl, fun i c r hc hr => own_base (h.row i c r hc hr) (fun q hq => Nat.le_trans hb ((h.row i c r hc hr).lt q hq).1)⟩
/-- one round's row of edges -/
def GRow (w : World) (B g c : Nat) (M : List Nat) : Prop := w.ownsRow B 3 1 (.slice (some ⟨g, 0, none⟩) M.length c) M.length (iv M)
set_option maxRecDepth 100000 in
set_option maxHeartbeats 4000000 in
theorem graph_any (X : List Rv) (ao : Option Addr) (cap : Nat) (w : World) (h : RecsV w ao cap X) (hl : X.length ≤ 10000) (hn : (idsX X).Nodup) (hdl : ∀ x ∈ X, x.deps.length ≤ 10000) :
    Calls Tryz.prog 48 #[.slice ao X.length cap] w fun e w' => ∃ oo oc R, e = .returned (.slice oo X.length oc) ∧ (OutAt w.heap.size w' oo oc R (rowsG X X.length) ∧ Below w.heap.size w w') := by
  obtain ⟨hl1, hl2⟩ := h.le
  unfold maxLen at hl2
  obtain ⟨i0, hi, hz0, hz1, hz2⟩ := info_parts info_int
  obtain ⟨i1, hi1, hy0, hy1, hy2⟩ := info_parts info_ints
  have H0 := Lib.hid h
  have HND := Lib.hid hn
  have HDL := Lib.hid hdl
  have HPL := Lib.hid (places_any X ao cap w h (by omega))
  clear h hn hdl
  go_enter Tryz.func48, Tryz.ntmps48
  go_wp2_with fail
  refine HPL.out.mono ?_
  rintro e W ⟨rfl, hp, hb⟩
  have HP := Lib.hid hp
  have HB := Lib.hid hb
  have H := Lib.hid (H0.out.below hb)
  clear hp hb HPL H0
  go_wp2_with fail
  go_loopw [4, 16] (fun ov kv wr => ∃ (k : Nat) (oo : Option Addr) (oc : Nat) (R : List (Option Addr × Nat)), ov = .slice oo (rowsG X k).length oc ∧ kv = .int .i64 k ∧ k ≤ X.length ∧ OutAt W.heap.size wr oo oc R (rowsG X k) ∧ Below W.heap.size W wr) (fun _ kv _ => X.length - (intOf kv).toNat)
  case atStart => exact ⟨0, none, 0, [], rfl, rfl, Nat.zero_le _, OutAt.nil _ _, Below.refl _ _⟩
  case round =>
    obtain ⟨k, oo, oc, R, rfl, rfl, hk, ho, hb⟩ := hrel
    have HO := Lib.hid ho
    have HBR := Lib.hid hb
    clear ho hb
    have hWr := HBR.out.size
    by_cases hkl : k < X.length
    · have hii : (k : Int) < (X.length : Int) := by omega
      obtain ⟨x, hx⟩ : ∃ x, X[k]? = some x := ⟨_, List.getElem?_eq_getElem hkl⟩
      have HX := Lib.hid hx
      obtain ⟨b, off, e0, hbl, hrec⟩ := H.out.row k x hx
      subst e0
      obtain ⟨c0, c1, c2, c3, c4, c5, c6, c7, c8, c9, c10, c11, c12, c13, c14, c15⟩ := hrec.below HBR.out hbl
      clear hx hrec
      go_upto_region 6 with fail
      obtain ⟨w1, hw1⟩ : ∃ w1, w1 = wr.alloc (recO x) := ⟨_, rfl⟩
      have hba : w1.heap[wr.heap.size]? = some (recO x) := by rw [hw1]; exact heap_alloc_new wr _
      rw [← hw1]
      clear c0 c1 c2 c3 c4 c5 c6 c7 c8 c9 c10 c11 c12 c13 c14 c15
      obtain ⟨c0, c1, c2, c3, c4, c5, c6, c7, c8, c9, c10, c11, c12, c13, c14, c15⟩ := box16 hba
      go_upto_region 8 with fail
      obtain ⟨w2, hw2⟩ : ∃ w2, w2 = (wr.alloc (recO x)).alloc (.cells #[] 3) := ⟨_, rfl⟩
      obtain ⟨B1, hB1⟩ : ∃ B1, B1 = wr.heap.size + 1 := ⟨_, rfl⟩
      have HOW := Lib.hid (show w2.ownsRow B1 3 1 (.slice (some ⟨B1, 0, none⟩) 0 0) 0 [] by
        have := own_empty (wr.alloc (recO x)) 3 1 (0, 0)
        rw [← hw2] at this
        simpa [hB1] using this)
      have HB2 := Lib.hid (show Below wr.heap.size wr w2 by rw [hw2]; exact ((Below.refl _ _).alloc (Nat.le_refl _) _).alloc (by simp) _)
      have hs2 : w2.heap.size = B1 + 1 := by rw [hw2, hB1]; simp
      have HP2 := Lib.hid (HP.out.below HBR.out)
      have HD2 := Lib.hid ((H.out.ok x (List.mem_of_getElem? HX.out)).deps.below (B := 0) HBR.out)
      have HOK := Lib.hid (show ∀ y ∈ idsX X, IdI y from fun y hy => by
        obtain ⟨z, hz, rfl⟩ := List.mem_map.1 hy
        exact (H.out.ok z hz).id)
      have HBI := Lib.hid hB1
      have hdx := HDL.out x (List.mem_of_getElem? HX.out)
      rw [← hw2, ← hB1]
      clear hw1 hba hw2 hB1 c0 c1 c2 c3 c4 c5 c6 c7 c8 c9 c10 c11 c12 c13 c14 c15
      obtain ⟨wa, rfl⟩ : ∃ wa, wa = wr := ⟨_, rfl⟩
      obtain ⟨xo, hxo⟩ : ∃ xo, x.ao = xo := ⟨_, rfl⟩
      rw [hxo]
      have HXO := Lib.hid hxo
      clear hxo
      go_loopw [7, 25] (fun ev kv wq => ∃ (j : Nat) (M : List Nat) (g c : Nat), ev = .slice (some ⟨g, 0, none⟩) M.length c ∧ kv = .int .i64 j ∧ j ≤ x.deps.length ∧ M = plN (idsX X) (x.deps.take j) ∧ wq.ownsRow B1 3 1 (.slice (some ⟨g, 0, none⟩) M.length c) M.length (iv M) ∧ Below B1 w2 wq) (fun _ kv _ => x.deps.length - (intOf kv).toNat)
      case atStart => exact ⟨0, [], B1, 0, rfl, rfl, Nat.zero_le _, by simp [plN], HOW.out, Below.refl _ _⟩
      case round =>
        obtain ⟨j, M, g, c, rfl, rfl, hj, hM, hown, hbq⟩ := hrel
        have HM := Lib.hid hM
        have HOQ := Lib.hid hown
        have HBQ := Lib.hid hbq
        have hMl : M.length ≤ 10000 := by
          have h1 : M.length ≤ (x.deps.take j).length := by rw [hM]; exact List.length_filterMap_le _ _
          rw [List.length_take] at h1
          omega
        clear hM hown hbq
        have hsq := HBQ.out.size
        have HBA := Lib.hid (HB2.out.trans (HBQ.out.mono (B' := wa.heap.size) (by have := HBI.out; omega)))
        have HPQ := Lib.hid (HP2.out.below HBA.out)
        have HDQ := Lib.hid (HD2.out.below (B := 0) HBA.out)
        by_cases hjl : j < x.deps.length
        · have hjj : (j : Int) < (x.deps.length : Int) := by omega
          obtain ⟨d, hd⟩ : ∃ d, x.deps[j]? = some d := ⟨_, List.getElem?_eq_getElem hjl⟩
          have HD := Lib.hid hd
          obtain ⟨b2, off2, e2, hbl2, y0, y1⟩ := HDQ.out.row j d hd
          have HID := Lib.hid (HDQ.out.ok d (List.mem_of_getElem? hd))
          obtain rfl : xo = some ⟨b2, off2, none⟩ := HXO.out.symm.trans e2
          clear hd e2
          go_upto_region 10 with fail
          obtain ⟨w3, hw3⟩ : ∃ w3, w3 = wr.alloc (idO d) := ⟨_, rfl⟩
          have hb3 : Below wr.heap.size wr w3 := by rw [hw3]; exact (Below.refl _ _).alloc (Nat.le_refl _) _
          have HB3 := Lib.hid (HBQ.out.trans (hb3.mono (by omega)))
          have HO3 := Lib.hid (show w3.ownsRow B1 3 1 (.slice (some ⟨g, 0, none⟩) M.length c) M.length (iv M) by rw [hw3]; exact HOQ.out.alloc _)
          have HP3 := Lib.hid (HPQ.out.below hb3)
          obtain ⟨⟨z0, z1⟩, _⟩ := box2 (show w3.heap[wr.heap.size]? = some (idO d) by rw [hw3]; exact heap_alloc_new wr _)
          rw [← hw3]
          clear hw3 hb3 y0 y1
          have hs3 := HB3.out.size
          by_cases hdm : d ∈ idsX X
          · have hhas : Maps.has (pmap (idsX X) X.length) (klI d) = true := by rw [pmap_has HOK.out HID.out _ (by simp), take_ids]; exact decide_eq_true hdm
            have hidx : (idsX X)[(idsX X).idxOf d]? = some d := at_idx hdm
            have hat0 := pmap_at HOK.out HND.out hidx (.lit (.int .i64 0)) X.length (by have := List.idxOf_lt_length_iff.2 hdm; simpa using this) (by simp)
            have HHAS := Lib.hid hhas
            have HAT := Lib.hid hat0
            have HN := Lib.hid (show M ++ [(idsX X).idxOf d] = plN (idsX X) (x.deps.take (j + 1)) by rw [List.take_add_one, HD.out]; simp only [Option.toList_some]; rw [plN_app, ← HM.out, plN_in hdm])
            clear hhas hidx hat0 hdm
            go_upto_region 11 with (at_lookup; refine wpList_lookup_own_ok_int _ rfl (.tmp 30) (.tmp 31) 81 rfl 27 3 .i64 id_keyed Tryz.underlying81 Tryz.underlying3 (Tryz.zeroValue3 _) w.heap.size X.length (pmap (idsX X) X.length) rfl HP3.out (idV d) (klI d) rfl (key_id d HID.out) ?_; intro cc hat hwc; rw [HHAS.out]; obtain rfl : cc = ((idsX X).idxOf d : Int) := (by rw [HAT.out] at hat; cases hat; rfl); clear hat hwc)
            clear z0 z1
            go_wp2_with (refine wpList_app (fun n : Nat => [Value.int .i64 (n : Int)]) 1 (fun _ => rfl) (by decide) (fun n v hv => by rw [List.mem_singleton.1 hv]; rfl) (by rfl) (.tmp 36) (.tmp 38) 79 (by rfl) B1 3 i0 _ 8 Tryz.underlying79 hi hz0 hz1 hz2 (by decide) rfl (some ⟨g, 0, none⟩) c M ((idsX X).idxOf d) #[.int .i64 ((idsX X).idxOf d : Nat)] rfl (by rfl) (by rw [iv_flat]; exact HO3.out) (by rfl) (by omega) (by omega) ?_; intro oo' oc' w7 hown hmod hbel; rw [iv_flat] at hown; have HOW7 := Lib.hid hown; have HBE7 := Lib.hid hbel; clear hown hmod hbel)
            obtain ⟨g3, rfl⟩ := own_some HOW7.out (by simp)
            go_roundw
            case rel => exact ⟨j + 1, M ++ [(idsX X).idxOf d], g3, oc', by simp, by go_num, by omega, HN.out, HOW7.out, HB3.out.trans HBE7.out⟩
            case measure => simp [intOf]; omega
          · have hhas : Maps.has (pmap (idsX X) X.length) (klI d) = false := by rw [pmap_has HOK.out HID.out _ (by simp), take_ids]; exact decide_eq_false hdm
            have HHAS := Lib.hid hhas
            have HN := Lib.hid (show M = plN (idsX X) (x.deps.take (j + 1)) by rw [List.take_add_one, HD.out]; simp only [Option.toList_some]; rw [plN_app, ← HM.out, plN_out hdm, List.append_nil])
            clear hhas hdm
            go_upto_region 11 with (at_lookup; refine wpList_lookup_own_ok_int _ rfl (.tmp 30) (.tmp 31) 81 rfl 27 3 .i64 id_keyed Tryz.underlying81 Tryz.underlying3 (Tryz.zeroValue3 _) w.heap.size X.length (pmap (idsX X) X.length) rfl HP3.out (idV d) (klI d) rfl (key_id d HID.out) ?_; intro cc hat hwc; rw [HHAS.out]; clear hat hwc)
            clear z0 z1
            go_wp2_with fail
            go_roundw
            case rel => exact ⟨j + 1, M, g, c, rfl, by go_num, by omega, HN.out, HO3.out, HB3.out⟩
            case measure => simp [intOf]; omega
        · obtain rfl : j = x.deps.length := by omega
          have hjj : ¬ (x.deps.length : Int) < (x.deps.length : Int) := by omega
          have HN := Lib.hid (show rowsG X k ++ [M] = rowsG X (k + 1) by
            unfold rowsG
            rw [List.take_add_one, HX.out, HM.out, List.take_length]
            simp)
          have hB1 : w2.heap.size = B1 + 1 := hs2
          have HTOP := Lib.hid (show wr.ownsRow W.heap.size 79 1 (.slice oo (rowsG X k).length oc) (rowsG X k).length (hdrs R (rowsG X k)) from Go.Proofs.YtndfhejfhfhbdaaGreatDoor.R.own_below HO.out.top HBA.out)
          have HOA := Lib.hid (HO.out.below HBA.out)
          have hrl : (rowsG X k).length ≤ 10000 := by unfold rowsG; rw [List.length_map, List.length_take]; omega
          have hsa := HBA.out.size
          go_wp2_with (refine wpList_append_lies _ (by rfl) (.tmp 41) (.tmp 43) 76 (by rfl) W.heap.size 79 i1 _ 1 24 Tryz.underlying76 hi1 hy0 hy1 hy2 rfl (by decide) (.slice oo (rowsG X k).length oc) (rowsG X k).length (hdrs R (rowsG X k)) (by rfl) (by exact HTOP.out.alloc _) ⟨wr.heap.size, 0, none⟩ 1 1 [.slice (some ⟨g, 0, none⟩) M.length c] (by rfl) (by rfl) (World.news_of_block (cs := #[.slice (some ⟨g, 0, none⟩) M.length c]) (t := 79) (fr := (0, 0)) (heap_alloc_new wr _)) (by simp [Value.oneCell']) (by omega) (by unfold maxLen; omega) (by omega) (by simp; omega) (wr.heap.size + 1) (by simp) ?_; intro gg cg w7 hown hgrow hat hlt7; have HG7 := Lib.hid (And.intro hown (And.intro hgrow hat)); clear hown hgrow hat)
          have hmore := HOA.out.more (own_base HOQ.out (fun q hq => by have := (HOQ.out.lt q hq).1; have := HBI.out; omega)) HG7.out.1 HG7.out.2.1
          rw [HN.out] at hmore
          have HZ := Lib.hid hmore.1
          have HBZ := Lib.hid (show Below W.heap.size W w7 from (HBR.out.trans (HBA.out.mono hWr)).trans (hmore.2.below (fun q ⟨a, e1, e2⟩ => by subst e1; rw [e2]; exact (HTOP.out.lt a.block rfl).1) (Nat.le_trans hWr HBA.out.size)))
          clear hmore
          go_roundw
          case rel => exact ⟨k + 1, some ⟨gg, 0, none⟩, cg, _, by rw [← HN.out]; simp, by go_num, by omega, HZ.out, HBZ.out⟩
          case measure => simp [intOf]; omega
    · obtain rfl : k = X.length := by omega
      have hii : ¬ (X.length : Int) < (X.length : Int) := by omega
      have HF := Lib.hid (show OutAt w.heap.size wr oo oc R (rowsG X X.length) from HO.out.base HB.out.size)
      have HBF := Lib.hid (HB.out.trans (HBR.out.mono HB.out.size))
      have hrl : (rowsG X X.length).length = X.length := by unfold rowsG; simp
      go_wp2_with fail
      go_ret
      exact ⟨oo, oc, rfl, ⟨R, HF.out⟩, HBF.out⟩
end Go.Proofs.YtndfhejfhfhbdaaGreatDoor.O

/- order.closed. -/
namespace Go.Proofs.YtndfhejfhfhbdaaGreatDoor.O
open Go.RowKit Go.Proofs.YtndfhejfhfhbdaaGreatDoor.M Go.BigFrame Go.Proofs.YtndfhejfhfhbdaaGreatDoor.K Go.Proofs.YtndfhejfhfhbdaaGreatDoor.R
set_option linter.unusedVariables false
set_option linter.unusedSimpArgs false

def goodR (x : Rv) : Bool := recOk x && decide (x.st = 3)
def okR (X : List Rv) : Bool := X.all goodR
theorem okR_no {X : List Rv} {x : Rv} (hx : x ∈ X) (h : goodR x = false) : okR X = false := by
  cases e : okR X with
  | false => rfl
  | true => rw [List.all_eq_true.1 e x hx] at h; cases h
theorem okR_perm {X Y : List Rv} (hp : X.Perm Y) : okR X = okR Y := by
  unfold okR
  rw [Bool.eq_iff_iff, List.all_eq_true, List.all_eq_true]
  exact ⟨fun h x hx => h x (hp.mem_iff.2 hx), fun h x hx => h x (hp.mem_iff.1 hx)⟩
theorem errO_form (l : List Nd) : errO false l = 4 := by simp [errO]
theorem errO_there {l : List Nd} (h : ¬ Unl l) : errO true l = 9 := by simp [errO, h]
theorem errO_none {l : List Nd} (h : Unl l) (hm : missB l = true) : errO true l = 8 := by simp [errO, h, hm]
theorem errO_fine {l : List Nd} (h : Unl l) (hm : missB l = false) : errO true l = 0 := by simp [errO, h, hm]
theorem take_next {α : Type} {p : α → Prop} {l : List α} {k : Nat} {x : α} (h : ∀ y ∈ l.take k, p y) (hx : l[k]? = some x) (hp : p x) : ∀ y ∈ l.take (k + 1), p y := by
  intro y hy
  rw [List.take_add_one, hx] at hy
  rcases List.mem_append.1 hy with h1 | h1
  · exact h y h1
  · simp at h1; subst h1; exact hp
theorem miss_yes {X : List Rv} {x : Rv} {d : Id} (hx : x ∈ X) (hd : d ∈ x.deps) (hn : d ∉ idsX X) : missB (nds X) = true := by
  cases e : missB (nds X) with
  | true => rfl
  | false => exact absurd (nds_ids X ▸ missB_no.1 e x.nd (List.mem_map.2 ⟨x, hx, rfl⟩) d hd) hn
theorem miss_no {X : List Rv} (h : ∀ x ∈ X, ∀ d ∈ x.deps, d ∈ idsX X) : missB (nds X) = false :=
  missB_no.2 fun a ha d hd => by
    obtain ⟨x, hx, rfl⟩ := List.mem_map.1 ha
    rw [nds_ids]
    exact h x hx d hd
set_option maxRecDepth 100000 in
set_option maxHeartbeats 4000000 in
theorem closed_any (X : List Rv) (ao : Option Addr) (cap : Nat) (w : World) (h : RecsV w ao cap X) (hT : Tabs w) (hl : X.length ≤ 10000) (hdl : ∀ x ∈ X, x.deps.length ≤ 10000) (hkl : ∀ x ∈ X, x.cmd.key.size ≤ 1000000) (v : Int) (hv : errO (okR X) (nds X) = v) :
    Calls Tryz.prog 43 #[.slice ao X.length cap] w fun e w' => e = .returned (.int .i64 v) ∧ Below w.heap.size w w' := by
  obtain ⟨hl1, hl2⟩ := h.le
  unfold maxLen at hl2
  have HV := Lib.hid hv
  have H0 := Lib.hid h
  have HT0 := Lib.hid hT
  have HDL := Lib.hid hdl
  have HKL := Lib.hid hkl
  have HPL := Lib.hid (places_any X ao cap w h (by omega))
  clear h hT hdl hkl hv
  go_enter Tryz.func43, Tryz.ntmps43
  go_wp2_with fail
  refine HPL.out.mono ?_
  rintro e W ⟨rfl, hp, hb⟩
  have HP := Lib.hid hp
  have HB := Lib.hid hb
  have H := Lib.hid (H0.out.below hb)
  have HT := Lib.hid (HT0.out.next hb)
  have HOK := Lib.hid (show ∀ y ∈ idsX X, IdI y from fun y hy => by
    obtain ⟨z, hz, rfl⟩ := List.mem_map.1 hy
    exact (H.out.ok z hz).id)
  clear hp hb HPL H0 HT0
  go_wp2_with fail
  go_loopw [16] (fun kv wr => ∃ (k : Nat), kv = .int .i64 k ∧ k ≤ X.length ∧ (∀ x ∈ X.take k, goodR x = true) ∧ Below W.heap.size W wr) (fun kv _ => X.length - (intOf kv).toNat)
  case atStart => exact ⟨0, rfl, Nat.zero_le _, by simp, Below.refl _ _⟩
  case round =>
    obtain ⟨k, rfl, hk, hg, hb⟩ := hrel
    have HG := Lib.hid hg
    have HBR := Lib.hid hb
    clear hg hb
    have hWr := HBR.out.size
    by_cases hkl : k < X.length
    · have hii : (k : Int) < (X.length : Int) := by omega
      obtain ⟨x, hx⟩ : ∃ x, X[k]? = some x := ⟨_, List.getElem?_eq_getElem hkl⟩
      have HX := Lib.hid hx
      obtain ⟨b, off, e0, hbl, hrec⟩ := H.out.row k x hx
      subst e0
      obtain ⟨c0, c1, c2, c3, c4, c5, c6, c7, c8, c9, c10, c11, c12, c13, c14, c15⟩ := hrec.below HBR.out hbl
      clear hx hrec
      go_upto_region 5 with fail
      obtain ⟨w1, hw1⟩ : ∃ w1, w1 = wr.alloc (recO x) := ⟨_, rfl⟩
      have HB1 := Lib.hid (show Below W.heap.size W w1 by rw [hw1]; exact HBR.out.alloc hWr _)
      have HX1 : Hid (Boxed x wr.heap.size w1) := Lib.hid ⟨by rw [hw1]; exact heap_alloc_new wr _, (H.out.ok x (List.mem_of_getElem? HX.out)).deps.below (B := 0) HB1.out, HT.out.next HB1.out⟩
      rw [← hw1]
      clear hw1 c0 c1 c2 c3 c4 c5 c6 c7 c8 c9 c10 c11 c12 c13 c14 c15
      obtain ⟨c0, c1, c2, c3, c4, c5, c6, c7, c8, c9, c10, c11, c12, c13, c14, c15⟩ := box16 (HX1.out).box
      have hxm := List.mem_of_getElem? HX.out
      obtain ⟨rb, hrb⟩ : ∃ b, recOk x = b := ⟨_, rfl⟩
      obtain ⟨sb, hsb⟩ : ∃ b, decide (x.st = 3) = b := ⟨_, rfl⟩
      have HGD := Lib.hid (show goodR x = (rb && sb) by unfold goodR; rw [hrb, hsb])
      have HC := Lib.hid (reccheck_any x w1 ⟨(H.out.ok x hxm).cmd, HX1.out.deps, (H.out.ok x hxm).id⟩ HX1.out.tab (by have := HDL.out x hxm; omega) (HKL.out x hxm) _ rfl)
      rw [hrb] at HC
      clear hrb hxm
      cases rb with
      | false =>
        have HE := Lib.hid (show v = 4 by rw [← HV.out, okR_no (List.mem_of_getElem? HX.out) (by rw [HGD.out]; rfl), errO_form])
        clear hsb
        go_wp2_with fail
        refine HC.out.mono ?_
        rintro e w2 ⟨rfl, hb2⟩
        have HB2 := Lib.hid (HB.out.trans ((HB1.out.trans (hb2.mono HB1.out.size)).mono HB.out.size))
        clear hb2 c0 c1 c2 c3 c4 c5 c6 c7 c8 c9 c10 c11 c12 c13 c14 c15
        go_wp2_with fail
        go_ret
        exact ⟨by rw [HE.out]; rfl, HB2.out⟩
      | true =>
        go_wp2_with fail
        refine HC.out.mono ?_
        rintro e w2 ⟨rfl, hb2⟩
        have HB2 := Lib.hid (HB1.out.trans (hb2.mono HB1.out.size))
        have HX2 := Lib.hid (HX1.out.next hb2)
        clear hb2 c0 c1 c2 c3 c4 c5 c6 c7 c8 c9 c10 c11 c12 c13 c14 c15
        obtain ⟨c0, c1, c2, c3, c4, c5, c6, c7, c8, c9, c10, c11, c12, c13, c14, c15⟩ := box16 (HX2.out).box
        cases sb with
        | false =>
          have hst : ¬ x.st = 3 := of_decide_eq_false hsb
          have HE := Lib.hid (show v = 4 by rw [← HV.out, okR_no (List.mem_of_getElem? HX.out) (by rw [HGD.out]; rfl), errO_form])
          have HB3 := Lib.hid (HB.out.trans (HB2.out.mono HB.out.size))
          clear hsb
          go_wp2_with fail
          go_ret
          exact ⟨by rw [HE.out]; rfl, HB3.out⟩
        | true =>
          have hst : x.st = 3 := of_decide_eq_true hsb
          have HN := Lib.hid (take_next HG.out HX.out HGD.out)
          clear hsb
          go_wp2_with fail
          go_roundw
          case rel => exact ⟨k + 1, by go_num, by omega, HN.out, HB2.out⟩
          case measure => simp [intOf]; omega
    · obtain rfl : k = X.length := by omega
      have hii : ¬ (X.length : Int) < (X.length : Int) := by omega
      have HOKR := Lib.hid (show okR X = true from List.all_eq_true.2 fun x hx => HG.out x (by rw [List.take_length]; exact hx))
      have HP1 := Lib.hid (HP.out.below HBR.out)
      have hsz := pmap_size HOK.out X.length (by simp)
      rw [take_ids] at hsz
      obtain ⟨m, hm⟩ : ∃ m, Maps.size (pmap (idsX X) X.length) = m := ⟨_, rfl⟩
      rw [hm] at hsz
      have HM := Lib.hid hm
      obtain ⟨hs1, hs2⟩ := hsz
      have HS2 := Lib.hid hs2
      clear hm hs2 HG
      go_upto_region 8 with fail
      by_cases hml : m = X.length
      · as_aux_lemma =>
        have HU := Lib.hid (show Unl (nds X) by unfold Unl; rw [nds_ids]; exact HS2.out.1 hml)
        subst hml
        have hne : ((X.length : Int) != (X.length : Int)) = false := by simp
        go_wp2_with (at_len; refine wpList_len_own _ rfl _ _ rfl 27 3 Tryz.underlying81 _ w.heap.size X.length (pmap (idsX X) X.length) rfl HP1.out ?_; rw [HM.out])
        clear hne hii
        have HBR0 := Lib.hid HBR.out
        clear HBR HP1
        obtain ⟨wa, rfl⟩ : ∃ wa, wa = wr := ⟨_, rfl⟩
        go_loopw [36] (fun kv wr => ∃ (k : Nat), kv = .int .i64 k ∧ k ≤ X.length ∧ (∀ x ∈ X.take k, ∀ d ∈ x.deps, d ∈ idsX X) ∧ Below W.heap.size W wr) (fun kv _ => X.length - (intOf kv).toNat)
        case atStart => exact ⟨0, rfl, Nat.zero_le _, by simp, HBR0.out⟩
        case round =>
          obtain ⟨k, rfl, hk, hg, hb⟩ := hrel
          have HG := Lib.hid hg
          have HBR := Lib.hid hb
          clear hg hb HBR0
          have hWr := HBR.out.size
          by_cases hkl : k < X.length
          · have hii : (k : Int) < (X.length : Int) := by omega
            obtain ⟨x, hx⟩ : ∃ x, X[k]? = some x := ⟨_, List.getElem?_eq_getElem hkl⟩
            have HX := Lib.hid hx
            obtain ⟨b, off, e0, hbl, hrec⟩ := H.out.row k x hx
            subst e0
            obtain ⟨c0, c1, c2, c3, c4, c5, c6, c7, c8, c9, c10, c11, c12, c13, c14, c15⟩ := hrec.below HBR.out hbl
            clear hx hrec
            go_upto_region 13 with fail
            obtain ⟨w1, hw1⟩ : ∃ w1, w1 = wr.alloc (recO x) := ⟨_, rfl⟩
            have HB1 := Lib.hid (show Below W.heap.size W w1 by rw [hw1]; exact HBR.out.alloc hWr _)
            have HX1 : Hid (Boxed x wr.heap.size w1) := Lib.hid ⟨by rw [hw1]; exact heap_alloc_new wr _, (H.out.ok x (List.mem_of_getElem? HX.out)).deps.below (B := 0) HB1.out, HT.out.next HB1.out⟩
            rw [← hw1]
            clear hw1 c0 c1 c2 c3 c4 c5 c6 c7 c8 c9 c10 c11 c12 c13 c14 c15
            obtain ⟨c0, c1, c2, c3, c4, c5, c6, c7, c8, c9, c10, c11, c12, c13, c14, c15⟩ := box16 (HX1.out).box
            have hdx := HDL.out x (List.mem_of_getElem? HX.out)
            go_wp2_with fail
            obtain ⟨wb, rfl⟩ : ∃ wb, wb = wr := ⟨_, rfl⟩
            obtain ⟨xo, hxo⟩ : ∃ xo, x.ao = xo := ⟨_, rfl⟩
            rw [hxo]
            have HXO := Lib.hid hxo
            clear hxo
            go_loopw [44] (fun kv wr => ∃ (j : Nat), kv = .int .i64 j ∧ j ≤ x.deps.length ∧ (∀ d ∈ x.deps.take j, d ∈ idsX X) ∧ Below w1.heap.size w1 wr) (fun kv _ => x.deps.length - (intOf kv).toNat)
            case atStart => exact ⟨0, rfl, Nat.zero_le _, by simp, Below.refl _ _⟩
            case round =>
              obtain ⟨j, rfl, hj, hgj, hbq⟩ := hrel
              have HGJ := Lib.hid hgj
              have HBQ := Lib.hid hbq
              clear hgj hbq
              have hsq := HBQ.out.size
              have HXQ := Lib.hid (HX1.out.next HBQ.out)
              have HBW := Lib.hid (HB1.out.trans (HBQ.out.mono HB1.out.size))
              by_cases hjl : j < x.deps.length
              · have hjj : (j : Int) < (x.deps.length : Int) := by omega
                obtain ⟨d, hd⟩ : ∃ d, x.deps[j]? = some d := ⟨_, List.getElem?_eq_getElem hjl⟩
                have HD := Lib.hid hd
                obtain ⟨b2, off2, e2, hbl2, y0, y1⟩ := HXQ.out.deps.row j d hd
                have HID := Lib.hid (HXQ.out.deps.ok d (List.mem_of_getElem? hd))
                obtain rfl : xo = some ⟨b2, off2, none⟩ := HXO.out.symm.trans e2
                clear hd e2
                go_upto_region 16 with fail
                obtain ⟨w3, hw3⟩ : ∃ w3, w3 = wr.alloc (idO d) := ⟨_, rfl⟩
                have hb3 : Below wr.heap.size wr w3 := by rw [hw3]; exact (Below.refl _ _).alloc (Nat.le_refl _) _
                have HB3 := Lib.hid (HBQ.out.trans (hb3.mono hsq))
                have HP3 := Lib.hid (HP.out.below (HBW.out.trans (hb3.mono HBW.out.size)))
                obtain ⟨⟨z0, z1⟩, _⟩ := box2 (show w3.heap[wr.heap.size]? = some (idO d) by rw [hw3]; exact heap_alloc_new wr _)
                rw [← hw3]
                clear hw3 hb3 y0 y1
                have hs3 := HB3.out.size
                by_cases hdm : d ∈ idsX X
                · have hhas : Maps.has (pmap (idsX X) X.length) (klI d) = true := by rw [pmap_has HOK.out HID.out _ (by simp), take_ids]; exact decide_eq_true hdm
                  have HHAS := Lib.hid hhas
                  have HN := Lib.hid (take_next HGJ.out HD.out hdm)
                  clear hhas hdm
                  go_wp2_with (at_lookup; refine wpList_lookup_own_ok_int _ rfl (.tmp 49) (.tmp 50) 81 rfl 27 3 .i64 id_keyed Tryz.underlying81 Tryz.underlying3 (Tryz.zeroValue3 _) w.heap.size X.length (pmap (idsX X) X.length) rfl HP3.out (idV d) (klI d) rfl (key_id d HID.out) ?_; intro cc hat hwc; rw [HHAS.out]; clear hat hwc)
                  go_roundw
                  case rel => exact ⟨j + 1, by go_num, by omega, HN.out, HB3.out⟩
                  case measure => simp [intOf]; omega
                · have hhas : Maps.has (pmap (idsX X) X.length) (klI d) = false := by rw [pmap_has HOK.out HID.out _ (by simp), take_ids]; exact decide_eq_false hdm
                  have HHAS := Lib.hid hhas
                  have HE := Lib.hid (show v = 8 by rw [← HV.out, HOKR.out]; exact errO_none HU.out (miss_yes (List.mem_of_getElem? HX.out) (List.mem_of_getElem? HD.out) hdm))
                  have HBF := Lib.hid (HB.out.trans ((HB1.out.trans (HB3.out.mono HB1.out.size)).mono HB.out.size))
                  clear hhas hdm
                  go_wp2_with (at_lookup; refine wpList_lookup_own_ok_int _ rfl (.tmp 49) (.tmp 50) 81 rfl 27 3 .i64 id_keyed Tryz.underlying81 Tryz.underlying3 (Tryz.zeroValue3 _) w.heap.size X.length (pmap (idsX X) X.length) rfl HP3.out (idV d) (klI d) rfl (key_id d HID.out) ?_; intro cc hat hwc; rw [HHAS.out]; clear hat hwc)
                  go_ret
                  exact ⟨by rw [HE.out]; rfl, HBF.out⟩
              · obtain rfl : j = x.deps.length := by omega
                have hjj : ¬ (x.deps.length : Int) < (x.deps.length : Int) := by omega
                have HN := Lib.hid (take_next HG.out HX.out (fun d hd => HGJ.out d (by rw [List.take_length]; exact hd)))
                go_wp2_with fail
                go_roundw
                case rel => exact ⟨k + 1, by go_num, by omega, HN.out, HBW.out⟩
                case measure => simp [intOf]; omega
          · obtain rfl : k = X.length := by omega
            have hii : ¬ (X.length : Int) < (X.length : Int) := by omega
            have HE := Lib.hid (show v = 0 by
              rw [← HV.out, HOKR.out]
              exact errO_fine HU.out (miss_no fun x hx => HG.out x (by rw [List.take_length]; exact hx)))
            have HBF := Lib.hid (HB.out.trans (HBR.out.mono HB.out.size))
            go_wp2_with fail
            go_ret
            exact ⟨by rw [HE.out]; rfl, HBF.out⟩
      · have HE := Lib.hid (show v = 9 by rw [← HV.out, HOKR.out]; exact errO_there (fun h => hml (HS2.out.2 (nds_ids X ▸ h))))
        have HBF := Lib.hid (HB.out.trans (HBR.out.mono HB.out.size))
        have hne : ((m : Int) != (X.length : Int)) = true := by simp; omega
        go_wp2_with (at_len; refine wpList_len_own _ rfl _ _ rfl 27 3 Tryz.underlying81 _ w.heap.size X.length (pmap (idsX X) X.length) rfl HP1.out ?_; rw [HM.out])
        go_ret
        exact ⟨by rw [HE.out]; rfl, HBF.out⟩
end Go.Proofs.YtndfhejfhfhbdaaGreatDoor.O
