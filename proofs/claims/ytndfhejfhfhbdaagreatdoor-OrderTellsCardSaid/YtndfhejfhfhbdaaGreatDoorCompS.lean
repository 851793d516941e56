/- The contract of Leads. -/
import Derived.Test.YtndfhejfhfhbdaaGreatDoorMrg22
namespace Go.Proofs.YtndfhejfhfhbdaaGreatDoor.K
open Go.RowKit M T
set_option linter.unusedVariables false
set_option linter.unusedSimpArgs false

/-- the nodes that a node leads to -/
structure LeadsTo (E : Nat → List Int) (n : Nat) (from_ : Int) (l : List Nat) : Prop where
  srt : l.Pairwise (· < ·)
  mem : ∀ v, v ∈ l ↔ v < n ∧ ∃ u : Nat, from_ = u ∧ u < n ∧ Path E n u v
theorem sorted_ext : ∀ {l m : List Nat}, l.Pairwise (· < ·) → m.Pairwise (· < ·) → (∀ v, v ∈ l ↔ v ∈ m) → l = m
  | [], [], _, _, _ => rfl
  | [], b :: m, _, _, h => by have := (h b).2 List.mem_cons_self; cases this
  | a :: l, [], _, _, h => by have := (h a).1 List.mem_cons_self; cases this
  | a :: l, b :: m, h1, h2, h => by
    have p1 := List.pairwise_cons.1 h1
    have p2 := List.pairwise_cons.1 h2
    have hab : a = b := by
      rcases List.mem_cons.1 ((h a).1 List.mem_cons_self) with e | e
      · exact e
      · rcases List.mem_cons.1 ((h b).2 List.mem_cons_self) with e2 | e2
        · exact e2.symm
        · have := p1.1 b e2
          have := p2.1 a e
          omega
    subst hab
    refine congrArg (a :: ·) (sorted_ext p1.2 p2.2 fun v => ⟨fun hv => ?_, fun hv => ?_⟩)
    · rcases List.mem_cons.1 ((h v).1 (List.mem_cons_of_mem _ hv)) with e | e
      · subst e; have := p1.1 v hv; omega
      · exact e
    · rcases List.mem_cons.1 ((h v).2 (List.mem_cons_of_mem _ hv)) with e | e
      · subst e; have := p2.1 v hv; omega
      · exact e
theorem LeadsTo.one {E : Nat → List Int} {n : Nat} {f : Int} {l m : List Nat} (h : LeadsTo E n f l) (h2 : LeadsTo E n f m) : l = m :=
  sorted_ext h.srt h2.srt fun v => (h.mem v).trans (h2.mem v).symm
theorem nodup_le : ∀ (n : Nat) (l : List Nat), l.Nodup → (∀ v ∈ l, v < n) → l.length ≤ n := by
  intro n
  induction n with
  | zero =>
    intro l _ h
    cases l with
    | nil => exact Nat.le_refl _
    | cons a t => have := h a List.mem_cons_self; omega
  | succ n ih =>
    intro l hd h
    have h1 := ih (l.erase n) (hd.erase n) (fun v hv => by
      have h2 := h v (List.mem_of_mem_erase hv)
      have h3 : v ≠ n := fun e => (hd.mem_erase_iff.1 hv).1 e
      omega)
    have h4 : l.length - 1 ≤ (l.erase n).length := by
      by_cases e : n ∈ l
      · rw [List.length_erase_of_mem e]; exact Nat.le_refl _
      · rw [List.erase_of_not_mem e]; omega
    omega

theorem one_nodup (x : Nat) : [x].Nodup := by simp
/-- what a search over nodes knows: those before i are gone through, of the i-th the first j edges -/
structure LP (E : Nat → List Int) (n from_ : Nat) (l : List Nat) (i : Nat) : Prop where
  st : from_ ∈ l
  nd : l.Nodup
  rch : ∀ v ∈ l, v < n ∧ Path E n from_ v
  cl : ∀ j v, j < i → l[j]? = some v → ∀ w, T.Edge E n v w → w ∈ l
theorem LP.start {E : Nat → List Int} {n u : Nat} (hu : u < n) : LP E n u [u] 0 :=
  ⟨List.mem_singleton.2 rfl, one_nodup u, fun v hv => by rw [List.mem_singleton.1 hv]; exact ⟨hu, .refl u⟩, fun j v h => absurd h (by omega)⟩
theorem LP.len {E : Nat → List Int} {n u i : Nat} {l : List Nat} (h : LP E n u l i) : l.length ≤ n := nodup_le n l h.nd fun v hv => (h.rch v hv).1
def Seen (E : Nat → List Int) (n : Nat) (l : List Nat) (v j : Nat) : Prop := ∀ x ∈ (E v).take j, 0 ≤ x → x < (n : Int) → x.toNat ∈ l
theorem Seen.zero (E : Nat → List Int) (n : Nat) (l : List Nat) (v : Nat) : Seen E n l v 0 := fun x hx => by simp at hx
theorem Seen.more {E : Nat → List Int} {n v j : Nat} {l m : List Nat} {x : Int} (h : Seen E n l v j) (hs : ∀ y ∈ l, y ∈ m) (hx : (E v)[j]? = some x) (hin : 0 ≤ x → x < (n : Int) → x.toNat ∈ m) : Seen E n m v (j + 1) := by
  intro y hy h0 h1
  rw [List.take_add_one, hx] at hy
  rcases List.mem_append.1 hy with h2 | h2
  · exact hs _ (h y h2 h0 h1)
  · have : y = x := by simpa using h2
    subst this; exact hin h0 h1
theorem LP.add {E : Nat → List Int} {n u i v w : Nat} {l : List Nat} (h : LP E n u l i) (hv : l[i]? = some v) (he : T.Edge E n v w) (hw : w ∉ l) : LP E n u (l ++ [w]) i := by
  have hil := (List.getElem?_eq_some_iff.1 hv).1
  refine ⟨List.mem_append_left _ h.st, ?_, fun y hy => ?_, fun j y hj hy z hz => ?_⟩
  · rw [List.nodup_append]
    exact ⟨h.nd, one_nodup w, fun a ha b hb e => hw (by rw [← List.mem_singleton.1 hb, ← e]; exact ha)⟩
  · rcases List.mem_append.1 hy with h1 | h1
    · exact h.rch y h1
    · rw [List.mem_singleton.1 h1]
      exact ⟨he.2.1, (h.rch v (List.mem_of_getElem? hv)).2.trans (.one he)⟩
  · rw [List.getElem?_append_left (by omega)] at hy
    exact List.mem_append_left _ (h.cl j y hj hy z hz)
theorem LP.next {E : Nat → List Int} {n u i v : Nat} {l : List Nat} (h : LP E n u l i) (hv : l[i]? = some v) (hs : Seen E n l v (E v).length) : LP E n u l (i + 1) := by
  refine ⟨h.st, h.nd, h.rch, fun j y hj hy z hz => ?_⟩
  by_cases e : j = i
  · subst e
    obtain rfl : v = y := Option.some.inj (hv.symm.trans hy)
    have := hs z (by rw [List.take_of_length_le (Nat.le_refl _)]; exact hz.2.2) (by omega) (by have := hz.2.1; omega)
    simpa using this
  · exact h.cl j y (by omega) hy z hz
theorem LP.done {E : Nat → List Int} {n u : Nat} {l l' : List Nat} (h : LP E n u l l.length) (hp : l'.Perm l) (hs : l'.Pairwise (· ≤ ·)) : LeadsTo E n u l' := by
  have hu := h.rch u h.st
  refine ⟨?_, fun v => ⟨fun hv => ?_, fun ⟨hv, u', e, hu', hpath⟩ => ?_⟩⟩
  · exact (hs.and (hp.nodup_iff.2 h.nd)).imp fun ⟨h1, h2⟩ => by omega
  · have := h.rch v (hp.mem_iff.1 hv)
    exact ⟨this.1, u, rfl, hu.1, this.2⟩
  · obtain rfl : u = u' := by omega
    refine hp.mem_iff.2 ?_
    have key : ∀ a b, Path E n a b → a ∈ l → b ∈ l := by
      intro a b hab
      induction hab with
      | refl => exact id
      | step e _ ih =>
        intro ha
        obtain ⟨j, hj⟩ := List.mem_iff_getElem?.1 ha
        exact ih (h.cl j _ (List.getElem?_eq_some_iff.1 hj).1 hj _ e)
    exact key u v hpath h.st
theorem LeadsTo.none {E : Nat → List Int} {n : Nat} {f : Int} (h : f < 0 ∨ (n : Int) ≤ f) : LeadsTo E n f [] :=
  ⟨List.Pairwise.nil, fun v => ⟨fun hv => by simp at hv, fun ⟨_, u, e, hu, _⟩ => by omega⟩⟩

/-- what Leads has in memory -/
structure LS (B : Nat) (W0 w : World) (gs n : Nat) (ao : Option Addr) (cap : Nat) (l : List Nat) : Prop where
  bel : Below B W0 w
  lo : B ≤ gs
  hB : B ≤ w.heap.size
  seen : w.heap[gs]? = some (.cells (tabB n fun v => decide (v ∈ l)) 4 (0, 0))
  out : w.ownsRow B 3 1 (.slice ao l.length cap) l.length (iv l)
section
variable {B gs n cap : Nat} {W0 w w2 : World} {ao : Option Addr} {l : List Nat}
theorem LS.ne (h : LS B W0 w gs n ao cap l) : ∀ a, ao = some a → a.block ≠ gs := fun a ha e => by
  obtain ⟨cur, hc, _⟩ := own_heap h.out a ha
  rw [e, h.seen] at hc
  simp at hc
theorem LS.below (h : LS B W0 w gs n ao cap l) (hb : Below w.heap.size w w2) : LS B W0 w2 gs n ao cap l := by
  have hm : Mods (fun _ => False) w w2 := Mods.of_below hb
  exact ⟨h.bel.trans (hm.below (fun _ h => h.elim) h.hB), h.lo, Nat.le_trans h.hB hb.size, hm.heap h.seen (fun h => h), own_kept h.out hm (fun _ _ h => h)⟩
theorem LS.step (h : LS B W0 w gs n ao cap l) (v : Nat) {gg cg : Nat} {bx : Obj}
    (ho : w2.ownsRow B 3 1 (.slice (some ⟨gg, 0, none⟩) (l.length + 1) cg) (l.length + 1) (iv l ++ [.int .i64 v]))
    (hg : ((w.setCell ⟨gs, v, none⟩ (.bool true)).alloc bx).grownBy w2 (Value.slice ao l.length cap).ownBlock) : LS B W0 w2 gs n (some ⟨gg, 0, none⟩) cg (l ++ [v]) := by
  have hne := h.ne
  have hm1 : Mods (fun k => k = gs) w (w.setCell ⟨gs, v, none⟩ (.bool true)) := (Mods.refl (fun k => k = gs) w).setCell (p := ⟨gs, v, none⟩) (fun _ => rfl) _
  have hM : Mods (fun k => ∃ a, ao = some a ∧ k = a.block) (w.setCell ⟨gs, v, none⟩ (.bool true)) w2 := ((Mods.refl _ _).alloc bx).grown hg (fun k hk _ => by
    cases ao with
    | none => cases hk
    | some a => exact ⟨a, rfl, (Option.some.inj hk).symm⟩)
  have hs1 : (w.setCell ⟨gs, v, none⟩ (.bool true)).heap[gs]? = some (.cells (tabB n fun y => decide (y ∈ l ++ [v])) 4 (0, 0)) := by
    have := heap_set w gs v (.bool true) gs _ _ _ h.seen
    rw [if_pos rfl, tabB_set, upd_mem] at this
    exact this
  have hb1 := hm1.below (B := B) (fun k hk => by rw [show k = gs from hk]; exact h.lo) h.hB
  have hb2 := hM.below (B := B) (fun k hk => by
    obtain ⟨a, ha, rfl⟩ := hk
    obtain ⟨_, _, hB⟩ := own_heap h.out a ha
    exact hB) (by simpa [World.setCell] using h.hB)
  refine ⟨(h.bel.trans hb1).trans hb2, h.lo, Nat.le_trans h.hB (Nat.le_trans hm1.size hM.size), hM.heap hs1 (fun ⟨a, ha, e⟩ => hne a ha e.symm), ?_⟩
  rw [List.length_append, iv_append]
  exact ho
end
set_option maxRecDepth 100000 in
set_option maxHeartbeats 4000000 in
theorem leads_any (E : Nat → List Int) (n : Nat) (eo : Option Addr) (ec : Nat) (f : Int) (w : World) (hEd : EdAt w.heap.size w eo n ec E) (hn : n ≤ 10000) :
    Calls Tryz.prog 54 #[.slice eo n ec, .int .i64 f] w fun e w' => ∃ ao cap l, e = .returned (.slice ao l.length cap) ∧ (LeadsTo E n f l ∧ w'.ownsRow w.heap.size 3 1 (.slice ao l.length cap) l.length (iv l) ∧ Below w.heap.size w w') := by
  by_cases hf : f < 0 ∨ (n : Int) ≤ f
  · have HL := Lib.hid (LeadsTo.none (E := E) hf)
    rcases hf with hf | hf
    · clear hEd
      go_enter Tryz.func54, Tryz.ntmps54
      go_wp2_with fail
      go_ret
      exact ⟨none, 0, [], rfl, HL.out, World.ownsRow_nil _ _ _ _, Below.refl _ _⟩
    · have hf0 : ¬ f < 0 := by omega
      clear hEd
      go_enter Tryz.func54, Tryz.ntmps54
      go_wp2_with fail
      go_ret
      exact ⟨none, 0, [], rfl, HL.out, World.ownsRow_nil _ _ _ _, Below.refl _ _⟩
  · obtain ⟨u, rfl⟩ : ∃ u : Nat, f = u := ⟨f.toNat, by omega⟩
    have hu : u < n := by omega
    have hui : (u : Int) < (n : Int) := by omega
    have hu0 : ¬ (u : Int) < 0 := by omega
    have HED := Lib.hid hEd
    have hmk := make_bools n hn
    obtain ⟨i0, hii, hz0, hz1, hz2⟩ := info_parts info_int
    have hec := hEd.le.2
    clear hEd hf
    go_enter Tryz.func54, Tryz.ntmps54
    go_upto_region 4 with fail
    obtain ⟨w1, hw1⟩ : ∃ w1, w1 = w.alloc (.cells (tabB n fun _ => false) 4) := ⟨_, rfl⟩
    obtain ⟨gs, hgs⟩ : ∃ gs, gs = w.heap.size := ⟨_, rfl⟩
    rw [← hw1, ← hgs]
    have h1 : w1.heap[gs]? = some (.cells (tabB n fun _ => false) 4 (0, 0)) := by rw [hw1, hgs]; exact heap_alloc_new w _
    have hb1 : Below w.heap.size w w1 := by rw [hw1]; exact (Below.refl _ _).alloc (Nat.le_refl _) _
    have hz : w1.heap.size = w.heap.size + 1 := by rw [hw1]; simp
    obtain ⟨c0, f0⟩ := rowB_cell h1 u hu
    have H1 := Lib.hid h1
    have HB1 := Lib.hid hb1
    have HZ := Lib.hid hz
    have HGS := Lib.hid hgs
    clear h1 hb1 hz hw1 hgs hmk
    go_upto_region 6 with fail
    obtain ⟨w2, hw2⟩ : ∃ w2, w2 = (w1.setCell ⟨gs, u, none⟩ (.bool true)).alloc (.cells #[.int .i64 (u : Int)] 3) := ⟨_, rfl⟩
    obtain ⟨g, hg⟩ : ∃ g, g = w1.heap.size := ⟨_, rfl⟩
    rw [← hw2]
    have hls : LS w.heap.size w w2 gs n (some ⟨g, 0, none⟩) 1 [u] := by
      have hlo : w.heap.size ≤ gs := by rw [HGS.out]; exact Nat.le_refl _
      have hgl : gs < w1.heap.size := heap_lt H1.out
      have e1 : (w1.setCell ⟨gs, u, none⟩ (.bool true)).heap[gs]? = some (.cells (tabB n fun v => decide (v ∈ [u])) 4 (0, 0)) := by
        have := heap_set w1 gs u (.bool true) gs _ _ _ H1.out
        rw [if_pos rfl, tabB_set] at this
        rw [this]
        have e2 : (upd (fun _ => false) u true) = fun v => decide (v ∈ [u]) := by funext v; unfold upd; by_cases e : v = u <;> simp [e]
        rw [e2]
      have hsz : (w1.setCell ⟨gs, u, none⟩ (.bool true)).heap.size = w1.heap.size := by simp [World.setCell]
      refine ⟨?_, hlo, ?_, ?_, ⟨by simp [iv], .inr ⟨g, 1, #[.int .i64 (u : Int)], rfl, by rw [hg, HZ.out]; omega, ?_, Nat.le_refl _, by unfold maxLen; omega, rfl, rfl⟩⟩⟩
      · rw [hw2]; exact (HB1.out.setCell (p := ⟨gs, u, none⟩) hlo _).alloc (by rw [hsz, HZ.out]; omega) _
      · rw [hw2]; simp only [World.size_alloc, hsz, HZ.out]; omega
      · rw [hw2, heap_al, if_neg (by rw [hsz]; omega)]; exact e1
      · rw [hw2, heap_al, if_pos (by rw [hsz, hg])]
    rw [← hg]
    have HLS := Lib.hid hls
    have HLP := Lib.hid (LP.start (E := E) hu)
    clear hls hw2 hg H1 HB1 HZ c0 f0 HGS
    go_wp2_with fail
    go_loopw [6, 7] (fun ov iv wr => ∃ (i : Nat) (ao : Option Addr) (cap : Nat) (l : List Nat), ov = .slice ao l.length cap ∧ iv = .int .i64 i ∧ i ≤ l.length ∧ LS w.heap.size w wr gs n ao cap l ∧ LP E n u l i) (fun _ iv _ => n - (intOf iv).toNat)
    case atStart => exact ⟨0, _, _, [u], rfl, rfl, Nat.zero_le _, HLS.out, HLP.out⟩
    case round =>
      clear HLS HLP
      obtain ⟨i, ao, cap, l, rfl, rfl, hi, hls, hlp⟩ := hrel
      have HLS := Lib.hid hls
      have HLP := Lib.hid hlp
      have hll := hlp.len
      by_cases hil : i < l.length
      · obtain ⟨v, hv⟩ : ∃ v, l[i]? = some v := ⟨_, List.getElem?_eq_getElem hil⟩
        have hvn := (hlp.rch v (List.mem_of_getElem? hv)).1
        have hili : (i : Int) < (l.length : Int) := by omega
        have hvi : (v : Int) < (n : Int) := by omega
        obtain ⟨g, rfl, hgB, hlc, hlm, hlx⟩ := rowcell hls.out (by omega)
        have x0 := (hlx i _ (iv_get l i v hv)).1
        obtain ⟨ge, off, ro, rc, rfl, hge, ce', hel, hem, hex⟩ := HED.out.row v hvn
        have ce := (hls.bel.cell (p := ⟨ge, off + v, none⟩) hge).trans ce'
        have HEX := Lib.hid hex
        have hem' : (E v).length ≤ 9223372036854775807 := by unfold maxLen at hem; omega
        have HV := Lib.hid hv
        have HS0 := Lib.hid (Seen.zero E n l v)
        clear hv hls hlp hlx hex ce'
        go_wp2_with fail
        go_loopw [6, 40] (fun ov jv wr2 => ∃ (j : Nat) (ao : Option Addr) (cap : Nat) (l : List Nat), ov = .slice ao l.length cap ∧ jv = .int .i64 j ∧ j ≤ (E v).length ∧ LS w.heap.size w wr2 gs n ao cap l ∧ LP E n u l i ∧ l[i]? = some v ∧ Seen E n l v j) (fun _ jv _ => (E v).length - (intOf jv).toNat)
        case atStart => exact ⟨0, _, _, l, rfl, rfl, Nat.zero_le _, HLS.out, HLP.out, HV.out, HS0.out⟩
        case round =>
          clear HLS HLP HV HS0 hll
          obtain ⟨j, ao, cap, l, rfl, rfl, hj, hls, hlp, hv, hseen⟩ := hrel
          have HLS := Lib.hid hls
          have HLP := Lib.hid hlp
          have HV := Lib.hid hv
          have HS := Lib.hid hseen
          have hll := hlp.len
          by_cases hjl : j < (E v).length
          · obtain ⟨x, hx⟩ : ∃ x, (E v)[j]? = some x := ⟨_, List.getElem?_eq_getElem hjl⟩
            obtain ⟨pb, po, rfl, hpB, cx'⟩ := HEX.out j x hx
            have cx := (hls.bel.cell (p := ⟨pb, po + j, none⟩) hpB).trans cx'
            have hji : (j : Int) < ((E v).length : Int) := by omega
            have HX := Lib.hid hx
            clear hx cx'
            by_cases hx0 : x < 0
            · have hx0' : ¬ (0 ≤ x) := by omega
              have HN := Lib.hid (hseen.more (fun y hy => hy) HX.out (fun h => absurd h hx0'))
              clear hls hlp hv hseen
              go_wp2_with fail
              go_roundw
              case rel => exact ⟨j + 1, ao, cap, l, by trivial, by go_num, by omega, HLS.out, HLP.out, HV.out, HN.out⟩
              case measure => simp [intOf]; omega
            · have hx0' : 0 ≤ x := by omega
              by_cases hxn : (n : Int) ≤ x
              · have hxn' : ¬ x < (n : Int) := by omega
                have HN := Lib.hid (hseen.more (fun y hy => hy) HX.out (fun _ h => absurd h hxn'))
                clear hls hlp hv hseen
                go_wp2_with fail
                go_roundw
                case rel => exact ⟨j + 1, ao, cap, l, by trivial, by go_num, by omega, HLS.out, HLP.out, HV.out, HN.out⟩
                case measure => simp [intOf]; omega
              · obtain ⟨xn, rfl⟩ : ∃ xn : Nat, x = xn := ⟨x.toNat, by omega⟩
                have hxl : xn < n := by omega
                have hxi : (xn : Int) < (n : Int) := by omega
                obtain ⟨c1, f1⟩ := rowB_cell hls.seen xn hxl
                by_cases hm : xn ∈ l
                · rw [decide_eq_true hm] at c1
                  have HN := Lib.hid (hseen.more (fun y hy => hy) HX.out (fun _ _ => by simpa using hm))
                  clear hls hlp hv hseen hm
                  go_wp2_with fail
                  go_roundw
                  case rel => exact ⟨j + 1, ao, cap, l, by trivial, by go_num, by omega, HLS.out, HLP.out, HV.out, HN.out⟩
                  case measure => simp [intOf]; omega
                · rw [decide_eq_false hm] at c1
                  have HN := Lib.hid (hseen.more (m := l ++ [xn]) (fun y hy => List.mem_append_left _ hy) HX.out (fun _ _ => by simp))
                  have HLP2 := Lib.hid (hlp.add hv ⟨hvn, hxl, List.mem_of_getElem? HX.out⟩ hm)
                  have hil2 := (List.getElem?_eq_some_iff.1 hv).1
                  have HV2 : Hid ((l ++ [xn])[i]? = some v) := Lib.hid (by rw [List.getElem?_append_left hil2]; exact hv)
                  have hown := own_kept hls.out (w1 := wr.setCell ⟨gs, xn, none⟩ (.bool true)) ((Mods.refl (fun k => k = gs) wr).setCell (p := ⟨gs, xn, none⟩) (fun _ => rfl) _) (fun k hk e => by
                    cases ao with
                    | none => cases hk
                    | some a => obtain rfl := Option.some.inj hk; exact hls.ne a rfl e)
                  have HOWN := Lib.hid hown
                  have hB := hls.hB
                  have hsz : (wr.setCell ⟨gs, xn, none⟩ (.bool true)).heap.size = wr.heap.size := by simp [World.setCell]
                  have HSZ := Lib.hid hsz
                  clear hls hlp hv hseen hm hown hsz
                  go_upto_region 14 with fail
                  obtain ⟨w3, hw3⟩ : ∃ w3, w3 = wr.setCell ⟨gs, xn, none⟩ (.bool true) := ⟨_, rfl⟩
                  rw [← hw3]
                  rw [← hw3] at HOWN HSZ
                  have HW3 := Lib.hid hw3
                  have hB3 : w.heap.size ≤ w3.heap.size := by rw [HSZ.out]; exact hB
                  clear hw3 c1 f1
                  go_wp2_with (refine wpList_append_lies _ (by rfl) (.tmp 62) (.tmp 64) 79 (by rfl) w.heap.size 3 i0 _ 1 8 Tryz.underlying79 hii hz0 hz1 hz2 rfl (by decide) (.slice ao l.length cap) l.length (iv l) (by rfl) (by exact HOWN.out.alloc _) ⟨w3.heap.size, 0, none⟩ 1 1 [.int .i64 (xn : Int)] (by rfl) (by rfl) (World.news_of_block (cs := #[.int .i64 (xn : Int)]) (t := 3) (fr := (0, 0)) (heap_alloc_new w3 _)) (by simp [Value.oneCell']) (by omega) (by unfold maxLen; omega) (by omega) (by simp; omega) (w3.heap.size + 1) (by simp) ?_; intro gg cg w7 hown hgrow hat hlt7; have HG7 := Lib.hid (And.intro hown (And.intro hgrow hat)); clear hown hgrow hat)
                  go_roundw
                  case rel => exact ⟨j + 1, some ⟨gg, 0, none⟩, cg, l ++ [xn], by rw [List.length_append]; rfl, by go_num, by omega, HLS.out.step xn HG7.out.1 (by rw [← HW3.out]; exact HG7.out.2.1), HLP2.out, HV2.out, HN.out⟩
                  case measure => simp [intOf]; omega
          · have hji : ¬ (j : Int) < ((E v).length : Int) := by omega
            obtain rfl : j = (E v).length := by omega
            have HLP2 := Lib.hid (hlp.next hv hseen)
            have hil2 := (List.getElem?_eq_some_iff.1 hv).1
            clear hls hlp hv hseen
            go_wp2_with fail
            go_roundw
            case rel => exact ⟨i + 1, ao, cap, l, by trivial, by go_num, by omega, HLS.out, HLP2.out⟩
            case measure => simp [intOf]; omega
      · obtain rfl : i = l.length := by omega
        have hili : ¬ (l.length : Int) < (l.length : Int) := by omega
        have hne : 0 < l.length := List.length_pos_iff.2 (fun e => by have := hlp.st; rw [e] at this; cases this)
        obtain ⟨g, rfl, hgB, hlc, hlm, hlx⟩ := rowcell hls.out hne
        have hsort := sort_own w.heap.size wr g cap l hls.out (by omega)
        have hgB : w.heap.size ≤ g := by obtain ⟨_, _, hb⟩ := own_heap hls.out _ rfl; exact hb
        clear hls hlp hlx
        go_wp2_with fail
        refine hsort.mono ?_
        rintro e w5 ⟨rfl, l', hp, hs, hlen, ho, hm⟩
        have HO : Hid (w5.ownsRow w.heap.size 3 1 (.slice (some ⟨g, 0, none⟩) l'.length cap) l'.length (iv l')) := Lib.hid (by rw [hlen]; exact ho)
        have HL := Lib.hid (HLP.out.done hp hs)
        have HB := Lib.hid (HLS.out.bel.trans (hm.below (B := w.heap.size) (fun k hk => by rw [show k = g from hk]; exact hgB) HLS.out.hB))
        have HLEN := Lib.hid hlen
        clear hp hs hlen ho hm hsort
        go_wp2_with fail
        go_ret
        exact ⟨some ⟨g, 0, none⟩, cap, l', by rw [HLEN.out]; rfl, HL.out, HO.out, HB.out⟩
end Go.Proofs.YtndfhejfhfhbdaaGreatDoor.K
