/- Several texts in one. -/
import Derived.Test.YtndfhejfhfhbdaaGreatDoorMrg20
import Derived.Test.YtndfhejfhfhbdaaGreatDoorMrg1
import Derived.Test.YtndfhejfhfhbdaaGreatDoorMrg18
import Derived.Laws.OwnMore

/- The contract of Leads. -/
namespace Go.Proofs.YtndfhejfhfhbdaaGreatDoor.K
open Go.RowKit M T
set_option linter.unusedVariables false
set_option linter.unusedSimpArgs false

/-- the nodes that a node leads to -/
structure LeadsTo (E : Nat → List Int) (n : Nat) (from_ : Int) (l : List Nat) : Prop where
  srt : l.Pairwise (· < ·)
  mem : ∀ v, v ∈ l ↔ v < n ∧ ∃ u : Nat, from_ = u ∧ u < n ∧ Path E n u v
theorem sorted_ext : ∀ {l m : List Nat}, l.Pairwise (· < ·) → m.Pairwise (· < ·) → (∀ v, v ∈ l ↔ v ∈ m) → l = m
  | [], [], _, _, _ => rfl
  | [], b :: m, _, _, h => by have := (h b).2 List.mem_cons_self; cases this
  | a :: l, [], _, _, h => by have := (h a).1 List.mem_cons_self; cases this
  | a :: l, b :: m, h1, h2, h => by
    have p1 := List.pairwise_cons.1 h1
    have p2 := List.pairwise_cons.1 h2
    have hab : a = b := by
      rcases List.mem_cons.1 ((h a).1 List.mem_cons_self) with e | e
      · exact e
      · rcases List.mem_cons.1 ((h b).2 List.mem_cons_self) with e2 | e2
        · exact e2.symm
        · have := p1.1 b e2
          have := p2.1 a e
          omega
    subst hab
    refine congrArg (a :: ·) (sorted_ext p1.2 p2.2 fun v => ⟨fun hv => ?_, fun hv => ?_⟩)
    · rcases List.mem_cons.1 ((h v).1 (List.mem_cons_of_mem _ hv)) with e | e
      · subst e; have := p1.1 v hv; omega
      · exact e
    · rcases List.mem_cons.1 ((h v).2 (List.mem_cons_of_mem _ hv)) with e | e
      · subst e; have := p2.1 v hv; omega
      · exact e
theorem LeadsTo.one {E : Nat → List Int} {n : Nat} {f : Int} {l m : List Nat} (h : LeadsTo E n f l) (h2 : LeadsTo E n f m) : l = m :=
  sorted_ext h.srt h2.srt fun v => (h.mem v).trans (h2.mem v).symm
theorem nodup_le : ∀ (n : Nat) (l : List Nat), l.Nodup → (∀ v ∈ l, v < n) → l.length ≤ n := by
  intro n
  induction n with
  | zero =>
    intro l _ h
    cases l with
    | nil => exact Nat.le_refl _
    | cons a t => have := h a List.mem_cons_self; omega
  | succ n ih =>
    intro l hd h
    have h1 := ih (l.erase n) (hd.erase n) (fun v hv => by
      have h2 := h v (List.mem_of_mem_erase hv)
      have h3 : v ≠ n := fun e => (hd.mem_erase_iff.1 hv).1 e
      omega)
    have h4 : l.length - 1 ≤ (l.erase n).length := by
      by_cases e : n ∈ l
      · rw [List.length_erase_of_mem e]; exact Nat.le_refl _
      · rw [List.erase_of_not_mem e]; omega
    omega

theorem one_nodup (x : Nat) : [x].Nodup := by simp
/-- what a search over nodes knows: those before i are gone through, of the i-th the first j edges -/
structure LP (E : Nat → List Int) (n from_ : Nat) (l : List Nat) (i : Nat) : Prop where
  st : from_ ∈ l
  nd : l.Nodup
  rch : ∀ v ∈ l, v < n ∧ Path E n from_ v
  cl : ∀ j v, j < i → l[j]? = some v → ∀ w, T.Edge E n v w → w ∈ l
theorem LP.start {E : Nat → List Int} {n u : Nat} (hu : u < n) : LP E n u [u] 0 :=
  ⟨List.mem_singleton.2 rfl, one_nodup u, fun v hv => by rw [List.mem_singleton.1 hv]; exact ⟨hu, .refl u⟩, fun j v h => absurd h (by omega)⟩
theorem LP.len {E : Nat → List Int} {n u i : Nat} {l : List Nat} (h : LP E n u l i) : l.length ≤ n := nodup_le n l h.nd fun v hv => (h.rch v hv).1
def Seen (E : Nat → List Int) (n : Nat) (l : List Nat) (v j : Nat) : Prop := ∀ x ∈ (E v).take j, 0 ≤ x → x < (n : Int) → x.toNat ∈ l
theorem Seen.zero (E : Nat → List Int) (n : Nat) (l : List Nat) (v : Nat) : Seen E n l v 0 := fun x hx => by simp at hx
theorem Seen.more {E : Nat → List Int} {n v j : Nat} {l m : List Nat} {x : Int} (h : Seen E n l v j) (hs : ∀ y ∈ l, y ∈ m) (hx : (E v)[j]? = some x) (hin : 0 ≤ x → x < (n : Int) → x.toNat ∈ m) : Seen E n m v (j + 1) := by
  intro y hy h0 h1
  rw [List.take_add_one, hx] at hy
  rcases List.mem_append.1 hy with h2 | h2
  · exact hs _ (h y h2 h0 h1)
  · have : y = x := by simpa using h2
    subst this; exact hin h0 h1
theorem LP.add {E : Nat → List Int} {n u i v w : Nat} {l : List Nat} (h : LP E n u l i) (hv : l[i]? = some v) (he : T.Edge E n v w) (hw : w ∉ l) : LP E n u (l ++ [w]) i := by
  have hil := (List.getElem?_eq_some_iff.1 hv).1
  refine ⟨List.mem_append_left _ h.st, ?_, fun y hy => ?_, fun j y hj hy z hz => ?_⟩
  · rw [List.nodup_append]
    exact ⟨h.nd, one_nodup w, fun a ha b hb e => hw (by rw [← List.mem_singleton.1 hb, ← e]; exact ha)⟩
  · rcases List.mem_append.1 hy with h1 | h1
    · exact h.rch y h1
    · rw [List.mem_singleton.1 h1]
      exact ⟨he.2.1, (h.rch v (List.mem_of_getElem? hv)).2.trans (.one he)⟩
  · rw [List.getElem?_append_left (by omega)] at hy
    exact List.mem_append_left _ (h.cl j y hj hy z hz)
theorem LP.next {E : Nat → List Int} {n u i v : Nat} {l : List Nat} (h : LP E n u l i) (hv : l[i]? = some v) (hs : Seen E n l v (E v).length) : LP E n u l (i + 1) := by
  refine ⟨h.st, h.nd, h.rch, fun j y hj hy z hz => ?_⟩
  by_cases e : j = i
  · subst e
    obtain rfl : v = y := Option.some.inj (hv.symm.trans hy)
    have := hs z (by rw [List.take_of_length_le (Nat.le_refl _)]; exact hz.2.2) (by omega) (by have := hz.2.1; omega)
    simpa using this
  · exact h.cl j y (by omega) hy z hz
theorem LP.done {E : Nat → List Int} {n u : Nat} {l l' : List Nat} (h : LP E n u l l.length) (hp : l'.Perm l) (hs : l'.Pairwise (· ≤ ·)) : LeadsTo E n u l' := by
  have hu := h.rch u h.st
  refine ⟨?_, fun v => ⟨fun hv => ?_, fun ⟨hv, u', e, hu', hpath⟩ => ?_⟩⟩
  · exact (hs.and (hp.nodup_iff.2 h.nd)).imp fun ⟨h1, h2⟩ => by omega
  · have := h.rch v (hp.mem_iff.1 hv)
    exact ⟨this.1, u, rfl, hu.1, this.2⟩
  · obtain rfl : u = u' := by omega
    refine hp.mem_iff.2 ?_
    have key : ∀ a b, Path E n a b → a ∈ l → b ∈ l := by
      intro a b hab
      induction hab with
      | refl => exact id
      | step e _ ih =>
        intro ha
        obtain ⟨j, hj⟩ := List.mem_iff_getElem?.1 ha
        exact ih (h.cl j _ (List.getElem?_eq_some_iff.1 hj).1 hj _ e)
    exact key u v hpath h.st
theorem LeadsTo.none {E : Nat → List Int} {n : Nat} {f : Int} (h : f < 0 ∨ (n : Int) ≤ f) : LeadsTo E n f [] :=
  ⟨List.Pairwise.nil, fun v => ⟨fun hv => by simp at hv, fun ⟨_, u, e, hu, _⟩ => by omega⟩⟩

/-- what Leads has in memory -/
structure LS (B : Nat) (W0 w : World) (gs n : Nat) (ao : Option Addr) (cap : Nat) (l : List Nat) : Prop where
  bel : Below B W0 w
  lo : B ≤ gs
  hB : B ≤ w.heap.size
  seen : w.heap[gs]? = some (.cells (tabB n fun v => decide (v ∈ l)) 4 (0, 0))
  out : w.ownsRow B 3 1 (.slice ao l.length cap) l.length (iv l)
section
variable {B gs n cap : Nat} {W0 w w2 : World} {ao : Option Addr} {l : List Nat}
theorem LS.ne (h : LS B W0 w gs n ao cap l) : ∀ a, ao = some a → a.block ≠ gs := fun a ha e => by
  obtain ⟨cur, hc, _⟩ := own_heap h.out a ha
  rw [e, h.seen] at hc
  simp at hc
theorem LS.below (h : LS B W0 w gs n ao cap l) (hb : Below w.heap.size w w2) : LS B W0 w2 gs n ao cap l := by
  have hm : Mods (fun _ => False) w w2 := Mods.of_below hb
  exact ⟨h.bel.trans (hm.below (fun _ h => h.elim) h.hB), h.lo, Nat.le_trans h.hB hb.size, hm.heap h.seen (fun h => h), own_kept h.out hm (fun _ _ h => h)⟩
theorem LS.step (h : LS B W0 w gs n ao cap l) (v : Nat) {gg cg : Nat} {bx : Obj}
    (ho : w2.ownsRow B 3 1 (.slice (some ⟨gg, 0, none⟩) (l.length + 1) cg) (l.length + 1) (iv l ++ [.int .i64 v]))
    (hg : ((w.setCell ⟨gs, v, none⟩ (.bool true)).alloc bx).grownBy w2 (Value.slice ao l.length cap).ownBlock) : LS B W0 w2 gs n (some ⟨gg, 0, none⟩) cg (l ++ [v]) := by
  have hne := h.ne
  have hm1 : Mods (fun k => k = gs) w (w.setCell ⟨gs, v, none⟩ (.bool true)) := (Mods.refl (fun k => k = gs) w).setCell (p := ⟨gs, v, none⟩) (fun _ => rfl) _
  have hM : Mods (fun k => ∃ a, ao = some a ∧ k = a.block) (w.setCell ⟨gs, v, none⟩ (.bool true)) w2 := ((Mods.refl _ _).alloc bx).grown hg (fun k hk _ => by
    cases ao with
    | none => cases hk
    | some a => exact ⟨a, rfl, (Option.some.inj hk).symm⟩)
  have hs1 : (w.setCell ⟨gs, v, none⟩ (.bool true)).heap[gs]? = some (.cells (tabB n fun y => decide (y ∈ l ++ [v])) 4 (0, 0)) := by
    have := heap_set w gs v (.bool true) gs _ _ _ h.seen
    rw [if_pos rfl, tabB_set, upd_mem] at this
    exact this
  have hb1 := hm1.below (B := B) (fun k hk => by rw [show k = gs from hk]; exact h.lo) h.hB
  have hb2 := hM.below (B := B) (fun k hk => by
    obtain ⟨a, ha, rfl⟩ := hk
    obtain ⟨_, _, hB⟩ := own_heap h.out a ha
    exact hB) (by simpa [World.setCell] using h.hB)
  refine ⟨(h.bel.trans hb1).trans hb2, h.lo, Nat.le_trans h.hB (Nat.le_trans hm1.size hM.size), hM.heap hs1 (fun ⟨a, ha, e⟩ => hne a ha e.symm), ?_⟩
  rw [List.length_append, iv_append]
  exact ho
end
set_option maxRecDepth 100000 in
set_option maxHeartbeats 4000000 in
theorem leads_any (E : Nat → List Int) (n : Nat) (eo : Option Addr) (ec : Nat) (f : Int) (w : World) (hEd : EdAt w.heap.size w eo n ec E) (hn : n ≤ 10000) :
    Calls Tryz.prog 54 #[.slice eo n ec, .int .i64 f] w fun e w' => ∃ ao cap l, e = .returned (.slice ao l.length cap) ∧ (LeadsTo E n f l ∧ w'.ownsRow w.heap.size 3 1 (.slice ao l.length cap) l.length (iv l) ∧ Below w.heap.size w w') := by
  by_cases hf : f < 0 ∨ (n : Int) ≤ f
  · have HL := Lib.hid (LeadsTo.none (E := E) hf)
    rcases hf with hf | hf
    · clear hEd
      go_enter Tryz.func54, Tryz.ntmps54
      go_wp2_with fail
      go_ret
      exact ⟨none, 0, [], rfl, HL.out, World.ownsRow_nil _ _ _ _, Below.refl _ _⟩
    · have hf0 : ¬ f < 0 := by omega
      clear hEd
      go_enter Tryz.func54, Tryz.ntmps54
      go_wp2_with fail
      go_ret
      exact ⟨none, 0, [], rfl, HL.out, World.ownsRow_nil _ _ _ _, Below.refl _ _⟩
  · obtain ⟨u, rfl⟩ : ∃ u : Nat, f = u := ⟨f.toNat, by omega⟩
    have hu : u < n := by omega
    have hui : (u : Int) < (n : Int) := by omega
    have hu0 : ¬ (u : Int) < 0 := by omega
    have HED := Lib.hid hEd
    have hmk := make_bools n hn
    obtain ⟨i0, hii, hz0, hz1, hz2⟩ := info_parts info_int
    have hec := hEd.le.2
    clear hEd hf
    go_enter Tryz.func54, Tryz.ntmps54
    go_upto_region 4 with fail
    obtain ⟨w1, hw1⟩ : ∃ w1, w1 = w.alloc (.cells (tabB n fun _ => false) 4) := ⟨_, rfl⟩
    obtain ⟨gs, hgs⟩ : ∃ gs, gs = w.heap.size := ⟨_, rfl⟩
    rw [← hw1, ← hgs]
    have h1 : w1.heap[gs]? = some (.cells (tabB n fun _ => false) 4 (0, 0)) := by rw [hw1, hgs]; exact heap_alloc_new w _
    have hb1 : Below w.heap.size w w1 := by rw [hw1]; exact (Below.refl _ _).alloc (Nat.le_refl _) _
    have hz : w1.heap.size = w.heap.size + 1 := by rw [hw1]; simp
    obtain ⟨c0, f0⟩ := rowB_cell h1 u hu
    have H1 := Lib.hid h1
    have HB1 := Lib.hid hb1
    have HZ := Lib.hid hz
    have HGS := Lib.hid hgs
    clear h1 hb1 hz hw1 hgs hmk
    go_upto_region 6 with fail
    obtain ⟨w2, hw2⟩ : ∃ w2, w2 = (w1.setCell ⟨gs, u, none⟩ (.bool true)).alloc (.cells #[.int .i64 (u : Int)] 3) := ⟨_, rfl⟩
    obtain ⟨g, hg⟩ : ∃ g, g = w1.heap.size := ⟨_, rfl⟩
    rw [← hw2]
    have hls : LS w.heap.size w w2 gs n (some ⟨g, 0, none⟩) 1 [u] := by
      have hlo : w.heap.size ≤ gs := by rw [HGS.out]; exact Nat.le_refl _
      have hgl : gs < w1.heap.size := heap_lt H1.out
      have e1 : (w1.setCell ⟨gs, u, none⟩ (.bool true)).heap[gs]? = some (.cells (tabB n fun v => decide (v ∈ [u])) 4 (0, 0)) := by
        have := heap_set w1 gs u (.bool true) gs _ _ _ H1.out
        rw [if_pos rfl, tabB_set] at this
        rw [this]
        have e2 : (upd (fun _ => false) u true) = fun v => decide (v ∈ [u]) := by funext v; unfold upd; by_cases e : v = u <;> simp [e]
        rw [e2]
      have hsz : (w1.setCell ⟨gs, u, none⟩ (.bool true)).heap.size = w1.heap.size := by simp [World.setCell]
      refine ⟨?_, hlo, ?_, ?_, ⟨by simp [iv], .inr ⟨g, 1, #[.int .i64 (u : Int)], rfl, by rw [hg, HZ.out]; omega, ?_, Nat.le_refl _, by unfold maxLen; omega, rfl, rfl⟩⟩⟩
      · rw [hw2]; exact (HB1.out.setCell (p := ⟨gs, u, none⟩) hlo _).alloc (by rw [hsz, HZ.out]; omega) _
      · rw [hw2]; simp only [World.size_alloc, hsz, HZ.out]; omega
      · rw [hw2, heap_al, if_neg (by rw [hsz]; omega)]; exact e1
      · rw [hw2, heap_al, if_pos (by rw [hsz, hg])]
    rw [← hg]
    have HLS := Lib.hid hls
    have HLP := Lib.hid (LP.start (E := E) hu)
    clear hls hw2 hg H1 HB1 HZ c0 f0 HGS
    go_wp2_with fail
    go_loopw [6, 7] (fun ov iv wr => ∃ (i : Nat) (ao : Option Addr) (cap : Nat) (l : List Nat), ov = .slice ao l.length cap ∧ iv = .int .i64 i ∧ i ≤ l.length ∧ LS w.heap.size w wr gs n ao cap l ∧ LP E n u l i) (fun _ iv _ => n - (intOf iv).toNat)
    case atStart => exact ⟨0, _, _, [u], rfl, rfl, Nat.zero_le _, HLS.out, HLP.out⟩
    case round =>
      clear HLS HLP
      obtain ⟨i, ao, cap, l, rfl, rfl, hi, hls, hlp⟩ := hrel
      have HLS := Lib.hid hls
      have HLP := Lib.hid hlp
      have hll := hlp.len
      by_cases hil : i < l.length
      · obtain ⟨v, hv⟩ : ∃ v, l[i]? = some v := ⟨_, List.getElem?_eq_getElem hil⟩
        have hvn := (hlp.rch v (List.mem_of_getElem? hv)).1
        have hili : (i : Int) < (l.length : Int) := by omega
        have hvi : (v : Int) < (n : Int) := by omega
        obtain ⟨g, rfl, hgB, hlc, hlm, hlx⟩ := rowcell hls.out (by omega)
        have x0 := (hlx i _ (iv_get l i v hv)).1
        obtain ⟨ge, off, ro, rc, rfl, hge, ce', hel, hem, hex⟩ := HED.out.row v hvn
        have ce := (hls.bel.cell (p := ⟨ge, off + v, none⟩) hge).trans ce'
        have HEX := Lib.hid hex
        have hem' : (E v).length ≤ 9223372036854775807 := by unfold maxLen at hem; omega
        have HV := Lib.hid hv
        have HS0 := Lib.hid (Seen.zero E n l v)
        clear hv hls hlp hlx hex ce'
        go_wp2_with fail
        go_loopw [6, 40] (fun ov jv wr2 => ∃ (j : Nat) (ao : Option Addr) (cap : Nat) (l : List Nat), ov = .slice ao l.length cap ∧ jv = .int .i64 j ∧ j ≤ (E v).length ∧ LS w.heap.size w wr2 gs n ao cap l ∧ LP E n u l i ∧ l[i]? = some v ∧ Seen E n l v j) (fun _ jv _ => (E v).length - (intOf jv).toNat)
        case atStart => exact ⟨0, _, _, l, rfl, rfl, Nat.zero_le _, HLS.out, HLP.out, HV.out, HS0.out⟩
        case round =>
          clear HLS HLP HV HS0 hll
          obtain ⟨j, ao, cap, l, rfl, rfl, hj, hls, hlp, hv, hseen⟩ := hrel
          have HLS := Lib.hid hls
          have HLP := Lib.hid hlp
          have HV := Lib.hid hv
          have HS := Lib.hid hseen
          have hll := hlp.len
          by_cases hjl : j < (E v).length
          · obtain ⟨x, hx⟩ : ∃ x, (E v)[j]? = some x := ⟨_, List.getElem?_eq_getElem hjl⟩
            obtain ⟨pb, po, rfl, hpB, cx'⟩ := HEX.out j x hx
            have cx := (hls.bel.cell (p := ⟨pb, po + j, none⟩) hpB).trans cx'
            have hji : (j : Int) < ((E v).length : Int) := by omega
            have HX := Lib.hid hx
            clear hx cx'
            by_cases hx0 : x < 0
            · have hx0' : ¬ (0 ≤ x) := by omega
              have HN := Lib.hid (hseen.more (fun y hy => hy) HX.out (fun h => absurd h hx0'))
              clear hls hlp hv hseen
              go_wp2_with fail
              go_roundw
              case rel => exact ⟨j + 1, ao, cap, l, by trivial, by go_num, by omega, HLS.out, HLP.out, HV.out, HN.out⟩
              case measure => simp [intOf]; omega
            · have hx0' : 0 ≤ x := by omega
              by_cases hxn : (n : Int) ≤ x
              · have hxn' : ¬ x < (n : Int) := by omega
                have HN := Lib.hid (hseen.more (fun y hy => hy) HX.out (fun _ h => absurd h hxn'))
                clear hls hlp hv hseen
                go_wp2_with fail
                go_roundw
                case rel => exact ⟨j + 1, ao, cap, l, by trivial, by go_num, by omega, HLS.out, HLP.out, HV.out, HN.out⟩
                case measure => simp [intOf]; omega
              · obtain ⟨xn, rfl⟩ : ∃ xn : Nat, x = xn := ⟨x.toNat, by omega⟩
                have hxl : xn < n := by omega
                have hxi : (xn : Int) < (n : Int) := by omega
                obtain ⟨c1, f1⟩ := rowB_cell hls.seen xn hxl
                by_cases hm : xn ∈ l
                · rw [decide_eq_true hm] at c1
                  have HN := Lib.hid (hseen.more (fun y hy => hy) HX.out (fun _ _ => by simpa using hm))
                  clear hls hlp hv hseen hm
                  go_wp2_with fail
                  go_roundw
                  case rel => exact ⟨j + 1, ao, cap, l, by trivial, by go_num, by omega, HLS.out, HLP.out, HV.out, HN.out⟩
                  case measure => simp [intOf]; omega
                · rw [decide_eq_false hm] at c1
                  have HN := Lib.hid (hseen.more (m := l ++ [xn]) (fun y hy => List.mem_append_left _ hy) HX.out (fun _ _ => by simp))
                  have HLP2 := Lib.hid (hlp.add hv ⟨hvn, hxl, List.mem_of_getElem? HX.out⟩ hm)
                  have hil2 := (List.getElem?_eq_some_iff.1 hv).1
                  have HV2 : Hid ((l ++ [xn])[i]? = some v) := Lib.hid (by rw [List.getElem?_append_left hil2]; exact hv)
                  have hown := own_kept hls.out (w1 := wr.setCell ⟨gs, xn, none⟩ (.bool true)) ((Mods.refl (fun k => k = gs) wr).setCell (p := ⟨gs, xn, none⟩) (fun _ => rfl) _) (fun k hk e => by
                    cases ao with
                    | none => cases hk
                    | some a => obtain rfl := Option.some.inj hk; exact hls.ne a rfl e)
                  have HOWN := Lib.hid hown
                  have hB := hls.hB
                  have hsz : (wr.setCell ⟨gs, xn, none⟩ (.bool true)).heap.size = wr.heap.size := by simp [World.setCell]
                  have HSZ := Lib.hid hsz
                  clear hls hlp hv hseen hm hown hsz
                  go_upto_region 14 with fail
                  obtain ⟨w3, hw3⟩ : ∃ w3, w3 = wr.setCell ⟨gs, xn, none⟩ (.bool true) := ⟨_, rfl⟩
                  rw [← hw3]
                  rw [← hw3] at HOWN HSZ
                  have HW3 := Lib.hid hw3
                  have hB3 : w.heap.size ≤ w3.heap.size := by rw [HSZ.out]; exact hB
                  clear hw3 c1 f1
                  go_wp2_with (refine wpList_append_lies _ (by rfl) (.tmp 62) (.tmp 64) 79 (by rfl) w.heap.size 3 i0 _ 1 8 Tryz.underlying79 hii hz0 hz1 hz2 rfl (by decide) (.slice ao l.length cap) l.length (iv l) (by rfl) (by exact HOWN.out.alloc _) ⟨w3.heap.size, 0, none⟩ 1 1 [.int .i64 (xn : Int)] (by rfl) (by rfl) (World.news_of_block (cs := #[.int .i64 (xn : Int)]) (t := 3) (fr := (0, 0)) (heap_alloc_new w3 _)) (by simp [Value.oneCell']) (by omega) (by unfold maxLen; omega) (by omega) (by simp; omega) (w3.heap.size + 1) (by simp) ?_; intro gg cg w7 hown hgrow hat hlt7; have HG7 := Lib.hid (And.intro hown (And.intro hgrow hat)); clear hown hgrow hat)
                  go_roundw
                  case rel => exact ⟨j + 1, some ⟨gg, 0, none⟩, cg, l ++ [xn], by rw [List.length_append]; rfl, by go_num, by omega, HLS.out.step xn HG7.out.1 (by rw [← HW3.out]; exact HG7.out.2.1), HLP2.out, HV2.out, HN.out⟩
                  case measure => simp [intOf]; omega
          · have hji : ¬ (j : Int) < ((E v).length : Int) := by omega
            obtain rfl : j = (E v).length := by omega
            have HLP2 := Lib.hid (hlp.next hv hseen)
            have hil2 := (List.getElem?_eq_some_iff.1 hv).1
            clear hls hlp hv hseen
            go_wp2_with fail
            go_roundw
            case rel => exact ⟨i + 1, ao, cap, l, by trivial, by go_num, by omega, HLS.out, HLP2.out⟩
            case measure => simp [intOf]; omega
      · obtain rfl : i = l.length := by omega
        have hili : ¬ (l.length : Int) < (l.length : Int) := by omega
        have hne : 0 < l.length := List.length_pos_iff.2 (fun e => by have := hlp.st; rw [e] at this; cases this)
        obtain ⟨g, rfl, hgB, hlc, hlm, hlx⟩ := rowcell hls.out hne
        have hsort := sort_own w.heap.size wr g cap l hls.out (by omega)
        have hgB : w.heap.size ≤ g := by obtain ⟨_, _, hb⟩ := own_heap hls.out _ rfl; exact hb
        clear hls hlp hlx
        go_wp2_with fail
        refine hsort.mono ?_
        rintro e w5 ⟨rfl, l', hp, hs, hlen, ho, hm⟩
        have HO : Hid (w5.ownsRow w.heap.size 3 1 (.slice (some ⟨g, 0, none⟩) l'.length cap) l'.length (iv l')) := Lib.hid (by rw [hlen]; exact ho)
        have HL := Lib.hid (HLP.out.done hp hs)
        have HB := Lib.hid (HLS.out.bel.trans (hm.below (B := w.heap.size) (fun k hk => by rw [show k = g from hk]; exact hgB) HLS.out.hB))
        have HLEN := Lib.hid hlen
        clear hp hs hlen ho hm hsort
        go_wp2_with fail
        go_ret
        exact ⟨some ⟨g, 0, none⟩, cap, l', by rw [HLEN.out]; rfl, HL.out, HO.out, HB.out⟩
end Go.Proofs.YtndfhejfhfhbdaaGreatDoor.K

/- What the order of records is: by nodes, and by records. -/
namespace Go.Proofs.YtndfhejfhfhbdaaGreatDoor.O
open Go.RowKit Go.Proofs.YtndfhejfhfhbdaaGreatDoor.M Go.BigFrame Go.Proofs.YtndfhejfhfhbdaaGreatDoor.K Go.Proofs.YtndfhejfhfhbdaaGreatDoor.T
set_option linter.unusedVariables false
set_option linter.unusedSimpArgs false

theorem Cmps.of {E : Nat → List Int} {n : Nat} {L : List (List Nat)} {q : Nat → Nat} (h : Comp E n L q) : Cmps E n L q := ⟨h.d1, h.d2, h.d3, h.d4, h.d5⟩
theorem inorder_ext {E E2 : Nat → List Int} {n : Nat} {L : List (List Nat)} {q : Nat → Nat} (he : ∀ u w, T.Edge E n u w ↔ T.Edge E2 n u w) (h : InOrder E n L q) : InOrder E2 n L q := by
  have hc := Cmps.ext (Cmps.of h.co) he
  refine ⟨⟨hc.d1, hc.d2, hc.d3, hc.d4, hc.d5⟩, fun p p' h1 h2 h3 => ?_⟩
  obtain ⟨u, v, a, b, c, d⟩ := h.le p p' h1 h2 h3
  exact ⟨u, v, a, (he u v).1 b, c, d⟩
theorem leads_ext {E E2 : Nat → List Int} {n : Nat} {f : Int} {l : List Nat} (he : ∀ u w, T.Edge E n u w ↔ T.Edge E2 n u w) (h : LeadsTo E n f l) : LeadsTo E2 n f l := by
  refine ⟨h.srt, fun v => (h.mem v).trans ⟨?_, ?_⟩⟩
  · rintro ⟨h1, u, h2, h3, h4⟩
    exact ⟨h1, u, h2, h3, path_ext (fun u w => (he u w).1) h4⟩
  · rintro ⟨h1, u, h2, h3, h4⟩
    exact ⟨h1, u, h2, h3, path_ext (fun u w => (he u w).2) h4⟩
theorem EdAt.ext {B : Nat} {w : World} {eo : Option Addr} {n ec : Nat} {E E2 : Nat → List Int} (h : EdAt B w eo n ec E) (he : ∀ i, i < n → E i = E2 i) : EdAt B w eo n ec E2 :=
  ⟨h.le, fun i hi => by rw [← he i hi]; exact h.row i hi⟩
/-- the order of nodes that lie by their ids -/
def Row (s : List Nd) (out : List Id) : Prop := ∃ L q, InOrder (edR s) s.length L q ∧ out = rowI s L
theorem Row.one {s : List Nd} {a b : List Id} (h : Row s a) (h2 : Row s b) : a = b := by
  obtain ⟨L, q, h3, rfl⟩ := h
  obtain ⟨L2, q2, h4, rfl⟩ := h2
  rw [h3.one h4]
theorem Row.cmps {s : List Nd} {a : List Id} (h : Row s a) : ∃ L q, Cmps (edR s) s.length L q ∧ a = rowI s L := by
  obtain ⟨L, q, h3, rfl⟩ := h
  exact ⟨L, q, .of h3.co, rfl⟩
/-- records by their ids -/
def iR (a b : Rv) : Bool := ilt a.id b.id
def srtR (X : List Rv) : List Rv := srt iR X
def nds (X : List Rv) : List Nd := X.map Rv.nd
theorem nds_ids (X : List Rv) : idsOf (nds X) = idsX X := by unfold idsOf nds; rw [List.map_map]; rfl
theorem srtR_nd (X : List Rv) : nds (srtR X) = byIds (nds X) := (srt_map iln Rv.nd X).symm
theorem srtR_perm (X : List Rv) : (srtR X).Perm X := srt_perm X
theorem srtR_len (X : List Rv) : (srtR X).length = X.length := (srtR_perm X).length_eq
theorem nodup_inj {α β : Type} (f : α → β) : ∀ {l : List α}, (l.map f).Nodup → ∀ {a b}, a ∈ l → b ∈ l → f a = f b → a = b
  | [], _, _, _, h, _, _ => by cases h
  | x :: l, hn, a, b, ha, hb, e => by
    rw [List.map_cons, List.nodup_cons] at hn
    rcases List.mem_cons.1 ha with e1 | e1 <;> rcases List.mem_cons.1 hb with e2 | e2
    · rw [e1, e2]
    · exact absurd (List.mem_map.2 ⟨b, e2, by rw [← e, e1]⟩) hn.1
    · exact absurd (List.mem_map.2 ⟨a, e1, by rw [e, e2]⟩) hn.1
    · exact nodup_inj f hn.2 e1 e2 e
theorem nodup_of_map {α β : Type} (f : α → β) {l : List α} (h : (l.map f).Nodup) : l.Nodup := List.Pairwise.of_map f (fun a b h e => h (congrArg f e)) h
theorem iR_tot {X : List Rv} (h : (idsX X).Nodup) : Tot iR X :=
  ⟨fun a => ilt_irr _, fun a b c => ilt_trans, fun a ha b hb hne => ilt_tri fun e => hne (nodup_inj Rv.id h ha hb e)⟩
theorem pw_strict {α : Type} {lt : α → α → Bool} {l : List α} (hT : Tot lt l) (hn : l.Nodup) (h : l.Pairwise (fun a b => lt b a = false)) : l.Pairwise (fun a b => lt a b = true) := by
  have h2 : l.Pairwise (fun a b => a ∈ l ∧ b ∈ l ∧ a ≠ b) := by
    have := List.Pairwise.and_mem.1 hn
    exact this.imp fun ⟨a, b, c⟩ => ⟨a, b, c⟩
  exact (List.Pairwise.and h h2).imp fun ⟨h1, ha, hb, hne⟩ => (hT.tri _ ha _ hb hne).resolve_right (by rw [h1]; simp)
theorem srtR_one {X m : List Rv} (hn : (idsX X).Nodup) (hp : m.Perm X) (hs : m.Pairwise (fun a b => ilt b.id a.id = false)) : m = srtR X := by
  have hT := iR_tot hn
  have hX := nodup_of_map _ hn
  exact srt_one hT hX hp (pw_strict (hT.perm hp) (hp.nodup_iff.2 hX) hs)
theorem srtR_same {X m : List Rv} (hn : (idsX X).Nodup) (hp : m.Perm X) : srtR m = srtR X := srt_same (iR_tot hn) (nodup_of_map _ hn) hp
theorem srtR_ids {X : List Rv} (hn : (idsX X).Nodup) : (idsX (srtR X)).Nodup := ((srtR_perm X).map Rv.id).nodup_iff.2 hn
/-- the records of a component -/
def partR (s : List Rv) (c : List Nat) : List Rv := c.map fun i => s.getD i default
theorem partR_nd (s : List Rv) (c : List Nat) : nds (partR s c) = part (nds s) c := by
  unfold nds partR part
  rw [List.map_map]
  congr 1
  funext i
  simp only [Function.comp_apply, List.getD, List.getElem?_map]
  cases s[i]? with
  | none => rfl
  | some a => rfl
theorem partR_app (s : List Rv) (c d : List Nat) : partR s (c ++ d) = partR s c ++ partR s d := List.map_append
theorem partR_one {s : List Rv} {i : Nat} {x : Rv} (h : s[i]? = some x) : partR s [i] = [x] := by unfold partR; simp [List.getD, h]
/-- what is sorted within is one -/
theorem within_one {l m : List Rv} (hn : (idsX l).Nodup) (hp : m.Perm l) (hs : m.Pairwise (fun a b => wlt b.nd a.nd = false)) : m.map Rv.id = O.within (nds l) := by
  have hU : Unl (nds l) := by unfold Unl; rw [nds_ids]; exact hn
  have hp2 : (nds m).Perm (nds l) := hp.map _
  have hs2 : (nds m).Pairwise (fun a b => wlt b a = false) := by unfold nds; rw [List.pairwise_map]; exact hs
  have := srt_one hU.wlt hU.nodup hp2 (pw_strict (hU.wlt.perm hp2) (hp2.nodup_iff.2 hU.nodup) hs2)
  unfold O.within
  rw [← this, nds_ids]
theorem edR_get {s : List Rv} {u : Nat} {x : Rv} (h : s[u]? = some x) : edR (nds s) u = x.deps.map (atI (idsX s)) := by
  unfold edR
  have : (nds s)[u]? = some x.nd := by unfold nds; rw [List.getElem?_map, h]; rfl
  rw [this]
  simp only [nds_ids]
  rfl
theorem rows_ed (X : List Rv) (i : Nat) (hi : i < X.length) : (((rowsG X X.length)[i]?).getD []).map (fun k : Nat => (k : Int)) = edP (nds X) i := by
  have hx : X[i]? = some X[i] := List.getElem?_eq_getElem hi
  unfold rowsG edP
  rw [List.take_length, List.getElem?_map, hx, edR_get hx]
  exact plN_ed _ _
end Go.Proofs.YtndfhejfhfhbdaaGreatDoor.O

/- append of rows; order.Order. -/
namespace Go
section
variable {P : Program} {w : World}
/-- nothing is appended -/
theorem run_append_owned_empty (base : Nat) (t ty e : TypeId) (i : TypeInfo) (size : Nat) (ht : P.underlying t = some (.slice e)) (hi : P.info? e = some i)
    (v : Value) (n : Nat) (xs : List Value) (hown : w.ownsRow base e size v n xs) (ao : Option Addr) (c : Nat) :
    (Builtin.append_ #[t, t] ty #[v, .slice ao 0 c]).run P w = .ok v w := by
  rcases hown.2 with ⟨rfl, rfl⟩ | ⟨g, cap, cur, rfl, _, _, hnc, _⟩
  · cases ao <;> simp [Builtin.append_, run_underlying ht, sizeOf, typeInfo, hi, Builtin.lenOf, Builtin.firstCells, loadCells, loadCellsFrom]
  · cases ao <;> simp [Builtin.append_, run_underlying ht, sizeOf, typeInfo, hi, Builtin.lenOf, Builtin.firstCells, hnc, loadCells, loadCellsFrom, storeCells]
end
end Go
namespace Go.Proofs.YtndfhejfhfhbdaaGreatDoor.O
open Go.RowKit Go.Proofs.YtndfhejfhfhbdaaGreatDoor.M Go.BigFrame Go.Proofs.YtndfhejfhfhbdaaGreatDoor.K Go.Proofs.YtndfhejfhfhbdaaGreatDoor.T
set_option linter.unusedVariables false
set_option linter.unusedSimpArgs false

section
variable {P : Program} {w : World} {α : Type}
/-- what is appended lies here -/
def SrcAt (w : World) (so : Option Addr) (l : List Value) : Prop := l ≠ [] → ∃ ad, so = some ad ∧ ∀ j u, l[j]? = some u → w.cell? (ad.add j) = some u
theorem SrcAt.of_own {B : Nat} {e : TypeId} {k n : Nat} {so : Option Addr} {sc : Nat} {l : List Value} (h : w.ownsRow B e k (.slice so n sc) n l) : SrcAt w so l := by
  intro hne
  obtain ⟨ao', cap', e0, h1, h2, h3, h4⟩ := M.own_view h
  cases e0
  cases so with
  | none =>
    rcases h.2 with ⟨h5, h6⟩ | ⟨g, cap, cur, h5, _⟩
    · refine absurd (List.eq_nil_of_length_eq_zero ?_) hne
      rw [h.1, h6, Nat.zero_mul]
    · cases h5
  | some a =>
    obtain ⟨g, cur, rfl, _, hg, hsz, htk⟩ := h4 a rfl
    refine ⟨_, rfl, fun j u hj => ?_⟩
    have hjl : j < n * k := by
      have := (List.getElem?_eq_some_iff.1 hj).1
      rw [← htk, List.length_take] at this
      omega
    have ea : (⟨g, 0, none⟩ : Addr).add j = ⟨g, 0 + j, none⟩ := by
      unfold Addr.add
      split
      · next e => rw [e]
      · rfl
    rw [ea, cell_of_row w g _ _ _ _ hg, Nat.zero_add, ← Array.getElem?_toList, ← hj, ← htk, List.getElem?_take_of_lt hjl]
theorem wpList_apps (enc : α → List Value) (k : Nat) (hk : ∀ x, (enc x).length = k) (h0 : 0 < k) (h1 : ∀ x, ∀ v ∈ enc x, v.oneCell' = true) {ops : Array Oper} {rest : List Oper} {o : Oper} {a : Act} {Q : Exit → Act → World → Prop} (hgd : o.guard = none) (s x : Operand) (t : TypeId)
    (ho : o.op = .call { callee := .builtin .append, args := #[s, x], argTypes := #[t, t] }) (B : Nat) (e : TypeId) (i : TypeInfo) (z : Value) (bytes : Nat) (ht : P.underlying t = some (.slice e)) (hi : P.info? e = some i) (hz : i.zero = some z)
    (hsize : i.size = k) (hby : i.bytes = bytes) (hb2 : bytes ≤ 1000) (hzs : z.cells.size = k) (oo : Option Addr) (oc m : Nat) (M : List α) (hMl : M.length = m) (so : Option Addr) (sc n : Nat) (N : List α) (hNl : N.length = n) (hs : a.eval s = .slice oo m oc)
    (hown : w.ownsRow B e k (.slice oo m oc) m (M.flatMap enc)) (hx : a.eval x = .slice so n sc) (hsrc : SrcAt w so (N.flatMap enc)) (hM : m + n ≤ 100000000) (hB : B ≤ w.heap.size)
    (h : ∀ oo' oc' w', w'.ownsRow B e k (.slice oo' (m + n) oc') (m + n) ((M ++ N).flatMap enc) → Mods (fun j => ∃ a, oo = some a ∧ j = a.block) w w' → Below B w w' → wpList P ops Q rest (a.put o.dst (.slice oo' (m + n) oc')) w') :
    wpList P ops Q (o :: rest) a w := by
  cases N with
  | nil =>
    obtain rfl : n = 0 := by rw [← hNl]; rfl
    have hrun := run_append_owned_empty (P := P) (w := w) B t o.type e i k ht hi _ _ _ hown so sc
    have hK := h oo oc w (by simpa using hown) (Mods.refl _ _) (Below.refl _ _)
    rw [Nat.add_zero] at hK
    refine wpList_plain hgd fun K hKK => ?_
    unfold Oper.wp
    simp [execOp, ho, resolve, invoke, builtin, hs, hx, hrun, Result.andThen]
    exact hKK _ _ hK
  | cons y N' =>
    obtain ⟨N, hN⟩ : ∃ N, y :: N' = N := ⟨_, rfl⟩
    have hpos : 0 < n := by rw [← hNl]; simp
    rw [hN] at hNl hsrc h
    clear hN
    have hlen : (N.flatMap enc).length = n * k := by rw [← hNl]; exact flat_len enc k hk N
    have hne : N.flatMap enc ≠ [] := fun e0 => by
      rw [e0] at hlen
      have := Nat.mul_pos hpos h0
      simp at hlen
      omega
    obtain ⟨ad, rfl, hcells⟩ := hsrc hne
    refine wpList_append_lies _ hgd s x t ho B e i z k bytes ht hi hz hsize hby hzs h0 (.slice oo m oc) m (M.flatMap enc) hs hown ad n sc (N.flatMap enc) hx hlen hcells
      (fun u hu => by obtain ⟨x, hx1, hx2⟩ := List.mem_flatMap.1 hu; exact h1 x u hx2) hpos (by unfold maxLen; omega) ?_ hB w.heap.size rfl ?_
    · have : (m + n) * bytes ≤ 100000000 * 1000 := Nat.mul_le_mul (by omega) hb2
      omega
    · intro g cap w' hown' hgrow _ _
      have hm : Mods (fun j => ∃ a, oo = some a ∧ j = a.block) w w' := (Mods.refl _ w).then (Mods.of_grown hgrow) (fun k _ hk => by
        cases oo with
        | none => cases hk
        | some a => exact ⟨a, rfl, (Option.some.inj hk).symm⟩)
      have hb : Below B w w' := hm.below (fun j ⟨a, e1, e2⟩ => by
        subst e1
        rw [e2]
        exact (hown.lt a.block rfl).1) hB
      exact h (some ⟨g, 0, none⟩) cap w' (by rw [List.flatMap_append]; exact hown') hm hb
/-- what stands ahead of a place, and behind it -/
theorem flat_cut (enc : α → List Value) (k : Nat) (hk : ∀ x, (enc x).length = k) (l : List α) (i : Nat) : l.flatMap enc = (l.take i).flatMap enc ++ (l.drop i).flatMap enc ∧ (i < l.length → ((l.take i).flatMap enc).length = i * k) ∧ (l.length ≤ i → (l.flatMap enc).length ≤ i * k) := by
  refine ⟨by rw [← List.flatMap_append, List.take_append_drop], fun h => ?_, fun h => ?_⟩
  · rw [flat_len enc k hk, List.length_take, Nat.min_eq_left (Nat.le_of_lt h)]
  · rw [flat_len enc k hk]
    exact Nat.mul_le_mul_right k h
theorem flat_drop (enc : α → List Value) (k : Nat) (hk : ∀ x, (enc x).length = k) (l : List α) (i : Nat) : (l.drop i).flatMap enc = (l.flatMap enc).drop (i * k) := by
  obtain ⟨h1, h2, h3⟩ := flat_cut enc k hk l i
  rcases Nat.lt_or_ge i l.length with h | h
  · rw [h1, ← h2 h, List.drop_left]
  · rw [List.drop_eq_nil_of_le h, List.drop_eq_nil_of_le (h3 h)]
    rfl
theorem flat_take (enc : α → List Value) (k : Nat) (hk : ∀ x, (enc x).length = k) (l : List α) (i : Nat) : (l.take i).flatMap enc = (l.flatMap enc).take (i * k) := by
  obtain ⟨h1, h2, h3⟩ := flat_cut enc k hk l i
  rcases Nat.lt_or_ge i l.length with h | h
  · rw [h1, ← h2 h, List.take_left]
  · rw [List.take_of_length_le h, List.take_of_length_le (h3 h)]
theorem SrcAt.front {so : Option Addr} {l : List Value} (h : SrcAt w so l) (j : Nat) : SrcAt w so (l.take j) := by
  intro hne
  obtain ⟨ad, h1, h2⟩ := h (fun e => hne (by rw [e]; simp))
  refine ⟨ad, h1, fun i u hi => h2 i u ?_⟩
  have := (List.getElem?_eq_some_iff.1 hi).1
  rw [List.length_take] at this
  rwa [List.getElem?_take_of_lt (by omega)] at hi
theorem SrcAt.back {so : Option Addr} {l : List Value} (h : SrcAt w so l) (j : Nat) : SrcAt w (so.map (·.add j)) (l.drop j) := by
  intro hne
  obtain ⟨ad, h1, h2⟩ := h (fun e => hne (by rw [e]; simp))
  subst h1
  refine ⟨ad.add j, rfl, fun i u hi => ?_⟩
  rw [List.getElem?_drop] at hi
  have := h2 _ u hi
  rwa [Addr.add_add]
end
theorem part_ids {s : List Rv} {c : List Nat} (hn : (idsX s).Nodup) (hc : c.Pairwise (· < ·)) (hl : ∀ x ∈ c, x < s.length) : (idsX (partR s c)).Nodup := by
  have e : idsX (partR s c) = c.map fun i => (idsX s).getD i default := by
    show (c.map fun i => s.getD i default).map Rv.id = _
    rw [List.map_map]
    refine List.map_congr_left fun i hi => ?_
    obtain ⟨y, h1⟩ : ∃ y, s[i]? = some y := ⟨_, List.getElem?_eq_getElem (hl i hi)⟩
    simp [List.getD, h1]
  rw [e]
  unfold List.Nodup
  rw [List.pairwise_map]
  refine (List.Pairwise.and_mem.1 hc).imp fun {a b} ⟨ha, hb, hab⟩ => ?_
  have h1 := hl a ha
  have h2 := hl b hb
  obtain ⟨ya, e1⟩ : ∃ y, (idsX s)[a]? = some y := ⟨_, List.getElem?_eq_getElem (by simpa using h1)⟩
  obtain ⟨yb, e2⟩ : ∃ y, (idsX s)[b]? = some y := ⟨_, List.getElem?_eq_getElem (by simpa using h2)⟩
  simp only [List.getD, e1, e2, Option.getD_some]
  intro e3
  have e4 : (idsX s)[a]? = (idsX s)[b]? := by rw [e1, e2, e3]
  have := (List.getElem?_inj (by simpa using h1) hn).1 e4
  omega
theorem rowI_next (s : List Nd) {L : List (List Nat)} {k : Nat} {c : List Nat} (hc : L[k]? = some c) : rowI s (L.take (k + 1)) = rowI s (L.take k) ++ within (part s c) := by
  unfold rowI
  rw [List.take_add_one, hc]
  simp
theorem within_len (l : List Nd) : (within l).length = l.length := by unfold within idsOf; rw [List.length_map]; exact (srt_perm l).length_eq
theorem partR_len (s : List Rv) (c : List Nat) : (partR s c).length = c.length := List.length_map _
/-- the components of sorted records -/
theorem inorder_row {X S : List Rv} (hS : nds S = byIds (nds X)) (hU : Unl (nds X)) {L : List (List Nat)} {q : Nat → Nat} (h : InOrder (edP (nds S)) S.length L q) : Row (byIds (nds X)) (rowI (nds S) L) := by
  have hU2 : Unl (nds S) := by rw [hS]; exact hU.perm (byIds_perm _)
  have hl : (nds S).length = S.length := List.length_map _
  refine ⟨L, q, ?_, by rw [hS]⟩
  rw [← hS, hl]
  rw [← hl] at h ⊢
  exact inorder_ext (fun u w => (edgeP hU2).trans (edgeR hU2).symm) h
end Go.Proofs.YtndfhejfhfhbdaaGreatDoor.O
