/- The contract of Comps. -/
import Derived.Test.YtmmggeaaheegmaaCompO
namespace Go.Proofs.Ytmmggeaaheegmaa.K
open Go.RowKit M T
set_option linter.unusedVariables false
set_option linter.unusedSimpArgs false

theorem tab_range (k : Nat) (f : Nat → Int) (h : ∀ v, v < k → f v = v) : (tab k f).toList = iv (List.range k) := by
  unfold tab iv
  exact List.map_congr_left fun v hv => by rw [h v (List.mem_range.1 hv)]
theorem own_tab {w : World} {B g k : Nat} {f : Nat → Int} (hg : w.heap[g]? = some (.cells (tab k f) 3 (0, 0))) (hB : B ≤ g) (hk : k ≤ 10000) (h : ∀ v, v < k → f v = v) : w.ownsRow B 3 1 (.slice (some ⟨g, 0, none⟩) k k) k (iv (List.range k)) :=
  ⟨by simp [iv], .inr ⟨g, k, _, rfl, hB, hg, Nat.le_refl _, by unfold maxLen; omega, by rw [tab_size, Nat.mul_one], by rw [tab_range k f h, Nat.mul_one]; exact List.take_of_length_le (by simp [iv])⟩⟩

def lenV : Value → Nat
  | .slice _ n _ => n
  | _ => 0
theorem OutAt.base {B B' : Nat} {w : World} {oo : Option Addr} {oc : Nat} {R : List (Option Addr × Nat)} {L : List (List Nat)} (h : OutAt B w oo oc R L) (hB : B' ≤ B) : OutAt B' w oo oc R L := by
  refine ⟨own_base h.top (fun k hk => ?_), h.rl, fun i c r hc hr => own_base (h.row i c r hc hr) (fun k hk => ?_)⟩
  · cases oo with
    | none => cases hk
    | some a => obtain rfl := Option.some.inj hk; obtain ⟨_, _, h2⟩ := h.lt.1 a rfl; omega
  · obtain ⟨r1, r2⟩ := r
    cases r1 with
    | none => cases hk
    | some a => obtain rfl := Option.some.inj hk; obtain ⟨_, _, h2⟩ := h.lt.2 _ (List.mem_of_getElem? hr) a rfl; omega
theorem pw_len : ∀ (c : List Nat) (lo n : Nat), c.Pairwise (· < ·) → (∀ x ∈ c, lo ≤ x ∧ x < n) → c.length ≤ n - lo := by
  intro c
  induction c with
  | nil => intro lo n _ _; exact Nat.zero_le _
  | cons a t ih =>
    intro lo n hp hb
    have h1 := hb a List.mem_cons_self
    have h2 := ih (a + 1) n (List.pairwise_cons.1 hp).2 (fun x hx => ⟨(List.pairwise_cons.1 hp).1 x hx, (hb x (List.mem_cons_of_mem _ hx)).2⟩)
    rw [List.length_cons]
    omega
theorem Comp.row_len {E : Nat → List Int} {n : Nat} {C : List (List Nat)} {q : Nat → Nat} (hC : Comp E n C q) {i : Nat} {c : List Nat} (hc : C[i]? = some c) : c.length ≤ n :=
  pw_len c 0 n (hC.d3 c (List.mem_of_getElem? hc)).1 (fun x hx => ⟨Nat.zero_le _, (hC.d2 i c x hc hx).1⟩)
theorem upd_mem (ems : List Nat) (x : Nat) : upd (fun i => decide (i ∈ ems)) x true = fun i => decide (i ∈ ems ++ [x]) := by
  funext y
  unfold upd
  by_cases e : y = x <;> simp [e]
set_option maxRecDepth 100000 in
set_option maxHeartbeats 4000000 in
theorem comps_any (E : Nat → List Int) (n : Nat) (eo : Option Addr) (ec : Nat) (w : World) (hEd : EdAt w.heap.size w eo n ec E) (hn : n ≤ 10000) :
    Calls Try.prog 10 #[.slice eo n ec] w fun e w' => ∃ oo oc R L q, e = .returned (.slice oo L.length oc) ∧ (InOrder E n L q ∧ OutAt w.heap.size w' oo oc R L ∧ Below w.heap.size w w') := by
  obtain ⟨i0, hii, hz0, hz1, hz2⟩ := info_parts info_ints
  have HED := Lib.hid hEd
  clear hEd
  go_enter Try.func10, Try.ntmps10
  go_wp2_with fail
  refine (find_any E n eo ec w HED.out hn).mono ?_
  rintro e wf ⟨b, rfl, m, s, hfd, hall⟩
  have hC := (comp_of hfd.inv hall).1
  have hRD := RD.of hfd hall
  have hEf := HED.out.below hfd.bel
  have hCk : s.comps.length ≤ 10000 := by have := hfd.cnt; omega
  have HBF := Lib.hid hfd.bel
  obtain ⟨C, hCe⟩ : ∃ C, C = s.comps := ⟨_, rfl⟩
  obtain ⟨q, hqe⟩ : ∃ q, q = qOf s := ⟨_, rfl⟩
  rw [← hCe, ← hqe] at hC hRD
  rw [← hCe] at hCk
  clear hall hfd hCe hqe s m HED
  obtain ⟨k, hk⟩ : ∃ k, k = C.length := ⟨_, rfl⟩
  rw [← hk] at hCk
  have HC := Lib.hid hC
  have HRD := Lib.hid hRD
  have HEF := Lib.hid hEf
  have HK := Lib.hid hk
  clear hC hRD hEf hk
  go_upto_region 2 with fail
  obtain ⟨w1, hw1⟩ : ∃ w1, w1 = wf.alloc (.cells #[.pointer (some ⟨b, 0, none⟩)] 34) := ⟨_, rfl⟩
  obtain ⟨bf, hbf⟩ : ∃ bf, bf = wf.heap.size := ⟨_, rfl⟩
  have hb1 : Below wf.heap.size wf w1 := by rw [hw1]; exact (Below.refl _ _).alloc (Nat.le_refl _) _
  have hx1 : w1.heap[bf]? = some (.cells #[.pointer (some ⟨b, 0, none⟩)] 34 (0, 0)) := by rw [hw1, hbf]; exact heap_alloc_new wf _
  have f0 : w1.cell? ⟨bf, 0, none⟩ = some (.pointer (some ⟨b, 0, none⟩)) := cell_of_row w1 bf 0 _ _ _ hx1
  have hrd := HRD.out.below hb1
  have hBF1 : Below w.heap.size w w1 := HBF.out.trans (by
    have := HBF.out.size
    rw [hw1]; exact (Below.refl _ _).alloc this _)
  have hEf1 := HEF.out.below (show Below w.heap.size wf w1 by
    have := HBF.out.size
    rw [hw1]; exact (Below.refl _ _).alloc this _)
  rw [← hw1, ← hbf]
  have HF0 := Lib.hid f0
  clear hw1 hbf hx1 hb1 HRD HEF HBF
  obtain ⟨go, co, cc, c0, c3, c6', hle, hmx, hq, hrows⟩ := hrd.hd
  have c6 : w1.cell? ⟨b, 6, none⟩ = some (.slice co k cc) := by rw [HK.out]; exact c6'
  have C6 := Lib.hid c6
  have HRD := Lib.hid hrd
  have HE := Lib.hid hEf1
  have HB1 := Lib.hid hBF1
  have hmk := make_ints k hCk
  have hmb := make_bools k hCk
  clear hrd hEf1 hBF1 c0 c3 c6' hle hmx hq hrows
  go_wp2_with fail
  have HT0 := Lib.hid (heap_alloc_new w1 (.cells (tab k fun _ => 0) 3))
  obtain ⟨g, hg⟩ : ∃ g, g = w1.heap.size := ⟨_, rfl⟩
  have HG := Lib.hid hg
  rw [← hg] at HT0 ⊢
  obtain ⟨w2, hw2⟩ : ∃ w2, w2 = w1.alloc (.cells (tab k fun _ => 0) 3) := ⟨_, rfl⟩
  have HB2 : Hid (Below w1.heap.size w1 w2) := by rw [hw2]; exact Lib.hid ((Below.refl _ _).alloc (Nat.le_refl _) _)
  rw [← hw2] at HT0 ⊢
  clear hw2 hg f0 c6
  go_loopw [20] (fun iv wr => ∃ j : Nat, iv = .int .i64 j ∧ j ≤ k ∧ wr.heap[g]? = some (.cells (tab k fun y => if y < j then (y : Int) else 0) 3 (0, 0)) ∧ Below w1.heap.size w1 wr) (fun iv _ => k - (intOf iv).toNat)
  case atStart => exact ⟨0, rfl, Nat.zero_le _, by simpa using HT0.out, HB2.out⟩
  case round =>
    obtain ⟨j, rfl, hj, hh, hb⟩ := hrel
    have HH := Lib.hid hh
    have HB := Lib.hid hb
    by_cases hlt : j < k
    · obtain ⟨ko, fo⟩ := row_cell hh j hlt
      have hjk : (j : Int) < (k : Int) := by omega
      clear hh hb
      go_wp2_with fail
      go_roundw
      case rel =>
        refine ⟨j + 1, by go_num, by omega, ?_, HB.out.setCell (p := ⟨g, j, none⟩) (by rw [HG.out]; exact Nat.le_refl _) _⟩
        have := heap_set wr g j (.int .i64 (j : Int)) g _ _ _ HH.out
        rw [if_pos rfl, tab_set] at this
        rw [this]
        congr 2
        refine tab_congr _ _ _ fun v hv => ?_
        simp only [upd]
        by_cases e1 : v = j
        · simp [e1]
        · rw [if_neg e1]
          by_cases e2 : v < j
          · rw [if_pos e2, if_pos (by omega)]
          · rw [if_neg e2, if_neg (by omega)]
      case measure => simp [intOf]; omega
    · obtain rfl : j = k := by omega
      have hjk : ¬ ((j : Nat) : Int) < (j : Int) := by omega
      have hown := own_tab (B := w1.heap.size) hh (by rw [HG.out]; exact Nat.le_refl _) hCk (fun v hv => by rw [if_pos hv])
      rw [HK.out] at hown
      have hsort := sort_heads E n w1 wr b bf C q eo ec HC.out HRD.out HF0.out hn (by rw [← HK.out]; exact hCk) hb w1.heap.size g C.length (by rw [HG.out]; exact Nat.le_refl _) hown
      rw [← HK.out] at hsort
      clear hh hown
      go_wp2_with fail
      refine hsort.mono ?_
      rintro e w3 ⟨rfl, l, hl, hpw, hown3, hm3⟩
      have hb3 : Below w1.heap.size w1 w3 := HB.out.trans (hm3.below (fun k hk => by rw [show k = g from hk, HG.out]; exact Nat.le_refl _) HB.out.size)
      have HO3 := Lib.hid hown3
      have HP3 := Lib.hid (And.intro hl hpw)
      have HB3 := Lib.hid hb3
      have c6 := cell_below hb3 C6.out
      have f0 := cell_below hb3 HF0.out
      clear hl hpw hown3 hm3 hb3 hb HB HH HB2 HT0 hmk
      go_upto_region 10 with fail
      obtain ⟨w4, hw4⟩ : ∃ w4, w4 = (w3.alloc (.cells (tabB j fun _ => false) 4)).alloc (.cells #[.slice (some ⟨w3.heap.size, 0, none⟩) j j] 40) := ⟨_, rfl⟩
      obtain ⟨gB, hgB⟩ : ∃ gB, gB = w3.heap.size := ⟨_, rfl⟩
      obtain ⟨bc, hbc⟩ : ∃ bc, bc = w3.heap.size + 1 := ⟨_, rfl⟩
      rw [← hw4, ← hbc, ← hgB]
      have HCS4 : Hid (CS w1 j w4 g j gB bc l none 0 [] [] (fun _ => false)) := by
        have hb4 : Below w3.heap.size w3 w4 := by rw [hw4]; exact ((Below.refl _ _).alloc (Nat.le_refl _) _).alloc (by simp) _
        have hll : l.length = j := by rw [HP3.out.1.length_eq, HK.out]; simp
        have hs3 := HB3.out.size
        refine Lib.hid ⟨HB3.out.trans (hb4.mono hs3), ⟨by rw [HG.out]; exact Nat.le_refl _, by omega, by omega⟩, ?_, ?_, ?_, OutAt.nil _ _, fun r hr => by simp at hr⟩
        · rw [hll]
          exact own_kept HO3.out (Mods.of_below (S := fun _ => False) hb4) (fun _ _ h => h)
        · rw [hw4, hgB, heap_al, if_neg (by simp), heap_alloc_new]
        · rw [hw4, hbc, heap_al, if_pos (by simp), hgB]
      have HEM0 := Lib.hid (Em.start (E := E) (n := n) (C := C) (q := q) (by rw [← HK.out]; exact HP3.out.1) HP3.out.2)
      have HLL : Hid (l.length = j) := Lib.hid (by rw [HP3.out.1.length_eq, HK.out]; simp)
      clear hw4 hgB hbc c6 f0 HO3 HB3 hmb
      go_wp2_with fail
      have HLEN := Lib.hid (show (Value.slice (some ⟨g, 0, none⟩) j j) = .slice (some ⟨g, 0, none⟩) l.length j by rw [HLL.out])
      go_loopw [4, 7] (fun lv ov wr => ∃ (l ems : List Nat) (oo : Option Addr) (oc : Nat) (R : List (Option Addr × Nat)), lv = .slice (some ⟨g, 0, none⟩) l.length j ∧ ov = .slice oo ems.length oc ∧ CS w1 j wr g j gB bc l oo oc R (ems.map fun i => C.getD i []) (fun i => decide (i ∈ ems)) ∧ Em E n C q l ems) (fun lv _ _ => lenV lv)
      case atStart => exact ⟨l, [], none, 0, [], HLEN.out, rfl, by simpa using HCS4.out, HEM0.out⟩
      case round =>
        clear HCS4 HEM0 HLL HLEN HP3
        obtain ⟨l, ems, oo, oc, R, rfl, rfl, hcs, hem⟩ := hrel
        have HCS := Lib.hid hcs
        have HEM := Lib.hid hem
        by_cases hl0 : l.length = 0
        · obtain rfl : l = [] := List.length_eq_zero_iff.1 hl0
          have e0 : (([] : List Nat).length : Int) = 0 := rfl
          clear hcs hem
          go_wp2_with fail
          go_ret
          refine ⟨oo, oc, R, ems.map fun i => C.getD i [], _, by rw [List.length_map]; rfl, Em.done HC.out HEM.out, HCS.out.out.base HB1.out.size, HB1.out.trans (HCS.out.bel.mono HB1.out.size)⟩
        · have hgt : (0 : Int) < (l.length : Int) := by omega
          obtain ⟨i, x, hx, hr, hno⟩ := hem.next HC.out (fun e => hl0 (by rw [e]; rfl))
          have hil := (List.getElem?_eq_some_iff.1 hx).1
          have hili : (i : Int) < (l.length : Int) := by omega
          have hxC : x < C.length := hem.lt (.inl (List.mem_of_getElem? hx))
          have hxj : (x : Int) < (j : Int) := by have := HK.out; omega
          obtain ⟨g', eg, _, hlc, hlm, hlx⟩ := rowcell hcs.left (by omega)
          obtain rfl : g = g' := by simpa using eg
          have hlen : l.length ≤ j := hlc
          have l0 := (hlx i _ (iv_get l i x hx)).1
          have hRB : RB E n w.heap.size _ b bf bc gB C q eo ec (fun i => decide (i ∈ ems)) :=
            ⟨HE.out.below (hcs.bel.mono HB1.out.size), HRD.out.below hcs.bel, cell_below hcs.bel HF0.out, by rw [← HK.out]; exact cell_of_row _ _ _ _ _ _ hcs.cbox, fun i hi => (rowB_cell hcs.come i (by rw [HK.out]; exact hi)).1⟩
          have hfind := find_ready E n w.heap.size _ b bf bc gB C q eo ec _ hRB HC.out hn (by rw [← HK.out]; exact hCk) g j l (fun a y hy => (hlx a _ (iv_get l a y hy)).1) (by omega) (fun y hy => hem.lt (.inl hy)) i x hx hr hno
          have HX := Lib.hid hx
          have HR := Lib.hid hr
          have HNO := Lib.hid hno
          have hbc := hRB.cc
          rw [← HK.out] at hbc
          obtain ⟨y0, z0⟩ := rowB_cell hcs.come x (by rw [HK.out]; exact hxC)
          clear hcs hem hx hr hno hRB hlx eg
          go_wp2_with fail
          refine hfind.mono ?_
          rintro e w5 ⟨rfl, rfl⟩
          go_upto_region 15 with fail
          obtain ⟨w5, hw5⟩ : ∃ w5, w5 = wr.setCell ⟨gB, x, none⟩ (.bool true) := ⟨_, rfl⟩
          have hcs5 := HCS.out.set_come x
          rw [← hw5] at hcs5 ⊢
          rw [upd_mem] at hcs5
          have f5 := cell_below hcs5.bel HF0.out
          have c5 := cell_below hcs5.bel C6.out
          obtain ⟨c, hc, hcl, _, _, _⟩ := head_get HC.out hxC
          obtain ⟨_, co', cc', _, _, c6', hle, hmx, _, hrows⟩ := (HRD.out.below hcs5.bel).hd
          have e6 := c5.symm.trans c6'
          simp only [Option.some.injEq, Value.slice.injEq] at e6
          obtain ⟨rfl, hjj, rfl⟩ := e6
          clear hjj
          obtain ⟨gc, gr, cr, rfl, ch, hcr1, hcr2, hcell⟩ := hrows x c hc
          have hcn : c.length ≤ 10000 := Nat.le_trans (HC.out.row_len hc) hn
          have hcln := clone_own w1.heap.size w5 gr 0 cr c (fun a y hy => by rw [Nat.zero_add]; exact hcell a y hy) (by omega) hcl
          have hgd : C.getD x [] = c := by simp [List.getD, hc]
          have HGD := Lib.hid hgd
          have HCS5 := Lib.hid hcs5
          have hsum : ems.length + l.length = C.length := by have := HEM.out.pm.length_eq; simpa using this
          have heml : ems.length ≤ 10000 := by have := HK.out; omega
          clear hw5 hcs5 hc hrows hcell c6' hgd hbc y0 z0 l0 hfind hsum
          go_wp2_with fail
          refine hcln.mono ?_
          rintro e w6 ⟨gn, cn, rfl, hgn, hown6, hb6⟩
          have hcs6 := HCS5.out.below hb6
          have hs5 := HCS5.out.bel.size
          have hown6' : w6.ownsRow w1.heap.size 3 1 (.slice (some ⟨gn, 0, none⟩) c.length cn) c.length (iv c) := own_base hown6 (fun k hk => by have := Option.some.inj hk; simp only at this; omega)
          have hgng : gn ≠ g := by have := HCS5.out.lt.2.1; omega
          have HOW := Lib.hid hown6'
          have HCS6 := Lib.hid hcs6
          have htop := hcs6.out.top
          rw [List.length_map] at htop
          have HTOP := Lib.hid htop
          have hs6 := hcs6.bel.size
          clear hcs6 hown6 hown6' hb6 htop hcln
          go_wp2_with (refine wpList_append_lies _ (by rfl) (.tmp 50) (.tmp 59) 22 (by rfl) w1.heap.size 26 i0 _ 1 24 Try.underlying22 hii hz0 hz1 hz2 rfl (by decide) (.slice oo ems.length oc) ems.length (hdrs R (ems.map fun i => C.getD i [])) (by rfl) (by exact HTOP.out.alloc _) ⟨w6.heap.size, 0, none⟩ 1 1 [.slice (some ⟨gn, 0, none⟩) c.length cn] (by rfl) (by rfl) (World.news_of_block (cs := #[.slice (some ⟨gn, 0, none⟩) c.length cn]) (t := 26) (fr := (0, 0)) (heap_alloc_new w6 _)) (by simp [Value.oneCell']) (by omega) (by unfold maxLen; omega) (by omega) (by simp; omega) (w6.heap.size + 1) (by simp) ?_; intro gg cg w7 hown hgrow hat hlt7; have HG7 := Lib.hid (And.intro hown (And.intro hgrow hat)); clear hown hgrow hat)
          have hcs7 := HCS6.out.more HOW.out hgng (by rw [List.length_map]; exact HG7.out.1) (by rw [List.length_map]; exact HG7.out.2.1)
          have hdel := delete_own w1.heap.size w7 g j l i hcs7.left hil
          have HCS7 := Lib.hid hcs7
          clear hcs7
          refine hdel.mono ?_
          rintro e w8 ⟨rfl, hown8, hm8⟩
          have hcs8 := HCS7.out.set_left hm8 hown8
          have HCS8 := Lib.hid hcs8
          clear hcs8 hown8 hm8 hdel
          go_wp2_with fail
          go_roundw
          case rel =>
            refine ⟨l.eraseIdx i, ems ++ [x], some ⟨gg, 0, none⟩, cg, R ++ [(some ⟨gn, 0, none⟩, cn)], rfl, by rw [List.length_append]; rfl, ?_, HEM.out.step HX.out HR.out HNO.out⟩
            have := HCS8.out
            rw [List.map_append, List.map_singleton, HGD.out]
            exact this
          case measure =>
            show (l.eraseIdx i).length < l.length
            rw [List.length_eraseIdx_of_lt hil]; omega
end Go.Proofs.Ytmmggeaaheegmaa.K
