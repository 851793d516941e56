/- Several texts in one. -/
import Derived.Test.YtkgjfagejnppbaaGreatDoorMrg22

/- The engine's stuck. -/
namespace Go.Proofs.YtkgjfagejnppbaaGreatDoor.O
open Go.RowKit Go.Proofs.YtkgjfagejnppbaaGreatDoor.M Go.BigFrame
set_option linter.unusedVariables false
set_option linter.unusedSimpArgs false

theorem IdsV.blt {w : World} {ao : Option Addr} {cap : Nat} {l : List Id} (h : IdsV w ao cap l) : ∀ a, ao = some a → l ≠ [] → a.block < w.heap.size := by
  intro a e hne
  cases l with
  | nil => exact absurd rfl hne
  | cons x t =>
    obtain ⟨b, off, e2, hl, _⟩ := h.row 0 x rfl
    rw [e] at e2
    cases e2
    exact hl
theorem box1 {w : World} {b : Nat} {v : Value} {t : TypeId} (h : w.heap[b]? = some (.cells #[v] t (0, 0))) : w.cell? ⟨b, 0, none⟩ = some v := cell_of_row w b 0 _ _ _ h
theorem nodup_sub_len {O M : List Id} (h : O.Nodup) (hs : ∀ i ∈ O, i ∈ M) : O.length ≤ M.length := by
  induction O generalizing M with
  | nil => exact Nat.zero_le _
  | cons a t ih =>
    have p := List.nodup_cons.1 h
    have ha := hs a List.mem_cons_self
    have h1 := ih p.2 (M := M.erase a) (fun i hi => (List.mem_erase_of_ne (by intro e; subst e; exact p.1 hi)).2 (hs i (List.mem_cons_of_mem _ hi)))
    rw [List.length_erase_of_mem ha] at h1
    have : 0 < M.length := List.length_pos_of_mem ha
    simp only [List.length_cons]
    omega
set_option maxRecDepth 100000 in
set_option maxHeartbeats 4000000 in
theorem lostfn_any (g1 g2 p b1 b2 n m b3 k : Nat) (ro : Option Addr) (rc : Nat) (L : List Rv) (D O : List Id) (d : Id) (w : World) (h : EngAt w p b1 b2 n m ro rc L D) (hg1 : w.cell? ⟨g1, 0, none⟩ = some (.pointer (some ⟨p, 0, none⟩))) (hg2 : w.cell? ⟨g2, 0, none⟩ = some (.map (some b3))) (hO : MapB w b3 k O) (hd : IdI d) :
    Calls Tryz.prog 109 #[idV d, .pointer (some ⟨g1, 0, none⟩), .pointer (some ⟨g2, 0, none⟩)] w fun e w' => e = .returned (.bool (lostB L D O d)) ∧ Below w.heap.size w w' := by
  have H := Lib.hid h
  have HO := Lib.hid hO
  have HD := Lib.hid hd
  have hl1 := World.block_lt_of_cell? w _ hg1
  have hl2 := World.block_lt_of_cell? w _ hg2
  have HG1 := Lib.hid hg1
  have HG2 := Lib.hid hg2
  clear h hO hd hg1 hg2
  go_enter Tryz.func109, Tryz.ntmps109
  go_upto_region 1 with fail
  obtain ⟨W, hW⟩ : ∃ W, W = w.alloc (idO d) := ⟨_, rfl⟩
  rw [← hW]
  have HB : Hid (Below w.heap.size w W) := Lib.hid (by rw [hW]; exact (Below.refl _ _).alloc (Nat.le_refl _) _)
  have HX : Hid (W.heap[w.heap.size]? = some (idO d)) := Lib.hid (by rw [hW]; exact heap_alloc_new w _)
  clear hW
  obtain ⟨⟨d0, d1⟩, _⟩ := box2 HX.out
  have c1 := (HB.out.cell (p := ⟨g1, 0, none⟩) hl1).trans HG1.out
  obtain ⟨bt, hbt⟩ : ∃ b, thereB L D d = b := ⟨_, rfl⟩
  obtain ⟨bo, hbo⟩ : ∃ b, decide (d ∈ O) = b := ⟨_, rfl⟩
  have HV := Lib.hid (show lostB L D O d = (!bt || bo) by rw [← hbt, ← hbo]; rfl)
  have HHAS := Lib.hid (enghas_any p b1 b2 n m ro rc L D d W (H.out.below HB.out) HD.out bt hbt)
  have HLK := Lib.hid (fun (w' : World) (hb : Below w.heap.size w w') => show (Instr.lookup 105 (.map (some b3)) (idV d) false).run Tryz.prog w' = .ok (.bool bo) w' from by rw [← hbo]; exact (HO.out.below hb).look HD.out)
  clear hbt hbo
  cases bt with
  | false =>
    go_wp2_with fail
    refine HHAS.out.mono ?_
    rintro e w1 ⟨rfl, hb1⟩
    have HB1 := Lib.hid (HB.out.trans (hb1.mono HB.out.size))
    clear hb1 d0 d1 c1
    go_wp2_with fail
    go_ret
    exact ⟨by rw [HV.out]; rfl, HB1.out⟩
  | true =>
    go_wp2_with fail
    refine HHAS.out.mono ?_
    rintro e w1 ⟨rfl, hb1⟩
    have HB1 := Lib.hid (HB.out.trans (hb1.mono HB.out.size))
    have c2 := (HB1.out.cell (p := ⟨g2, 0, none⟩) hl2).trans HG2.out
    have e0 := (hb1.cell (p := ⟨w.heap.size, 0, none⟩) (M.heap_lt HX.out)).trans d0
    have e1 := (hb1.cell (p := ⟨w.heap.size, 1, none⟩) (M.heap_lt HX.out)).trans d1
    have hlk := HLK.out w1 HB1.out
    clear hb1 d0 d1 c1
    go_wp2_with fail
    go_ret
    exact ⟨by rw [HV.out]; rfl, HB1.out⟩
/-- what holds while the stuck ones are looked for -/
structure StK (w wr : World) (p b1 b2 n m : Nat) (ro : Option Addr) (rc : Nat) (L : List Rv) (D : List Id) (g1 g2 b3 : Nat) (O : List Id) : Prop where
  bel : Below w.heap.size w wr
  x1 : wr.heap[g1]? = some (.cells #[.pointer (some ⟨p, 0, none⟩)] 75 (0, 0))
  x2 : wr.heap[g2]? = some (.cells #[.map (some b3)] 105 (0, 0))
  mp : MapB wr b3 O.length O
  nd : O.Nodup
  sb : ∀ i ∈ O, i ∈ idsX L
  so : Sound L D O
theorem StK.below {w wr w2 : World} {p b1 b2 n m : Nat} {ro : Option Addr} {rc : Nat} {L : List Rv} {D : List Id} {g1 g2 b3 : Nat} {O : List Id} (h : StK w wr p b1 b2 n m ro rc L D g1 g2 b3 O) (hb : Below wr.heap.size wr w2) : StK w w2 p b1 b2 n m ro rc L D g1 g2 b3 O :=
  ⟨h.bel.trans (hb.mono h.bel.size), (hb.block _ (M.heap_lt h.x1)).trans h.x1, (hb.block _ (M.heap_lt h.x2)).trans h.x2, h.mp.below hb, h.nd, h.sb, h.so⟩
theorem StK.mods {w wr w2 : World} {p b1 b2 n m : Nat} {ro : Option Addr} {rc : Nat} {L : List Rv} {D : List Id} {g1 g2 b3 r : Nat} {O : List Id} (h : StK w wr p b1 b2 n m ro rc L D g1 g2 b3 O) (hm : Mods (fun k => k = r) wr w2) (hr : w.heap.size ≤ r) (h1 : g1 ≠ r) (h2 : g2 ≠ r) (h3 : b3 ≠ r) : StK w w2 p b1 b2 n m ro rc L D g1 g2 b3 O :=
  ⟨h.bel.trans (hm.below (fun j e => by omega) h.bel.size), hm.heap h.x1 h1, hm.heap h.x2 h2, h.mp.keep hm h3, h.nd, h.sb, h.so⟩
theorem StK.put {w wr w2 : World} {p b1 b2 n m : Nat} {ro : Option Addr} {rc : Nat} {L : List Rv} {D : List Id} {g1 g2 b3 : Nat} {O : List Id} (h : StK w wr p b1 b2 n m ro rc L D g1 g2 b3 O) {x : Rv} (hx : x ∈ L) (hn : x.id ∉ O) (hl : x.deps.any (lostB L D O) = true) (hm : Mods (fun k => k = b3) wr w2) (hb : w.heap.size ≤ b3) (h1 : g1 ≠ b3) (h2 : g2 ≠ b3) (hp : MapB w2 b3 (O.length + 1) (O ++ [x.id])) :
    StK w w2 p b1 b2 n m ro rc L D g1 g2 b3 (O ++ [x.id]) :=
  ⟨h.bel.trans (hm.below (fun j e => by omega) h.bel.size), hm.heap h.x1 h1, hm.heap h.x2 h2, by rw [List.length_append]; exact hp, List.nodup_append.2 ⟨h.nd, by simp, fun a ha b hb e => by simp at hb; subst hb; subst e; exact hn ha⟩, fun i hi => by
    rcases List.mem_append.1 hi with hi | hi
    · exact h.sb i hi
    · rw [List.mem_singleton.1 hi]; exact List.mem_map.2 ⟨x, hx, rfl⟩, h.so.add hx hl⟩
set_option maxRecDepth 100000 in
set_option maxHeartbeats 4000000 in
theorem engstuck_any (p b1 b2 n m : Nat) (ro : Option Addr) (rc : Nat) (L : List Rv) (D : List Id) (w : World) (h : EngAt w p b1 b2 n m ro rc L D) (hL : L.length ≤ 1000000) :
    Calls Tryz.prog 82 #[.pointer (some ⟨p, 0, none⟩)] w fun e w' => ∃ b3 O, e = .returned (.map (some b3)) ∧ (MapB w' b3 O.length O ∧ O.Nodup ∧ (∀ i, i ∈ O ↔ Stuck L D i) ∧ Shut L D O ∧ w.heap.size ≤ b3 ∧ Below w.heap.size w w') := by
  have H := Lib.hid h
  have hplt := h.plt
  clear h
  go_enter Tryz.func82, Tryz.ntmps82
  have hmk := run_makeMap (P := Tryz.prog) 105 (w.alloc (.cells #[.pointer (some ⟨p, 0, none⟩)] 75))
  go_upto_region 2 with fail
  clear hmk
  obtain ⟨W, hW⟩ : ∃ W, W = ((w.alloc (.cells #[.pointer (some ⟨p, 0, none⟩)] 75)).alloc (.map #[] 0)).alloc (.cells #[.map (some (w.heap.size + 1))] 105) := ⟨_, rfl⟩
  have HST := Lib.hid (show StK w W p b1 b2 n m ro rc L D w.heap.size (w.heap.size + 2) (w.heap.size + 1) [] by
    rw [hW]
    refine ⟨(((Below.refl _ _).alloc (Nat.le_refl _) _).alloc (by simp) _).alloc (by simp; omega) _, ?_, ?_, ?_, .nil, fun i h => (by cases h), fun i h => (by cases h)⟩
    · rw [heap_al, heap_al, heap_al]; simp +arith
    · rw [heap_al]; simp
    · have := MapB.made (w.alloc (.cells #[.pointer (some ⟨p, 0, none⟩)] 75))
      simp only [World.size_alloc] at this
      exact this.below ((Below.refl _ _).alloc (Nat.le_refl _) _))
  rw [← hW]
  obtain ⟨g2, hg2⟩ : ∃ g, g = w.heap.size + 1 + 1 := ⟨_, rfl⟩
  have hg2' : w.heap.size + 2 = g2 := by omega
  rw [hg2'] at HST
  rw [← hg2]
  obtain ⟨b3, hb3⟩ : ∃ g, g = w.heap.size + 1 := ⟨_, rfl⟩
  rw [← hb3] at HST ⊢
  have hlt3 : w.heap.size < b3 := by omega
  have hlt2 : b3 < g2 := by omega
  clear hW hg2 hg2' hb3
  have HLL := Lib.hid (show ∀ O : List Id, O.Nodup → (∀ i ∈ O, i ∈ idsX L) → O.length ≤ L.length from fun O h1 h2 => by
    have := nodup_sub_len h1 h2
    rwa [List.length_map] at this)
  go_wp2_with fail
  go_loopw [4] (fun av wr => ∃ (a : Bool) (O : List Id), av = .bool a ∧ (a = false → Shut L D O) ∧ StK w wr p b1 b2 n m ro rc L D w.heap.size g2 b3 O) (fun av wr => 2 * (L.length - mapSz wr b3) + (match av with | .bool true => 1 | _ => 0))
  case atStart => exact ⟨true, [], rfl, fun h => (by cases h), HST.out⟩
  case round =>
    clear HST
    obtain ⟨a, O, rfl, hsh, hst⟩ := hrel
    have HK := Lib.hid hst
    have HSH := Lib.hid hsh
    clear hst hsh
    cases a with
    | false =>
      have c3 := box1 HK.out.x2
      go_wp2_with fail
      go_ret
      exact ⟨b3, rfl, O, HK.out.mp, HK.out.nd, stuck_iff H.out.wt.nd HK.out.so (HSH.out (by trivial)), HSH.out (by trivial), by omega, HK.out.bel⟩
    | true =>
      have c1 := box1 HK.out.x1
      have HE := Lib.hid (H.out.below HK.out.bel)
      obtain ⟨e0, e1, e2⟩ := HE.out.cells
      go_wp2_with (at_range; refine wpList_rangeR HE.out.wt rfl _ rfl rfl ?_; intro w1 cnt1 hrg1 hb1; have HRG1 := Lib.hid hrg1; have HB1 := Lib.hid hb1; clear hrg1 hb1)
      go_frame
      clear c1 e0 e1 e2
      obtain ⟨wo, rfl⟩ : ∃ wo, wo = wr := ⟨_, rfl⟩
      have hso := HK.out.bel.size
      go_loopw [4] (fun av wr => ∃ (a : Bool) (O2 : List Id) (left : List Rv) (cnt : Nat), av = .bool a ∧ RngR wr b1 wo.heap.size n L left cnt ∧ (a = true → O.length < O2.length) ∧ (a = false → O2 = O ∧ ∀ x ∈ L, x ∉ left → x.id ∉ O → x.deps.any (lostB L D O) = false) ∧ StK w wr p b1 b2 n m ro rc L D w.heap.size g2 b3 O2) (fun _ wr => wr.rangeLeft b1 wo.heap.size)
      case atStart => exact ⟨false, O, L, cnt1, rfl, HRG1.out, fun h => (by cases h), fun _ => ⟨rfl, fun x hx hn => absurd hx hn⟩, HK.out.below HB1.out⟩
      case round =>
        obtain ⟨a, O2, left, cnt, rfl, hrg, ha1, ha2, hst⟩ := hrel
        have HR := Lib.hid hrg
        have HA1 := Lib.hid ha1
        have HA2 := Lib.hid ha2
        have HK2 := Lib.hid hst
        clear hrg ha1 ha2 hst HRG1 HB1
        go_upto_region 9 with (at_next; refine wpList_nextR HR.out rfl _ rfl rfl (fun HL0 => ?_) (fun x w3 cnt3 HXL HRG HLT HMN hen => ?_))
        · have hn1 := HLL.out O2 HK2.out.nd HK2.out.sb
          have hn2 := HLL.out O HK.out.nd HK.out.sb
          have := HA1.out (by trivial)
          refine ⟨⟨O2, HK2.out⟩, ?_⟩
          rw [HK.out.mp.sz, HK2.out.mp.sz]
          omega
        · have hn1 := HLL.out O2 HK2.out.nd HK2.out.sb
          have hn2 := HLL.out O HK.out.nd HK.out.sb
          have hle : O.length ≤ O2.length := by
            cases a with
            | true => exact Nat.le_of_lt (HA1.out rfl)
            | false => obtain ⟨rfl, _⟩ := HA2.out rfl; exact Nat.le_refl _
          refine ⟨⟨O2, fun h => ?_, HK2.out⟩, ?_⟩
          · obtain ⟨rfl, h1⟩ := HA2.out h
            exact fun x hx hno => h1 x hx (by rw [HL0.out]; simp) hno
          · rw [HK.out.mp.sz, HK2.out.mp.sz]
            omega
        · have hb3 := HK.out.mp.lt
          have hg2 := M.heap_lt HK.out.x2
          have HK3 := Lib.hid (HK2.out.mods HMN.out hso (by omega) (by omega) (by omega))
          have HXM := Lib.hid (HR.out.sub.subset HXL.out)
          obtain ⟨W5, hW5⟩ : ∃ W5, W5 = (w3.alloc (idO x.id)).alloc (recO x) := ⟨_, rfl⟩
          rw [← hW5]
          have hb5 : Below w3.heap.size w3 W5 := by rw [hW5]; exact ((Below.refl _ _).alloc (Nat.le_refl _) _).alloc (by simp) _
          have hxi : W5.heap[w3.heap.size]? = some (idO x.id) := by rw [hW5, heap_al, heap_al]; simp
          have hxr : W5.heap[w3.heap.size + 1]? = some (recO x) := by rw [hW5, heap_al]; simp
          have HXI := Lib.hid hxi
          have HK5 := Lib.hid (HK3.out.below hb5)
          have HE5 := Lib.hid (H.out.below HK5.out.bel)
          have HRG5 := Lib.hid (HRG.out.below hb5)
          have c3 := box1 HK5.out.x2
          obtain ⟨⟨i0, i1⟩, _⟩ := box2 hxi
          obtain ⟨c0, c1, c2, c33, c4, c5, c6, c7, c8, c9, c10, c11, c12, c13, c14, c15⟩ := box16 hxr
          clear c0 c1 c2 c33 c4 c5 c6 c7 c8 c9 c10 c11 c12 c14 c15 hW5 hb5 hxi hxr
          obtain ⟨bo, hbo⟩ : ∃ b, decide (x.id ∈ O2) = b := ⟨_, rfl⟩
          have hlk : (Instr.lookup 105 (.map (some b3)) (idV x.id) false).run Tryz.prog W5 = .ok (.bool bo) W5 := by rw [← hbo]; exact HK5.out.mp.look (H.out.wt.ok x HXM.out)
          have HBO := Lib.hid hbo
          clear hbo
          cases bo with
          | true =>
            go_wp2_with fail
            clear hlk
            go_roundw
            case rel =>
              refine ⟨a, O2, _, cnt3, rfl, HRG5.out, HA1.out, fun h => ⟨(HA2.out h).1, fun z hz hn hno => ?_⟩, HK5.out⟩
              by_cases hzl : z ∈ left
              · exfalso
                have hzx : z.id = x.id := by
                  apply Classical.byContradiction
                  intro hne
                  exact hn (List.mem_filter.2 ⟨hzl, by simpa using hne⟩)
                have h1 : x.id ∈ O2 := of_decide_eq_true HBO.out
                rw [(HA2.out h).1, ← hzx] at h1
                exact hno h1
              · exact (HA2.out h).2 z hz hzl hno
            case measure =>
              rw [HRG5.out.left_eq, HR.out.left_eq]
              exact HLT.out
          | false =>
            obtain ⟨v, hv⟩ : ∃ b, x.deps.any (lostB L D O2) = b := ⟨_, rfl⟩
            have HV := Lib.hid hv
            have HXD := Lib.hid (HE5.out.ok x HXM.out).1.deps
            have HCF := Lib.hid (contains_any w.heap.size g2 x.deps x.ao x.cap (lostB L D O2) W5 HXD.out (fun wx hbx d hd => lostfn_any w.heap.size g2 p b1 b2 n m b3 _ ro rc L D O2 d wx (HE5.out.below hbx) (box1 (HK5.out.below hbx).x1) (box1 (HK5.out.below hbx).x2) (HK5.out.mp.below hbx) (HXD.out.ok d hd)) v hv)
            clear hv
            go_wp2_with fail
            refine HCF.out.mono ?_
            rintro e w6 ⟨rfl, hb6⟩
            have HK6 := Lib.hid (HK5.out.below hb6)
            have HRG6 := Lib.hid (HRG5.out.below hb6)
            have hxi6 := (hb6.block _ (M.heap_lt HXI.out)).trans HXI.out
            clear hb6 hlk i0 i1 c13 c3 HCF
            have c3 := box1 HK6.out.x2
            obtain ⟨⟨i0, i1⟩, _⟩ := box2 hxi6
            clear hxi6
            have HNO := Lib.hid (show x.id ∉ O2 from of_decide_eq_false HBO.out)
            cases v with
            | false =>
              go_wp2_with fail
              go_roundw
              case rel =>
                refine ⟨a, O2, _, cnt3, rfl, HRG6.out, HA1.out, fun h => ⟨(HA2.out h).1, fun z hz hn hno => ?_⟩, HK6.out⟩
                by_cases hzl : z ∈ left
                · have hzx : z.id = x.id := by
                    apply Classical.byContradiction
                    intro hne
                    exact hn (List.mem_filter.2 ⟨hzl, by simpa using hne⟩)
                  have hzx2 : z = x := nodup_inj Rv.id H.out.wt.nd hz HXM.out hzx
                  rw [hzx2]
                  have := HV.out
                  rw [(HA2.out h).1] at this
                  exact this
                · exact (HA2.out h).2 z hz hzl hno
              case measure =>
                rw [HRG6.out.left_eq, HR.out.left_eq]
                exact HLT.out
            | true =>
              have hol := HLL.out O2 HK2.out.nd HK2.out.sb
              go_wp2_with (at_mapUpdate; refine wpList_putB HK6.out.mp (by unfold maxLen; omega) x.id (H.out.wt.ok x HXM.out) HNO.out rfl _ _ _ rfl rfl rfl rfl ?_; intro w7 hp7 hm7; have HP7 := Lib.hid hp7; have HM7 := Lib.hid hm7; clear hp7 hm7)
              go_roundw
              case rel =>
                refine ⟨true, O2 ++ [x.id], _, cnt3, rfl, HRG6.out.keep HM7.out (fun e => ?_) (fun e => ?_), fun _ => ?_, fun h => (by cases h), HK6.out.put HXM.out HNO.out HV.out HM7.out (by omega) (by omega) (by omega) HP7.out⟩
                · have := H.out.wt.lt; omega
                · omega
                · rw [List.length_append]
                  cases a with
                  | true => have := HA1.out rfl; simp; omega
                  | false => have := (HA2.out rfl).1; rw [this]; simp
              case measure =>
                rw [(HRG6.out.keep HM7.out (fun e => (by have := H.out.wt.lt; omega)) (fun e => (by omega))).left_eq, HR.out.left_eq]
                exact HLT.out
end Go.Proofs.YtkgjfagejnppbaaGreatDoor.O

/- slices.DeleteFunc at ids: those that aren't done. -/
namespace Go.Proofs.YtkgjfagejnppbaaGreatDoor.O
open Go.RowKit Go.Proofs.YtkgjfagejnppbaaGreatDoor.M Go.BigFrame
set_option linter.unusedVariables false
set_option linter.unusedSimpArgs false

def stayI (q : Id → Bool) (l : List Id) : List Id := l.filter fun x => !q x
theorem stayI_app (q : Id → Bool) (l m : List Id) : stayI q (l ++ m) = stayI q l ++ stayI q m := List.filter_append _ _
set_option maxRecDepth 100000 in
set_option maxHeartbeats 4000000 in
theorem deli_none (g1 : Nat) (l : List Id) (ao : Option Addr) (cap : Nat) (q : Id → Bool) (w : World) (h : IdsV w ao cap l)
    (hq : ∀ wx, Below w.heap.size w wx → ∀ x ∈ l, Calls Tryz.prog 84 #[.pointer (some ⟨g1, 0, none⟩), idV x] wx fun e w' => e = .returned (.bool (q x)) ∧ Below wx.heap.size wx w') (hno : ∀ x ∈ l, q x = false) :
    Calls Tryz.prog 83 #[.slice ao l.length cap, .func (.func 84) #[.pointer (some ⟨g1, 0, none⟩)] #[]] w fun e w' => e = .returned (.slice ao l.length cap) ∧ Below w.heap.size w w' := by
  have HI := Lib.hid (idone_none g1 l ao cap q w h hq hno)
  clear h hq hno
  go_enter Tryz.func83, Tryz.ntmps83
  go_wp2_with fail
  refine HI.out.mono ?_
  rintro e w1 ⟨rfl, b1⟩
  have HB := Lib.hid b1
  clear b1
  go_wp2_with fail
  go_ret
  exact ⟨rfl, HB.out⟩
set_option maxRecDepth 100000 in
set_option maxHeartbeats 4000000 in
theorem deli_some (g1 B : Nat) (w : World) (g cap : Nat) (l : List Id) (q : Id → Bool) (h : OwnI w B g l.length cap l) (hok : ∀ x ∈ l, IdI x) (hle : l.length ≤ 1000000)
    (hq : ∀ wx, Mods (fun k => k = g) w wx → ∀ x ∈ l, Calls Tryz.prog 84 #[.pointer (some ⟨g1, 0, none⟩), idV x] wx fun e w' => e = .returned (.bool (q x)) ∧ Below wx.heap.size wx w') (n : Nat) (x : Id) (hyn : l[n]? = some x) (hyt : q x = true) (hno : ∀ (j : Nat) (y : Id), j < n → l[j]? = some y → q y = false) :
    Calls Tryz.prog 83 #[.slice (some ⟨g, 0, none⟩) l.length cap, .func (.func 84) #[.pointer (some ⟨g1, 0, none⟩)] #[]] w fun e w' => e = .returned (.slice (some ⟨g, 0, none⟩) (stayI q l).length cap) ∧ (OwnI w' B g (stayI q l).length cap (stayI q l) ∧ Mods (fun k => k = g) w w') := by
  have HI := Lib.hid (idone_at g1 l (some ⟨g, 0, none⟩) cap q w (IdsV.of_own (B := B) h hok) (fun wx hb => hq wx (Mods.of_below hb)) n x hyn hyt hno)
  have hnl : n < l.length := (List.getElem?_eq_some_iff.1 hyn).1
  obtain ⟨_, hcm, hcap⟩ : ∃ (_ : True), cap ≤ maxLen ∧ l.length ≤ cap := by
    obtain ⟨_, _, e0, h1, h2, _⟩ := own_view h
    cases e0
    exact ⟨trivial, h2, h1⟩
  unfold maxLen at hcm
  have HST := Lib.hid (show (l.take (n + 1)).length = n + 1 ∧ stayI q (l.take (n + 1)) = l.take n from by
    refine ⟨by rw [List.length_take]; omega, ?_⟩
    rw [List.take_add_one, hyn, stayI_app]
    have e1 : stayI q (l.take n) = l.take n := List.filter_eq_self.2 (fun y hy => by
      obtain ⟨j, hj⟩ := List.mem_iff_getElem?.1 hy
      have hjn : j < n := by have := (List.getElem?_eq_some_iff.1 hj).1; rw [List.length_take] at this; omega
      rw [List.getElem?_take, if_pos hjn] at hj
      rw [hno j y hjn hj]; rfl)
    rw [e1]
    simp [stayI, hyt])
  have hgl : g < w.heap.size := (h.lt g rfl).2
  have HOW := Lib.hid h
  have HQ := Lib.hid hq
  clear h hno hyt hyn hq hok
  go_enter Tryz.func83, Tryz.ntmps83
  go_wp2_with fail
  refine HI.out.mono ?_
  rintro e w1 ⟨rfl, b1⟩
  have HB := Lib.hid b1
  have hn1 : ((n : Int) == -1) = false := by rw [beq_eq_false_iff_ne]; omega
  clear b1 HI
  go_wp2_with fail
  go_loopw [5, 6] (fun iv jv wr => ∃ (i j : Nat) (Ms : List Id), iv = .int .i64 i ∧ jv = .int .i64 j ∧ i < j ∧ j ≤ l.length ∧ Ms.length = l.length ∧ i = (stayI q (l.take j)).length ∧ Ms.take i = stayI q (l.take j) ∧ Ms.drop j = l.drop j ∧ OwnI wr B g l.length cap Ms ∧ Mods (fun k => k = g) w wr) (fun _ jv _ => l.length - (intOf jv).toNat)
  case atStart =>
    refine ⟨n, n + 1, l, rfl, by go_num, by omega, by omega, rfl, ?_, ?_, rfl, ?_, Mods.of_below HB.out⟩
    · rw [HST.out.2, List.length_take]; omega
    · rw [HST.out.2]
    · exact own_kept HOW.out (Mods.of_below (S := fun _ => False) HB.out) (fun _ _ h => h)
  case round =>
    obtain ⟨i, j, Ms, rfl, rfl, hij, hj, hMl, hi, hMt, hMd, hown, hm⟩ := hrel
    have HO := Lib.hid hown
    have HM := Lib.hid hm
    have HI2 := Lib.hid (And.intro hi (And.intro hMt hMd))
    have HMl := Lib.hid hMl
    clear hi hMt hMd hMl
    by_cases hlt : j < l.length
    · obtain ⟨y, hy⟩ : ∃ y, l[j]? = some y := ⟨_, List.getElem?_eq_getElem hlt⟩
      have hyM : Ms[j]? = some y := by
        have h1 : (Ms.drop j)[0]? = (l.drop j)[0]? := by rw [HI2.out.2.2]
        simpa [List.getElem?_drop, hy] using h1
      have hmem := List.mem_of_getElem? hy
      obtain ⟨c0, c1, hfz, hgr⟩ := OwnI.cells HO.out hyM
      have HY := Lib.hid hy
      have hjl : (j : Int) < (l.length : Int) := by omega
      clear hown hm hy hyM
      go_wp2_with fail
      obtain ⟨W2, hW2⟩ : ∃ W2, W2 = wr.alloc (idO y) := ⟨_, rfl⟩
      have hM2 : Mods (fun _ => False) wr W2 := by rw [hW2]; exact (Mods.refl _ wr).alloc _
      have hbox : W2.heap[wr.heap.size]? = some (idO y) := by rw [hW2]; exact heap_alloc_new wr _
      rw [← hW2]
      clear hW2
      have HM2 := Lib.hid hM2
      have HBOX := Lib.hid hbox
      have HMW := Lib.hid (HM.out.then hM2 (fun _ _ h => h.elim))
      clear hM2 hbox c0 c1
      refine (HQ.out W2 HMW.out y hmem).mono ?_
      rintro e w3 ⟨rfl, b3⟩
      have HMM := Lib.hid (HMW.out.then (Mods.of_below (S := fun _ => False) b3) (fun _ _ h => h.elim))
      have HO3 := Lib.hid (own_kept (own_kept HO.out HM2.out (fun _ _ h => h)) (Mods.of_below (S := fun _ => False) b3) (fun _ _ h => h))
      have hbox3 := (b3.block _ (M.heap_lt HBOX.out)).trans HBOX.out
      obtain ⟨⟨e0, e1⟩, _⟩ := box2 hbox3
      clear b3 hbox3
      cases hto : q y with
      | true =>
        have HN := Lib.hid (show stayI q (l.take (j + 1)) = stayI q (l.take j) from by rw [List.take_add_one, HY.out, stayI_app]; simp [stayI, hto])
        have HD := Lib.hid (show Ms.drop (j + 1) = l.drop (j + 1) from by rw [← List.drop_drop, HI2.out.2.2, List.drop_drop])
        clear hto e0 e1 hfz
        go_wp2_with fail
        go_roundw
        case rel =>
          exact ⟨i, j + 1, Ms, rfl, by go_num, by omega, by omega, HMl.out, by rw [HN.out]; exact HI2.out.1, by rw [HN.out]; exact HI2.out.2.1, HD.out, HO3.out, HMM.out⟩
        case measure => simp [intOf]; omega
      | false =>
        have hMl := HMl.out
        obtain ⟨z, hzM⟩ : ∃ z, Ms[i]? = some z := ⟨_, List.getElem?_eq_getElem (by omega)⟩
        obtain ⟨z0, z1, hfz3, hg3⟩ := OwnI.cells HO3.out hzM
        have f0 := hfz3 (i * 2)
        have f1 := hfz3 (i * 2 + 1)
        have HN := Lib.hid (show stayI q (l.take (j + 1)) = stayI q (l.take j) ++ [y] from by rw [List.take_add_one, HY.out, stayI_app]; simp [stayI, hto])
        have HD := Lib.hid (show (Ms.set i y).drop (j + 1) = l.drop (j + 1) from by
          rw [List.drop_set, if_pos (by omega), ← List.drop_drop, HI2.out.2.2, List.drop_drop])
        have HT := Lib.hid (show (Ms.set i y).take (i + 1) = stayI q (l.take j) ++ [y] from by
          rw [List.take_add_one, List.take_set_of_le (by omega), HI2.out.2.1, List.getElem?_set_self (by omega)]
          rfl)
        have HML := Lib.hid (show (cellsI Ms).length = l.length * 2 by rw [cellsI_len, hMl])
        have HMS := Lib.hid (show (Ms.set i y).length = l.length by rw [List.length_set]; exact hMl)
        have hil : (i : Int) < (l.length : Int) := by omega
        have hgw : ¬ g = wr.heap.size := by omega
        clear hto hzM hMl hfz hfz3
        go_wp2_with fail
        go_roundw
        case rel =>
          refine ⟨i + 1, j + 1, Ms.set i y, by go_num, by go_num, by omega, by omega, HMS.out, ?_, ?_, HD.out, ?_, ?_⟩
          · rw [HN.out, List.length_append, ← HI2.out.1]; rfl
          · rw [HN.out]; exact HT.out
          · unfold OwnI
            rw [cellsI_set]
            have hcl := HML.out
            exact own_setcell (own_setcell HO3.out (i * 2) (by omega) _) (i * 2 + 1) (by rw [List.length_set]; omega) _
          · exact (HMM.out.setCell (p := ⟨g, i * 2, none⟩) (fun _ => rfl) _).setCell (p := ⟨g, i * 2 + 1, none⟩) (fun _ => rfl) _
        case measure => simp [intOf]; omega
    · obtain rfl : j = l.length := by omega
      rw [List.take_length] at HI2
      have hjl : ¬ ((l.length : Nat) : Int) < (l.length : Int) := by omega
      obtain ⟨hxl, h2⟩ := hown
      rcases h2 with ⟨h0, _⟩ | ⟨g', c', cur, e0, hB, hg, hnc, hcm', hcs, htk⟩
      · cases h0
      cases e0
      obtain ⟨zs, hzs⟩ : ∃ zs, (Builtin.zeroCells (Value.agg #[.int .i64 0, .int .i64 0]).cells (l.length - i)).toList = zs := ⟨_, rfl⟩
      have hzl : zs.length = (l.length - i) * 2 := by rw [← hzs, Array.length_toList, size_zeroCells]; rfl
      have hz1 : ∀ u ∈ zs, u.oneCell' = true := by
        intro u hu
        rw [← hzs] at hu
        simp only [Builtin.zeroCells, Value.cells, Array.toList_map, List.mem_map, Array.mem_toList_iff, Array.mem_range] at hu
        obtain ⟨q, hq, rfl⟩ := hu
        have : q % 2 = 0 ∨ q % 2 = 1 := by omega
        rcases this with h | h <;> simp [h, Value.oneCell']
      obtain ⟨cur2, hcur2⟩ : ∃ cur2, cur2 = (cur.toList.take (i * 2) ++ zs ++ cur.toList.drop (i * 2 + zs.length)).toArray := ⟨_, rfl⟩
      have hcl : (Builtin.clear_ #[28] 0 #[.slice (some ⟨g, i * 2, none⟩) (l.length - i) (cap - i)]).run Tryz.prog wr = .ok (.tuple #[]) (wr.setRow g cur2) := by
        rw [hcur2]
        exact run_clear_row (P := Tryz.prog) wr 28 37 0 _ Tryz.underlying28 zero_id g (i * 2) (l.length - i) (cap - i) cur hg zs hzs (by rw [hzl, hcs]; omega) hz1 (by omega)
      have HEND := Lib.hid (show OwnI (wr.setRow g cur2) B g i cap (stayI q l) ∧ Mods (fun k => k = g) w (wr.setRow g cur2) from by
        refine ⟨⟨by rw [cellsI_len, ← HI2.out.1], .inr ⟨g, cap, cur2, rfl, hB, setRow_heap wr g cur cur2 _ (0, 0) hg, by omega, hcm', ?_, ?_⟩⟩, HM.out.setRow (fun _ => rfl) _⟩
        · rw [hcur2]; simp only [List.size_toArray, List.length_append, List.length_take, List.length_drop, Array.length_toList, hcs, hzl]; omega
        · have h1 : (cur.toList.take (i * 2)).length = i * 2 := by rw [List.length_take, Array.length_toList, hcs]; omega
          rw [hcur2]
          show List.take (i * 2) (cur.toList.take (i * 2) ++ _ ++ _) = _
          rw [List.append_assoc, List.take_append_of_le_length (by omega), List.take_take, Nat.min_self, ← HI2.out.2.1, cellsI_take, ← htk, List.take_take, Nat.min_eq_left (by omega)])
      have HI3 := Lib.hid HI2.out.1
      have hic : i ≤ cap := by omega
      have hci : ¬ cap = i := by omega
      have hiL : i ≤ l.length := by omega
      have hcm2 : (cap : Int) ≤ 9223372036854775807 := by omega
      clear hxl hg htk hzs hcur2 hm hz1 hcs
      go_wp2_with fail
      go_ret
      refine ⟨ret_val (by rw [← HI3.out]; rfl), ?_⟩
      rw [← HI3.out]
      exact HEND.out
end Go.Proofs.YtkgjfagejnppbaaGreatDoor.O
