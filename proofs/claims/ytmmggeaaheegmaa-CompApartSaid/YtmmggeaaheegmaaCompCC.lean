/- CompLeads: the walk. -/
import Derived.Test.YtmmggeaaheegmaaCompBB
namespace Go.Proofs.Ytmmggeaaheegmaa.K
open Go.RowKit M T
set_option linter.unusedVariables false
set_option linter.unusedSimpArgs false

theorem sub_len : ∀ (l m : List Nat), l.Nodup → (∀ v ∈ l, v ∈ m) → l.length ≤ m.length
  | [], m, _, _ => Nat.zero_le _
  | a :: l, m, hd, h => by
    have h1 := List.nodup_cons.1 hd
    have ha := h a List.mem_cons_self
    have h2 := sub_len l (m.erase a) h1.2 fun v hv => (List.mem_erase_of_ne (fun e => h1.1 (by rw [← e]; exact hv))).2 (h v (List.mem_cons_of_mem _ hv))
    rw [List.length_erase_of_mem ha] at h2
    have := List.length_pos_of_mem ha
    rw [List.length_cons]
    omega
def tk (l : List Nat) (k x : Nat) : Bool := decide (x ∈ l.take k)
theorem tk_next {l : List Nat} {k v : Nat} (hk : l[k]? = some v) (x : Nat) : tk l (k + 1) x = (tk l k x || ((v : Int) == (x : Int))) := by
  unfold tk
  rw [Bool.eq_iff_iff, Bool.or_eq_true, decide_eq_true_eq, decide_eq_true_eq, take_has hk, beq_iff_eq]
  constructor
  · rintro (h | h)
    · exact .inl h
    · right; omega
  · rintro (h | h)
    · exact .inl h
    · right; omega
theorem tk_zero (l : List Nat) (x : Nat) : tk l 0 x = false := by simp [tk]
theorem tk_all (l : List Nat) (x : Nat) : tk l l.length x = decide (x ∈ l) := by unfold tk; rw [List.take_of_length_le (Nat.le_refl _)]
def oneT (q : Nat → Nat) (a b i : Nat) : Bool := decide (q a = q b ∧ q a < i)
theorem one_next {E : Nat → List Int} {n : Nat} {L : List (List Nat)} {q : Nat → Nat} (h : Comp E n L q) {i a b : Nat} {c : List Nat} (hc : L[i]? = some c) (ha : a < n) (hb : b < n) : oneT q a b (i + 1) = (oneT q a b i || (decide (a ∈ c) && decide (b ∈ c))) := by
  have h1 := h.mem_iff hc a
  have h2 := h.mem_iff hc b
  unfold oneT
  rw [Bool.eq_iff_iff, Bool.or_eq_true, Bool.and_eq_true, decide_eq_true_eq, decide_eq_true_eq, decide_eq_true_eq, decide_eq_true_eq, h1, h2]
  constructor
  · rintro ⟨e, hl⟩
    by_cases e2 : q a < i
    · exact .inl ⟨e, e2⟩
    · exact .inr ⟨⟨ha, by omega⟩, hb, by omega⟩
  · rintro (⟨e, hl⟩ | ⟨⟨_, e1⟩, _, e2⟩)
    · exact ⟨e, by omega⟩
    · exact ⟨by omega, by omega⟩
theorem LeadsTo.has {E : Nat → List Int} {n u : Nat} {l : List Nat} (h : LeadsTo E n u l) (hu : u < n) (v : Nat) : v ∈ l ↔ v < n ∧ Path E n u v := by
  rw [h.mem v]
  constructor
  · rintro ⟨a, u', e, _, hp⟩
    obtain rfl : u = u' := by omega
    exact ⟨a, hp⟩
  · rintro ⟨a, hp⟩
    exact ⟨a, u, rfl, hu, hp⟩
theorem LeadsTo.sub {E : Nat → List Int} {n u v : Nat} {l m : List Nat} (h : LeadsTo E n u l) (h2 : LeadsTo E n v m) (hu : u < n) (hv : v ∈ l) : m.length ≤ l.length := by
  have hv2 := (h.has hu v).1 hv
  refine sub_len m l (h2.srt.imp fun hlt => by omega) fun x hx => ?_
  have := (h2.has hv2.1 x).1 hx
  exact (h.has hu x).2 ⟨this.1, hv2.2.trans this.2⟩
/-- the end: one component just if each leads to the other -/
theorem one_end {E : Nat → List Int} {n : Nat} {L : List (List Nat)} {q : Nat → Nat} (h : Comp E n L q) {a b : Nat} {la lb : List Nat} (ha : a < n) (hb : b < n) (h1 : LeadsTo E n a la) (h2 : LeadsTo E n b lb) : oneT q a b L.length = (decide (b ∈ la) && decide (a ∈ lb)) := by
  obtain ⟨c, hc, _⟩ := h.d1 a ha
  have hl := (List.getElem?_eq_some_iff.1 hc).1
  unfold oneT
  rw [Bool.eq_iff_iff, Bool.and_eq_true, decide_eq_true_eq, decide_eq_true_eq, decide_eq_true_eq, h1.has ha, h2.has hb]
  constructor
  · rintro ⟨e, _⟩
    have := (h.both ha hb).1 e
    exact ⟨⟨hb, this.1⟩, ha, this.2⟩
  · rintro ⟨⟨_, p1⟩, _, p2⟩
    exact ⟨(h.both ha hb).2 ⟨p1, p2⟩, hl⟩
set_option maxRecDepth 100000 in
set_option maxHeartbeats 4000000 in
theorem leadsl_no (E : Nat → List Int) (n : Nat) (eo : Option Addr) (ec : Nat) (a b : Int) (w : World) (hEd : EdAt w.heap.size w eo n ec E) (hsz : ∀ i, i < n → (E i).length ≤ 140737488355328) (h : greatB E n = true ∨ a < 0 ∨ b < 0 ∨ (n : Int) ≤ a ∨ (n : Int) ≤ b) :
    Calls Try.prog 7 #[.slice eo n ec, .int .i64 a, .int .i64 b] w fun e w' => e = .returned (.bool true) ∧ Below w.heap.size w w' := by
  have hgr := great_any E n w.heap.size eo ec w hEd hsz
  clear hEd hsz
  obtain ⟨gb, hgb⟩ : ∃ gb, gb = greatB E n := ⟨_, rfl⟩
  rw [← hgb] at hgr h
  clear hgb
  have key : gb = true ∨ (gb = false ∧ a < 0) ∨ (gb = false ∧ ¬ a < 0 ∧ b < 0) ∨ (gb = false ∧ ¬ a < 0 ∧ ¬ b < 0 ∧ (n : Int) ≤ a) ∨ (gb = false ∧ ¬ a < 0 ∧ ¬ b < 0 ∧ ¬ (n : Int) ≤ a ∧ (n : Int) ≤ b) := by
    cases gb with
    | true => exact .inl rfl
    | false =>
      right
      by_cases h1 : a < 0
      · exact .inl ⟨rfl, h1⟩
      · right
        by_cases h2 : b < 0
        · exact .inl ⟨rfl, h1, h2⟩
        · right
          by_cases h3 : (n : Int) ≤ a
          · exact .inl ⟨rfl, h1, h2, h3⟩
          · right
            refine ⟨rfl, h1, h2, h3, ?_⟩
            rcases h with h | h | h | h | h
            · cases h
            · exact absurd h h1
            · exact absurd h h2
            · exact absurd h h3
            · exact h
  clear h
  rcases key with rfl | ⟨rfl, h1⟩ | ⟨rfl, h1, h2⟩ | ⟨rfl, h1, h2, h3⟩ | ⟨rfl, h1, h2, h3, h4⟩
  all_goals
    go_enter Try.func7, Try.ntmps7
    go_wp2_with fail
    refine hgr.mono ?_
    rintro e w1 ⟨rfl, rfl⟩
    go_wp2_with fail
    refine (awake_any _).mono ?_
    rintro e w2 ⟨rfl, hb⟩
    have HB := Lib.hid hb
    clear hb
    go_wp2_with fail
    go_ret
    exact ⟨rfl, HB.out⟩
set_option maxRecDepth 100000 in
set_option maxHeartbeats 4000000 in
theorem leadsl_all (E : Nat → List Int) (n : Nat) (eo : Option Addr) (ec : Nat) (a b : Nat) (w : World) (hEd : EdAt w.heap.size w eo n ec E) (hsz : ∀ i, i < n → (E i).length ≤ 140737488355328) (hg : greatB E n = false) (ha : a < n) (hb : b < n) :
    Calls Try.prog 7 #[.slice eo n ec, .int .i64 a, .int .i64 b] w fun e w' => e = .returned (.bool true) ∧ Below w.heap.size w w' := by
  have hgr := great_any E n w.heap.size eo ec w hEd hsz
  rw [hg] at hgr
  have hn40 := (great_false hg).1
  have hn : n ≤ 10000 := by omega
  have HED := Lib.hid hEd
  have ha0 : ¬ (a : Int) < 0 := by omega
  have hb0 : ¬ (b : Int) < 0 := by omega
  have hai : ¬ (n : Int) ≤ (a : Int) := by omega
  have hbi : ¬ (n : Int) ≤ (b : Int) := by omega
  clear hg hsz hEd
  go_enter Try.func7, Try.ntmps7
  go_wp2_with fail
  refine hgr.mono ?_
  rintro e w1 ⟨rfl, rfl⟩
  go_wp2_with fail
  refine (leads_any E n eo ec a w HED.out hn).mono ?_
  rintro e w1 ⟨oa, ca, la, rfl, hla, hoa, hb1⟩
  have HLA := Lib.hid hla
  have HRA := Lib.hid (RowV.of_own hoa)
  have HB1 := Lib.hid hb1
  have hlal := hla.len
  clear hla hoa hb1 hgr
  go_wp2_with fail
  refine (leads_any E n eo ec b w1 (HED.out.on HB1.out) hn).mono ?_
  rintro e w2 ⟨ob, cb, lb, rfl, hlb, hob, hb2⟩
  have HLB := Lib.hid hlb
  have HRB := Lib.hid (RowV.of_own hob)
  have HRA2 := Lib.hid (HRA.out.below hb2)
  have HB2 := Lib.hid (HB1.out.trans (hb2.mono HB1.out.size))
  have hlbl := hlb.len
  clear hlb hob hb2 HRA HB1
  go_wp2_with fail
  have HT0 : Hid (Value.bool false = .bool (tk la 0 b)) := Lib.hid (by rw [tk_zero])
  go_loopw [9, 11] (fun tv iv wr => ∃ k : Nat, tv = .bool (tk la k b) ∧ iv = .int .i64 k ∧ k ≤ la.length ∧ Below w2.heap.size w2 wr) (fun _ iv _ => la.length - (intOf iv).toNat)
  case atStart => exact ⟨0, HT0.out, rfl, Nat.zero_le _, Below.refl _ _⟩
  case round =>
    clear HT0
    obtain ⟨k, rfl, rfl, hk, hbw⟩ := hrel
    have HBW := Lib.hid hbw
    by_cases hkl : k < la.length
    · have hki : (k : Int) < (la.length : Int) := by omega
      obtain ⟨v, hv⟩ : ∃ v, la[k]? = some v := ⟨_, List.getElem?_eq_getElem hkl⟩
      obtain ⟨p, po, rfl, x1⟩ := (HRA2.out.below hbw).row k v (by unfold ns; rw [List.getElem?_map, hv]; rfl)
      have hle := HRA2.out.le
      rw [ns_len] at hle
      have HN := Lib.hid (tk_next hv b)
      have HV := Lib.hid hv
      have HVL := Lib.hid (List.mem_of_getElem? hv)
      obtain ⟨be, hbe⟩ : ∃ be, be = ((v : Int) == (b : Int)) := ⟨_, rfl⟩
      rw [← hbe] at HN
      have e1 := hbe.symm
      clear hv hbe hbw
      cases htk : tk la k b with
      | true =>
        rw [htk, Bool.true_or] at HN
        clear htk e1
        go_wp2_with fail
        refine (leads_any E n eo ec v wr (HED.out.on (HB2.out.trans (HBW.out.mono HB2.out.size))) hn).mono ?_
        rintro e w5 ⟨o5, c5, l5, rfl, hl5, ho5, hb5⟩
        have hsub := HLA.out.sub hl5 ha HVL.out
        have hsi : ¬ (la.length : Int) < (l5.length : Int) := by omega
        have HB5 := Lib.hid (HBW.out.trans (hb5.mono HBW.out.size))
        clear hl5 ho5 hb5
        go_wp2_with fail
        go_roundw
        case rel => exact ⟨k + 1, by rw [HN.out], by go_num, by omega, HB5.out⟩
        case measure => simp [intOf]; omega
      | false =>
        rw [htk, Bool.false_or] at HN
        clear htk
        go_wp2_with fail
        refine (leads_any E n eo ec v wr (HED.out.on (HB2.out.trans (HBW.out.mono HB2.out.size))) hn).mono ?_
        rintro e w5 ⟨o5, c5, l5, rfl, hl5, ho5, hb5⟩
        have hsub := HLA.out.sub hl5 ha HVL.out
        have hsi : ¬ (la.length : Int) < (l5.length : Int) := by omega
        have HB5 := Lib.hid (HBW.out.trans (hb5.mono HBW.out.size))
        clear hl5 ho5 hb5
        go_wp2_with fail
        go_roundw
        case rel => exact ⟨k + 1, by rw [HN.out], by go_num, by omega, HB5.out⟩
        case measure => simp [intOf]; omega
    · obtain rfl : k = la.length := by omega
      have hki : ¬ (la.length : Int) < (la.length : Int) := by omega
      obtain ⟨w3, rfl⟩ : ∃ w3, w3 = wr := ⟨_, rfl⟩
      have HRB3 := Lib.hid (HRB.out.below hbw)
      have HB3 := Lib.hid (HB2.out.trans (hbw.mono HB2.out.size))
      have HT0 : Hid (Value.bool false = .bool (tk lb 0 a)) := Lib.hid (by rw [tk_zero])
      rw [tk_all]
      obtain ⟨th, hth⟩ : ∃ th, th = decide (b ∈ la) := ⟨_, rfl⟩
      rw [← hth]
      have HTH := Lib.hid hth
      clear hbw HBW HRB HB2 HRA2 hth
      go_wp2_with fail
      go_loopw [10, 13] (fun tv iv wr => ∃ k : Nat, tv = .bool (tk lb k a) ∧ iv = .int .i64 k ∧ k ≤ lb.length ∧ wr = w3) (fun _ iv _ => lb.length - (intOf iv).toNat)
      case atStart => exact ⟨0, HT0.out, rfl, Nat.zero_le _, rfl⟩
      case round =>
        clear HT0
        obtain ⟨k, rfl, rfl, hk, rfl⟩ := hrel
        by_cases hkl : k < lb.length
        · have hki : (k : Int) < (lb.length : Int) := by omega
          obtain ⟨v, hv⟩ : ∃ v, lb[k]? = some v := ⟨_, List.getElem?_eq_getElem hkl⟩
          obtain ⟨p, po, rfl, x1⟩ := HRB3.out.row k v (by unfold ns; rw [List.getElem?_map, hv]; rfl)
          have hle := HRB3.out.le
          rw [ns_len] at hle
          have HN := Lib.hid (tk_next hv a)
          obtain ⟨be, hbe⟩ : ∃ be, be = ((v : Int) == (a : Int)) := ⟨_, rfl⟩
          rw [← hbe] at HN
          have e1 := hbe.symm
          clear hv hbe
          cases htk : tk lb k a with
          | true =>
            rw [htk, Bool.true_or] at HN
            clear htk e1
            go_wp2_with fail
            go_roundw
            case rel => exact ⟨k + 1, by rw [HN.out], by go_num, by omega, by trivial⟩
            case measure => simp [intOf]; omega
          | false =>
            rw [htk, Bool.false_or] at HN
            clear htk
            go_wp2_with fail
            go_roundw
            case rel => exact ⟨k + 1, by rw [HN.out], by go_num, by omega, by trivial⟩
            case measure => simp [intOf]; omega
        · obtain rfl : k = lb.length := by omega
          have hki : ¬ (lb.length : Int) < (lb.length : Int) := by omega
          rw [tk_all]
          obtain ⟨he, hhe⟩ : ∃ he, he = decide (a ∈ lb) := ⟨_, rfl⟩
          rw [← hhe]
          have HHE := Lib.hid hhe
          clear hhe
          go_wp2_with fail
          refine (comps_any E n eo ec _ (HED.out.on HB3.out) hn).mono ?_
          rintro e w4 ⟨oo, oc, R, L, q, rfl, hin, hout, hb4⟩
          have HIN := Lib.hid hin
          have HOUT := Lib.hid hout
          have HB4 := Lib.hid (HB3.out.trans (hb4.mono HB3.out.size))
          have hLn := hin.co.count
          have HE1 := Lib.hid (one_end hin.co ha hb HLA.out HLB.out)
          rw [← HTH.out, ← HHE.out] at HE1
          obtain ⟨_, _, e8, hcap1, hcap2, _⟩ := own_view hout.top
          cases e8
          have HO0 : Hid (Value.bool false = .bool (oneT q a b 0)) := Lib.hid (by simp [oneT])
          clear hin hout hb4 HTH HHE HB3
          go_wp2_with fail
          go_loopw [14, 16] (fun ov iv wr => ∃ i : Nat, ov = .bool (oneT q a b i) ∧ iv = .int .i64 i ∧ i ≤ L.length ∧ w4 = wr) (fun _ iv _ => L.length - (intOf iv).toNat)
          case atStart => exact ⟨0, HO0.out, rfl, Nat.zero_le _, rfl⟩
          case round =>
            clear HO0
            obtain ⟨i, rfl, rfl, hi, rfl⟩ := hrel
            by_cases hil : i < L.length
            · have hii : (i : Int) < (L.length : Int) := by omega
              obtain ⟨c, hc⟩ : ∃ c, L[i]? = some c := ⟨_, List.getElem?_eq_getElem hil⟩
              obtain ⟨g1, a1, ca1, rfl, x1, r1⟩ := HOUT.out.hdr hc
              have HRR := Lib.hid r1
              have hr1 := r1.le
              rw [ns_len] at hr1
              have hcl := HIN.out.co.row_len hc
              have HON := Lib.hid (one_next HIN.out.co hc ha hb)
              have HX0 : Hid (Value.bool false = .bool (tk c 0 a)) := Lib.hid (by rw [tk_zero])
              have HY0 : Hid (Value.bool false = .bool (tk c 0 b)) := Lib.hid (by rw [tk_zero])
              clear hc r1
              go_wp2_with fail
              go_loopw [17, 18, 19] (fun xv yv kv wr => ∃ k : Nat, xv = .bool (tk c k a) ∧ yv = .bool (tk c k b) ∧ kv = .int .i64 k ∧ k ≤ c.length ∧ w4 = wr) (fun _ _ kv _ => c.length - (intOf kv).toNat)
              case atStart => exact ⟨0, HX0.out, HY0.out, rfl, Nat.zero_le _, rfl⟩
              case round =>
                clear HX0 HY0
                obtain ⟨k, rfl, rfl, rfl, hk, rfl⟩ := hrel
                by_cases hkl : k < c.length
                · have hki : (k : Int) < (c.length : Int) := by omega
                  obtain ⟨v, hv⟩ : ∃ v, c[k]? = some v := ⟨_, List.getElem?_eq_getElem hkl⟩
                  obtain ⟨p, po, rfl, x2⟩ := HRR.out.row k v (by unfold ns; rw [List.getElem?_map, hv]; rfl)
                  have HNA := Lib.hid (tk_next hv a)
                  have HNB := Lib.hid (tk_next hv b)
                  obtain ⟨ba, hba⟩ : ∃ ba, ba = ((v : Int) == (a : Int)) := ⟨_, rfl⟩
                  obtain ⟨bb, hbb⟩ : ∃ bb, bb = ((v : Int) == (b : Int)) := ⟨_, rfl⟩
                  rw [← hba] at HNA
                  rw [← hbb] at HNB
                  have e1 := hba.symm
                  have e2 := hbb.symm
                  clear hv hba hbb
                  cases hta : tk c k a <;> cases htb : tk c k b
                  all_goals
                    rw [hta] at HNA
                    rw [htb] at HNB
                    simp only [Bool.true_or, Bool.false_or] at HNA HNB
                    clear hta htb
                    go_wp2_with fail
                    go_roundw
                    case rel => exact ⟨k + 1, by rw [HNA.out], by rw [HNB.out], by go_num, by omega, by trivial⟩
                    case measure => simp [intOf]; omega
                · obtain rfl : k = c.length := by omega
                  have hki : ¬ (c.length : Int) < (c.length : Int) := by omega
                  rw [tk_all, tk_all]
                  obtain ⟨ba, hba⟩ : ∃ ba, ba = decide (a ∈ c) := ⟨_, rfl⟩
                  obtain ⟨bb, hbb⟩ : ∃ bb, bb = decide (b ∈ c) := ⟨_, rfl⟩
                  obtain ⟨b0, hb00⟩ : ∃ b0, b0 = oneT q a b i := ⟨_, rfl⟩
                  rw [← hba, ← hbb, ← hb00] at HON
                  rw [← hba, ← hbb, ← hb00]
                  clear hba hbb hb00
                  cases b0 <;> cases ba
                  all_goals
                    simp only [Bool.true_or, Bool.false_or, Bool.true_and, Bool.false_and] at HON
                    go_wp2_with fail
                    go_roundw
                    case rel => exact ⟨i + 1, by rw [HON.out], by go_num, by omega, by trivial⟩
                    case measure => simp [intOf]; omega
            · obtain rfl : i = L.length := by omega
              have hii : ¬ (L.length : Int) < (L.length : Int) := by omega
              rw [HE1.out]
              clear HE1
              cases th <;> cases he
              all_goals
                go_wp2_with fail
                refine (awake_any _).mono ?_
                rintro e w6 ⟨rfl, hb6⟩
                have HB6 := Lib.hid (HB4.out.trans (hb6.mono HB4.out.size))
                clear hb6
                go_wp2_with fail
                go_ret
                exact ⟨rfl, HB6.out⟩
theorem leadsl_any (E : Nat → List Int) (n : Nat) (eo : Option Addr) (ec : Nat) (a b : Int) (w : World) (hEd : EdAt w.heap.size w eo n ec E) (hsz : ∀ i, i < n → (E i).length ≤ 140737488355328) :
    Calls Try.prog 7 #[.slice eo n ec, .int .i64 a, .int .i64 b] w fun e w' => e = .returned (.bool true) ∧ Below w.heap.size w w' := by
  by_cases h : greatB E n = true ∨ a < 0 ∨ b < 0 ∨ (n : Int) ≤ a ∨ (n : Int) ≤ b
  · exact leadsl_no E n eo ec a b w hEd hsz h
  · simp only [not_or] at h
    obtain ⟨x, rfl⟩ : ∃ x : Nat, a = x := ⟨a.toNat, by omega⟩
    obtain ⟨y, rfl⟩ : ∃ y : Nat, b = y := ⟨b.toNat, by omega⟩
    exact leadsl_all E n eo ec x y w hEd hsz (by simpa using h.1) (by omega) (by omega)
end Go.Proofs.Ytmmggeaaheegmaa.K
