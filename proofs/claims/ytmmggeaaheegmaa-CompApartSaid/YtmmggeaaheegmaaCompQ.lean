/- Edges that came in, opened; the reference's SameInts; great. -/
import Derived.Test.YtmmggeaaheegmaaCompP
import Derived.Test.YtmmggeaaheegmaaCom
import Derived.OpenShut
namespace Go.Proofs.Ytmmggeaaheegmaa.K
open Go.RowKit M T Go.WideShapes Go.ChangeShapes
set_option linter.unusedVariables false
set_option linter.unusedSimpArgs false

theorem ints_view {H : Type} {enc : TypeId × Value → H} {w : World} {n : Nat} {cs : List Value} {x : DataW H × List MemPlace} (h : DataW.trod enc Try.prog w 0 (fun _ => true) true n 26 cs = some x)
    (hlt : ∀ y ∈ x.2, y.block < w.heap.size) : ∃ ao cap l, cs = [.slice ao (l : List Int).length cap] ∧ l.length ≤ cap ∧ cap ≤ maxLen ∧ (∀ j y, l[j]? = some y → ∃ p po, ao = some ⟨p, po, none⟩ ∧ p < w.heap.size ∧ w.cell? ⟨p, po + j, none⟩ = some (.int .i64 y)) ∧
      ((∀ m ∈ x.1.weights Try.prog 26, m ≤ reachBytes) → l.length ≤ 140737488355328) := by
  obtain ⟨ao, b, off, len, cap, m, C, D, hcs, hl, hm, hn, h0, hx, hC⟩ := C.slice_view2 Try.underlying26 (k := 1) (by kernel_rfl) (by decide) h hlt
  have hE : ∀ i, i < len → ∃ z : Int, C i = [.int .i64 z] := fun i hi => by
    obtain ⟨_, _, pi, ht, hp⟩ := hC i hi
    obtain ⟨z, e, _, hw⟩ := DataW.trod_int Try.underlying3 ht
    exact ⟨z, e⟩
  obtain ⟨Z, hZ⟩ := Go.Deep.choose_lt (α := Int) hE
  have hlen : ((List.range len).map Z).length = len := by simp
  refine ⟨ao, cap, (List.range len).map Z, by rw [hlen]; exact hcs, by rw [hlen]; exact hl, hm, fun j y hj => ?_, fun hw => ?_⟩
  · have hjl : j < len := by have := (List.getElem?_eq_some_iff.1 hj).1; rwa [hlen] at this
    obtain ⟨e1, e2⟩ := h0 (by omega)
    refine ⟨b, off, e1, e2, ?_⟩
    have hc := (hC j hjl).2.1 0 (by decide)
    rw [hZ j hjl] at hc
    simp only [Nat.mul_one, Nat.add_zero] at hc
    rw [hc]
    have : Z j = y := by simpa [hjl] using hj
    simp [this]
  · rw [hlen]
    rcases hx with ⟨_, e, _⟩ | ⟨spare, e, hsp⟩
    · omega
    · have := hw ((((List.range len).map D).length + spare.length) * Try.prog.bytesOf 3) (by rw [e]; simp [DataW.weights, Try.underlying26])
      have hb : Try.prog.bytesOf 3 = 8 := by kernel_rfl
      rw [hb] at this
      have h2 := reachBytes_lt
      simp only [List.length_map, List.length_range] at this
      omega
theorem weights_all {H : Type} {P : Program} {e : TypeId} : ∀ (l : List (DataW H)) (d : DataW H), d ∈ l → ∀ m ∈ d.weights P e, m ∈ DataW.weightsAll P e l
  | [], d, h, _, _ => by cases h
  | a :: t, d, h, m, hm => by
    simp only [DataW.weightsAll, List.mem_append]
    rcases List.mem_cons.1 h with rfl | h2
    · exact .inl hm
    · exact .inr (weights_all t d h2 m hm)
/-- edges that came in -/
theorem edges_view {H : Type} {enc : TypeId × Value → H} {w : World} {v : Value} {d : DataW H} {p : List MemPlace} (h : DataW.Trod enc Try.prog w 0 (fun _ => true) true 22 v d p)
    (hlt : ∀ y ∈ p, y.block < w.heap.size) (hs : ∃ a l c, v = .slice a l c) (hw : ∀ m ∈ d.weights Try.prog 22, m ≤ reachBytes) : ∃ eo n ec E, v = .slice eo n ec ∧ EdAt w.heap.size w eo n ec E ∧ ∀ i, i < n → (E i).length ≤ 140737488355328 := by
  obtain ⟨a, l, c, rfl⟩ := hs
  obtain ⟨fuel, hf⟩ := h
  obtain ⟨ao, b, off, len, cap, n, C, D, hcs, hl, hm, hn, h0, hx, hC⟩ := C.slice_view2 Try.underlying22 (k := 1) (by kernel_rfl) (by decide) hf hlt
  have hcs' : (Value.slice a l c) = .slice ao len cap := by simpa [Value.cells] using hcs
  have hE : ∀ i, i < len → ∃ z : List Int, ∃ ro rc, C i = [.slice ro z.length rc] ∧ z.length ≤ rc ∧ rc ≤ maxLen ∧ (∀ j y, z[j]? = some y → ∃ p po, ro = some ⟨p, po, none⟩ ∧ p < w.heap.size ∧ w.cell? ⟨p, po + j, none⟩ = some (.int .i64 y)) ∧ z.length ≤ 140737488355328 := fun i hi => by
    obtain ⟨_, _, pi, ht, hp⟩ := hC i hi
    obtain ⟨ro, rc, z, e1, e2, e3, e4, e5⟩ := ints_view ht hp
    refine ⟨z, ro, rc, e1, e2, e3, e4, e5 fun m hm2 => hw m ?_⟩
    rcases hx with ⟨_, e, _⟩ | ⟨spare, e, hsp⟩
    · omega
    · have e : d = .slice ((List.range len).map D) spare := e
      rw [e]
      simp only [DataW.weights, Try.underlying22, List.mem_cons, List.mem_append]
      exact .inr (.inl (weights_all _ (D i) (List.mem_map.2 ⟨i, List.mem_range.2 hi, rfl⟩) m hm2))
  obtain ⟨Z, hZ⟩ := Go.Deep.choose_lt (α := List Int) hE
  refine ⟨ao, len, cap, Z, hcs', ⟨⟨hl, hm⟩, fun i hi => ?_⟩, fun i hi => ?_⟩
  · obtain ⟨ro, rc, e1, e2, e3, e4, _⟩ := hZ i hi
    obtain ⟨f1, f2⟩ := h0 (by omega)
    refine ⟨b, off, ro, rc, f1, f2, ?_, e2, e3, e4⟩
    have hc := (hC i hi).2.1 0 (by decide)
    rw [e1] at hc
    simpa using hc
  · obtain ⟨ro, rc, _, _, _, _, e5⟩ := hZ i hi
    exact e5

/-- numbers that a slice holds -/
structure RowV (w : World) (a : Option Addr) (c : Nat) (l : List Int) : Prop where
  le : l.length ≤ c ∧ c ≤ maxLen
  row : ∀ j x, l[j]? = some x → ∃ p po, a = some ⟨p, po, none⟩ ∧ w.cell? ⟨p, po + j, none⟩ = some (.int .i64 x)
theorem RowV.below {w w1 : World} {a : Option Addr} {c : Nat} {l : List Int} (h : RowV w a c l) (hb : Below w.heap.size w w1) : RowV w1 a c l :=
  ⟨h.le, fun j x hj => by obtain ⟨p, po, e, hc⟩ := h.row j x hj; exact ⟨p, po, e, cell_below hb hc⟩⟩
set_option maxRecDepth 100000 in
set_option maxHeartbeats 400000 in
theorem same_any (a b : Option Addr) (c d : Nat) (l m : List Int) (w : World) (hl : l.length ≤ 1000000) (hm : m.length ≤ 1000000) (h1 : RowV w a c l) (h2 : RowV w b d m) :
    Calls Try.prog 12 #[.slice a l.length c, .slice b m.length d] w fun e w' => e = .returned (.bool (decide (l = m))) ∧ ∃ n, w' = w.drewN n := by
  by_cases hn : l.length = m.length
  · have HV := Lib.hid (show ∀ k : Nat, k ≤ l.length → (∀ j : Nat, j < k → l[j]? = m[j]?) → l.length ≤ k → decide (l = m) = true from fun k hk ha hb => decide_eq_true (by
      refine List.ext_getElem? (fun j => ?_)
      by_cases hj : j < k
      · exact ha j hj
      · rw [List.getElem?_eq_none (by omega), List.getElem?_eq_none (by omega)]))
    have HD := Lib.hid (show ∀ k : Nat, l[k]? ≠ m[k]? → decide (l = m) = false from fun k h => decide_eq_false (fun e => h (by rw [e])))
    have e1 : ((l.length : Int) != (m.length : Int)) = false := by rw [bne_eq_false_iff_eq]; omega
    have H1 := Lib.hid h1.row
    have H2 := Lib.hid h2.row
    have HN := Lib.hid hn
    have hln : l.length ≤ m.length := by omega
    clear h1 h2 hn
    go_enter Try.func12, Try.ntmps12
    go_wp2_with fail
    go_loopw [5] (fun i wr => ∃ (k n : Nat), i = .int .i64 k ∧ k ≤ l.length ∧ wr = w.drewN n ∧ ∀ j : Nat, j < k → l[j]? = m[j]?) (fun i _ => l.length - (intOf i).toNat)
    case atStart => exact ⟨0, 0, rfl, Nat.zero_le _, rfl, fun j h => absurd h (by omega)⟩
    case round =>
      obtain ⟨k, n, rfl, hk, rfl, heq⟩ := hrel
      have HE := Lib.hid heq
      clear heq
      by_cases hlt : k < l.length
      · obtain ⟨u, hu⟩ : ∃ u, l[k]? = some u := ⟨_, List.getElem?_eq_getElem hlt⟩
        obtain ⟨v, hv⟩ : ∃ v, m[k]? = some v := ⟨_, List.getElem?_eq_getElem (by omega)⟩
        obtain ⟨p, po, rfl, x1⟩ := H1.out k u hu
        obtain ⟨q, qo, rfl, x2⟩ := H2.out k v hv
        have hkm : (k : Int) < (m.length : Int) := by omega
        have hkl : (k : Int) < (l.length : Int) := by omega
        by_cases huv : u = v
        · have e2 : (u != v) = false := by rw [bne_eq_false_iff_eq]; exact huv
          have HNE := Lib.hid (show ∀ j : Nat, j < k + 1 → l[j]? = m[j]? from fun j hj => by
            by_cases h : j < k
            · exact HE.out j h
            · obtain rfl : j = k := by omega
              rw [hu, hv, huv])
          clear hu hv huv
          go_wp2_with fail
          go_quiet (fail)
          go_wp2_with fail
          go_roundw
          case rel => exact ⟨k + 1, n + nq, by go_num, by omega, (by first | rfl | exact drewN_add _ _ _), HNE.out⟩
          case measure => simp [intOf]; omega
        · have e2 : (u != v) = true := by rw [bne_iff_ne]; exact huv
          have HNE := Lib.hid (show decide (l = m) = false from HD.out k (by rw [hu, hv]; exact fun e => huv (Option.some.inj e)))
          clear hu hv huv
          go_wp2_with fail
          go_quiet (fail)
          go_wp2_with fail
          go_ret
          exact ⟨by rw [HNE.out]; rfl, n + nq, (by first | rfl | exact drewN_add _ _ _)⟩
      · have hkl : ¬ (k : Int) < (l.length : Int) := by omega
        have HNE := Lib.hid (HV.out k hk HE.out (by omega))
        go_wp2_with fail
        go_ret
        exact ⟨by rw [HNE.out]; rfl, n, rfl⟩
  · have e1 : ((l.length : Int) != (m.length : Int)) = true := by rw [bne_iff_ne]; omega
    have HV := Lib.hid (show decide (l = m) = false from decide_eq_false (fun e => hn (by rw [e])))
    clear hn h1 h2
    go_enter Try.func12, Try.ntmps12
    go_wp2_with fail
    go_ret
    exact ⟨by rw [HV.out]; rfl, 0, rfl⟩

def sumE (E : Nat → List Int) : Nat → Nat
  | 0 => 0
  | k + 1 => sumE E k + (E k).length
def greatB (E : Nat → List Int) (n : Nat) : Bool := decide (40 < n) || decide (400 < sumE E (min n 40))
theorem sumE_le (E : Nat → List Int) (n : Nat) (h : ∀ i, i < n → (E i).length ≤ 140737488355328) : ∀ k, k ≤ n → sumE E k ≤ k * 140737488355328
  | 0, _ => by simp [sumE]
  | k + 1, hk => by
    have h1 := sumE_le E n h k (by omega)
    have h2 := h k (by omega)
    simp only [sumE]
    omega
theorem sumE_mono (E : Nat → List Int) {i k : Nat} (h : i < k) : (E i).length ≤ sumE E k := by
  induction k with
  | zero => omega
  | succ k ih =>
    simp only [sumE]
    by_cases e : i = k
    · subst e; omega
    · have := ih (by omega); omega
set_option maxRecDepth 100000 in
set_option maxHeartbeats 400000 in
theorem great_any (E : Nat → List Int) (n B : Nat) (eo : Option Addr) (ec : Nat) (w : World) (hEd : EdAt B w eo n ec E) (hsz : ∀ i, i < n → (E i).length ≤ 140737488355328) :
    Calls Try.prog 8 #[.slice eo n ec] w fun e w' => e = .returned (.bool (greatB E n)) ∧ w = w' := by
  have hle := hEd.le
  have hn : n ≤ 9223372036854775807 := by unfold maxLen at hle; omega
  have HED := Lib.hid hEd.row
  have HS := Lib.hid (sumE_le E n hsz)
  have HZ := Lib.hid hsz
  clear hEd hle hsz
  go_enter Try.func8, Try.ntmps8
  go_wp2_with fail
  go_loopw [3, 4] (fun sv iv wr => ∃ k : Nat, sv = .int .i64 (sumE E k : Nat) ∧ iv = .int .i64 k ∧ k ≤ min n 40 ∧ wr = w) (fun _ iv _ => 40 - (intOf iv).toNat)
  case atStart => exact ⟨0, rfl, rfl, Nat.zero_le _, rfl⟩
  case round =>
    obtain ⟨k, rfl, rfl, hk, rfl⟩ := hrel
    by_cases hkn : k < n
    · have h1 : (k : Int) < (n : Int) := by omega
      by_cases hk40 : k < 40
      · have h2 : (k : Int) < 40 := by omega
        obtain ⟨ge, off, ro, rc, rfl, hge, ce, hel, hem, _⟩ := HED.out k hkn
        have hb1 := HS.out k (by omega)
        have hb2 := HZ.out k hkn
        have hs : sumE E k + (E k).length = sumE E (k + 1) := rfl
        obtain ⟨s, hs0⟩ : ∃ s, s = sumE E k := ⟨_, rfl⟩
        obtain ⟨l, hl0⟩ : ∃ l, l = (E k).length := ⟨_, rfl⟩
        rw [← hl0] at ce hb2 hs hel
        rw [← hs0] at hb1 hs ⊢
        have HSS := Lib.hid hs
        have hb3 : s + l ≤ 9223372036854775807 := by omega
        clear hs hs0 hl0
        go_wp2_with fail
        go_roundw
        case rel => exact ⟨k + 1, by rw [← HSS.out]; go_num, by go_num, by omega, by trivial⟩
        case measure => simp [intOf]; omega
      · have h2 : ¬ (k : Int) < 40 := by omega
        have HG : Hid (greatB E n = true) := Lib.hid (by unfold greatB; rw [decide_eq_true (by omega)]; rfl)
        have h3 : (40 : Int) < (n : Int) := by omega
        generalize sumE E k = s
        go_wp2_with fail
        go_ret
        exact ⟨by rw [HG.out]; rfl, rfl⟩
    · have h1 : ¬ (k : Int) < (n : Int) := by omega
      have hmin : min n 40 = k := by omega
      have h3 : ¬ (40 : Int) < (n : Int) := by omega
      by_cases hs : 400 < sumE E k
      · have HG : Hid (greatB E n = true) := Lib.hid (by unfold greatB; rw [decide_eq_false (by omega), hmin, decide_eq_true hs]; rfl)
        generalize sumE E k = s at *
        have h4 : (400 : Int) < (s : Int) := by omega
        go_wp2_with fail
        go_ret
        exact ⟨by rw [HG.out]; rfl, rfl⟩
      · have HG : Hid (greatB E n = false) := Lib.hid (by unfold greatB; rw [decide_eq_false (by omega), hmin, decide_eq_false hs]; rfl)
        generalize sumE E k = s at *
        have h4 : ¬ (400 : Int) < (s : Int) := by omega
        go_wp2_with fail
        go_ret
        exact ⟨by rw [HG.out]; rfl, rfl⟩
theorem great_false {E : Nat → List Int} {n : Nat} (h : greatB E n = false) : n ≤ 40 ∧ ∀ i, i < n → (E i).length ≤ 400 := by
  unfold greatB at h
  rw [Bool.or_eq_false_iff, decide_eq_false_iff_not, decide_eq_false_iff_not] at h
  refine ⟨by omega, fun i hi => ?_⟩
  have h2 := sumE_mono E (show i < min n 40 by omega)
  omega
end Go.Proofs.Ytmmggeaaheegmaa.K
