/- Several texts in one. -/
import Derived.Test.YtpeiamllkddhiaaGreatDoorAppH
import Derived.Lib.ItoaLen
import Derived.Test.YtpeiamllkddhiaaGreatDoorMrg3
import Derived.StillTail
import Derived.StillTailTactics

/- The reference's Without; a number's digits. -/
namespace Go.Proofs.YtpeiamllkddhiaaGreatDoor.P
open Go.RowKit Go.Proofs.YtpeiamllkddhiaaGreatDoor.R Go.Proofs.YtpeiamllkddhiaaGreatDoor.M Go.BigFrame
set_option linter.unusedVariables false
set_option linter.unusedSimpArgs false

theorem del_keep {P : List Ent} {k : ByteArray} {x : Ent} (h : x.key ≠ k) : del (P ++ [x]) k = del P k ++ [x] := by
  unfold del; rw [List.filter_append]; simp [h]
theorem del_drop {P : List Ent} {k : ByteArray} {x : Ent} (h : x.key = k) : del (P ++ [x]) k = del P k := by
  unfold del; rw [List.filter_append]; simp [h]
set_option maxRecDepth 100000 in
set_option maxHeartbeats 2000000 in
theorem without_any (A : List Ent) (ao : Option Addr) (cap : Nat) (k : ByteArray) (w : World) (h : SetsV w ao cap A) (hA : A.length ≤ 100000) :
    Calls Tryz.prog 22 #[.slice ao A.length cap, .string k] w fun x w' => ∃ oo oc, x = .returned (.slice oo (del A k).length oc) ∧ (w'.ownsRow w.heap.size 64 3 (.slice oo (del A k).length oc) (del A k).length (cellsE (del A k)) ∧ Below w.heap.size w w') := by
  have HSV := Lib.hid h
  obtain ⟨i0, hii, hz0, hz1, hz2⟩ := info_parts info_set
  obtain ⟨hl1, hl2⟩ := h.le
  unfold maxLen at hl2
  clear h
  go_enter Tryz.func22, Tryz.ntmps22
  have HWS0 : Hid (WS w w none 0 (del (A.take 0) k)) := Lib.hid ⟨Below.refl _ _, World.ownsRow_nil _ _ _ _⟩
  go_wp2_with fail
  go_loopw [5, 6] (fun ov iv wr => ∃ (i : Nat) (oo : Option Addr) (oc : Nat), ov = .slice oo (del (A.take i) k).length oc ∧ iv = .int .i64 i ∧ i ≤ A.length ∧ WS w wr oo oc (del (A.take i) k)) (fun _ iv _ => A.length - (intOf iv).toNat)
  case atStart => exact ⟨0, none, 0, rfl, rfl, Nat.zero_le _, HWS0.out⟩
  case round =>
    clear HWS0
    obtain ⟨i, oo, oc, rfl, rfl, hi, hws⟩ := hrel
    have hlo := @del_len (A.take i) k
    have hlt := List.length_take_le i A
    by_cases hil : i < A.length
    · have hii2 : (i : Int) < (A.length : Int) := by omega
      obtain ⟨x, hx⟩ : ∃ x, A[i]? = some x := ⟨_, List.getElem?_eq_getElem hil⟩
      have htk : A.take (i + 1) = A.take i ++ [x] := by rw [List.take_add_one, hx]; rfl
      obtain ⟨b, off, rfl, hbl, c0, c1, c2⟩ := (HSV.out.below hws.bel).row i x hx
      have hws1 := hws.bel.size
      have HWS := Lib.hid hws
      have l2 := ba_eq x.key k
      by_cases hq : x.key = k
      · have HN := Lib.hid (show del (A.take (i + 1)) k = del (A.take i) k by rw [htk]; exact del_drop hq)
        rw [decide_eq_true hq] at l2
        have l3 : x.key.toList = k.toList := by rw [hq]
        obtain ⟨O, hO⟩ : ∃ O, O = del (A.take i) k := ⟨_, rfl⟩
        rw [← hO] at HWS HN hlo ⊢
        clear hws hx htk hq hO
        go_wp2_with fail
        go_roundw
        case rel => exact ⟨i + 1, oo, oc, by rw [HN.out], by go_num, by omega, by rw [HN.out]; exact HWS.out⟩
        case measure => simp [intOf]; omega
      · have HN := Lib.hid (show del (A.take (i + 1)) k = del (A.take i) k ++ [x] by rw [htk]; exact del_keep hq)
        rw [decide_eq_false hq] at l2
        have l3 : ¬ x.key.toList = k.toList := beq_eq_false_iff_ne.1 l2
        obtain ⟨O, hO⟩ : ∃ O, O = del (A.take i) k := ⟨_, rfl⟩
        rw [← hO] at HWS HN hlo ⊢
        clear hws hx htk hq hO
        go_wp2_with (refine wpList_append_lies _ (by rfl) (.tmp 20) (.tmp 25) 27 (by rfl) w.heap.size 64 i0 _ 3 40 Tryz.underlying27 hii hz0 hz1 hz2 rfl (by decide) (.slice oo (O).length oc) (O).length (cellsE (O)) (by rfl) (by exact HWS.out.own.alloc _) ⟨wr.heap.size, 0, none⟩ 1 1 [.string x.key, .string x.val, .int .i64 x.rev] (by rfl) (by rfl) (World.news_of_block (cs := #[.string x.key, .string x.val, .int .i64 x.rev]) (t := 64) (fr := (0, 0)) (heap_alloc_new wr _)) (by simp [Value.oneCell']) (by omega) (by unfold maxLen; omega) (by omega) (by simp; omega) (wr.heap.size + 1) (by simp) ?_; intro gg cg w7 hown hgrow hat hlt7; have HG := Lib.hid (HWS.out.more (e := x) hown hgrow); clear hown hgrow hat)
        go_roundw
        case rel => exact ⟨i + 1, some ⟨gg, 0, none⟩, cg, by rw [HN.out, List.length_append]; rfl, by go_num, by omega, by rw [HN.out]; exact HG.out⟩
        case measure => simp [intOf]; omega
    · obtain rfl : i = A.length := by omega
      have hii2 : ¬ (A.length : Int) < (A.length : Int) := by omega
      rw [List.take_of_length_le (Nat.le_refl _)] at hws hlo ⊢
      have HWS := Lib.hid hws
      obtain ⟨O, hO⟩ : ∃ O, O = del A k := ⟨_, rfl⟩
      rw [← hO] at HWS ⊢
      clear hws hlo
      have HO := Lib.hid hO
      clear hO
      go_wp2_with fail
      go_ret
      exact ⟨oo, oc, by rw [← HO.out]; rfl, by rw [← HO.out]; exact HWS.out.own, HWS.out.bel⟩

theorem addr_add0 (g : Nat) : (⟨g, 0, none⟩ : Addr).add 0 = ⟨g, 0, none⟩ := by unfold Addr.add; split <;> simp_all
theorem conv_dig (x : Nat) (hx : x < 10) (d : UInt8) (hd : d = UInt8.ofNat (48 + x)) (w : World) : (convert 88 9 (.slice (some ⟨w.heap.size, 0, none⟩) 1 1)).run Tryz.prog (w.alloc (.cells #[.int .u8 (48 + (x : Int))] 5)) = .ok (.string ⟨#[d]⟩) (w.alloc (.cells #[.int .u8 (48 + (x : Int))] 5)) := by
  subst hd
  have hv : ((UInt8.ofNat (48 + x)).toNat : Int) = 48 + (x : Int) := by
    rw [UInt8.toNat_ofNat']
    omega
  exact run_convert_bytes_back (P := Tryz.prog) _ 88 9 5 ⟨w.heap.size, 0, none⟩ 1 [UInt8.ofNat (48 + x)] Tryz.underlying88 Tryz.underlying5 Tryz.underlying9 (fun j hj => by
    match j, hj with
    | 0, _ =>
      rw [addr_add0]
      simp only [List.getElem_cons_zero]
      rw [hv]
      exact cell_of_row _ _ 0 _ _ (0, 0) (heap_alloc_new w _))
/-- what a number's digits are, its lower ones out -/
def TextAt (N n : Nat) (l : List UInt8) : Prop := (n < 10 → Lib.decDigits N = l) ∧ (¬ n < 10 → Lib.decDigits N = Lib.decDigits (n / 10) ++ l)
theorem TextAt.start (N : Nat) : TextAt N N [UInt8.ofNat (48 + N % 10)] :=
  ⟨fun h => by rw [Lib.decDigits, dif_pos h, Nat.mod_eq_of_lt h], fun h => by rw [Lib.decDigits, dif_neg h]⟩
theorem TextAt.step {N n : Nat} {l : List UInt8} (h : TextAt N n l) (hn : ¬ n < 10) : TextAt N (n / 10) (UInt8.ofNat (48 + n / 10 % 10) :: l) := by
  have h2 := h.2 hn
  refine ⟨fun hl => ?_, fun hl => ?_⟩
  · rw [h2, Lib.decDigits, dif_pos hl, Nat.mod_eq_of_lt hl]; rfl
  · rw [h2, Lib.decDigits, dif_neg hl, List.append_assoc]; rfl
theorem cons_ba (a : UInt8) (l : List UInt8) : (⟨#[a]⟩ : ByteArray) ++ ⟨l.toArray⟩ = ⟨(a :: l).toArray⟩ := by
  apply ba_ext
  rw [ByteArray.data_append]
  simp
set_option maxRecDepth 100000 in
set_option maxHeartbeats 2000000 in
theorem text_any (N : Nat) (w : World) (hN : N ≤ 1000000) :
    Calls Tryz.prog 26 #[.int .i64 N] w fun e w' => e = .returned (.string (digs N)) ∧ Below w.heap.size w w' := by
  obtain ⟨x, hx⟩ : ∃ x : Nat, (N : Int) % 10 = (x : Int) := ⟨N % 10, by omega⟩
  have hx10 : x < 10 := by omega
  have hxe : x = N % 10 := by omega
  obtain ⟨d, hd⟩ : ∃ d, d = UInt8.ofNat (48 + x) := ⟨_, rfl⟩
  have hcv := fun W : World => conv_dig x hx10 d hd W
  have HT0 : Hid (TextAt N N [d]) := Lib.hid (by rw [hd, hxe]; exact TextAt.start N)
  have hN0 : ¬ (N : Int) < 0 := by omega
  have HB0 : Hid (Below w.heap.size w (w.alloc (.cells #[.int .u8 (48 + (x : Int))] 5))) := Lib.hid ((Below.refl _ _).alloc (Nat.le_refl _) _)
  clear hxe hd
  go_enter Tryz.func26, Tryz.ntmps26
  go_upto_region 4 with fail
  clear hcv hx
  have HSL : Hid (Value.string ⟨#[d]⟩ = .string ⟨([d] : List UInt8).toArray⟩) := Lib.hid rfl
  go_loopw [0, 3] (fun nv sv wr => ∃ (n : Nat) (l : List UInt8), nv = .int .i64 n ∧ sv = .string ⟨l.toArray⟩ ∧ n ≤ N ∧ TextAt N n l ∧ Below w.heap.size w wr) (fun nv _ _ => (intOf nv).toNat)
  case atStart => exact ⟨N, [d], rfl, HSL.out, Nat.le_refl _, HT0.out, HB0.out⟩
  case round =>
    clear HT0 HB0 HSL
    obtain ⟨n, l, rfl, rfl, hn, ht, hb⟩ := hrel
    have HT := Lib.hid ht
    have HB := Lib.hid hb
    have hbz := hb.size
    by_cases h9 : n < 10
    · have h9i : ¬ (9 : Int) < (n : Int) := by omega
      have HV : Hid (digs N = ⟨l.toArray⟩) := Lib.hid (by unfold digs; rw [Lib.itoa_nonneg, ht.1 h9])
      clear ht hb
      go_wp2_with fail
      go_ret
      exact ⟨by rw [HV.out]; rfl, HB.out⟩
    · have h9i : (9 : Int) < (n : Int) := by omega
      obtain ⟨m, hm⟩ : ∃ m : Nat, (n : Int) / 10 = (m : Int) := ⟨n / 10, by omega⟩
      obtain ⟨y, hy⟩ : ∃ y : Nat, (m : Int) % 10 = (y : Int) := ⟨m % 10, by omega⟩
      have hme : m = n / 10 := by omega
      have hye : y = n / 10 % 10 := by omega
      have hy10 : y < 10 := by omega
      have hmn : m < n := by omega
      obtain ⟨d2, hd2⟩ : ∃ d2, d2 = UInt8.ofNat (48 + y) := ⟨_, rfl⟩
      have hcv := fun W : World => conv_dig y hy10 d2 hd2 W
      have HT2 : Hid (TextAt N m (d2 :: l)) := Lib.hid (by rw [hme, hd2, hye]; exact ht.step h9)
      have HCB := Lib.hid (cons_ba d2 l)
      have hll : l.length ≤ 21 := by
        have h1 := Lib.itoa_length_le (N : Int) (by omega) (by omega)
        rw [Lib.itoa_nonneg, ht.2 h9, List.length_append] at h1
        omega
      have hsz : (⟨l.toArray⟩ : ByteArray).size ≤ 21 := by
        show l.toArray.size ≤ 21
        simpa using hll
      have hsz2 : l.toArray.size ≤ 21 := by simpa using hll
      clear ht hb hme hye hd2
      go_wp2_with fail
      go_roundw
      case rel => exact ⟨m, d2 :: l, by rfl, by rw [← HCB.out], by omega, HT2.out, HB.out.alloc hbz _⟩
      case measure => simp [intOf]; omega
end Go.Proofs.YtpeiamllkddhiaaGreatDoor.P

/- Regions that draw their order: a quiet head, in whatever order, over every world that keeps the old memory; behind it a tail in one forced order (a store, an append, a call that writes). -/
namespace Go.Proofs.YtpeiamllkddhiaaGreatDoor.M
open Go.RowKit
set_option linter.unusedVariables false
section
variable {P : Program} {ops : Array Oper} {md : Region.Mode} {C : World → Prop}
/-- from here on n operations of the head alone come up, each quiet; behind them L -/
def Heads (P : Program) (md : Region.Mode) (ops : Array Oper) (C : World → Prop) (n : Nat) (L : Array Bool → Act → Prop) : Nat → Array Bool → Act → Prop
  | 0, listed, a => L listed a
  | f + 1, listed, a => Region.ready md ops listed ≠ [] ∧ ∀ i ∈ Region.ready md ops listed, i < n ∧ qOp P ops C i (Heads P md ops C n L f (listed.setIfInBounds i true)) a
theorem Heads.any {n g : Nat} {L : Array Bool → Act → Prop} {Q : Exit → Act → World → Prop} (hL : ∀ listed a w, C w → L listed a → wpAny P md ops Q g listed a w) :
    ∀ (f : Nat) (listed : Array Bool) (a : Act) (w : World), C w → Heads P md ops C n L f listed a → wpAny P md ops Q (f + g) listed a w := by
  intro f
  induction f with
  | zero => intro listed a w hw h; rw [Nat.zero_add]; exact hL _ _ _ hw h
  | succ f ih =>
    intro listed a w hw h
    rw [show f + 1 + g = (f + g) + 1 by omega]
    exact ⟨fun h0 => absurd h0 h.1, fun i hi => wpOp_of_qOp hw (fun a' w' hw' h' => ih _ a' w' hw' h') (h.2 i hi).2⟩
/-- what may come up in the head, taken first -/
theorem Heads.first {n i : Nat} {oi : Oper} {v : Value} {L : Array Bool → Act → Prop} (hi : ops[i]? = some oi) (hsel : ∀ (j : Nat) (o : Oper) cs b, ops[j]? = some o → o.op ≠ .select cs b)
    (hs : Region.sinkB md ops n = true) (hc : Region.chainB md ops n = true) (hn : n < ops.size) (hin : i < n) (hdone : ∀ listed a, L listed a → ∀ j ∈ Region.ready md ops listed, n ≤ j) :
    ∀ (f : Nat) (listed : Array Bool) (a : Act), HeadInv md ops n listed →
      (∀ j oj, ops[j]? = some oj → j ≠ i → listed.getD j true = false → (∀ e ∈ oj.after, Region.binds md e = true → e.on ≠ i) → oi.apart ops oj = true) →
      i ∈ Region.ready md ops listed → YieldsIn P ops C oi v a → Heads P md ops C n L f (listed.setIfInBounds i true) (a.put oi.dst v) → Heads P md ops C n L (f + 1) listed a := by
  intro f
  have head : ∀ (listed : Array Bool), HeadInv md ops n listed → i ∈ Region.ready md ops listed → ∀ j ∈ Region.ready md ops listed, j < n := fun listed inv hr j hj => by
    rcases Nat.lt_or_ge j n with h | h
    · exact h
    · exact absurd hj (tail_waits hs hc hn inv _ i rfl hin (mem_ready.1 hr).1 j h)
  induction f with
  | zero =>
    intro listed a inv _ hr hy H
    refine ⟨fun h => (by rw [h] at hr; cases hr), fun j hj => ⟨head listed inv hr j hj, ?_⟩⟩
    by_cases hji : j = i
    · subst hji; exact hy.qOp hi H
    · have h1 := hdone _ _ H j (ready_mono hj hji)
      have h2 := head listed inv hr j hj
      omega
  | succ f ih =>
    intro listed a inv hfree hr hy H
    refine ⟨fun h => (by rw [h] at hr; cases hr), fun j hj => ⟨head listed inv hr j hj, ?_⟩⟩
    by_cases hji : j = i
    · subst hji; exact hy.qOp hi H
    · obtain ⟨hjun, oj, hoj, hall⟩ := mem_ready.1 hj
      have hun := (mem_ready.1 hr).1
      have hnot : ∀ e ∈ oj.after, Region.binds md e = true → e.on ≠ i := fun e he hb heq => by
        have h1 := hall e he hb
        rw [heq, getD_both hun] at h1
        cases h1
      have h2 := qOp_put hoj (hfree j oj hoj hji hjun hnot) (fun cs b => hsel i oi cs b hi) (fun cs b => hsel j oj cs b hoj) hy (H.2 j (ready_mono hj hji)).2
      refine qOp_mono (fun a' h3 => ih (listed.setIfInBounds j true) a' (inv.set hj (head listed inv hr j hj)) (fun k ok hk hki hkun hno => ?_) (ready_mono hr (Ne.symm hji)) h3.1 ?_) h2
      · refine hfree k ok hk hki ?_ hno
        by_cases hjk : j = k
        · subst hjk; exact hjun
        · rw [getD_set_ne true hjk] at hkun; exact hkun
      · rw [Array.setIfInBounds_comm _ _ hji]
        exact h3.2
theorem Heads.lex {n g : Nat} {Lq : Act → Prop} (hsel : Region.noSelect ops = true) (hs : Region.sinkB md ops n = true) (hc : Region.chainB md ops n = true) (hn : n < ops.size) :
    ∀ (l : List Oper) (k : Nat) (listed : Array Bool) (a : Act), (∀ j, j < l.length → l[j]? = ops[k + j]?) → k + l.length = n → HeadInv md ops n listed →
    Region.lexHead md ops g l.length k listed = true → wpQuiet P ops C Lq l a → Heads P md ops C n (fun listed' a' => Region.seqB md ops g n listed' = true ∧ Lq a') l.length listed a := by
  intro l
  induction l with
  | nil =>
    intro k listed a _ hk _ hB h
    obtain rfl : k = n := by simpa using hk
    exact ⟨by simpa [Region.lexHead] using hB, h⟩
  | cons o l ih =>
    intro k listed a hl hk inv hB h
    have h0 : ops[k]? = some o := by simpa using (hl 0 (by simp)).symm
    simp only [List.length_cons, Region.lexHead, Bool.and_eq_true] at hB
    obtain ⟨⟨hr, hf⟩, hB'⟩ := hB
    have hkn : k < n := by simp only [List.length_cons] at hk; omega
    have hr' : k ∈ Region.ready md ops listed := by simpa using hr
    have hst : qOp P ops C k (wpQuiet P ops C Lq l) a := by unfold qOp; simp only [h0]; exact h
    obtain ⟨v, hy, hK⟩ := yieldsIn_of_qOp h0 hst
    exact Heads.first h0 (Region.noSelect_spec hsel) hs hc hn hkn (fun listed' a' hL => seqB_ready hL.1) l.length listed a inv (Region.free_spec h0 hf) hr' hy
      (ih (k + 1) _ _ (fun j hj => by have := hl (j + 1) (by simp; omega); simpa [Nat.add_assoc, Nat.add_comm 1 j] using this) (by simp only [List.length_cons] at hk; omega) (inv.set hr' hkn) hB' hK)
/-- A REGION: n operations that are quiet, then the others in their one order, from every world that keeps the old memory. -/
theorem wp_region_kin_tail (n : Nat) {id : Nat} {Q : Exit → Act → World → Prop} {a : Act} {w : World} {l : List Oper} (hm : P.follows .mixedOrders = true) (hB : Region.lexTailB .any l.toArray n = true)
    (h : wpQuiet P l.toArray (fun w' => ∃ x : Kin w, w' = x.w) (fun a' => ∀ w', (∃ x : Kin w, w' = x.w) → wpList P l.toArray Q (l.drop n) a' w') (l.take n) a) : (Code.region id l.toArray true).wp P Q a w := by
  simp only [Region.lexTailB, Bool.and_eq_true, decide_eq_true_eq] at hB
  obtain ⟨⟨⟨⟨hsel, hn⟩, hs⟩, hc⟩, hlex⟩ := hB
  have hn' : n < l.length := by simpa using hn
  have htl : (l.take n).length = n := by simp; omega
  have hdl : (l.drop n).length = l.toArray.size - n := by simp
  have inv0 : HeadInv .any l.toArray n (Array.replicate l.toArray.size false) :=
    ⟨by simp, fun j oj _ hl => (by rw [getD_replicate_false] at hl; cases hl), fun t _ ht => getD_in (by simpa using ht) (getD_replicate_false _ _)⟩
  have H := Heads.lex (md := .any) (C := fun w' => ∃ x : Kin w, w' = x.w) (g := l.toArray.size - n) hsel hs hc hn (l.take n) 0 _ a (fun j hj => by
    have hj' : j < n := by rw [htl] at hj; exact hj
    simp [hj']) (by simpa using htl) inv0 (by rw [htl]; exact hlex) h
  refine wp_region_any hm ?_
  have := Heads.any (Q := Q) (g := l.toArray.size - n) (fun listed a' w' hw' hL => by
    have := wpAny_of_seq (md := .any) (Q' := Q) (l.drop n) n listed a' w' (fun j => by simp [List.getElem?_drop]) (by rw [hdl]; exact hL.1) (hL.2 w' hw')
    rwa [hdl] at this) _ _ _ { w with drawn := w.drawn + 1 } ⟨⟨_, below_drawn w⟩, rfl⟩ H
  rw [htl, show n + (l.toArray.size - n) = l.toArray.size by omega] at this
  exact this
end
end Go.Proofs.YtpeiamllkddhiaaGreatDoor.M
