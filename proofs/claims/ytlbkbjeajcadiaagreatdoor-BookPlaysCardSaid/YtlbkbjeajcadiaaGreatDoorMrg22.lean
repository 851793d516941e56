/- Several texts in one. -/
import Derived.Test.YtlbkbjeajcadiaaGreatDoorMrg9
import Derived.Test.YtlbkbjeajcadiaaGreatDoorMrg6
import Derived.Test.YtlbkbjeajcadiaaGreatDoorMrg19
import Derived.Test.YtlbkbjeajcadiaaGreatDoorMrg20

/- What the laws ask beside: replies' equality, cmd.Writes, cmd.Meet, the reference's Great. -/
namespace Go.Proofs.YtlbkbjeajcadiaaGreatDoor.P
open Go.RowKit Go.Proofs.YtlbkbjeajcadiaaGreatDoor.R Go.Proofs.YtlbkbjeajcadiaaGreatDoor.M Go.BigFrame
set_option linter.unusedVariables false
set_option linter.unusedSimpArgs false

def repEq (r s : Rep) : Bool := (r.code == s.code) && ((r.val.toList == s.val.toList) && (r.rev == s.rev))
theorem repEq_iff (r s : Rep) : repEq r s = true ↔ r = s := by
  unfold repEq
  rw [ba_eq]
  simp only [Bool.and_eq_true, beq_iff_eq, decide_eq_true_eq]
  constructor
  · rintro ⟨h1, h2, h3⟩
    cases r; cases s
    simp only at *
    subst h1 h2 h3
    rfl
  · intro h; subst h; exact ⟨rfl, rfl, rfl⟩
theorem repEq_same (r : Rep) : repEq r r = true := (repEq_iff r r).2 rfl
/-- is a command greater than is looked at -/
def big (c : Cmd) : Bool := decide (100 < c.key.size) || decide (1100 < c.val.size)
def greatB (L : List Cmd) (m : Nat) : Bool := (L.take m).any big || decide (m < L.length)
theorem great_no {L : List Cmd} {m : Nat} (h : greatB L m = false) : L.length ≤ m ∧ ∀ c ∈ L, c.key.size ≤ 100 ∧ c.val.size ≤ 1100 := by
  unfold greatB at h
  rw [Bool.or_eq_false_iff, decide_eq_false_iff_not] at h
  have hl : L.length ≤ m := by omega
  refine ⟨hl, fun c hc => ?_⟩
  rw [List.take_of_length_le hl, List.any_eq_false] at h
  have := h.1 c hc
  unfold big at this
  simp only [Bool.or_eq_true, decide_eq_true_eq, not_or] at this
  omega
theorem great_yes {L : List Cmd} {m i : Nat} {c : Cmd} (hi : i < m) (h : L[i]? = some c) (hb : big c = true) : greatB L m = true := by
  unfold greatB
  rw [Bool.or_eq_true]
  refine .inl (List.any_eq_true.2 ⟨c, ?_, hb⟩)
  refine List.mem_of_getElem? (i := i) ?_
  rw [List.getElem?_take_of_lt hi]
  exact h
theorem great_end {L : List Cmd} {m i : Nat} (hi : i = L.length ∨ i = m) (hn : ∀ j x, j < i → L[j]? = some x → big x = false) : greatB L m = decide (m < L.length) := by
  unfold greatB
  have : (L.take m).any big = false := by
    rw [List.any_eq_false]
    intro x hx
    obtain ⟨j, hj⟩ := List.mem_iff_getElem?.1 hx
    have hj2 := (List.getElem?_eq_some_iff.1 hj).1
    rw [List.length_take] at hj2
    rw [List.getElem?_take_of_lt (by omega)] at hj
    have := hn j x (by omega) hj
    simp [this]
  rw [this, Bool.false_or]
end Go.Proofs.YtlbkbjeajcadiaaGreatDoor.P

/- Plain: the document's example of the settings; what the App laws ask at their ends. -/
namespace Go.Proofs.YtlbkbjeajcadiaaGreatDoor.P
open Go.Proofs.YtlbkbjeajcadiaaGreatDoor.R
set_option linter.unusedVariables false

def ka : ByteArray := ⟨#[97]⟩
def vv : ByteArray := ⟨#[118]⟩
def vw : ByteArray := ⟨#[119]⟩
def ex1 : Cmd := ⟨2, 1, 1, ka, vv, 0⟩
def ex2 : Cmd := ⟨4, 1, 2, ka, vw, 1⟩
theorem chk_ex1 : chk ex1 = 0 := by decide +kernel
theorem chk_ex2 : chk ex2 = 0 := by decide +kernel
theorem ex_one : appDo [] ex1 = ([⟨ka, vv, 1⟩], ⟨0, nul, 1⟩) := by
  unfold appDo
  rw [if_pos chk_ex1]
  rfl
theorem ex_two : appDo [⟨ka, vv, 1⟩] ex2 = ([⟨ka, vw, 2⟩], ⟨0, nul, 2⟩) := by
  unfold appDo
  rw [if_pos chk_ex2]
  unfold act
  rw [if_neg (by decide), if_neg (by decide), if_neg (by decide), if_pos (by decide)]
  have hr : revOf [⟨ka, vv, 1⟩] ex2.key = 1 := by decide +kernel
  rw [hr, if_pos (by decide)]
  have hp : ¬ lt ka ka := lt_irrefl _
  unfold put
  rw [if_neg (show ¬ lt ka ex2.key from hp), if_pos (show ka = ex2.key from rfl)]
  rfl
theorem ex_three : appDo [⟨ka, vw, 2⟩] ex2 = ([⟨ka, vw, 2⟩], ⟨10, nul, 2⟩) := by
  unfold appDo
  rw [if_pos chk_ex2]
  unfold act
  rw [if_neg (by decide), if_neg (by decide), if_neg (by decide), if_pos (by decide)]
  have hr : revOf [⟨ka, vw, 2⟩] ex2.key = 2 := by decide +kernel
  rw [hr, if_neg (by decide)]
/-- behind n of some commands -/
theorem good_take (L : List Cmd) (i : Nat) : Good i (run [] (L.take i)) :=
  ((Good.nil).run (L.take i)).mono (by rw [List.length_take]; omega)
/-- a command that gets -/
def getC (k : ByteArray) : Cmd := ⟨1, 1, 1, k, nul, 0⟩
theorem chk_get {k : ByteArray} (h : keyV k = true) : chk (getC k) = 0 := by
  unfold chk
  have h1 : formBad (getC k) = false := by unfold formBad getC bare; simp
  have h2 : rangeBad (getC k) = false := by unfold rangeBad out getC; simp
  have h3 : bare (getC k) = false := by unfold bare getC; simp
  rw [h1, h2, h3]
  simp only [Bool.false_eq_true, if_false]
  rw [if_neg (show ¬ 1024 < (getC k).val.size by show ¬ 1024 < nul.size; decide), if_neg (show ¬ (getC k).kind = 5 by show ¬ (1 : Int) = 5; decide), show (getC k).key = k from rfl, h]
  rfl
theorem do_get {A : List Ent} {k : ByteArray} (h : keyV k = true) : appDo A (getC k) = (A, match look A k with
    | none => ⟨8, nul, 0⟩
    | some e => ⟨0, e.val, e.rev⟩) := by
  unfold appDo
  rw [if_pos (chk_get h)]
  rfl
/-- AppReads' end: nothing turned -/
theorem reads_same {A : List Ent} {c : Cmd} (h : writes c = false ∨ chk c ≠ 0 ∨ (appDo A c).2.code ≠ 0) : (appDo A c).1 = A := by
  rcases h with h | h | h
  · exact do_still (.inl h)
  · exact do_still (.inr h)
  · exact do_code h
theorem writes_kind {c : Cmd} (h : writes c = true) : c.kind = 2 ∨ c.kind = 3 ∨ c.kind = 4 := by
  unfold writes at h
  simp only [Bool.or_eq_true, decide_eq_true_eq] at h
  omega
theorem writes_key {c : Cmd} (h : writes c = true) (h0 : chk c = 0) : keyV c.key = true := by
  have hk := writes_kind h
  refine chk_key h0 (by omega) ?_
  unfold bare
  rcases hk with e | e | e <;> simp [e]
theorem reads_got_del {A : List Ent} {c : Cmd} (hs : Srt A) (hw : writes c = true) (h0 : chk c = 0) (hr : (appDo A c).2.code = 0) (hk : c.kind = 3) :
    appDo (appDo A c).1 (getC c.key) = ((appDo A c).1, ⟨8, nul, 0⟩) ∧ (findR (appDo A c).1 nul).rev = (findR A nul).rev - 1 := by
  have h1 := reads_del hs h0 hk hr
  refine ⟨by rw [do_get (writes_key hw h0), h1.1], ?_⟩
  unfold findR
  rw [hits_nul, hits_nul]
  exact h1.2
theorem reads_got_put {A : List Ent} {N : Nat} {c : Cmd} (hg : Good N A) (hw : writes c = true) (h0 : chk c = 0) (hr : (appDo A c).2.code = 0) (hk : c.kind ≠ 3) :
    appDo (appDo A c).1 (getC c.key) = ((appDo A c).1, ⟨0, c.val, (appDo A c).2.rev⟩) ∧ 0 < (appDo A c).2.rev := by
  have hk2 := writes_kind hw
  have h1 := reads_put hg.srt hg h0 (by omega) hr
  exact ⟨by rw [do_get (writes_key hw h0), h1.1], h1.2⟩
/-- AppFinds -/
def findC (k : ByteArray) : Cmd := ⟨5, 1, 1, k, nul, 0⟩
theorem do_find {A : List Ent} {k : ByteArray} (h : (appDo A (findC k)).2.code = 0) : (appDo A (findC k)).2 = findR A k := by
  unfold appDo at h ⊢
  by_cases h0 : chk (findC k) = 0
  · rw [if_pos h0]
    rfl
  · rw [if_neg h0] at h
    exact absurd h h0
theorem find_state (A : List Ent) (k : ByteArray) : (appDo A (findC k)).1 = A := do_still (.inl rfl)
theorem pre_iff {s p : List UInt8} : Lib.hasPrefix s p = true ↔ p <+: s := by
  unfold Lib.hasPrefix
  simp
theorem begs_cut {k key : ByteArray} {n : Nat} (h : begs k key = true) : begs k (key.extract 0 n) = true := by
  unfold begs at h ⊢
  rw [pre_iff] at h ⊢
  refine List.IsPrefix.trans ?_ h
  rw [ByteArray.data_extract, Array.toList_extract]
  simp only [List.extract_eq_take_drop, List.drop_zero]
  exact List.take_prefix _ _
theorem finds_end {A : List Ent} {key : ByteArray} {n : Nat} (h1 : (appDo A (findC key)).2.code = 0) (h2 : (appDo A (findC (key.extract 0 n))).2.code = 0) :
    (appDo A (findC key)).2.rev ≤ (appDo A (findC (key.extract 0 n))).2.rev ∧ (appDo A (findC (key.extract 0 n))).2.rev ≤ (findR A nul).rev := by
  rw [do_find h1, do_find h2]
  unfold findR
  have a1 := finds_mono (A := A) (p := key) (q := key.extract 0 n) fun k hk => begs_cut hk
  have a2 := finds_mono (A := A) (p := key.extract 0 n) (q := nul) fun k _ => begs_nul k
  exact ⟨by simp only; omega, by simp only; omega⟩
theorem finds_all (A : List Ent) : (findR A nul).rev = (A.length : Int) := by
  unfold findR
  rw [hits_nul]
end Go.Proofs.YtlbkbjeajcadiaaGreatDoor.P

/- What the App laws call beside: Great, Writes, keys, Meet. -/
namespace Go.Proofs.YtlbkbjeajcadiaaGreatDoor.P
open Go.RowKit Go.Proofs.YtlbkbjeajcadiaaGreatDoor.R Go.Proofs.YtlbkbjeajcadiaaGreatDoor.M Go.BigFrame
set_option linter.unusedVariables false
set_option linter.unusedSimpArgs false

theorem dec_beq (a b : Int) : decide (a = b) = (a == b) := by rw [Bool.eq_iff_iff, decide_eq_true_eq, beq_iff_eq]
set_option maxRecDepth 100000 in
set_option maxHeartbeats 2000000 in
theorem writes_any (c : Cmd) (w : World) (v : Bool) (hv : writes c = v) : Calls Tryz.prog 129 #[cmdV c] w fun e w' => e = .returned (.bool v) ∧ Below w.heap.size w w' := by
  subst hv
  have HB : Hid (Below w.heap.size w (w.alloc (.cells #[.int .i64 c.kind, .int .i64 c.client, .int .i64 c.seq, .string c.key, .string c.val, .int .i64 c.rev] 24))) := Lib.hid ((Below.refl _ _).alloc (Nat.le_refl _) _)
  have hw : writes c = ((c.kind == 2) || (c.kind == 3) || (c.kind == 4)) := by unfold writes; rw [dec_beq, dec_beq, dec_beq]
  obtain ⟨b2, h2⟩ : ∃ b, b = (c.kind == 2) := ⟨_, rfl⟩
  obtain ⟨b3, h3⟩ : ∃ b, b = (c.kind == 3) := ⟨_, rfl⟩
  obtain ⟨b4, h4⟩ : ∃ b, b = (c.kind == 4) := ⟨_, rfl⟩
  rw [← h2, ← h3, ← h4] at hw
  have HV := Lib.hid hw
  have e2 := h2.symm
  have e3 := h3.symm
  have e4 := h4.symm
  clear h2 h3 h4 hw
  cases b2 <;> cases b3
  all_goals
    go_enter Tryz.func129, Tryz.ntmps129
    go_wp2_with fail
    go_ret
    exact ⟨by rw [HV.out]; rfl, HB.out⟩
/-- two commands in their boxes -/
structure PairAt (a b : Cmd) (w wx : World) : Prop where
  bel : Below w.heap.size w wx
  ba : wx.heap[w.heap.size]? = some (.cells (cmdA a) 24 (0, 0))
  bb : wx.heap[w.heap.size + 1]? = some (.cells (cmdA b) 24 (0, 0))
theorem PairAt.next {a b : Cmd} {w w1 w2 : World} (h : PairAt a b w w1) (hb : Below w1.heap.size w1 w2) : PairAt a b w w2 :=
  ⟨h.bel.trans (hb.mono h.bel.size), (hb.block _ (M.heap_lt h.ba)).trans h.ba, (hb.block _ (M.heap_lt h.bb)).trans h.bb⟩
theorem pair_start (a b : Cmd) (w : World) : PairAt a b w ((w.alloc (.cells (cmdA a) 24)).alloc (.cells (cmdA b) 24)) := by
  refine ⟨((Below.refl _ _).alloc (Nat.le_refl _) _).alloc (by simp) _, ?_, ?_⟩
  · rw [heap_al, if_neg (by simp), heap_alloc_new]
  · rw [heap_al, if_pos (by simp)]
set_option maxRecDepth 100000 in
set_option maxHeartbeats 2000000 in
theorem keys_meet (a b : Cmd) (w : World) (v : Bool) (hv : keysMeet a b = v) : Calls Tryz.prog 130 #[cmdV a, cmdV b] w fun e w' => e = .returned (.bool v) ∧ Below w.heap.size w w' := by
  subst hv
  have hw : keysMeet a b = ((a.key.toList == b.key.toList) || ((a.kind == 5) && begs b.key a.key) || ((b.kind == 5) && begs a.key b.key)) := by unfold keysMeet; rw [ba_eq, dec_beq, dec_beq]
  obtain ⟨x, hx⟩ : ∃ x, x = (a.key.toList == b.key.toList) := ⟨_, rfl⟩
  obtain ⟨a5, ha5⟩ : ∃ x, x = (a.kind == 5) := ⟨_, rfl⟩
  obtain ⟨b5, hb5⟩ : ∃ x, x = (b.kind == 5) := ⟨_, rfl⟩
  obtain ⟨u, hu⟩ : ∃ x, begs b.key a.key = x := ⟨_, rfl⟩
  obtain ⟨t, ht⟩ : ∃ x, begs a.key b.key = x := ⟨_, rfl⟩
  rw [← hx, ← ha5, ← hb5, hu, ht] at hw
  have HV := Lib.hid hw
  have HU := Lib.hid (fun W => begins_t b.key a.key W u hu)
  have HT := Lib.hid (fun W => begins_t a.key b.key W t ht)
  have e1 := hx.symm
  have e2 := ha5.symm
  have e3 := hb5.symm
  clear hx ha5 hb5 hu ht hw
  go_enter Tryz.func130, Tryz.ntmps130
  go_upto_region 1 with fail
  obtain ⟨W, hW⟩ : ∃ W, W = (w.alloc (.cells (cmdA a) 24)).alloc (.cells (cmdA b) 24) := ⟨_, rfl⟩
  rw [← hW]
  have HP : Hid (PairAt a b w W) := Lib.hid (by rw [hW]; exact pair_start a b w)
  clear hW
  obtain ⟨⟨c0, _, _, c3, _, _⟩, _⟩ := box6 HP.out.ba
  obtain ⟨⟨d0, _, _, d3, _, _⟩, _⟩ := box6 HP.out.bb
  cases x with
  | true =>
    go_wp2_with fail
    go_ret
    exact ⟨by rw [HV.out]; rfl, HP.out.bel⟩
  | false =>
    cases a5 with
    | true =>
      go_wp2_with fail
      refine (HU.out _).mono ?_
      rintro e w1 ⟨rfl, rfl⟩
      cases u with
      | true =>
        go_wp2_with fail
        go_ret
        exact ⟨by rw [HV.out]; rfl, HP.out.bel⟩
      | false =>
        cases b5 with
        | true =>
          go_wp2_with fail
          refine (HT.out _).mono ?_
          rintro e w1 ⟨rfl, rfl⟩
          go_wp2_with fail
          go_ret
          exact ⟨by rw [HV.out]; rfl, HP.out.bel⟩
        | false =>
          go_wp2_with fail
          go_ret
          exact ⟨by rw [HV.out]; rfl, HP.out.bel⟩
    | false =>
      cases b5 with
      | true =>
        go_wp2_with fail
        refine (HT.out _).mono ?_
        rintro e w1 ⟨rfl, rfl⟩
        go_wp2_with fail
        go_ret
        exact ⟨by rw [HV.out]; rfl, HP.out.bel⟩
      | false =>
        go_wp2_with fail
        go_ret
        exact ⟨by rw [HV.out]; rfl, HP.out.bel⟩
set_option maxRecDepth 100000 in
set_option maxHeartbeats 4000000 in
theorem meet_any (a b : Cmd) (w : World) (v : Bool) (hv : meet a b = v) : Calls Tryz.prog 99 #[cmdV a, cmdV b] w fun e w' => e = .returned (.bool v) ∧ Below w.heap.size w w' := by
  subst hv
  have hw : meet a b = (if ((a.kind == 0) || (b.kind == 0)) = true then false else if (((a.kind == 6) || (b.kind == 6)) || (a.client == b.client)) = true then true else (writes a || writes b) && keysMeet a b) := by
    unfold meet; rw [dec_beq, dec_beq, dec_beq, dec_beq, dec_beq]
  obtain ⟨a0, ha0⟩ : ∃ x, x = (a.kind == 0) := ⟨_, rfl⟩
  obtain ⟨b0, hb0⟩ : ∃ x, x = (b.kind == 0) := ⟨_, rfl⟩
  obtain ⟨a6, ha6⟩ : ∃ x, x = (a.kind == 6) := ⟨_, rfl⟩
  obtain ⟨b6, hb6⟩ : ∃ x, x = (b.kind == 6) := ⟨_, rfl⟩
  obtain ⟨cc, hcc⟩ : ∃ x, x = (a.client == b.client) := ⟨_, rfl⟩
  obtain ⟨u, hu⟩ : ∃ x, writes a = x := ⟨_, rfl⟩
  obtain ⟨t, ht⟩ : ∃ x, writes b = x := ⟨_, rfl⟩
  obtain ⟨k, hk⟩ : ∃ x, keysMeet a b = x := ⟨_, rfl⟩
  rw [← ha0, ← hb0, ← ha6, ← hb6, ← hcc, hu, ht, hk] at hw
  have HV := Lib.hid hw
  have HU := Lib.hid (fun W => writes_any a W u hu)
  have HT := Lib.hid (fun W => writes_any b W t ht)
  have HK := Lib.hid (fun W => keys_meet a b W k hk)
  have e1 := ha0.symm
  have e2 := hb0.symm
  have e3 := ha6.symm
  have e4 := hb6.symm
  have e5 := hcc.symm
  clear ha0 hb0 ha6 hb6 hcc hu ht hk hw
  go_enter Tryz.func99, Tryz.ntmps99
  go_upto_region 1 with fail
  obtain ⟨W, hW⟩ : ∃ W, W = (w.alloc (.cells (cmdA a) 24)).alloc (.cells (cmdA b) 24) := ⟨_, rfl⟩
  rw [← hW]
  have HP : Hid (PairAt a b w W) := Lib.hid (by rw [hW]; exact pair_start a b w)
  clear hW
  obtain ⟨⟨c0, c1, c2, c3, c4, c5⟩, _⟩ := box6 HP.out.ba
  obtain ⟨⟨d0, d1, d2, d3, d4, d5⟩, _⟩ := box6 HP.out.bb
  have key : (a0 = true) ∨ (a0 = false ∧ b0 = true) ∨ (a0 = false ∧ b0 = false ∧ a6 = true) ∨ (a0 = false ∧ b0 = false ∧ a6 = false ∧ b6 = true) ∨ (a0 = false ∧ b0 = false ∧ a6 = false ∧ b6 = false ∧ cc = true) ∨ (a0 = false ∧ b0 = false ∧ a6 = false ∧ b6 = false ∧ cc = false) := by
    cases a0 <;> cases b0 <;> cases a6 <;> cases b6 <;> cases cc <;> simp
  rcases key with rfl | ⟨rfl, rfl⟩ | ⟨rfl, rfl, rfl⟩ | ⟨rfl, rfl, rfl, rfl⟩ | ⟨rfl, rfl, rfl, rfl, rfl⟩ | ⟨rfl, rfl, rfl, rfl, rfl⟩
  case inr.inr.inr.inr.inr =>
    go_wp2_with fail
    refine (HU.out _).mono ?_
    rintro e w1 ⟨rfl, hb1⟩
    have HP1 := Lib.hid (HP.out.next hb1)
    clear c0 c1 c2 c3 c4 c5 d0 d1 d2 d3 d4 d5 hb1
    obtain ⟨⟨c0, c1, c2, c3, c4, c5⟩, _⟩ := box6 HP1.out.ba
    obtain ⟨⟨d0, d1, d2, d3, d4, d5⟩, _⟩ := box6 HP1.out.bb
    cases u with
    | true =>
      go_wp2_with fail
      refine (HK.out _).mono ?_
      rintro e w2 ⟨rfl, hb2⟩
      have HP2 := Lib.hid (HP1.out.next hb2)
      go_wp2_with fail
      go_ret
      exact ⟨by rw [HV.out]; rfl, HP2.out.bel⟩
    | false =>
      go_wp2_with fail
      refine (HT.out _).mono ?_
      rintro e w2 ⟨rfl, hb2⟩
      have HP2 := Lib.hid (HP1.out.next hb2)
      clear c0 c1 c2 c3 c4 c5 d0 d1 d2 d3 d4 d5 hb2
      obtain ⟨⟨c0, c1, c2, c3, c4, c5⟩, _⟩ := box6 HP2.out.ba
      obtain ⟨⟨d0, d1, d2, d3, d4, d5⟩, _⟩ := box6 HP2.out.bb
      cases t with
      | true =>
        go_wp2_with fail
        refine (HK.out _).mono ?_
        rintro e w3 ⟨rfl, hb3⟩
        have HP3 := Lib.hid (HP2.out.next hb3)
        go_wp2_with fail
        go_ret
        exact ⟨by rw [HV.out]; rfl, HP3.out.bel⟩
      | false =>
        go_wp2_with fail
        go_ret
        exact ⟨by rw [HV.out]; rfl, HP2.out.bel⟩
  all_goals
    go_wp2_with fail
    go_ret
    exact ⟨by rw [HV.out]; rfl, HP.out.bel⟩
end Go.Proofs.YtlbkbjeajcadiaaGreatDoor.P
