/- Several texts in one. -/
import Derived.Test.YtkgjfagejnppbaaGreatDoorMrg33
import Derived.Test.YtkgjfagejnppbaaGreatDoorMrg30
import Derived.Deep.DeepCutAuto
import Derived.Test.YtkgjfagejnppbaaGreatDoorMrg3

/- The laws of check: the document's example. -/
namespace Go.Proofs.YtkgjfagejnppbaaGreatDoor.X
open Go.RowKit Go.Proofs.YtkgjfagejnppbaaGreatDoor.M Go.BigFrame Go.Proofs.YtkgjfagejnppbaaGreatDoor.O Go.Proofs.YtkgjfagejnppbaaGreatDoor.P Go.Proofs.YtkgjfagejnppbaaGreatDoor.Mp Go.Proofs.YtkgjfagejnppbaaGreatDoor.Rw
set_option linter.unusedVariables false
set_option linter.unusedSimpArgs false

/-- a row that was laid in a block of its own -/
theorem own_lit {α : Type} {S : RowS α} (hS : S.Law) {w : World} {B g : Nat} {cs : Array Value} {X : List α} (hg : w.heap[g]? = some (.cells cs S.e (0, 0))) (hc : cs.toList = X.flatMap S.enc) (hB : B ≤ g) (hn : X.length ≤ 1000000) : OwnG S w B (some ⟨g, 0, none⟩) X.length X := by
  have hl : cs.toList.length = X.length * S.k := by rw [hc]; exact Rw.flat_len S.enc S.k hS.len X
  refine ⟨?_, .inr ⟨g, X.length, cs, rfl, hB, hg, Nat.le_refl _, by unfold maxLen; omega, by simpa using hl, by rw [← hl, List.take_length, hc]⟩⟩
  exact Rw.flat_len S.enc S.k hS.len X
def xOne : Rv := mkR ⟨0, 1⟩ ex1 [] none 0
theorem idok_of {i : O.Id} (h1 : 0 ≤ i.r) (h2 : i.r ≤ 6) (h3 : 0 ≤ i.n) (h4 : i.n ≤ 1099511627776) : idOk i = true := idOk_iff.2 (by omega)
theorem fresh_one : FreshAll [ex1] [⟨0, nul, 1⟩] := by
  have h := FreshAll.snoc FreshAll.nil (c := ex1) (r := ⟨0, nul, 1⟩) (by
    show (sesDo ⟨[], []⟩ ex1).2 = _
    rw [sex_one])
  exact h
theorem one_ok : RecsOk [xOne] [⟨0, nul, 1⟩] := by
  have hg : goodR xOne = true := mkR_good (idok_of (by decide) (by decide) (by decide) (by decide)) chk_ex1 (by decide) (by simp)
  refine ⟨Chain.snoc Chain.nil hg rfl (by simp), fresh_one, by decide, fun x hx => ?_, fun x hx => ?_⟩
  · rw [List.mem_singleton.1 hx]; decide
  · rw [List.mem_singleton.1 hx]; decide
theorem nil_ok : RecsOk [] [] := ⟨Chain.nil, FreshAll.nil, by decide, fun x h => (by cases h), fun x h => (by cases h)⟩
theorem ex1_ok : CmdOk ex1 := by
  refine ⟨?_, ?_, ?_, ?_, ?_, ?_⟩ <;> first | (unfold InI ex1; decide) | (unfold ex1 maxLen; decide)
theorem xOne_ok (w : World) : RvOk w xOne := ⟨ex1_ok, ⟨⟨Nat.le_refl _, Nat.zero_le _⟩, fun _ => rfl, fun i x h => by simp [xOne, mkR] at h, fun d hd => by cases hd⟩, ⟨by unfold P.InI xOne mkR; decide, by unfold P.InI xOne mkR; decide⟩⟩
def hOne (rev : Int) : List Ev := [callE ex1, ansE 1 1 ⟨0, nul, rev⟩]
set_option maxRecDepth 100000 in
set_option maxHeartbeats 4000000 in
theorem one_any (rev : Int) (w : World) :
    Calls Tryz.prog 11 #[.int .i64 rev] w fun e w' => ∃ lo ho, e = .returned (.tuple #[.slice lo 1 1, .slice ho 2 2]) ∧ (RecsV w' lo 1 [xOne] ∧ RowV sRE w' ho 2 (hOne rev) ∧ Below w.heap.size w w') := by
  go_enter Tryz.func11, Tryz.ntmps11
  go_upto_region 3 with fail
  obtain ⟨W, hW⟩ : ∃ W, W = (w.alloc (.cells #[.int .i64 2, .int .i64 1, .int .i64 1, .string ⟨#[97]⟩, .string ⟨#[118]⟩, .int .i64 0] 30)).alloc (.cells #[.int .i64 0, .int .i64 1, .int .i64 3, .int .i64 0, .int .i64 0, .int .i64 0, .int .i64 0, .int .i64 2, .int .i64 1, .int .i64 1, .string ⟨#[97]⟩, .string ⟨#[118]⟩, .int .i64 0, .slice none 0 0, .int .i64 0, .int .i64 2] 43) := ⟨_, rfl⟩
  rw [← hW]
  have HB : Hid (Below w.heap.size w W) := Lib.hid (by rw [hW]; exact ((Below.refl _ _).alloc (Nat.le_refl _) _).alloc (by simp) _)
  have hc : W.heap[w.heap.size]? = some (.cells #[.int .i64 2, .int .i64 1, .int .i64 1, .string ⟨#[97]⟩, .string ⟨#[118]⟩, .int .i64 0] 30 (0, 0)) := by rw [hW, heap_al, if_neg (by simp)]; exact heap_alloc_new w _
  have HR : Hid (W.heap[w.heap.size + 1]? = some (.cells (recA xOne) 43 (0, 0))) := Lib.hid (by rw [hW, heap_al, if_pos (by simp)]; rfl)
  clear hW
  obtain ⟨⟨c0, c1, c2, c3, c4, c5⟩, _⟩ := box6 hc
  clear hc
  go_region
  all_goals
    go_wp2_with fail
    (try simp only [Exit.inBlock, Exit.then])
    refine bodyPost_ret (results_tmp2 rfl _ _ _) rfl ?_
    have HW2 := Lib.hid ((Below.refl W.heap.size W).alloc (Nat.le_refl _) (.cells ((hOne rev).flatMap evC).toArray 45))
    refine ⟨_, _, rfl, ?_, ?_, ?_⟩
    · refine recs_of (B := 0) (own_lit lRR (cs := recA xOne) (g := w.heap.size + 1) (X := [xOne]) ?_ rfl (Nat.zero_le _) (by decide)) (fun x hx => ?_)
      · exact (HW2.out.block _ (M.heap_lt HR.out)).trans HR.out
      · rw [List.mem_singleton.1 hx]; exact xOne_ok _
    · exact (own_lit (B := 0) lRE (cs := ((hOne rev).flatMap evC).toArray) (X := hOne rev) (heap_alloc_new W _) rfl (Nat.zero_le _) (by simp [hOne])).view lRE
    · first | exact HB.out.trans (HW2.out.mono HB.out.size) | exact HB.out.trans ((HW2.out.mono HB.out.size).drew)
theorem lin_nil : LinV [] [] [] 0 := .round (b := false) rfl rfl (round_no (fun i k h => by cases h))
theorem who_one : ([ex1].map whoC).Nodup := by simp
theorem code_one : ∀ rev : Int, (⟨0, nul, rev⟩ : Rep).code ≠ 14 := fun rev => by show (0 : Int) ≠ 14; decide
theorem lin_one : LinV [ex1] [⟨0, nul, 1⟩] (hOne 1) 0 := linR_ok fresh_one who_one
theorem lin_two : LinV [ex1] [⟨0, nul, 1⟩] (hOne 2) 10 := by
  refine .ans (called_of fun c hc => ⟨callE ex1, List.mem_cons_self, rfl, (List.mem_singleton.1 hc).symm⟩) ?_ (by decide)
  have hf := at_hit who_one (show [ex1][0]? = some ex1 from rfl) (show 0 < 1 by decide)
  have hl : lookD (atL [ex1] 1) (whoC ex1) 0 = 0 := by unfold lookD; rw [hf]; rfl
  have h := ansF_app who_one (RP := [⟨0, nul, 1⟩]) (H := [callE ex1]) (H2 := [ansE 1 1 ⟨0, nul, 2⟩]) (wr := 0) (fun e he => by rw [List.mem_singleton.1 he]; exact .inl (callE_kind _))
  refine h.trans ?_
  have hw : (ansE 1 1 ⟨0, nul, 2⟩).who = whoC ex1 := rfl
  unfold ansF
  rw [hw, if_neg (by decide), if_neg (fun h => code_one 2 h.1)]
  rw [if_neg (by
    rintro (h | h)
    · exact code_one 2 h
    · rw [findD_has, show [ex1].length = 1 from rfl, hf] at h; cases h)]
  rw [show [ex1].length = 1 from rfl, hl, if_pos (by
    intro h
    have h1 := congrArg Rep.rev (Option.some.inj h)
    exact absurd (show (1 : Int) = 2 from h1) (by decide))]
  rfl
theorem lin_non : LinV [] [] (hOne 1) 8 :=
  lin_none (H := [callE ex1]) (e := ansE 1 1 ⟨0, nul, 1⟩) .nil (fun c h => by cases h) (fun e he => by rw [List.mem_singleton.1 he]; exact .inl (callE_kind _)) rfl (code_one 1) (fun c h => by cases h)
theorem hOne_ok (rev : Int) (h : InI rev) : ∀ e ∈ hOne rev, EvOkM e := by
  intro e he
  have h0 : CmdOk cmd0 := by
    refine ⟨?_, ?_, ?_, ?_, ?_, ?_⟩ <;> first | (unfold InI cmd0; decide) | (unfold cmd0 maxLen; decide)
  rcases List.mem_cons.1 he with rfl | he
  · exact ⟨by unfold InI callE; decide, ex1_ok, by unfold InI callE; decide, by unfold InI callE; decide⟩
  · rw [List.mem_singleton.1 he]
    exact ⟨by show InI 2; unfold InI; decide, h0, by show InI 1; unfold InI; decide, by show InI 1; unfold InI; decide⟩
theorem recs_nil (w : World) : RecsV w none 0 [] := ⟨⟨Nat.le_refl _, Nat.zero_le _⟩, fun _ => rfl, fun i x h => by simp at h, fun x h => by cases h⟩
set_option maxRecDepth 100000 in
set_option maxHeartbeats 4000000 in
theorem cawake_any (w : World) (hT : TabsI w) :
    Calls Tryz.prog 6 #[] w fun e w' => e = .returned (.bool true) ∧ Below w.heap.size w w' := by
  have HT := Lib.hid hT
  clear hT
  go_enter Tryz.func6, Tryz.ntmps6
  go_wp2_with fail
  refine (one_any 1 w).mono ?_
  rintro e w1 ⟨lo, ho, rfl, hl1, hh1, hb1⟩
  have HL1 := Lib.hid hl1
  have HH1 := Lib.hid hh1
  have HB1 := Lib.hid hb1
  clear hl1 hh1 hb1
  go_wp2_with fail
  refine (one_any 2 w1).mono ?_
  rintro e w2 ⟨lo2, ho2, rfl, hl2, hh2, hb2⟩
  have HB2 := Lib.hid (HB1.out.trans (hb2.mono HB1.out.size))
  have HL2 := Lib.hid (HL1.out.below hb2)
  have HH2 := Lib.hid (HH1.out.below hb2)
  have HG2 := Lib.hid hh2
  clear hl2 hh2 hb2 HL1 HH1
  have HN := Lib.hid (show Calls Tryz.prog 9 #[.slice none 0 0, .slice none 0 0] w2 fun e w' => e = .returned (.int .i64 0) ∧ Below w2.heap.size w2 w' from
    linear_any [] [] [] none none 0 0 w2 (recs_nil w2) (HT.out.next HB2.out) nil_ok (RowV.nil _ _) (fun e h => by cases h) (by decide) 0 lin_nil)
  go_wp2_with fail
  refine HN.out.mono ?_
  rintro e w3 ⟨rfl, hb3⟩
  have HB3 := Lib.hid (HB2.out.trans (hb3.mono HB2.out.size))
  have HL3 := Lib.hid (HL2.out.below hb3)
  have HH3 := Lib.hid (HH2.out.below hb3)
  have HG3 := Lib.hid (HG2.out.below hb3)
  clear hb3 HL2 HH2 HG2 HN
  have HN := Lib.hid (show Calls Tryz.prog 9 #[.slice lo 1 1, .slice ho 2 2] w3 fun e w' => e = .returned (.int .i64 0) ∧ Below w3.heap.size w3 w' from
    linear_any [xOne] [⟨0, nul, 1⟩] (hOne 1) lo ho 1 2 w3 HL3.out (HT.out.next HB3.out) one_ok HH3.out (hOne_ok 1 (by unfold InI; decide)) (by decide) 0 lin_one)
  go_wp2_with fail
  refine HN.out.mono ?_
  rintro e w4 ⟨rfl, hb4⟩
  have HB4 := Lib.hid (HB3.out.trans (hb4.mono HB3.out.size))
  have HL4 := Lib.hid (HL3.out.below hb4)
  have HH4 := Lib.hid (HH3.out.below hb4)
  have HG4 := Lib.hid (HG3.out.below hb4)
  clear hb4 HL3 HH3 HG3 HN
  have HN := Lib.hid (show Calls Tryz.prog 9 #[.slice lo 1 1, .slice ho2 2 2] w4 fun e w' => e = .returned (.int .i64 10) ∧ Below w4.heap.size w4 w' from
    linear_any [xOne] [⟨0, nul, 1⟩] (hOne 2) lo ho2 1 2 w4 HL4.out (HT.out.next HB4.out) one_ok HG4.out (hOne_ok 2 (by unfold InI; decide)) (by decide) 10 lin_two)
  go_wp2_with fail
  refine HN.out.mono ?_
  rintro e w5 ⟨rfl, hb5⟩
  have HB5 := Lib.hid (HB4.out.trans (hb5.mono HB4.out.size))
  have HL5 := Lib.hid (HL4.out.below hb5)
  have HH5 := Lib.hid (HH4.out.below hb5)
  clear hb5 HL4 HH4 HG4 HN
  have HN := Lib.hid (show Calls Tryz.prog 9 #[.slice none 0 0, .slice ho 2 2] w5 fun e w' => e = .returned (.int .i64 8) ∧ Below w5.heap.size w5 w' from
    linear_any [] [] (hOne 1) none ho 0 2 w5 (recs_nil w5) (HT.out.next HB5.out) nil_ok HH5.out (hOne_ok 1 (by unfold InI; decide)) (by decide) 8 lin_non)
  go_wp2_with fail
  refine HN.out.mono ?_
  rintro e w6 ⟨rfl, hb6⟩
  have HB6 := Lib.hid (HB5.out.trans (hb6.mono HB5.out.size))
  have HL6 := Lib.hid (HL5.out.below hb6)
  clear hb6 HL5 HH5 HN
  have HN := Lib.hid (show Calls Tryz.prog 10 #[.slice lo 1 1] w6 fun e w' => ∃ ro rc, e = .returned (.slice ro 1 rc) ∧ Below w6.heap.size w6 w' from
    row_any [xOne] [⟨0, nul, 1⟩] lo 1 w6 HL6.out (HT.out.next HB6.out) one_ok)
  go_wp2_with fail
  refine HN.out.mono ?_
  rintro e w7 ⟨ro, rc, rfl, hb7⟩
  have HB7 := Lib.hid (HB6.out.trans (hb7.mono HB6.out.size))
  clear hb7 HN
  go_wp2_with fail
  go_ret
  exact ⟨rfl, HB7.out⟩
end Go.Proofs.YtkgjfagejnppbaaGreatDoor.X

/- CheckTime: plain, and the walk. -/
namespace Go.Proofs.YtkgjfagejnppbaaGreatDoor.X
open Go.RowKit Go.Proofs.YtkgjfagejnppbaaGreatDoor.M Go.BigFrame Go.Proofs.YtkgjfagejnppbaaGreatDoor.O Go.Proofs.YtkgjfagejnppbaaGreatDoor.P Go.Proofs.YtkgjfagejnppbaaGreatDoor.Mp Go.Proofs.YtkgjfagejnppbaaGreatDoor.Rw
set_option linter.unusedVariables false
set_option linter.unusedSimpArgs false

def tc : Cmd := ⟨2, 1, 1, ⟨#[107]⟩, ⟨#[120]⟩, 0⟩
def td : Cmd := ⟨2, 2, 1, ⟨#[107]⟩, ⟨#[121]⟩, 0⟩
def cC (a : Int) : Ev := ⟨1, a, tc, 0, 0, ⟨0, nul, 0⟩⟩
def cD (a : Int) : Ev := ⟨1, a, td, 0, 0, ⟨0, nul, 0⟩⟩
def aC (a : Int) : Ev := ⟨2, a, cmd0, 1, 1, ⟨0, nul, 1⟩⟩
def aD (a : Int) : Ev := ⟨2, a, cmd0, 2, 1, ⟨0, nul, 2⟩⟩
def RP2 : List Rep := [⟨0, nul, 1⟩, ⟨0, nul, 2⟩]
def tA : Rv := mkR ⟨0, 1⟩ tc [] none 0
def tB (g : Nat) : Rv := mkR ⟨1, 1⟩ td [⟨0, 1⟩] (some ⟨g, 0, none⟩) 1
end Go.Proofs.YtkgjfagejnppbaaGreatDoor.X

/- CheckTime: the walk. -/
namespace Go.Proofs.YtkgjfagejnppbaaGreatDoor.X
open Go.RowKit Go.Proofs.YtkgjfagejnppbaaGreatDoor.M Go.BigFrame Go.Proofs.YtkgjfagejnppbaaGreatDoor.O Go.Proofs.YtkgjfagejnppbaaGreatDoor.P Go.Proofs.YtkgjfagejnppbaaGreatDoor.Mp Go.Proofs.YtkgjfagejnppbaaGreatDoor.Rw
set_option linter.unusedVariables false
set_option linter.unusedSimpArgs false

theorem EvAt.below {w w1 : World} {b o : Nat} {e : Ev} (h : EvAt w b o e) (hl : b < w.heap.size) (hb : Below w.heap.size w w1) : EvAt w1 b o e := by
  have hc : ∀ j v, w.cell? ⟨b, j, none⟩ = some v → w1.cell? ⟨b, j, none⟩ = some v := fun j v h => (hb.cell (p := ⟨b, j, none⟩) hl).trans h
  exact ⟨hc _ _ h.c0, hc _ _ h.c1, hc _ _ h.c2, hc _ _ h.c3, hc _ _ h.c4, hc _ _ h.c5, hc _ _ h.c6, hc _ _ h.c7, hc _ _ h.c8, hc _ _ h.c9, hc _ _ h.c10, hc _ _ h.c11, hc _ _ h.c12⟩
end Go.Proofs.YtkgjfagejnppbaaGreatDoor.X

/- The laws of check: the loop that builds records and a history: what it holds. -/
namespace Go.Proofs.YtkgjfagejnppbaaGreatDoor.X
open Go.RowKit Go.Proofs.YtkgjfagejnppbaaGreatDoor.M Go.BigFrame Go.Proofs.YtkgjfagejnppbaaGreatDoor.O Go.Proofs.YtkgjfagejnppbaaGreatDoor.P Go.Proofs.YtkgjfagejnppbaaGreatDoor.Mp Go.Proofs.YtkgjfagejnppbaaGreatDoor.Rw
set_option linter.unusedVariables false
set_option linter.unusedSimpArgs false

/-- a box of another kind stays where a row grows -/
theorem _root_.Go.Proofs.YtkgjfagejnppbaaGreatDoor.Rw.OwnG.box {α : Type} {S : RowS α} {w w1 : World} {B oc g : Nat} {oo : Option Addr} {X : List α} {cs : Array Value} {e2 : TypeId} {z : Nat × Nat} (h : OwnG S w B oo oc X) (hg : w.heap[g]? = some (.cells cs e2 z)) (he : S.e ≠ e2) (hm : Mods (fun j => ∃ a, oo = some a ∧ j = a.block) w w1) : w1.heap[g]? = some (.cells cs e2 z) :=
  hm.heap hg fun ⟨a, e, eg⟩ => by
    obtain ⟨c1, h1, _⟩ := h.cells a e
    rw [← eg, hg] at h1
    simp only [Option.some.injEq, Obj.cells.injEq] at h1
    exact he h1.2.1.symm
theorem _root_.Go.Proofs.YtkgjfagejnppbaaGreatDoor.Rw.OwnG.notbox {α : Type} {S : RowS α} {w : World} {B oc g : Nat} {oo : Option Addr} {X : List α} {cs : Array Value} {e2 : TypeId} {z : Nat × Nat} (h : OwnG S w B oo oc X) (hg : w.heap[g]? = some (.cells cs e2 z)) (he : S.e ≠ e2) : ∀ a, oo = some a → ¬ a.block = g := fun a e eg => by
  obtain ⟨c1, h1, _⟩ := h.cells a e
  rw [eg, hg] at h1
  simp only [Option.some.injEq, Obj.cells.injEq] at h1
  exact he h1.2.1.symm
/-- what the building loops hold: sessions, records, ids under way, two histories -/
structure BSt (w w3 wr : World) (s p b q n : Nat) (C : List Cmd) (X : List Rv) (D : List O.Id) (H T : List Ev) (ro di ho tw : Option Addr) (rc dc hc tc : Nat) : Prop where
  ses : SRun w wr s p b q n (sesRun ⟨[], []⟩ C)
  recs : OwnG sRR wr w3.heap.size ro rc X
  own : ∀ x ∈ X, OwnG sRI wr w3.heap.size x.ao x.cap x.deps
  ne : ∀ x ∈ X, ∀ a, x.ao = some a → ∀ d, di = some d → a.block ≠ d.block
  ids : OwnG sRI wr w3.heap.size di dc D
  evs : OwnG sRE wr w3.heap.size ho hc H
  evt : OwnG sRE wr w3.heap.size tw tc T
  ape : ∀ a, ho = some a → ∀ d, tw = some d → a.block ≠ d.block
  lt : s < w3.heap.size ∧ p < w3.heap.size ∧ b < w3.heap.size ∧ q < w3.heap.size
  le3 : w3.heap.size ≤ wr.heap.size
  w03 : w.heap.size ≤ w3.heap.size
section
variable {w w3 wr wn : World} {s p b q n rc dc hc tc : Nat} {C : List Cmd} {X : List Rv} {D : List O.Id} {H T : List Ev} {ro di ho tw : Option Addr}
/-- any change that leaves all of it -/
theorem BSt.keep {F : Nat → Prop} (h : BSt w w3 wr s p b q n C X D H T ro di ho tw rc dc hc tc) (hm : Mods F wr wn) (hF : ∀ k, F k → w3.heap.size ≤ k) (h1 : ∀ a, ro = some a → ¬ F a.block) (h2 : ∀ a, di = some a → ¬ F a.block) (h3 : ∀ a, ho = some a → ¬ F a.block) (h4 : ∀ a, tw = some a → ¬ F a.block) (h5 : ∀ x ∈ X, ∀ a, x.ao = some a → ¬ F a.block) : BSt w w3 wn s p b q n C X D H T ro di ho tw rc dc hc tc := by
  obtain ⟨l1, l2, l3, l4⟩ := h.lt
  have l6 := h.w03
  exact ⟨⟨h.ses.bel.trans (hm.below (B := w.heap.size) (fun k e => by have := hF k e; omega) h.ses.bel.size), h.ses.ses.keep hm (fun e => by have := hF _ e; omega) (fun e => by have := hF _ e; omega) (fun e => by have := hF _ e; omega) (fun e => by have := hF _ e; omega), h.ses.sge, h.ses.pge, h.ses.bge, h.ses.qge⟩,
    h.recs.keep hm h1, fun x hx => (h.own x hx).keep hm (h5 x hx), h.ne, h.ids.keep hm h2, h.evs.keep hm h3, h.evt.keep hm h4, h.ape, h.lt, Nat.le_trans h.le3 hm.size, h.w03⟩
theorem BSt.below (h : BSt w w3 wr s p b q n C X D H T ro di ho tw rc dc hc tc) (hb : Below wr.heap.size wr wn) : BSt w w3 wn s p b q n C X D H T ro di ho tw rc dc hc tc :=
  ⟨h.ses.next hb, h.recs.below hb, fun x hx => (h.own x hx).below hb, h.ne, h.ids.below hb, h.evs.below hb, h.evt.below hb, h.ape, h.lt, Nat.le_trans h.le3 hb.size, h.w03⟩
/-- a box of another kind is turned -/
theorem BSt.box {g : Nat} {cs : Array Value} {e2 : TypeId} {z : Nat × Nat} (h : BSt w w3 wr s p b q n C X D H T ro di ho tw rc dc hc tc) (hg : wr.heap[g]? = some (.cells cs e2 z)) (hge : w3.heap.size ≤ g) (hm : Mods (fun j => j = g) wr wn) (h1 : ∀ a, ro = some a → ¬ a.block = g) (h2 : sRI.e ≠ e2) (h3 : sRE.e ≠ e2) : BSt w w3 wn s p b q n C X D H T ro di ho tw rc dc hc tc :=
  h.keep hm (fun k e => e ▸ hge) h1 (h.ids.notbox hg h2) (h.evs.notbox hg h3) (h.evt.notbox hg h3) (fun x hx => (h.own x hx).notbox hg h2)
theorem BSt.do_ {C2 : List Cmd} {n2 : Nat} (h : BSt w w3 wr s p b q n C X D H T ro di ho tw rc dc hc tc) {S2 : Ses} (hs : SRun w wn s p b q n2 S2) (he : S2 = sesRun ⟨[], []⟩ C2) (hm : Mods (fun k => k = b ∨ k = q) wr wn) : BSt w w3 wn s p b q n2 C2 X D H T ro di ho tw rc dc hc tc := by
  obtain ⟨l1, l2, l3, l4⟩ := h.lt
  refine ⟨he ▸ hs, h.recs.keep hm (fun a e => ?_), fun x hx => (h.own x hx).keep hm (fun a e => ?_), h.ne, h.ids.keep hm (fun a e => ?_), h.evs.keep hm (fun a e => ?_), h.evt.keep hm (fun a e => ?_), h.ape, h.lt, Nat.le_trans h.le3 hm.size, h.w03⟩
  · obtain ⟨_, _, h5, _⟩ := h.recs.cells a e
    omega
  · obtain ⟨_, _, h5, _⟩ := (h.own x hx).cells a e
    omega
  · obtain ⟨_, _, h5, _⟩ := h.ids.cells a e
    omega
  · obtain ⟨_, _, h5, _⟩ := h.evs.cells a e
    omega
  · obtain ⟨_, _, h5, _⟩ := h.evt.cells a e
    omega
/-- the sessions through a row's growth -/
theorem BSt.sess {F : Nat → Prop} (h : BSt w w3 wr s p b q n C X D H T ro di ho tw rc dc hc tc) (hF : ∀ k, F k → w3.heap.size ≤ k) (hm : Mods F wr wn) : SRun w wn s p b q n (sesRun ⟨[], []⟩ C) := by
  obtain ⟨l1, l2, l3, l4⟩ := h.lt
  have l6 := h.w03
  exact ⟨h.ses.bel.trans (hm.below (B := w.heap.size) (fun k e => by have := hF k e; omega) h.ses.bel.size), h.ses.ses.keep hm (fun e => by have := hF _ e; omega) (fun e => by have := hF _ e; omega) (fun e => by have := hF _ e; omega) (fun e => by have := hF _ e; omega), h.ses.sge, h.ses.pge, h.ses.bge, h.ses.qge⟩
theorem BSt.ids_ {di' : Option Addr} {dc' : Nat} {D' : List O.Id} (h : BSt w w3 wr s p b q n C X D H T ro di ho tw rc dc hc tc) (ho2 : OwnG sRI wn w3.heap.size di' dc' D') (hm : Mods (fun j => ∃ a, di = some a ∧ j = a.block) wr wn) (hf : ∀ a, di' = some a → (∃ a0, di = some a0 ∧ a.block = a0.block) ∨ wr.heap.size ≤ a.block) : BSt w w3 wn s p b q n C X D' H T ro di' ho tw rc dc' hc tc := by
  refine ⟨h.sess (fun k ⟨a, e, ek⟩ => by obtain ⟨_, _, h5, _⟩ := h.ids.cells a e; omega) hm, h.recs.beside h.ids (by decide) hm, fun y hy => (h.own y hy).keep hm (fun a e ⟨d, ed, eb⟩ => h.ne y hy a e d ed eb), fun y hy a e d ed => ?_, ho2, h.evs.beside h.ids (by decide) hm, h.evt.beside h.ids (by decide) hm, h.ape, h.lt, Nat.le_trans h.le3 hm.size, h.w03⟩
  rcases hf d ed with ⟨d0, e0, eb⟩ | hl
  · rw [eb]; exact h.ne y hy a e d0 e0
  · obtain ⟨_, _, _, h6⟩ := (h.own y hy).cells a e
    omega
/-- the ids' row is handed over to a record -/
theorem BSt.drop (h : BSt w w3 wr s p b q n C X D H T ro di ho tw rc dc hc tc) : BSt w w3 wr s p b q n C X [] H T ro none ho tw rc 0 hc tc :=
  ⟨h.ses, h.recs, h.own, fun y hy a e d ed => (by cases ed), OwnG.nil _ _ _, h.evs, h.evt, h.ape, h.lt, h.le3, h.w03⟩
theorem BSt.evs_ {ho' : Option Addr} {hc' : Nat} {H' : List Ev} (h : BSt w w3 wr s p b q n C X D H T ro di ho tw rc dc hc tc) (ho2 : OwnG sRE wn w3.heap.size ho' hc' H') (hm : Mods (fun j => ∃ a, ho = some a ∧ j = a.block) wr wn) (hf : ∀ a, ho' = some a → (∃ a0, ho = some a0 ∧ a.block = a0.block) ∨ wr.heap.size ≤ a.block) : BSt w w3 wn s p b q n C X D H' T ro di ho' tw rc dc hc' tc := by
  refine ⟨h.sess (fun k ⟨a, e, ek⟩ => by obtain ⟨_, _, h5, _⟩ := h.evs.cells a e; omega) hm, h.recs.beside h.evs (by decide) hm, fun y hy => (h.own y hy).beside h.evs (by decide) hm, h.ne, h.ids.beside h.evs (by decide) hm, ho2, h.evt.keep hm (fun a e ⟨d, ed, eb⟩ => h.ape d ed a e eb.symm), fun a e d ed => ?_, h.lt, Nat.le_trans h.le3 hm.size, h.w03⟩
  rcases hf a e with ⟨a0, e0, eb⟩ | hl
  · rw [eb]; exact h.ape a0 e0 d ed
  · obtain ⟨_, _, _, h6⟩ := h.evt.cells d ed
    omega
theorem BSt.start (hs : SRun w wr s p b q n ⟨[], []⟩) : BSt w wr wr s p b q n [] [] [] [] [] none none none none 0 0 0 0 := by
  have x1 := hs.ses.slt
  have x2 := M.heap_lt hs.ses.app.box
  have x3 := hs.ses.app.map.lt
  have x4 := hs.ses.qlt
  exact ⟨hs, OwnG.nil _ _ _, fun x hx => (by cases hx), fun x hx => (by cases hx), OwnG.nil _ _ _, OwnG.nil _ _ _, OwnG.nil _ _ _, fun a e => (by cases e), ⟨x1, x2, x3, x4⟩, Nat.le_refl _, hs.bel.size⟩
end
/-- what the building loops know of what they built; f = what sets the commands apart -/
structure BPl (f : Cmd → Int) (i : Nat) (X : List Rv) (C : List Cmd) (RP : List Rep) : Prop where
  ch : Chain X
  cm : X.map Rv.cmd = C
  fr : FreshAll C RP
  nd : (C.map whoC).Nodup
  cl : ∀ c ∈ C, f c ≤ i ∧ CmdOk c ∧ c.key.size ≤ 1000000
  id : ∀ x ∈ X, 0 ≤ x.id.r ∧ x.id.r ≤ 6 ∧ 0 ≤ x.id.n ∧ x.id.n ≤ i ∧ x.deps.length ≤ 100
  len : X.length ≤ i
  so : (idsX X).Pairwise (fun a b => ilt a b = true)
theorem BPl.nil (f : Cmd → Int) : BPl f 0 [] [] [] := ⟨Chain.nil, rfl, FreshAll.nil, .nil, fun c h => (by cases h), fun c h => (by cases h), Nat.le_refl _, .nil⟩
theorem BPl.skip {f : Cmd → Int} {i : Nat} {X : List Rv} {C : List Cmd} {RP : List Rep} (h : BPl f i X C RP) : BPl f (i + 1) X C RP :=
  ⟨h.ch, h.cm, h.fr, h.nd, fun c hc => ⟨by have := (h.cl c hc).1; omega, (h.cl c hc).2⟩, fun x hx => by
    obtain ⟨h1, h2, h3, h4, h5⟩ := h.id x hx
    exact ⟨h1, h2, h3, by omega, h5⟩, by have := h.len; omega, h.so⟩
theorem BPl.lenC {f : Cmd → Int} {i : Nat} {X : List Rv} {C : List Cmd} {RP : List Rep} (h : BPl f i X C RP) : C.length = X.length ∧ RP.length = X.length := by
  have h1 : C.length = X.length := by rw [← h.cm, List.length_map]
  exact ⟨h1, by rw [h.fr.len, h1]⟩
theorem BPl.more {f : Cmd → Int} {i : Nat} {X : List Rv} {C : List Cmd} {RP : List Rep} (h : BPl f i X C RP) (hf : ∀ c d, whoC c = whoC d → f c = f d) (hi : i ≤ 99) {c : Cmd} {r : Rep} {id : O.Id} {S2 : Ses} (hc : f c = i + 1) (hok : CmdOk c) (hk : c.key.size ≤ 1000000) (hd : sesDo (sesRun ⟨[], []⟩ C) c = (S2, r, true)) (h1 : 0 ≤ id.r) (h2 : id.r ≤ 6) (h3 : id.n = i + 1) (ao : Option Addr) (cap : Nat) : BPl f (i + 1) (X ++ [mkR id c (idsX X) ao cap]) (C ++ [c]) (RP ++ [r]) := by
  have hch : chk c = 0 := (ses_fresh (by rw [hd] : (sesDo (sesRun ⟨[], []⟩ C) c).2.2 = true)).2.1
  have hid : id ∉ idsX X := fun hm => by
    obtain ⟨x, hx, e⟩ := List.mem_map.1 hm
    have := (h.id x hx).2.2.2.1
    rw [e, h3] at this
    omega
  have hall : ∀ y ∈ idsX X, idOk y = true ∧ y.n < id.n := fun y hy => by
    obtain ⟨x, hx, rfl⟩ := List.mem_map.1 hy
    obtain ⟨g1, g2, g3, g4, _⟩ := h.id x hx
    exact ⟨idok_of g1 g2 g3 (by omega), by omega⟩
  have hset : setOk (idsX X) = true := setOk_iff.2 ⟨h.so, fun y hy => (hall y hy).1, by have := h.len; simp; omega⟩
  refine ⟨h.ch.snoc (mkR_good (idok_of h1 h2 (by omega) (by omega)) hch hset hid) rfl hid, ?_, h.fr.snoc (by rw [hd]), ?_, fun d hd2 => ?_, fun x hx => ?_, ?_, ?_⟩
  · rw [List.map_append, h.cm]; rfl
  · rw [List.map_append]
    refine List.nodup_append.2 ⟨h.nd, by simp, fun a ha b hb => ?_⟩
    obtain ⟨d, hd2, rfl⟩ := List.mem_map.1 ha
    simp at hb
    subst hb
    intro e
    have e1 := hf d c e
    have e2 := (h.cl d hd2).1
    rw [e1, hc] at e2
    omega
  · rcases List.mem_append.1 hd2 with hd2 | hd2
    · exact ⟨by have := (h.cl d hd2).1; omega, (h.cl d hd2).2⟩
    · rw [List.mem_singleton.1 hd2]
      exact ⟨by omega, hok, hk⟩
  · rcases List.mem_append.1 hx with hx | hx
    · obtain ⟨h1, h2, h3, h4, h5⟩ := h.id x hx
      exact ⟨h1, h2, h3, by omega, h5⟩
    · rw [List.mem_singleton.1 hx]
      refine ⟨h1, h2, ?_, ?_, ?_⟩
      · show 0 ≤ id.n; omega
      · show id.n ≤ _; omega
      · show (idsX X).length ≤ 100
        have := h.len
        simp
        omega
  · have := h.len
    rw [List.length_append, List.length_singleton]
    omega
  · rw [show idsX (X ++ [mkR id c (idsX X) ao cap]) = idsX X ++ [id] from List.map_append]
    refine List.pairwise_append.2 ⟨h.so, List.pairwise_singleton _ _, fun a ha b hb => ?_⟩
    rw [List.mem_singleton.1 hb]
    exact ilt_iff.2 (.inl (hall a ha).2)
theorem BPl.recs {f : Cmd → Int} {i : Nat} {X : List Rv} {C : List Cmd} {RP : List Rep} (h : BPl f i X C RP) (hi : i ≤ 20) : RecsOk X RP :=
  ⟨h.ch, by rw [h.cm]; exact h.fr, by have := h.len; omega, fun x hx => by have := (h.id x hx).2.2.2.2; omega, fun x hx => (h.cl x.cmd (by rw [← h.cm]; exact List.mem_map.2 ⟨x, hx, rfl⟩)).2.2⟩
end Go.Proofs.YtkgjfagejnppbaaGreatDoor.X

/- A region that draws its order, by an invariant over what is done: each operation shown once. -/
namespace Go.Proofs.YtkgjfagejnppbaaGreatDoor.M
open Go.RowKit
set_option linter.unusedVariables false
section
variable {P : Program} {ops : Array Oper} {Q : Exit → Act → World → Prop}
/-- each operation waits for earlier ones alone -/
def fwdB (ops : Array Oper) : Bool := (List.range ops.size).all fun i => ((ops[i]?).map fun o => o.after.all fun e => !Region.binds .any e || decide (e.on < i)).getD true
theorem fwd_of (h : fwdB ops = true) {i : Nat} {o : Oper} (hi : ops[i]? = some o) : ∀ e ∈ o.after, Region.binds .any e = true → e.on < i := by
  intro e he hb
  have hil : i < ops.size := (Array.getElem?_eq_some_iff.1 hi).1
  have h1 := List.all_eq_true.1 h i (List.mem_range.2 hil)
  rw [hi] at h1
  simp only [Option.map_some, Option.getD_some] at h1
  have h2 := Array.all_eq_true_iff_forall_mem.1 h1 e he
  rw [hb] at h2
  simpa using h2
theorem getD_true_false {l : Array Bool} {i : Nat} (hi : i < l.size) : l.getD i true = l.getD i false := by
  simp [Array.getD, hi]
theorem ready_some (hf : fwdB ops = true) {listed : Array Bool} (hs : listed.size = ops.size) : ∀ i, i < ops.size → listed.getD i true = false → Region.ready .any ops listed ≠ [] := by
  intro i
  induction i using Nat.strongRecOn with
  | _ i ih =>
    intro hi hn hr
    have ho : ops[i]? = some (ops[i]'hi) := Array.getElem?_eq_getElem hi
    by_cases hall : ∀ e ∈ (ops[i]'hi).after, Region.binds .any e = true → listed.getD e.on false = true
    · have : i ∈ Region.ready .any ops listed := mem_ready.2 ⟨hn, _, ho, hall⟩
      rw [hr] at this
      cases this
    · have : ∃ e, e ∈ (ops[i]'hi).after ∧ Region.binds .any e = true ∧ listed.getD e.on false = false := by
        refine Classical.byContradiction fun hc => hall fun e he hb => ?_
        cases hl : listed.getD e.on false with
        | true => rfl
        | false => exact absurd ⟨e, he, hb, hl⟩ hc
      obtain ⟨e, he, hb, hl⟩ := this
      have hlt := fwd_of hf ho e he hb
      exact ih e.on hlt (by omega) (by rw [getD_true_false (by omega)]; exact hl) hr
def openN (l : Array Bool) : Nat := l.toList.count false
theorem openN_set {l : Array Bool} {i : Nat} (hi : i < l.size) (hn : l.getD i true = false) : openN l = openN (l.setIfInBounds i true) + 1 := by
  unfold openN
  rw [Array.toList_setIfInBounds]
  have hil : i < l.toList.length := by simpa using hi
  have hg : l.toList[i]'hil = false := by
    have : l.getD i true = l[i] := by simp [Array.getD, hi]
    rw [this] at hn
    simpa using hn
  have hpos : 0 < l.toList.count false := List.count_pos_iff.2 (by rw [← hg]; exact List.getElem_mem hil)
  rw [List.count_set hil, hg]
  simp only [BEq.rfl, if_true, show (true == false) = false from rfl, Bool.false_eq_true, if_false]
  omega
theorem openN_zero {l : Array Bool} (h : openN l = 0) {i : Nat} (hi : i < l.size) : l.getD i true = true := by
  unfold openN at h
  have hg : l.getD i true = l[i] := by simp [Array.getD, hi]
  rw [hg]
  cases hl : l[i] with
  | true => rfl
  | false =>
    have := List.count_eq_zero.1 h
    exact absurd (by rw [← hl]; exact Array.mem_toList_iff.2 (Array.getElem_mem hi)) this
/-- A REGION that draws its order: what holds is kept by each operation that may come up. -/
theorem wp_region_inv {id : Nat} {arr : Array Value} {w : World} (I : Array Value → Array Bool → Act → World → Prop) (hm : P.follows .mixedOrders = true) (hf : fwdB ops = true)
    (h0 : I arr (Array.replicate ops.size false) ⟨arr, []⟩ { w with drawn := w.drawn + 1 })
    (hstep : ∀ (listed : Array Bool) (a : Act) (w : World) (i : Nat) (o : Oper), I arr listed a w → i < ops.size → ops[i]? = some o → listed.getD i true = false → (∀ e ∈ o.after, Region.binds .any e = true → listed.getD e.on false = true) →
      wpOp P ops Q i (I arr (listed.setIfInBounds i true)) a w)
    (hdone : ∀ (listed : Array Bool) (a : Act) (w : World), I arr listed a w → (∀ i, i < ops.size → listed.getD i true = true) → Q .normal a w) : (Code.region id ops true).wp P Q ⟨arr, []⟩ w := by
  refine wp_region_any hm ?_
  have key : ∀ (f : Nat) (listed : Array Bool) (a : Act) (w : World), listed.size = ops.size → openN listed = f → I arr listed a w → wpAny P .any ops Q f listed a w := by
    intro f
    induction f with
    | zero =>
      intro listed a w hs hc hI
      have hall : ∀ i, i < ops.size → listed.getD i true = true := fun i hi => openN_zero hc (by omega)
      refine ⟨List.eq_nil_iff_forall_not_mem.2 fun i hi => ?_, hdone listed a w hI hall⟩
      obtain ⟨hn, o, ho, _⟩ := mem_ready.1 hi
      rw [hall i (Array.getElem?_eq_some_iff.1 ho).1] at hn
      cases hn
    | succ f ih =>
      intro listed a w hs hc hI
      refine ⟨fun hr => ?_, fun i hi => ?_⟩
      · have : ∃ i, i < ops.size ∧ listed.getD i true = false := by
          have hpos : 0 < listed.toList.count false := by unfold openN at hc; omega
          obtain ⟨i, hi, he⟩ := List.mem_iff_getElem.1 (List.count_pos_iff.1 hpos)
          have hi2 : i < listed.size := by simpa using hi
          refine ⟨i, by omega, ?_⟩
          have hg : listed.getD i true = listed[i] := by simp [Array.getD, hi2]
          rw [hg]
          simpa using he
        obtain ⟨i, hi, hn⟩ := this
        exact absurd hr (ready_some hf hs i hi hn)
      · obtain ⟨hn, o, ho, hall⟩ := mem_ready.1 hi
        have hil := (Array.getElem?_eq_some_iff.1 ho).1
        have hcc := openN_set (l := listed) (i := i) (by omega) hn
        exact wpOp_mono (fun a' w' h => ih _ a' w' (by simpa using hs) (by omega) h) (hstep listed a w i o hI hil ho hn hall)
  refine key _ _ _ _ (by simp) ?_ h0
  unfold openN
  simp
/-- one operation, what follows behind a variable -/
theorem wpOp_hid {K : Act → World → Prop} {i : Nat} {o : Oper} {a : Act} {w : World} (hi : ops[i]? = some o)
    (h : ∀ K' : Act → World → Prop, Hid (∀ a w, K a w → K' a w) → if Region.wanted o (yielded ops a.tmps) = true then Oper.wp P o a w K' Q else K' (a.put o.dst undef) w) : wpOp P ops Q i K a w := by
  unfold wpOp
  rw [hi]
  simp only
  have := h K (Lib.hid fun _ _ h => h)
  split
  · rename_i hw
    rw [if_pos hw] at this
    exact .inl this
  · rename_i hw
    rw [if_neg hw] at this
    exact this
end
end Go.Proofs.YtkgjfagejnppbaaGreatDoor.M

/- An append as one step of a drawn region, any rows; a region of a function's text. -/
namespace Go.Proofs.YtkgjfagejnppbaaGreatDoor.X
open Go.RowKit Go.Proofs.YtkgjfagejnppbaaGreatDoor.M Go.BigFrame Go.Proofs.YtkgjfagejnppbaaGreatDoor.O Go.Proofs.YtkgjfagejnppbaaGreatDoor.P Go.Proofs.YtkgjfagejnppbaaGreatDoor.Mp Go.Proofs.YtkgjfagejnppbaaGreatDoor.Rw
set_option linter.unusedVariables false
set_option linter.unusedSimpArgs false

theorem wp_rowApps {α : Type} {S : RowS α} {w : World} (hS : S.Law) {o : Oper} {a : Act} {K : Act → World → Prop} {Q : Exit → Act → World → Prop} (hgd : o.guard = none) (s x : Operand)
    (ho : o.op = .call { callee := .builtin .append, args := #[s, x], argTypes := #[S.t, S.t] }) (B : Nat) (oo : Option Addr) (oc : Nat) (so : Option Addr) (sc m n : Nat) (X Y : List α) (hX : X.length = m) (hY : Y.length = n) (hs : a.eval s = .slice oo m oc)
    (hown : OwnG S w B oo oc X) (hx : a.eval x = .slice so n sc) (hsrc : Rw.SrcAt w so (Y.flatMap S.enc)) (hM : m + n ≤ 100000000) (hB : B ≤ w.heap.size)
    (h : ∀ oo' oc' w', OwnG S w' B oo' oc' (X ++ Y) → Mods (fun j => ∃ a, oo = some a ∧ j = a.block) w w' → Below B w w' → (∀ a, oo' = some a → (∃ a0, oo = some a0 ∧ a.block = a0.block) ∨ w.heap.size ≤ a.block) → K (a.put o.dst (.slice oo' (m + n) oc')) w') :
    Oper.wp Tryz.prog o a w K Q := by
  subst hX
  subst hY
  obtain ⟨i, z, h1, h2, h3, h4, h5⟩ := hS.info
  cases Y with
  | nil =>
    have hrun := Rw.run_append_owned_empty (P := Tryz.prog) (w := w) B S.t o.type S.e i S.k hS.und h1 _ _ _ hown so sc
    have hK := h oo oc w (by simpa using hown) (Mods.refl _ _) (Below.refl _ _) (fun a e => .inl ⟨a, e, rfl⟩)
    simp only [List.length_nil, Nat.add_zero] at hK hx
    unfold Oper.wp
    simp [execOp, ho, resolve, invoke, builtin, hs, hx, hrun, Result.andThen]
    exact hK
  | cons y N' =>
    obtain ⟨N, hN⟩ : ∃ N, y :: N' = N := ⟨_, rfl⟩
    have hpos : 0 < N.length := by rw [← hN]; simp
    rw [hN] at hsrc h hx hM
    clear hN
    have hlen : (N.flatMap S.enc).length = N.length * S.k := Rw.flat_len S.enc S.k hS.len N
    have hne : N.flatMap S.enc ≠ [] := fun e0 => by
      rw [e0] at hlen
      have := Nat.mul_pos hpos hS.pos
      simp at hlen
      omega
    obtain ⟨ad, rfl, hcells⟩ := hsrc hne
    refine wp_append_lies _ s x S.t ho B S.e i z S.k S.bytes hS.und h1 h2 h3 h4 h5 hS.pos (.slice oo X.length oc) X.length (X.flatMap S.enc) hs hown ad N.length sc (N.flatMap S.enc) hx hlen hcells
      (fun u hu => by obtain ⟨x, hx1, hx2⟩ := List.mem_flatMap.1 hu; exact hS.one x u hx2) hpos (by unfold maxLen; omega) ?_ hB w.heap.size rfl ?_
    · have : (X.length + N.length) * S.bytes ≤ 100000000 * 1000 := Nat.mul_le_mul (by omega) hS.by_
      omega
    · intro g cap w' hown' hgrow hgg _
      have hm : Mods (fun j => ∃ a, oo = some a ∧ j = a.block) w w' := (Mods.refl _ w).then (Mods.of_grown hgrow) (fun k _ hk => by
        cases oo with
        | none => cases hk
        | some a => exact ⟨a, rfl, (Option.some.inj hk).symm⟩)
      have hb : Below B w w' := hm.below (fun j ⟨a, e1, e2⟩ => by
        subst e1
        rw [e2]
        exact (hown.lt a.block rfl).1) hB
      refine h (some ⟨g, 0, none⟩) cap w' ?_ hm hb (fun a e => by
        cases e
        rcases hgg with h1 | h1
        · left
          cases oo with
          | none => cases h1
          | some a0 => exact ⟨a0, rfl, (Option.some.inj h1).symm⟩
        · right
          exact Nat.le_of_eq h1.symm)
      unfold OwnG
      rw [List.flatMap_append, List.length_append]
      exact hown'
theorem set_self (arr : Array Value) (j : Nat) : arr.setIfInBounds j (arr.getD j undef) = arr := by
  apply Array.ext_getElem?
  intro i
  rw [Array.getElem?_setIfInBounds]
  by_cases h : j = i
  · subst h
    by_cases hj : j < arr.size
    · simp [Array.getD, hj]
    · simp [hj]
  · simp [h]
/-- a region of a function's text -/
def regAt (n : Nat) : Code → Option Code
  | .region i ops d => if i = n then some (.region i ops d) else none
  | .seq a b => (regAt n a).or (regAt n b)
  | .cond _ a b => (regAt n a).or (regAt n b)
  | .block _ a => regAt n a
  | .loop a => regAt n a
  | _ => none
theorem src_of {α : Type} {S : RowS α} {w : World} {g : Nat} {cs : Array Value} {e : TypeId} {Y : List α} (hg : w.heap[g]? = some (.cells cs e (0, 0))) (hc : cs.toList = Y.flatMap S.enc) : Rw.SrcAt w (some ⟨g, 0, none⟩) (Y.flatMap S.enc) := by
  intro _
  refine ⟨_, rfl, fun j u hj => ?_⟩
  have ea : (⟨g, 0, none⟩ : Addr).add j = ⟨g, 0 + j, none⟩ := by
    unfold Addr.add
    split
    · next e => rw [e]
    · rfl
  rw [ea, World.cell?, hg]
  rw [← hc, Array.getElem?_toList] at hj
  simp [hj]
end Go.Proofs.YtkgjfagejnppbaaGreatDoor.X
