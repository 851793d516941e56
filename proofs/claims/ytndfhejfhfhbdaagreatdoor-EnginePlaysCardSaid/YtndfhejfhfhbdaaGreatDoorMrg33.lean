/- Several texts in one. -/
import Derived.Test.YtndfhejfhfhbdaaGreatDoorOrdBG
import Derived.Test.YtndfhejfhfhbdaaGreatDoorMrg31
import Derived.Test.YtndfhejfhfhbdaaGreatDoorMrg20
import Derived.Laws.Small
import Derived.Test.YtndfhejfhfhbdaaGreatDoorMrg22
import Derived.Test.YtndfhejfhfhbdaaGreatDoorMrg30

/- EnginePlays: the program's engine and the document's, side by side: what each call makes of the two. -/
namespace Go.Proofs.YtndfhejfhfhbdaaGreatDoor.O
open Go.RowKit Go.Proofs.YtndfhejfhfhbdaaGreatDoor.M Go.BigFrame Go.Proofs.YtndfhejfhfhbdaaGreatDoor.K
set_option linter.unusedVariables false
set_option linter.unusedSimpArgs false

theorem nodup_len_le {α : Type} [DecidableEq α] : ∀ {l m : List α}, l.Nodup → (∀ x ∈ l, x ∈ m) → l.length ≤ m.length
  | [], _, _, _ => Nat.zero_le _
  | a :: l, m, hn, h => by
    have h1 := List.nodup_cons.1 hn
    have h2 : l.length ≤ (m.erase a).length := nodup_len_le h1.2 fun x hx => (List.mem_erase_of_ne (fun e : x = a => h1.1 (by rw [← e]; exact hx))).2 (h x (List.mem_cons_of_mem _ hx))
    have h3 := List.length_erase_of_mem (h a List.mem_cons_self)
    have h4 := List.length_pos_of_mem (h a List.mem_cons_self)
    rw [List.length_cons]
    omega
/-- Run, and what it tells -/
theorem eng_run2 (p n : Nat) (L : List Rv) (D : List Id) (F : Nat → Prop) (w : World) (h : Eng w p n L D F) (hT : Go.Proofs.YtndfhejfhfhbdaaGreatDoor.R.Tabs w) (hL : L.length ≤ 20) (hdl : ∀ x ∈ L, x.deps.length ≤ 10000) (hkl : ∀ x ∈ L, x.cmd.key.size ≤ 1000000) (hD : D.length ≤ 1000000) (hdj : ∀ x ∈ L, x.id ∉ D) :
    Calls Tryz.prog 31 #[.pointer (some ⟨p, 0, none⟩)] w fun e w' => ∃ (oo : Option Addr) (oc : Nat) (out : List Id), e = .returned (.slice oo out.length oc) ∧ (∃ (O : List Id) (R : List Rv), Row (byIds (nds R)) out ∧ (R.map core).Perm (readyL L D O) ∧ (∀ i, i ∈ O ↔ Stuck L D i) ∧ out.Perm (idsX (L.filter fun x => !decide (x.id ∈ O))) ∧ errO (okR R) (nds R) = 0 ∧
      Eng w' p n (stayL L O) (D ++ out) (FGrow F w w') ∧ OwnL w' w.heap.size oo oc out ∧ Mods F w w') := by
  obtain ⟨b1, b2, ro, rc, h1, h2⟩ := h.ex
  refine (engrun_any p b1 b2 n D.length ro rc L D w h1 hT hL hdl hkl hD hD hdj).mono ?_
  rintro e w' ⟨oo, oc, out, rfl, O, R, ro', rc', k1, k2, k3, k4, k5, k6, k7, k8, k9⟩
  rw [← List.length_append] at k5
  have hs : Shut L D O := fun x hx hxo => by
    refine List.any_eq_false.2 fun d hd hl => hxo ((k3 _).2 ?_)
    rcases lostB_iff.1 hl with h3 | h3
    · exact .miss hx hd h3
    · exact .step hx hd ((k3 d).1 h3)
  have herr : errO (okR R) (nds R) = 0 := ready_err h1.wt.nd (fun x hx => (h1.ok x hx).2) hs k2
  refine ⟨oo, oc, out, rfl, O, R, k1, k2, k3, k4, herr, ⟨⟨b1, b2, ro', rc', k5, fun j hj => ?_⟩, fun z hz a e hne => .inl (h.dp z (List.mem_filter.1 hz).1 a e hne), fun j hj => ?_⟩, k6, k7.mono fun k _ hk => h2 k hk⟩
  · rcases k8 j hj with g | g
    · exact .inl (h2 j g)
    · exact .inr ⟨g, k5.lts j hj⟩
  · rcases hj with hj | hj
    · exact Nat.lt_of_lt_of_le (h.lt j hj) k7.size
    · exact hj.2
/-- the two engines behind k records of X -/
structure PlSt (w0 w : World) (px py : Nat) (X : List Rv) (k : Nat) (L Y : List Rv) (D : List Id) (n : Nat) (F G : Nat → Prop) : Prop where
  en : Eng w px n L D F
  rf : RefE w0 w py Y D G
  ep : EP Y L D
  dj : ∀ j, F j → ¬ G j
  ge : ∀ j, F j → w0.heap.size ≤ j
  nk : n ≤ k
  yk : Y.length ≤ k
  yx : ∀ y ∈ Y, y ∈ X
section
variable {w0 w : World} {px py k n : Nat} {X L Y : List Rv} {D : List Id} {F G : Nat → Prop}
theorem PlSt.below {w1 : World} (h : PlSt w0 w px py X k L Y D n F G) (hb : Below w.heap.size w w1) : PlSt w0 w1 px py X k L Y D n F G :=
  ⟨h.en.below hb, h.rf.below hb, h.ep, h.dj, h.ge, h.nk, h.yk, h.yx⟩
theorem PlSt.more (h : PlSt w0 w px py X k L Y D n F G) : PlSt w0 w px py X (k + 1) L Y D n F G :=
  ⟨h.en, h.rf, h.ep, h.dj, h.ge, Nat.le_succ_of_le h.nk, Nat.le_succ_of_le h.yk, h.yx⟩
theorem PlSt.dl (h : PlSt w0 w px py X k L Y D n F G) : D.length ≤ Y.length := by
  have := nodup_len_le (h.ep.dn) h.ep.sub
  rwa [List.length_map] at this
theorem PlSt.ll (h : PlSt w0 w px py X k L Y D n F G) : L.length ≤ Y.length := by
  have h1 := h.ep.wt.length_eq
  rw [List.length_map, List.length_map] at h1
  rw [h1]
  exact List.length_filter_le _ _
theorem PlSt.lx (h : PlSt w0 w px py X k L Y D n F G) {a b : Nat} (hsz : ∀ x ∈ X, x.deps.length ≤ a ∧ x.cmd.key.size ≤ b) : ∀ x ∈ L, x.deps.length ≤ a ∧ x.cmd.key.size ≤ b := fun x hx => by
  obtain ⟨y, hy, hc, _⟩ := h.ep.toY hx
  have e1 : x.cmd = y.cmd := by have h0 := congrArg Rv.cmd hc; exact h0
  rw [core_d hc, e1]
  exact hsz y (h.yx y hy)
/-- behind the first of two Commits that take a record -/
structure PlMid (w0 w : World) (px py : Nat) (X : List Rv) (k : Nat) (L Y : List Rv) (D : List Id) (n : Nat) (F G : Nat → Prop) (x y : Rv) : Prop where
  en : Eng w px (n + 1) (L ++ [y]) D F
  rf : RefE w0 w py Y D G
  ep : EP Y L D
  dj : ∀ j, F j → ¬ G j
  ge : ∀ j, F j → w0.heap.size ≤ j
  nk : n ≤ k
  yk : Y.length ≤ k
  yx : ∀ y ∈ Y, y ∈ X
  hc : core y = core x
theorem pl_cx_no (h : PlSt w0 w px py X k L Y D n F G) {x : Rv} (h0 : RvOk w0 x) (hT : Go.Proofs.YtndfhejfhfhbdaaGreatDoor.R.Tabs w0) (hl : x.deps.length ≤ 1000000) (hk : x.cmd.key.size ≤ 1000000) (hno : (goodR x && !decide (x.id ∈ idsX Y)) = false) :
    Calls Tryz.prog 29 #[.pointer (some ⟨px, 0, none⟩), recV x] w fun e w1 => e = .returned (.bool false) ∧ Below w.heap.size w w1 := by
  obtain ⟨b1, b2, ro, rc, h1, h2⟩ := h.en.ex
  exact engcommit_no px b1 b2 n D.length ro rc L D x w h1 (h0.below h.rf.bl) (hT.next h.rf.bl) hl hk (by rw [h.ep.there]; exact hno)
theorem pl_cy_no (h : PlSt w0 w px py X k L Y D n F G) {x : Rv} (h0 : RvOk w0 x) (hl : x.deps.length ≤ 1000000) (hk : x.cmd.key.size ≤ 1000000) (hno : (goodR x && !decide (x.id ∈ idsX Y)) = false) :
    Calls Tryz.prog 30 #[.pointer (some ⟨py, 0, none⟩), recV x] w fun e w1 => e = .returned (.bool false) ∧ Below w.heap.size w w1 :=
  refcommit_no w0 py Y D G x w h.rf h0 hl hk hno
theorem pl_cx_yes (h : PlSt w0 w px py X k L Y D n F G) {x : Rv} (h0 : RvOk w0 x) (hT : Go.Proofs.YtndfhejfhfhbdaaGreatDoor.R.Tabs w0) (hl : x.deps.length ≤ 1000000) (hk : x.cmd.key.size ≤ 1000000) (hn : k ≤ 1000) (hg : goodR x = true) (hm : x.id ∉ idsX Y) :
    Calls Tryz.prog 29 #[.pointer (some ⟨px, 0, none⟩), recV x] w fun e w1 => e = .returned (.bool true) ∧ ∃ y F', PlMid w0 w1 px py X k L Y D n F' G x y := by
  have hnk := h.nk
  refine (eng_commit px n L D F x w h.en (h0.below h.rf.bl) (hT.next h.rf.bl) hl hk (by omega) hg (by rw [h.ep.there]; exact decide_eq_false hm)).mono ?_
  rintro e w1 ⟨rfl, y, hc, g1, g2⟩
  refine ⟨rfl, y, FGrow F w w1, g1, h.rf.keep g2 (fun j hj hf => h.dj j hf hj) h.ge, h.ep, fun j hj hg => ?_, fun j hj => ?_, h.nk, h.yk, h.yx, hc⟩
  · rcases hj with hj | hj
    · exact h.dj j hj hg
    · have := h.rf.lt j hg; omega
  · rcases hj with hj | hj
    · exact h.ge j hj
    · exact Nat.le_trans h.rf.bl.size hj.1
theorem PlMid.below {x y : Rv} {w1 : World} (h : PlMid w0 w px py X k L Y D n F G x y) (hb : Below w.heap.size w w1) : PlMid w0 w1 px py X k L Y D n F G x y :=
  ⟨h.en.below hb, h.rf.below hb, h.ep, h.dj, h.ge, h.nk, h.yk, h.yx, h.hc⟩
theorem pl_cy_yes {x y : Rv} (h : PlMid w0 w px py X k L Y D n F G x y) (h0 : RvOk w0 x) (hx : x ∈ X) (hl : x.deps.length ≤ 1000000) (hk : x.cmd.key.size ≤ 1000000) (hn : k ≤ 1000) (hg : goodR x = true) (hm : x.id ∉ idsX Y) :
    Calls Tryz.prog 30 #[.pointer (some ⟨py, 0, none⟩), recV x] w fun e w1 => e = .returned (.bool true) ∧ ∃ G', PlSt w0 w1 px py X (k + 1) (L ++ [y]) (Y ++ [x]) D (n + 1) F G' := by
  have hyk := h.yk
  refine (refcommit_yes w0 py Y D G x w h.rf h0 hl hk (by omega) hg hm).mono ?_
  rintro e w1 ⟨rfl, g1, g2⟩
  refine ⟨rfl, FGrow G w w1, h.en.keep g2 (fun j hf hg => h.dj j hf hg), g1, h.ep.more h.hc hm, fun j hj hg => ?_, h.ge, Nat.succ_le_succ h.nk, by rw [List.length_append]; exact Nat.succ_le_succ h.yk, fun z hz => ?_⟩
  · rcases hg with hg | hg
    · exact h.dj j hj hg
    · have := h.en.lt j hj; omega
  · rcases List.mem_append.1 hz with hz | hz
    · exact h.yx z hz
    · rw [List.mem_singleton.1 hz]; exact hx
/-- behind the first of two Runs -/
structure PlRun (w0 w : World) (px py : Nat) (X : List Rv) (k : Nat) (L Y : List Rv) (D : List Id) (n : Nat) (F G : Nat → Prop) (O out : List Id) : Prop where
  en : Eng w px n (stayL L O) (D ++ out) F
  rf : RefE w0 w py Y D G
  ep : EP Y L D
  dj : ∀ j, F j → ¬ G j
  ge : ∀ j, F j → w0.heap.size ≤ j
  nk : n ≤ k
  yk : Y.length ≤ k
  yx : ∀ y ∈ Y, y ∈ X
  st : ∀ i, i ∈ O ↔ Stuck L D i
  pm : out.Perm (idsX (L.filter fun x => !decide (x.id ∈ O)))
  rw : Row (byIds (nds (mayL Y D O))) out
  er : errO (okR (mayL Y D O)) (nds (mayL Y D O)) = 0
theorem pl_runx (h : PlSt w0 w px py X k L Y D n F G) (hT : Go.Proofs.YtndfhejfhfhbdaaGreatDoor.R.Tabs w0) (hk : k ≤ 20) (hsz : ∀ x ∈ X, x.deps.length ≤ 40 ∧ x.cmd.key.size ≤ 200) :
    Calls Tryz.prog 31 #[.pointer (some ⟨px, 0, none⟩)] w fun e w1 => ∃ (oo : Option Addr) (oc : Nat) (out : List Id), e = .returned (.slice oo out.length oc) ∧ (∃ O F', PlRun w0 w1 px py X k L Y D n F' G O out ∧ OwnL w1 w.heap.size oo oc out ∧ ∀ j, G j → j < w.heap.size) := by
  have h1 := h.ll
  have h2 := h.dl
  have h3 := h.yk
  have h4 := h.lx hsz
  refine (eng_run2 px n L D F w h.en (hT.next h.rf.bl) (by omega) (fun x hx => by have := h4 x hx; omega) (fun x hx => by have := h4 x hx; omega) (by omega) (fun x hx hd => ((h.ep.has x.id).1 (List.mem_map.2 ⟨x, hx, rfl⟩)).2 hd)).mono ?_
  rintro e w1 ⟨oo, oc, out, rfl, O, R, k1, k2, k3, k4, k5, k6, k7, k8⟩
  have hp : (R.map core).Perm (mayL Y D O) := k2.trans (h.ep.ready O)
  have hnp : (nds R).Perm (nds (mayL Y D O)) := by rw [← nds_core R]; exact hp.map _
  have hU : Unl (nds R) := (errO_ok.1 k5).2.1
  have hb : byIds (nds R) = byIds (nds (mayL Y D O)) := byIds_same (hU.perm hnp.symm) hnp
  refine ⟨oo, oc, out, rfl, O, FGrow F w w1, ⟨k6, h.rf.keep k8 (fun j hj hf => h.dj j hf hj) h.ge, h.ep, fun j hj hg => ?_, fun j hj => ?_, h.nk, h.yk, h.yx, k3, k4, by rw [← hb]; exact k1, ?_⟩, k7, fun j hj => h.rf.lt j hj⟩
  · rcases hj with hj | hj
    · exact h.dj j hj hg
    · have := h.rf.lt j hg; omega
  · rcases hj with hj | hj
    · exact h.ge j hj
    · exact Nat.le_trans h.rf.bl.size hj.1
  · rw [← okR_perm hp, okR_core, ← errO_perm hnp]
    exact k5
theorem PlRun.below {w1 : World} {O out : List Id} (h : PlRun w0 w px py X k L Y D n F G O out) (hb : Below w.heap.size w w1) : PlRun w0 w1 px py X k L Y D n F G O out :=
  ⟨h.en.below hb, h.rf.below hb, h.ep, h.dj, h.ge, h.nk, h.yk, h.yx, h.st, h.pm, h.rw, h.er⟩
theorem pl_runy {O out : List Id} (h : PlRun w0 w px py X k L Y D n F G O out) (hk : k ≤ 20) (hsz : ∀ x ∈ X, x.deps.length ≤ 40 ∧ x.cmd.key.size ≤ 200) :
    Calls Tryz.prog 32 #[.pointer (some ⟨py, 0, none⟩)] w fun e w1 => ∃ (oo : Option Addr) (oc : Nat), e = .returned (.slice oo out.length oc) ∧ (∃ G', PlSt w0 w1 px py X k (stayL L O) Y (D ++ out) n F G' ∧ IdsV w1 oo oc out ∧ Mods G w w1) := by
  have h3 := h.yk
  have hdl := nodup_len_le h.ep.dn h.ep.sub
  rw [List.length_map] at hdl
  have hof := fun x (hx : x ∈ Y) => hsz x (h.yx x hx)
  refine (refrun_any w0 py Y D G w h.rf (by omega) h.ep.nd (fun x hx => by have := hof x hx; omega) (fun x hx => by have := hof x hx; omega) (by omega) O (fun x hx hd inn o hc => h.ep.free h.st (List.mem_map.2 ⟨x, hx, rfl⟩) hd hc) out h.rw h.er).mono ?_
  rintro e w1 ⟨oo, oc, rfl, g1, g2, g3⟩
  refine ⟨oo, oc, rfl, FGrow G w w1, ⟨h.en.keep g3 (fun j hf hg => h.dj j hf hg), g2, h.ep.run h.st h.pm, fun j hj hg => ?_, h.ge, h.nk, h.yk, h.yx⟩, g1, g3⟩
  rcases hg with hg | hg
  · exact h.dj j hj hg
  · have := h.en.lt j hj; omega
end
end Go.Proofs.YtndfhejfhfhbdaaGreatDoor.O

/- The law's place, turned. -/
namespace Go.Proofs.YtndfhejfhfhbdaaGreatDoor.O
open Go.RowKit Go.Proofs.YtndfhejfhfhbdaaGreatDoor.M Go.BigFrame Go.Proofs.YtndfhejfhfhbdaaGreatDoor.K
set_option linter.unusedVariables false
set_option linter.unusedSimpArgs false

end Go.Proofs.YtndfhejfhfhbdaaGreatDoor.O

/- The law's com; the document's example. -/
namespace Go.Proofs.YtndfhejfhfhbdaaGreatDoor.O
open Go.RowKit Go.Proofs.YtndfhejfhfhbdaaGreatDoor.M Go.BigFrame Go.Proofs.YtndfhejfhfhbdaaGreatDoor.K Go.Proofs.YtndfhejfhfhbdaaGreatDoor.T Go.Proofs.YtndfhejfhfhbdaaGreatDoor.R
set_option linter.unusedVariables false
set_option linter.unusedSimpArgs false

def cmd0 : P.Cmd := ⟨0, 0, 0, P.nul, P.nul, 0⟩
def comR (r s : Int) (l : List Id) (ao : Option Addr) (cap : Nat) : Rv := ⟨⟨r, 1⟩, 3, ⟨0, 0⟩, ⟨0, 0⟩, cmd0, l, s, 1, ao, cap⟩
def comV (r s : Int) (v : Value) : Value := .agg #[.int .i64 r, .int .i64 1, .int .i64 3, .int .i64 0, .int .i64 0, .int .i64 0, .int .i64 0, .int .i64 0, .int .i64 0, .int .i64 0, .string ⟨#[]⟩, .string ⟨#[]⟩, .int .i64 0, v, .int .i64 s, .int .i64 1]
def exA : Id := ⟨0, 1⟩
def exB : Id := ⟨1, 1⟩
def nd1 : Nd := ⟨exA, [exB], 2, 1⟩
def nd2 : Nd := ⟨exB, [exA], 1, 1⟩
theorem ids_box {w : World} {g : Nat} {i : Id} (h : w.heap[g]? = some (.cells #[.int .i64 i.r, .int .i64 i.n] 27 (0, 0))) (hi : IdI i) : IdsV w (some ⟨g, 0, none⟩) 1 [i] := by
  obtain ⟨⟨h0, h1⟩, _⟩ := box2 h
  refine ⟨⟨Nat.le_refl _, by unfold maxLen; simp⟩, fun e => (by cases e), fun k x hk => ?_, fun x hx => ?_⟩
  · have hk0 : k = 0 := by have := (List.getElem?_eq_some_iff.1 hk).1; simp at this; omega
    subst hk0
    cases hk
    exact ⟨g, 0, rfl, M.heap_lt h, h0, h1⟩
  · rw [List.mem_singleton.1 hx]; exact hi
def exX (g1 g2 : Nat) : List Rv := [comR 0 2 [exB] (some ⟨g1, 0, none⟩) 1, comR 1 1 [exA] (some ⟨g2, 0, none⟩) 1]
end Go.Proofs.YtndfhejfhfhbdaaGreatDoor.O

/- The document's example for the engine, in plain words. -/
namespace Go.Proofs.YtndfhejfhfhbdaaGreatDoor.O
open Go.RowKit Go.Proofs.YtndfhejfhfhbdaaGreatDoor.M Go.BigFrame Go.Proofs.YtndfhejfhfhbdaaGreatDoor.K Go.Proofs.YtndfhejfhfhbdaaGreatDoor.T
set_option linter.unusedVariables false
set_option linter.unusedSimpArgs false

def enA (ao : Option Addr) (cap : Nat) : Rv := ⟨exA, 3, ⟨0, 0⟩, ⟨0, 0⟩, cmd0, [exB], 0, 2, ao, cap⟩
def enB (ao : Option Addr) (cap : Nat) : Rv := ⟨exB, 3, ⟨0, 0⟩, ⟨0, 0⟩, cmd0, [], 0, 2, ao, cap⟩
theorem enA_good (ao : Option Addr) (cap : Nat) : goodR (enA ao cap) = true := by
  have h1 : idOk exA = true := idOk_iff.2 (by unfold exA; simp)
  have h3 : P.chk cmd0 = 0 := by decide
  have h4 : attrChk [exB] 0 2 = 0 := by decide
  have h5 : exA ∉ [exB] := by decide
  unfold goodR recOk headBad balBad restOk enA
  simp only [h1, h3, h4]
  simp [h5]
  decide
theorem enB_good (ao : Option Addr) (cap : Nat) : goodR (enB ao cap) = true := by
  have h1 : idOk exB = true := idOk_iff.2 (by unfold exB; simp)
  have h3 : P.chk cmd0 = 0 := by decide
  have h4 : attrChk [] 0 2 = 0 := by decide
  unfold goodR recOk headBad balBad restOk enB
  simp only [h1, h3, h4]
  simp
  decide
theorem enA_cmd : P.CmdOk cmd0 := by
  refine ⟨?_, ?_, ?_, ?_, ?_, ?_⟩ <;> first | exact Nat.zero_le _ | (unfold P.InI cmd0; simp)
theorem exA_ok : IdI exA := ⟨by unfold P.InI exA; simp, by unfold P.InI exA; simp⟩
theorem exB_ok : IdI exB := ⟨by unfold P.InI exB; simp, by unfold P.InI exB; simp⟩
section
variable {ao bo : Option Addr} {ca cb : Nat}
theorem en_there0 : thereB [] [] exA = false := by decide
theorem en_there1 : thereB [enA ao ca] [] exB = false := by
  rw [← Bool.not_eq_true, thereB_iff]
  rintro (h | h)
  · have : exB = exA := by simpa [enA] using h
    exact absurd this (by decide)
  · cases h
theorem en_stuck1 : Stuck [enA ao ca] [] exA := .miss (x := enA ao ca) (d := exB) (List.mem_singleton.2 rfl) (List.mem_singleton.2 rfl) (by
  have := en_there1 (ao := ao) (ca := ca)
  rw [← Bool.not_eq_true, thereB_iff] at this
  exact this)
theorem en_run1 {O out : List Id} (hO : ∀ i, i ∈ O ↔ Stuck [enA ao ca] [] i) (hp : out.Perm (idsX ([enA ao ca].filter fun x => !decide (x.id ∈ O)))) : out = [] ∧ stayL [enA ao ca] O = [enA ao ca] := by
  have h1 : exA ∈ O := (hO exA).2 en_stuck1
  have h2 : (enA ao ca).id ∈ O := h1
  constructor
  · simp [h2] at hp
    exact hp
  · unfold stayL
    simp [h2]
theorem en_need1 : setI (needsL [enA ao ca] [] [enA ao ca]) = [exB] := by
  have h1 : needsL [enA ao ca] [] [enA ao ca] = [exB] := by
    unfold needsL needL
    rw [List.flatMap_cons, List.flatMap_nil, List.append_nil]
    show [exB].filter _ = [exB]
    rw [List.filter_cons, en_there1]
    rfl
  rw [h1]
  rfl
theorem en_stuck2 (i : Id) : ¬ Stuck [enA ao ca, enB bo cb] [] i := by
  intro h
  induction h with
  | miss hx hd hm =>
    rcases List.mem_cons.1 hx with rfl | hx
    · have : _ = exB := List.mem_singleton.1 hd
      subst this
      exact hm (.inl (by simp [enA, enB]))
    · rw [List.mem_singleton.1 hx] at hd
      cases hd
  | step _ _ _ ih => exact ih
def ndA : Nd := ⟨exA, [exB], 0, 2⟩
def ndB : Nd := ⟨exB, [], 0, 2⟩
theorem en_by : byIds [ndA, ndB] = [ndA, ndB] := rfl
theorem en_e0 : edR [ndA, ndB] 0 = [1] := by decide
theorem en_e1 : edR [ndA, ndB] 1 = [] := by decide
theorem en_edge {u w : Nat} (h : T.Edge (edR [ndA, ndB]) 2 u w) : u = 0 ∧ w = 1 := by
  obtain ⟨h1, h2, h3⟩ := h
  have : u = 0 ∨ u = 1 := by omega
  rcases this with rfl | rfl
  · rw [en_e0] at h3
    have := List.mem_singleton.1 h3
    exact ⟨rfl, by omega⟩
  · rw [en_e1] at h3
    cases h3
def enq : Nat → Nat := fun v => if v = 0 then 1 else 0
theorem en_order : InOrder (edR [ndA, ndB]) 2 [[1], [0]] enq := by
  refine ⟨⟨fun v hv => ?_, fun i c v hc hv => ?_, fun c hc => ?_, fun u w he => ?_, fun u w hu hw e => ?_⟩, fun p p' hp hp' hlt => ?_⟩
  · have : v = 0 ∨ v = 1 := by omega
    rcases this with rfl | rfl
    · exact ⟨[0], rfl, by simp⟩
    · exact ⟨[1], rfl, by simp⟩
  · have hi := (List.getElem?_eq_some_iff.1 hc).1
    have : i = 0 ∨ i = 1 := by simp at hi; omega
    rcases this with rfl | rfl
    · obtain rfl : [1] = c := by simpa using hc
      simp at hv
      subst hv
      exact ⟨by omega, rfl⟩
    · obtain rfl : [0] = c := by simpa using hc
      simp at hv
      subst hv
      exact ⟨by omega, rfl⟩
  · simp at hc
    rcases hc with rfl | rfl <;> simp
  · obtain ⟨rfl, rfl⟩ := en_edge he
    unfold enq
    simp
  · have h1 : u = 0 ∨ u = 1 := by omega
    have h2 : w = 0 ∨ w = 1 := by omega
    rcases h1 with rfl | rfl <;> rcases h2 with rfl | rfl
    · exact .refl _
    · unfold enq at e; simp at e
    · unfold enq at e; simp at e
    · exact .refl _
  · have hp2 : p' < 2 := hp'
    obtain rfl : p = 0 := by omega
    obtain rfl : p' = 1 := by omega
    exact ⟨0, 1, rfl, ⟨by omega, by omega, by rw [en_e0]; simp⟩, Nat.zero_le _, by decide⟩
theorem en_row : Row (byIds [ndA, ndB]) [exB, exA] := by
  rw [en_by]
  exact ⟨[[1], [0]], enq, en_order, by rfl⟩
theorem en_run2 {O out : List Id} {R : List Rv} (hO : ∀ i, i ∈ O ↔ Stuck [enA ao ca, enB bo cb] [] i) (hr : Row (byIds (nds R)) out) (hp : (R.map core).Perm (readyL [enA ao ca, enB bo cb] [] O)) : out = [exB, exA] ∧ stayL [enA ao ca, enB bo cb] O = [] := by
  have hO2 : ∀ i, i ∉ O := fun i hi => en_stuck2 i ((hO i).1 hi)
  have h1 : readyL [enA ao ca, enB bo cb] [] O = [core (enA ao ca), core (enB bo cb)] := by
    unfold readyL
    rw [List.filter_eq_self.2 (fun x _ => by simp [hO2])]
    simp [rest, core, enA, enB]
  have h2 : (nds R).Perm [ndA, ndB] := by
    rw [← nds_core R]
    have := (hp.map Rv.nd)
    rw [h1] at this
    exact this
  have hU : Unl [ndA, ndB] := by unfold Unl; decide
  have h3 := byIds_same hU h2
  rw [h3] at hr
  refine ⟨hr.one en_row, ?_⟩
  unfold stayL
  rw [List.filter_eq_nil_iff]
  intro x _
  simp [hO2]
end
end Go.Proofs.YtndfhejfhfhbdaaGreatDoor.O

/- The law's awake. -/
namespace Go.Proofs.YtndfhejfhfhbdaaGreatDoor.O
open Go.RowKit Go.Proofs.YtndfhejfhfhbdaaGreatDoor.M Go.BigFrame Go.Proofs.YtndfhejfhfhbdaaGreatDoor.K Go.Proofs.YtndfhejfhfhbdaaGreatDoor.T Go.Proofs.YtndfhejfhfhbdaaGreatDoor.R
set_option linter.unusedVariables false
set_option linter.unusedSimpArgs false

theorem heap_dr (w : World) (k : Nat) : w.drew.heap[k]? = w.heap[k]? := rfl
theorem ids_lit {w : World} {g : Nat} {l : List Id} (h : w.heap[g]? = some (.cells (cellsI l).toArray 27 (0, 0))) (hl : l.length ≤ 1000) (hok : ∀ x ∈ l, IdI x) : IdsV w (some ⟨g, 0, none⟩) l.length l := by
  refine ⟨⟨Nat.le_refl _, by unfold maxLen; omega⟩, fun e => (by cases e), fun k x hk => ?_, hok⟩
  obtain ⟨h1, h2⟩ := cellsI_get l k x hk
  refine ⟨g, 0, rfl, M.heap_lt h, ?_, ?_⟩
  · rw [cell_of_row w g _ _ _ _ h, Nat.zero_add]; simpa using h1
  · rw [cell_of_row w g _ _ _ _ h, Nat.zero_add]; simpa using h2
theorem keep4 {W w' : World} {g1 g2 : Nat} {v0 v1 v2 v3 : Value} (hb : Below W.heap.size W w') (h1 : g1 < W.heap.size) (h2 : g2 < W.heap.size) (a0 : W.cell? ⟨g1, 0, none⟩ = some v0) (a1 : W.cell? ⟨g1, 1, none⟩ = some v1) (b0 : W.cell? ⟨g2, 0, none⟩ = some v2) (b1 : W.cell? ⟨g2, 1, none⟩ = some v3) :
    w'.cell? ⟨g1, 0, none⟩ = some v0 ∧ w'.cell? ⟨g1, 1, none⟩ = some v1 ∧ w'.cell? ⟨g2, 0, none⟩ = some v2 ∧ w'.cell? ⟨g2, 1, none⟩ = some v3 :=
  ⟨(hb.cell (p := ⟨g1, 0, none⟩) h1).trans a0, (hb.cell (p := ⟨g1, 1, none⟩) h1).trans a1, (hb.cell (p := ⟨g2, 0, none⟩) h2).trans b0, (hb.cell (p := ⟨g2, 1, none⟩) h2).trans b1⟩
end Go.Proofs.YtndfhejfhfhbdaaGreatDoor.O
