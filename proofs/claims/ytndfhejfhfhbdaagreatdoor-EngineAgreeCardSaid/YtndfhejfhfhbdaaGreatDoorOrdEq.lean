/- Two engines side by side: what each call makes of the two. -/
import Derived.Test.YtndfhejfhfhbdaaGreatDoorMrg24
import Derived.Test.YtndfhejfhfhbdaaGreatDoorMrg29
namespace Go.Proofs.YtndfhejfhfhbdaaGreatDoor.O
open Go.RowKit Go.Proofs.YtndfhejfhfhbdaaGreatDoor.M Go.BigFrame Go.Proofs.YtndfhejfhfhbdaaGreatDoor.K
set_option linter.unusedVariables false
set_option linter.unusedSimpArgs false

/-- an engine, and the blocks that are its own -/
structure Eng (w : World) (p n : Nat) (L : List Rv) (D : List Id) (F : Nat → Prop) : Prop where
  ex : ∃ b1 b2 ro rc, EngAt w p b1 b2 n D.length ro rc L D ∧ ∀ j, EngF p b1 b2 ro j → F j
  dp : ∀ x ∈ L, ∀ a, x.ao = some a → x.deps ≠ [] → F a.block
  lt : ∀ j, F j → j < w.heap.size
def FGrow (F : Nat → Prop) (w w' : World) : Nat → Prop := fun j => F j ∨ (w.heap.size ≤ j ∧ j < w'.heap.size)
theorem Eng.keep {w w1 : World} {p n : Nat} {L : List Rv} {D : List Id} {F S : Nat → Prop} (h : Eng w p n L D F) (hm : Mods S w w1) (hn : ∀ j, F j → ¬ S j) : Eng w1 p n L D F := by
  obtain ⟨b1, b2, ro, rc, h1, h2⟩ := h.ex
  exact ⟨⟨b1, b2, ro, rc, h1.keep hm (fun j hj => hn j (h2 j hj)) (fun x hx a e hne => hn _ (h.dp x hx a e hne)), h2⟩, h.dp, fun j hj => Nat.lt_of_lt_of_le (h.lt j hj) hm.size⟩
theorem Eng.below {w w1 : World} {p n : Nat} {L : List Rv} {D : List Id} {F : Nat → Prop} (h : Eng w p n L D F) (hb : Below w.heap.size w w1) : Eng w1 p n L D F :=
  h.keep (S := fun _ => False) (M.Mods.of_below hb) (fun _ _ h => h)
theorem Eng.nd {w : World} {p n : Nat} {L : List Rv} {D : List Id} {F : Nat → Prop} (h : Eng w p n L D F) : (idsX L).Nodup := by
  obtain ⟨_, _, _, _, h1, _⟩ := h.ex
  exact h1.wt.nd
theorem eng_new (w : World) :
    Calls Tryz.prog 28 #[] w fun e w' => ∃ p F, e = .returned (.pointer (some ⟨p, 0, none⟩)) ∧ (Eng w' p 0 [] [] F ∧ (∀ j, F j → w.heap.size ≤ j) ∧ Below w.heap.size w w') := by
  refine (engnew_any w).mono ?_
  rintro e w' ⟨p, b1, b2, rfl, h1, h2, h3⟩
  exact ⟨p, EngF p b1 b2 none, rfl, ⟨⟨b1, b2, none, 0, h1, fun _ h => h⟩, fun x hx => (by cases hx), h1.lts⟩, h2, h3⟩
theorem eng_commit (p n : Nat) (L : List Rv) (D : List Id) (F : Nat → Prop) (x : Rv) (w : World) (h : Eng w p n L D F) (h0 : RvOk w x) (hT : Go.Proofs.YtndfhejfhfhbdaaGreatDoor.R.Tabs w) (hl : x.deps.length ≤ 1000000) (hk : x.cmd.key.size ≤ 1000000) (hn : n ≤ 1000000) (hg : goodR x = true) (hth : thereB L D x.id = false) :
    Calls Tryz.prog 29 #[.pointer (some ⟨p, 0, none⟩), recV x] w fun e w' => e = .returned (.bool true) ∧ ∃ y, core y = core x ∧ Eng w' p (n + 1) (L ++ [y]) D (FGrow F w w') ∧ Mods F w w' := by
  obtain ⟨b1, b2, ro, rc, h1, h2⟩ := h.ex
  refine (engcommit_yes p b1 b2 n D.length ro rc L D x w h1 h0 hT hl hk hn hg hth).mono ?_
  rintro e w' ⟨ao, cap, rfl, g1, g2, g3⟩
  refine ⟨rfl, { x with ao := ao, cap := cap }, rfl, ⟨⟨b1, b2, ro, rc, g1, fun j hj => .inl (h2 j hj)⟩, fun z hz a e hne => ?_, fun j hj => ?_⟩, g2.mono fun k _ e => by rw [e]; exact h2 _ (.inr (.inl rfl))⟩
  · rcases List.mem_append.1 hz with hz | hz
    · exact .inl (h.dp z hz a e hne)
    · have := (g1.ok z (List.mem_append_right _ hz)).1.deps.blt a e hne
      rw [List.mem_singleton.1 hz] at e
      exact .inr ⟨g3 a e, this⟩
  · rcases hj with hj | hj
    · exact Nat.lt_of_lt_of_le (h.lt j hj) g2.size
    · exact hj.2
theorem eng_run (p n : Nat) (L : List Rv) (D : List Id) (F : Nat → Prop) (w : World) (h : Eng w p n L D F) (hT : Go.Proofs.YtndfhejfhfhbdaaGreatDoor.R.Tabs w) (hL : L.length ≤ 20) (hdl : ∀ x ∈ L, x.deps.length ≤ 10000) (hkl : ∀ x ∈ L, x.cmd.key.size ≤ 1000000) (hD : D.length ≤ 1000000) (hdj : ∀ x ∈ L, x.id ∉ D) :
    Calls Tryz.prog 31 #[.pointer (some ⟨p, 0, none⟩)] w fun e w' => ∃ (oo : Option Addr) (oc nn : Nat), e = .returned (.slice oo nn oc) ∧ (∃ (O out : List Id) (R : List Rv), Row (byIds (nds R)) out ∧ (R.map core).Perm (readyL L D O) ∧ (∀ i, i ∈ O ↔ Stuck L D i) ∧ out.Perm (idsX (L.filter fun x => !decide (x.id ∈ O))) ∧
      Eng w' p n (stayL L O) (D ++ out) (FGrow F w w') ∧ Mods F w w') := by
  obtain ⟨b1, b2, ro, rc, h1, h2⟩ := h.ex
  refine (engrun_any p b1 b2 n D.length ro rc L D w h1 hT hL hdl hkl hD hD hdj).mono ?_
  rintro e w' ⟨oo, oc, out, rfl, O, R, ro', rc', k1, k2, k3, k4, k5, k6, k7, k8, _⟩
  rw [← List.length_append] at k5
  refine ⟨oo, oc, _, rfl, O, out, R, k1, k2, k3, k4, ⟨⟨b1, b2, ro', rc', k5, fun j hj => ?_⟩, fun z hz a e hne => .inl (h.dp z (List.mem_filter.1 hz).1 a e hne), fun j hj => ?_⟩, k7.mono fun k _ hk => h2 k hk⟩
  · rcases k8 j hj with g | g
    · exact .inl (h2 j g)
    · exact .inr ⟨g, k5.lts j hj⟩
  · rcases hj with hj | hj
    · exact Nat.lt_of_lt_of_le (h.lt j hj) k7.size
    · exact hj.2
theorem eng_done (p n : Nat) (L : List Rv) (D : List Id) (F : Nat → Prop) (i : Id) (w : World) (h : Eng w p n L D F) (hi : IdI i) (v : Bool) (hv : decide (i ∈ D) = v) :
    Calls Tryz.prog 37 #[.pointer (some ⟨p, 0, none⟩), idV i] w fun e w' => e = .returned (.bool v) ∧ Below w.heap.size w w' := by
  obtain ⟨b1, b2, ro, rc, h1, _⟩ := h.ex
  exact engdone_any p b1 b2 n D.length ro rc L D i w h1 hi v hv
theorem eng_exec (p n : Nat) (L : List Rv) (D : List Id) (F : Nat → Prop) (w : World) (h : Eng w p n L D F) (hD : D.length ≤ 1000000) :
    Calls Tryz.prog 33 #[.pointer (some ⟨p, 0, none⟩)] w fun e w' => ∃ oo oc, e = .returned (.slice oo D.length oc) ∧ (IdsV w' oo oc D ∧ Below w.heap.size w w') := by
  obtain ⟨b1, b2, ro, rc, h1, _⟩ := h.ex
  refine (engexec_any p b1 b2 n D.length ro rc L D w h1 hD).mono ?_
  rintro e w' ⟨oo, oc, rfl, g1, g2⟩
  exact ⟨oo, oc, rfl, IdsV.of_own g1 h1.di, g2⟩
/-- an engine that has had A's records committed, of X's; D are executed -/
structure ESt (w : World) (p : Nat) (X : List Rv) (A D : List Id) (F : Nat → Prop) : Prop where
  ex : ∃ n L, Eng w p n L D F ∧ EI X L D ∧ n ≤ A.length ∧ (idsX L ++ D).Perm A
section
variable {w : World} {p : Nat} {X : List Rv} {A D : List Id} {F : Nat → Prop}
theorem ESt.keep {w1 : World} {S : Nat → Prop} (h : ESt w p X A D F) (hm : Mods S w w1) (hn : ∀ j, F j → ¬ S j) : ESt w1 p X A D F := by
  obtain ⟨n, L, h1, h2⟩ := h.ex
  exact ⟨n, L, h1.keep hm hn, h2⟩
theorem ESt.lt (h : ESt w p X A D F) : ∀ j, F j → j < w.heap.size := by
  obtain ⟨n, L, h1, h2⟩ := h.ex
  exact h1.lt
theorem ESt.len (h : ESt w p X A D F) : D.length ≤ A.length := by
  obtain ⟨n, L, _, _, _, h1⟩ := h.ex
  have := h1.length_eq
  rw [List.length_append] at this
  omega
theorem ESt.ei (h : ESt w p X A D F) : ∃ L, EI X L D := by
  obtain ⟨n, L, _, h1, _⟩ := h.ex
  exact ⟨L, h1⟩
theorem est_commit (h : ESt w p X A D F) {x : Rv} (hx : x ∈ X) (hxA : x.id ∉ A) (h0 : RvOk w x) (hT : Go.Proofs.YtndfhejfhfhbdaaGreatDoor.R.Tabs w) (hsz : x.deps.length ≤ 40 ∧ x.cmd.key.size ≤ 200) (hA : A.length ≤ 1000) (hg : goodR x = true) :
    Calls Tryz.prog 29 #[.pointer (some ⟨p, 0, none⟩), recV x] w fun e w' => e = .returned (.bool true) ∧ (ESt w' p X (A ++ [x.id]) D (FGrow F w w') ∧ Mods F w w') := by
  obtain ⟨n, L, h1, h2, h3, h4⟩ := h.ex
  have hno : ∀ i, i ∈ idsX L ∨ i ∈ D → i ∈ A := fun i hi => h4.mem_iff.1 (List.mem_append.2 hi)
  refine (eng_commit p n L D F x w h1 h0 hT (by omega) (by omega) (by omega) hg ?_).mono ?_
  · rw [← Bool.not_eq_true, thereB_iff]
    exact fun hi => hxA (hno _ hi)
  · rintro e w' ⟨rfl, y, hc, g1, g2⟩
    have hid : y.id = x.id := by have h0 := congrArg Rv.id hc; exact h0
    refine ⟨rfl, ⟨n + 1, L ++ [y], g1, h2.more hx hc (fun hd => hxA (hno _ (.inr hd))), by rw [List.length_append]; exact Nat.succ_le_succ h3, ?_⟩, g2⟩
    have e1 : idsX (L ++ [y]) = idsX L ++ [x.id] := by unfold idsX; rw [List.map_append, ← hid]; rfl
    rw [e1, List.append_assoc]
    refine (List.Perm.append_left _ List.perm_append_comm).trans ?_
    rw [← List.append_assoc]
    exact h4.append_right _
theorem stay_perm (L : List Rv) (O : List Id) : (idsX (stayL L O) ++ idsX (L.filter fun x => !decide (x.id ∈ O))).Perm (idsX L) := by
  rw [← List.map_append]
  exact (List.filter_append_perm _ L).map _
theorem est_run (h : ESt w p X A D F) (hn : (idsX X).Nodup) (hm : ∀ x ∈ X, ∀ d ∈ x.deps, d ∈ idsX X) (hsz : ∀ x ∈ X, x.deps.length ≤ 40 ∧ x.cmd.key.size ≤ 200) (hA : A.length ≤ 20) (hT : Go.Proofs.YtndfhejfhfhbdaaGreatDoor.R.Tabs w) :
    Calls Tryz.prog 31 #[.pointer (some ⟨p, 0, none⟩)] w fun e w' => ∃ (oo : Option Addr) (oc nn : Nat), e = .returned (.slice oo nn oc) ∧ (∃ D', ESt w' p X A D' (FGrow F w w') ∧ Mods F w w' ∧ ((∀ i ∈ idsX X, i ∈ A) → ∀ i ∈ idsX X, i ∈ D')) := by
  obtain ⟨n, L, h1, h2, h3, h4⟩ := h.ex
  have hlen := h4.length_eq
  rw [List.length_append, List.length_map] at hlen
  have hof : ∀ x ∈ L, x.deps.length ≤ 40 ∧ x.cmd.key.size ≤ 200 := fun x hx => by
    obtain ⟨y, hy, hc⟩ := h2.wt x hx
    have e1 : x.deps = y.deps := by have h0 := congrArg Rv.deps hc; exact h0
    have e2 : x.cmd = y.cmd := by have h0 := congrArg Rv.cmd hc; exact h0
    rw [e1, e2]
    exact hsz y hy
  refine (eng_run p n L D F w h1 hT (by omega) (fun x hx => by have := hof x hx; omega) (fun x hx => by have := hof x hx; omega) (by omega) h2.dj).mono ?_
  rintro e w' ⟨oo, oc, nn, rfl, O, out, R, k1, k2, k3, k4, k5, k6⟩
  refine ⟨oo, oc, nn, rfl, D ++ out, ⟨n, stayL L O, k5, h2.run hn h1.nd k3 k1 k2 k4, h3, ?_⟩, k6, fun hall => ?_⟩
  · refine List.Perm.trans ?_ h4
    refine (List.Perm.append_left _ List.perm_append_comm).trans ?_
    rw [← List.append_assoc]
    exact ((List.Perm.append_left _ k4).trans (stay_perm L O)).append_right _
  · exact h2.all hm (fun i hi => List.mem_append.1 (h4.mem_iff.2 (hall i hi))) k3 k4
theorem est_done (h : ESt w p X A D F) {i : Id} (hi : IdI i) (v : Bool) (hv : decide (i ∈ D) = v) :
    Calls Tryz.prog 37 #[.pointer (some ⟨p, 0, none⟩), idV i] w fun e w' => e = .returned (.bool v) ∧ Below w.heap.size w w' := by
  obtain ⟨n, L, h1, _⟩ := h.ex
  exact eng_done p n L D F i w h1 hi v hv
theorem est_exec (h : ESt w p X A D F) (hA : A.length ≤ 1000) :
    Calls Tryz.prog 33 #[.pointer (some ⟨p, 0, none⟩)] w fun e w' => ∃ oo oc, e = .returned (.slice oo D.length oc) ∧ (IdsV w' oo oc D ∧ Below w.heap.size w w') := by
  have hl := h.len
  obtain ⟨n, L, h1, _⟩ := h.ex
  exact eng_exec p n L D F w h1 (by omega)
end
/-- where the records of a row lie -/
def TAt (w : World) (ta : Option Addr) (T : List Rv) : Prop := ∀ i x, T[i]? = some x → ∃ b off, ta = some ⟨b, off, none⟩ ∧ b < w.heap.size ∧ RecAt w b (off + i * 16) x
theorem TAt.keep {w w1 : World} {ta : Option Addr} {T : List Rv} {S : Nat → Prop} (h : TAt w ta T) (hm : Mods S w w1) (hn : ∀ a, ta = some a → ¬ S a.block) : TAt w1 ta T := fun i x hi => by
  obtain ⟨b, off, e, hl, hr⟩ := h i x hi
  exact ⟨b, off, e, Nat.lt_of_lt_of_le hl hm.size, .of fun j hj => (hm.cell (p := ⟨b, off + i * 16 + j, none⟩) hl (hn ⟨b, off, none⟩ e)).trans (hr.get j hj)⟩
/-- two engines, and the other row -/
structure AgSt (w0 w : World) (px py : Nat) (X T : List Rv) (ta : Option Addr) (A B Dx Dy : List Id) : Prop where
  ex : ∃ F G, ESt w px X A Dx F ∧ ESt w py X B Dy G ∧ (∀ j, F j → ¬ G j) ∧ (∀ j, F j → w0.heap.size ≤ j) ∧ (∀ j, G j → w0.heap.size ≤ j) ∧ (∀ a, ta = some a → ¬ F a.block ∧ ¬ G a.block ∧ a.block < w.heap.size)
  tt : TAt w ta T
  bl : Below w0.heap.size w0 w
section
variable {w0 w : World} {px py : Nat} {X T : List Rv} {ta : Option Addr} {A B Dx Dy : List Id}
theorem AgSt.below {w1 : World} (h : AgSt w0 w px py X T ta A B Dx Dy) (hb : Below w.heap.size w w1) : AgSt w0 w1 px py X T ta A B Dx Dy := by
  obtain ⟨F, G, h1, h2, h3, h4, h5, h6⟩ := h.ex
  have hm : Mods (fun _ => False) w w1 := M.Mods.of_below hb
  exact ⟨⟨F, G, h1.keep hm (fun _ _ h => h), h2.keep hm (fun _ _ h => h), h3, h4, h5, fun a e => ⟨(h6 a e).1, (h6 a e).2.1, Nat.lt_of_lt_of_le (h6 a e).2.2 hb.size⟩⟩, h.tt.keep hm (fun _ _ h => h), h.bl.trans (hb.mono h.bl.size)⟩
theorem AgSt.stepX {w1 : World} {A1 D1 : List Id} {F G : Nat → Prop} (h : AgSt w0 w px py X T ta A B Dx Dy) (h2 : ESt w py X B Dy G) (h3 : ∀ j, F j → ¬ G j) (h4 : ∀ j, F j → w0.heap.size ≤ j) (h5 : ∀ j, G j → w0.heap.size ≤ j) (h6 : ∀ a, ta = some a → ¬ F a.block ∧ ¬ G a.block ∧ a.block < w.heap.size)
    (g1 : ESt w1 px X A1 D1 (FGrow F w w1)) (g2 : Mods F w w1) : AgSt w0 w1 px py X T ta A1 B D1 Dy := by
  refine ⟨⟨FGrow F w w1, G, g1, h2.keep g2 (fun j hj hf => h3 j hf hj), fun j hj hg => ?_, fun j hj => ?_, h5, fun a e => ⟨?_, (h6 a e).2.1, Nat.lt_of_lt_of_le (h6 a e).2.2 g2.size⟩⟩, h.tt.keep g2 (fun a e => (h6 a e).1), h.bl.trans (g2.below h4 h.bl.size)⟩
  · rcases hj with hj | hj
    · exact h3 j hj hg
    · have := h2.lt j hg; omega
  · rcases hj with hj | hj
    · exact h4 j hj
    · exact Nat.le_trans h.bl.size hj.1
  · have h7 := h6 a e
    rintro (hj | hj)
    · exact h7.1 hj
    · omega
theorem AgSt.stepY {w1 : World} {B1 D1 : List Id} {F G : Nat → Prop} (h : AgSt w0 w px py X T ta A B Dx Dy) (h1 : ESt w px X A Dx F) (h3 : ∀ j, F j → ¬ G j) (h4 : ∀ j, F j → w0.heap.size ≤ j) (h5 : ∀ j, G j → w0.heap.size ≤ j) (h6 : ∀ a, ta = some a → ¬ F a.block ∧ ¬ G a.block ∧ a.block < w.heap.size)
    (g1 : ESt w1 py X B1 D1 (FGrow G w w1)) (g2 : Mods G w w1) : AgSt w0 w1 px py X T ta A B1 Dx D1 := by
  refine ⟨⟨F, FGrow G w w1, h1.keep g2 (fun j hj hf => h3 j hj hf), g1, fun j hg hj => ?_, h4, fun j hj => ?_, fun a e => ⟨(h6 a e).1, ?_, Nat.lt_of_lt_of_le (h6 a e).2.2 g2.size⟩⟩, h.tt.keep g2 (fun a e => (h6 a e).2.1), h.bl.trans (g2.below h5 h.bl.size)⟩
  · rcases hj with hj | hj
    · exact h3 j hg hj
    · have := h1.lt j hg; omega
  · rcases hj with hj | hj
    · exact h5 j hj
    · exact Nat.le_trans h.bl.size hj.1
  · have h7 := h6 a e
    rintro (hj | hj)
    · exact h7.2.1 hj
    · omega
theorem ag_commitX (h : AgSt w0 w px py X T ta A B Dx Dy) {x : Rv} (hx : x ∈ X) (hxA : x.id ∉ A) (h0 : RvOk w0 x) (hT : Go.Proofs.YtndfhejfhfhbdaaGreatDoor.R.Tabs w0) (hsz : x.deps.length ≤ 40 ∧ x.cmd.key.size ≤ 200) (hA : A.length ≤ 1000) (hg : goodR x = true) :
    Calls Tryz.prog 29 #[.pointer (some ⟨px, 0, none⟩), recV x] w fun e w' => e = .returned (.bool true) ∧ AgSt w0 w' px py X T ta (A ++ [x.id]) B Dx Dy := by
  obtain ⟨F, G, h1, h2, h3, h4, h5, h6⟩ := h.ex
  refine (est_commit h1 hx hxA (h0.below h.bl) (hT.next h.bl) hsz hA hg).mono ?_
  rintro e w1 ⟨rfl, g1, g2⟩
  exact ⟨rfl, h.stepX h2 h3 h4 h5 h6 g1 g2⟩
theorem ag_commitY (h : AgSt w0 w px py X T ta A B Dx Dy) {x : Rv} (hx : x ∈ X) (hxA : x.id ∉ B) (h0 : RvOk w0 x) (hT : Go.Proofs.YtndfhejfhfhbdaaGreatDoor.R.Tabs w0) (hsz : x.deps.length ≤ 40 ∧ x.cmd.key.size ≤ 200) (hA : B.length ≤ 1000) (hg : goodR x = true) :
    Calls Tryz.prog 29 #[.pointer (some ⟨py, 0, none⟩), recV x] w fun e w' => e = .returned (.bool true) ∧ AgSt w0 w' px py X T ta A (B ++ [x.id]) Dx Dy := by
  obtain ⟨F, G, h1, h2, h3, h4, h5, h6⟩ := h.ex
  refine (est_commit h2 hx hxA (h0.below h.bl) (hT.next h.bl) hsz hA hg).mono ?_
  rintro e w1 ⟨rfl, g1, g2⟩
  exact ⟨rfl, h.stepY h1 h3 h4 h5 h6 g1 g2⟩
theorem ag_runX (h : AgSt w0 w px py X T ta A B Dx Dy) (hn : (idsX X).Nodup) (hm : ∀ x ∈ X, ∀ d ∈ x.deps, d ∈ idsX X) (hsz : ∀ x ∈ X, x.deps.length ≤ 40 ∧ x.cmd.key.size ≤ 200) (hA : A.length ≤ 20) (hT : Go.Proofs.YtndfhejfhfhbdaaGreatDoor.R.Tabs w0) :
    Calls Tryz.prog 31 #[.pointer (some ⟨px, 0, none⟩)] w fun e w' => ∃ (oo : Option Addr) (oc nn : Nat), e = .returned (.slice oo nn oc) ∧ (∃ D', AgSt w0 w' px py X T ta A B D' Dy ∧ ((∀ i ∈ idsX X, i ∈ A) → ∀ i ∈ idsX X, i ∈ D')) := by
  obtain ⟨F, G, h1, h2, h3, h4, h5, h6⟩ := h.ex
  refine (est_run h1 hn hm hsz hA (hT.next h.bl)).mono ?_
  rintro e w1 ⟨oo, oc, nn, rfl, D', g1, g2, g3⟩
  exact ⟨oo, oc, nn, rfl, D', h.stepX h2 h3 h4 h5 h6 g1 g2, g3⟩
theorem ag_runY (h : AgSt w0 w px py X T ta A B Dx Dy) (hn : (idsX X).Nodup) (hm : ∀ x ∈ X, ∀ d ∈ x.deps, d ∈ idsX X) (hsz : ∀ x ∈ X, x.deps.length ≤ 40 ∧ x.cmd.key.size ≤ 200) (hA : B.length ≤ 20) (hT : Go.Proofs.YtndfhejfhfhbdaaGreatDoor.R.Tabs w0) :
    Calls Tryz.prog 31 #[.pointer (some ⟨py, 0, none⟩)] w fun e w' => ∃ (oo : Option Addr) (oc nn : Nat), e = .returned (.slice oo nn oc) ∧ (∃ D', AgSt w0 w' px py X T ta A B Dx D') := by
  obtain ⟨F, G, h1, h2, h3, h4, h5, h6⟩ := h.ex
  refine (est_run h2 hn hm hsz hA (hT.next h.bl)).mono ?_
  rintro e w1 ⟨oo, oc, nn, rfl, D', g1, g2, _⟩
  exact ⟨oo, oc, nn, rfl, D', h.stepY h1 h3 h4 h5 h6 g1 g2⟩
theorem ag_exec (h : AgSt w0 w px py X T ta A B Dx Dy) (hA : A.length ≤ 1000) :
    Calls Tryz.prog 33 #[.pointer (some ⟨px, 0, none⟩)] w fun e w' => ∃ oo oc, e = .returned (.slice oo Dx.length oc) ∧ (IdsV w' oo oc Dx ∧ Below w.heap.size w w') := by
  obtain ⟨F, G, h1, _⟩ := h.ex
  exact est_exec h1 hA
theorem ag_execY (h : AgSt w0 w px py X T ta A B Dx Dy) (hA : B.length ≤ 1000) :
    Calls Tryz.prog 33 #[.pointer (some ⟨py, 0, none⟩)] w fun e w' => ∃ oo oc, e = .returned (.slice oo Dy.length oc) ∧ (IdsV w' oo oc Dy ∧ Below w.heap.size w w') := by
  obtain ⟨F, G, _, h1, _⟩ := h.ex
  exact est_exec h1 hA
theorem ag_done (h : AgSt w0 w px py X T ta A B Dx Dy) {i : Id} (hi : IdI i) (v : Bool) (hv : decide (i ∈ Dy) = v) :
    Calls Tryz.prog 37 #[.pointer (some ⟨py, 0, none⟩), idV i] w fun e w' => e = .returned (.bool v) ∧ Below w.heap.size w w' := by
  obtain ⟨F, G, _, h1, _⟩ := h.ex
  exact est_done h1 hi v hv
end
end Go.Proofs.YtndfhejfhfhbdaaGreatDoor.O
