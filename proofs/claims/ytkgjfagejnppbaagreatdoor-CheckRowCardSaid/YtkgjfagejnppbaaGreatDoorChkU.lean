/- CheckRow: what its walk asks beside. -/
import Derived.Test.YtkgjfagejnppbaaGreatDoorMrg35
namespace Go.Proofs.YtkgjfagejnppbaaGreatDoor.X
open Go.RowKit Go.Proofs.YtkgjfagejnppbaaGreatDoor.M Go.BigFrame Go.Proofs.YtkgjfagejnppbaaGreatDoor.O Go.Proofs.YtkgjfagejnppbaaGreatDoor.P Go.Proofs.YtkgjfagejnppbaaGreatDoor.Mp Go.Proofs.YtkgjfagejnppbaaGreatDoor.Rw
set_option linter.unusedVariables false
set_option linter.unusedSimpArgs false

/-- a record comes in, with a row of ids that was made with it -/
theorem BSt.rec2 {w w3 wr wn : World} {s p b q n rc dc hc tc : Nat} {C : List Cmd} {X : List Rv} {D : List O.Id} {H T : List Ev} {ro di ho tw : Option Addr} {ro' : Option Addr} {rc' : Nat} {x : Rv} (h : BSt w w3 wr s p b q n C X D H T ro di ho tw rc dc hc tc) (ho2 : OwnG sRR wn w3.heap.size ro' rc' (X ++ [x])) (hm : Mods (fun j => ∃ a, ro = some a ∧ j = a.block) wr wn) (hx : OwnG sRI wn wr.heap.size x.ao x.cap x.deps) : BSt w w3 wn s p b q n C (X ++ [x]) D H T ro' di ho tw rc' dc hc tc := by
  refine ⟨h.sess (fun k ⟨a, e, ek⟩ => by obtain ⟨_, _, h5, _⟩ := h.recs.cells a e; omega) hm, ho2, fun y hy => ?_, fun y hy => ?_, h.ids.beside h.recs (by decide) hm, h.evs.beside h.recs (by decide) hm, h.evt.beside h.recs (by decide) hm, h.ape, h.lt, Nat.le_trans h.le3 hm.size, h.w03⟩
  · rcases List.mem_append.1 hy with hy | hy
    · exact (h.own y hy).beside h.recs (by decide) hm
    · rw [List.mem_singleton.1 hy]; exact hx.base h.le3
  · rcases List.mem_append.1 hy with hy | hy
    · exact h.ne y hy
    · rw [List.mem_singleton.1 hy]
      intro a e d ed eb
      obtain ⟨_, _, h5, _⟩ := hx.cells a e
      obtain ⟨_, _, _, h6⟩ := h.ids.cells d ed
      omega
/-- one cell of a row is turned -/
theorem _root_.Go.Proofs.YtkgjfagejnppbaaGreatDoor.Rw.RowV.setcell {α : Type} {S : RowS α} {w : World} {b off oc j c : Nat} {X : List α} {x x' : α} {v : Value} (h : RowV S w (some ⟨b, off, none⟩) oc X) (hf : w.frozen? ⟨b, off + j * S.k + c, none⟩ = false) (hx : X[j]? = some x) (hc : c < S.k) (hk : 0 < S.k) (hl : ∀ y, (S.enc y).length = S.k) (he : ∀ i, i < S.k → (S.enc x')[i]? = if i = c then some v else (S.enc x)[i]?) : RowV S (w.setCell ⟨b, off + j * S.k + c, none⟩ v) (some ⟨b, off, none⟩) oc (X.set j x') := by
  refine ⟨by rw [List.length_set]; exact h.le, fun i y hy => ?_⟩
  have hil : i < X.length := by have := (List.getElem?_eq_some_iff.1 hy).1; rwa [List.length_set] at this
  obtain ⟨z, hz⟩ : ∃ z, X[i]? = some z := ⟨_, List.getElem?_eq_getElem hil⟩
  obtain ⟨b2, off2, e2, hb, hcell⟩ := h.row i z hz
  cases e2
  refine ⟨b, off, rfl, by simpa using hb, fun j2 hj2 => ?_⟩
  have hold := hcell j2 hj2
  by_cases hij : i = j
  · subst hij
    rw [List.getElem?_set_self hil] at hy
    cases hy
    rw [hz] at hx
    cases hx
    rw [he j2 hj2]
    by_cases e : j2 = c
    · subst e
      rw [if_pos rfl]
      have hlt : j2 < (S.enc x).length := by rw [hl]; exact hc
      rw [List.getElem?_eq_getElem hlt] at hold
      exact World.cell?_setCell_same _ _ _ hold
    · rw [if_neg e, ← hold]
      exact World.cell?_setCell_other _ _ _ _ (fun e2 => e (by
        simp only [Addr.mk.injEq, true_and, and_true] at e2
        omega))
  · rw [List.getElem?_set_ne (fun e => hij e.symm)] at hy
    rw [hz] at hy
    cases hy
    rw [← hold]
    refine World.cell?_setCell_other _ _ _ _ (fun e2 => hij ?_)
    simp only [Addr.mk.injEq, true_and, and_true] at e2
    have h1 : j * S.k + c = i * S.k + j2 := by omega
    have h2 : (j * S.k + c) / S.k = j := by rw [Nat.mul_comm, Nat.mul_add_div hk, Nat.div_eq_of_lt hc, Nat.add_zero]
    have h3 : (i * S.k + j2) / S.k = i := by rw [Nat.mul_comm, Nat.mul_add_div hk, Nat.div_eq_of_lt hj2, Nat.add_zero]
    rw [← h3, ← h1, h2]
set_option maxRecDepth 100000 in
set_option maxHeartbeats 4000000 in
theorem row_r17n (m k : Nat) (u : World) (B gi gc : Nat) (ro : Option Addr) (X : List Rv) (rc : Nat) (di : Option Addr) (D : List O.Id) (dc : Nat) (c : Cmd) (ci : O.Id) (hXm : X.length = m) (hDk : D.length = k) (hB : B ≤ u.heap.size) (hDl : k ≤ 1000) (hXl : m ≤ 1000)
    (HI : Hid (u.heap[gi]? = some (idO ci))) (HC : Hid (u.heap[gc]? = some (.cells (cmdA c) 30 (0, 0)))) (HR : Hid (OwnG sRR u B ro rc X)) (HDV : Hid (RowV sRI u di dc D))
    (cd : Code) (hcd : Tryz.f3.body.bind (regAt 17) = some cd) (s0 s1 s2 s3 s4 s5 s7 s9 s11 s12 s14 s15 s16 s17 s18 s19 s20 s21 s22 s23 s24 s25 s26 s27 s28 s29 s30 s31 s32 s33 s34 s35 s36 s37 s38 s39 s40 s41 s42 s43 s44 s45 s46 s47 s48 s49 s50 s51 s52 s53 s54 s55 s56 s57 s58 s59 s60 s61 s62 s63 s64 s65 s66 s67 s68 s69 s70 s71 s72 s73 s74 s75 s76 s77 s78 s79 s80 s81 s82 s83 s84 s85 s86 s87 s88 s89 s90 s91 s92 s93 s94 s95 s96 s97 s98 s99 s100 s101 s102 s103 s104 s105 s106 s107 s108 s109 s110 s111 s112 s113 s114 s115 s116 s117 s118 s119 s120 s121 s122 s123 s124 s125 s126 s127 s128 s129 s130 s131 s132 s133 s134 s135 s136 s137 s138 s139 s140 s141 s142 s143 s144 : Value) (Q : Exit → Act → World → Prop)
    (hQ : Hid (∀ (x71 x72 x73 x74 x75 x76 x77 x78 x79 x80 : Value) (ao ro2 : Option Addr) (cap rc2 : Nat) (w : World), OwnG sRI w u.heap.size ao cap D → OwnG sRR w B ro2 rc2 (X ++ [mkR ci c D ao cap]) → Mods (fun j => ∃ a, ro = some a ∧ j = a.block) u w →
      Q .normal { tmps := #[s0, s1, s2, s3, s4, s5, .slice ro2 (m + 1) rc2, s7, .slice di k dc, s9, .pointer (some ⟨gc, 0, none⟩), s11, s12, .pointer (some ⟨gi, 0, none⟩), s14, s15, s16, s17, s18, s19, s20, s21, s22, s23, s24, s25, s26, s27, s28, s29, s30, s31, s32, s33, s34, s35, s36, s37, s38, s39, s40, s41, s42, s43, s44, s45, s46, s47, s48, s49, s50, s51, s52, s53, s54, s55, s56, s57, s58, s59, s60, s61, s62, s63, s64, s65, s66, s67, s68, s69, s70, x71, x72, x73, x74, x75, x76, x77, x78, x79, x80, s81, s82, s83, s84, s85, s86, s87, s88, s89, s90, s91, s92, s93, s94, s95, s96, s97, s98, s99, s100, s101, s102, s103, s104, s105, s106, s107, s108, s109, s110, s111, s112, s113, s114, s115, s116, s117, s118, s119, s120, s121, s122, s123, s124, s125, s126, s127, s128, s129, s130, s131, s132, s133, s134, s135, s136, s137, s138, s139, s140, s141, s142, s143, s144], defers := [] } w)) :
    Code.wp Tryz.prog cd Q { tmps := #[s0, s1, s2, s3, s4, s5, .slice ro m rc, s7, .slice di k dc, s9, .pointer (some ⟨gc, 0, none⟩), s11, s12, .pointer (some ⟨gi, 0, none⟩), s14, s15, s16, s17, s18, s19, s20, s21, s22, s23, s24, s25, s26, s27, s28, s29, s30, s31, s32, s33, s34, s35, s36, s37, s38, s39, s40, s41, s42, s43, s44, s45, s46, s47, s48, s49, s50, s51, s52, s53, s54, s55, s56, s57, s58, s59, s60, s61, s62, s63, s64, s65, s66, s67, s68, s69, s70, s71, s72, s73, s74, s75, s76, s77, s78, s79, s80, s81, s82, s83, s84, s85, s86, s87, s88, s89, s90, s91, s92, s93, s94, s95, s96, s97, s98, s99, s100, s101, s102, s103, s104, s105, s106, s107, s108, s109, s110, s111, s112, s113, s114, s115, s116, s117, s118, s119, s120, s121, s122, s123, s124, s125, s126, s127, s128, s129, s130, s131, s132, s133, s134, s135, s136, s137, s138, s139, s140, s141, s142, s143, s144], defers := [] } u := by
  subst hXm
  subst hDk
  exact row_r17 u B gi gc ro X rc di D dc c ci hB hDl hXl HI HC HR HDV cd hcd s0 s1 s2 s3 s4 s5 s7 s9 s11 s12 s14 s15 s16 s17 s18 s19 s20 s21 s22 s23 s24 s25 s26 s27 s28 s29 s30 s31 s32 s33 s34 s35 s36 s37 s38 s39 s40 s41 s42 s43 s44 s45 s46 s47 s48 s49 s50 s51 s52 s53 s54 s55 s56 s57 s58 s59 s60 s61 s62 s63 s64 s65 s66 s67 s68 s69 s70 s71 s72 s73 s74 s75 s76 s77 s78 s79 s80 s81 s82 s83 s84 s85 s86 s87 s88 s89 s90 s91 s92 s93 s94 s95 s96 s97 s98 s99 s100 s101 s102 s103 s104 s105 s106 s107 s108 s109 s110 s111 s112 s113 s114 s115 s116 s117 s118 s119 s120 s121 s122 s123 s124 s125 s126 s127 s128 s129 s130 s131 s132 s133 s134 s135 s136 s137 s138 s139 s140 s141 s142 s143 s144 Q hQ
theorem wrap_other (n : Int) : RowKit.wrap64 (n + 1) ≠ n := by
  unfold RowKit.wrap64
  omega
theorem own_ev {w : World} {B cg j : Nat} {og : Option Addr} {H : List Ev} {e : Ev} (h : OwnG sRE w B og cg H) (he : H[j]? = some e) : ∃ g off, og = some ⟨g, off, none⟩ ∧ EvAt w g (off + j * 13) e ∧ (∀ o, w.frozen? ⟨g, o, none⟩ = false) ∧ B ≤ g ∧ g < w.heap.size := by
  obtain ⟨b, off, e0, hb, hc⟩ := ev_of (h.view lRE) he
  subst e0
  obtain ⟨cur, h1, h2, h3⟩ := h.cells _ rfl
  exact ⟨b, off, rfl, hc, fun o => by simp [World.frozen?, h1], h2, h3⟩
theorem evc_set {e : Ev} {v : Int} : ∀ i, i < sRE.k → (sRE.enc { e with rep := { e.rep with rev := v } })[i]? = if i = 12 then some (.int .i64 v) else (sRE.enc e)[i]? := by
  intro i hi
  have hi2 : i < 13 := hi
  have h : i = 0 ∨ i = 1 ∨ i = 2 ∨ i = 3 ∨ i = 4 ∨ i = 5 ∨ i = 6 ∨ i = 7 ∨ i = 8 ∨ i = 9 ∨ i = 10 ∨ i = 11 ∨ i = 12 := by omega
  rcases h with rfl | rfl | rfl | rfl | rfl | rfl | rfl | rfl | rfl | rfl | rfl | rfl | rfl <;> rfl
theorem row_no {f : Cmd → Int} {i : Nat} {X : List Rv} {C : List Cmd} {RP : List Rep} (hp : BPl f i X C RP) {j : Nat} {e : Ev} (he : (evsR C RP)[j]? = some e) (h2 : e.kind = 2) {v : Int} (hv : v ≠ e.rep.rev) : ∃ x, x ≠ 0 ∧ LinV (X.map Rv.cmd) RP ((evsR C RP).set j { e with rep := { e.rep with rev := v } }) x := by
  rw [hp.cm]
  exact linR_no hp.fr hp.nd he h2 rfl (fun h => hv (congrArg Rep.rev h))
theorem evsR_code {C : List Cmd} {RP : List Rep} {j : Nat} {e : Ev} (he : (evsR C RP)[j]? = some e) : e.kind = 1 ∨ e.kind = 2 := by
  induction C generalizing RP j with
  | nil => simp [evsR] at he
  | cons d C ih =>
    cases RP with
    | nil => simp [evsR] at he
    | cons q RP =>
      match j, he with
      | 0, he => left; cases he; rfl
      | 1, he => right; cases he; rfl
      | j + 2, he => exact ih he
theorem set_evs {H : List Ev} {j : Nat} {e : Ev} {r : Rep} (h : ∀ e ∈ H, EvOkM e) (he : H[j]? = some e) : ∀ x ∈ H.set j { e with rep := r }, EvOkM x := by
  intro x hx
  rcases List.mem_or_eq_of_mem_set hx with hx | rfl
  · exact h x hx
  · obtain ⟨h1, h2, h3, h4⟩ := h e (List.mem_of_getElem? he)
    exact ⟨h1, h2, h3, h4⟩
end Go.Proofs.YtkgjfagejnppbaaGreatDoor.X
