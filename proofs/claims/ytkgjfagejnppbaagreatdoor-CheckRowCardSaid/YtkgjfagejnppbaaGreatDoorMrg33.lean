/- Several texts in one. -/
import Derived.Test.YtkgjfagejnppbaaGreatDoorMrg32
import Derived.Test.YtkgjfagejnppbaaGreatDoorMrg21
import Derived.Test.YtkgjfagejnppbaaGreatDoorMrg26

/- check.Linear and check.Row; the laws' example. -/
namespace Go.Proofs.YtkgjfagejnppbaaGreatDoor.X
open Go.RowKit Go.Proofs.YtkgjfagejnppbaaGreatDoor.M Go.BigFrame Go.Proofs.YtkgjfagejnppbaaGreatDoor.O Go.Proofs.YtkgjfagejnppbaaGreatDoor.P Go.Proofs.YtkgjfagejnppbaaGreatDoor.Mp Go.Proofs.YtkgjfagejnppbaaGreatDoor.Rw
set_option linter.unusedVariables false
set_option linter.unusedSimpArgs false

/-- what the walks ask of records, and of what they answer -/
structure RecsOk (X : List Rv) (RP : List Rep) : Prop where
  ch : Chain X
  fr : FreshAll (X.map Rv.cmd) RP
  len : X.length ≤ 20
  dl : ∀ x ∈ X, x.deps.length ≤ 10000
  kl : ∀ x ∈ X, x.cmd.key.size ≤ 1000000
theorem called_n {R : List Cmd} {H : List Ev} {ro ho : Option Addr} {rc hc n : Nat} {w : World} (hn : R.length = n) (hR : RowV sRC w ro rc R) (hH : RowV sRE w ho hc H) (hok : ∀ e ∈ H, CmdOk e.cmd) (hokR : ∀ c ∈ R, CmdOk c) (hl : H.length ≤ 1000000) {v : Bool} (hv : calledB R H = v) :
    Calls Tryz.prog 16 #[.slice ro n rc, .slice ho H.length hc] w fun e w' => e = .returned (.bool v) ∧ Below w.heap.size w w' := by
  subst hn; exact called_any R H ro ho rc hc w hR hH hok hokR hl v hv
theorem answered_n {R : List Cmd} {RP : List Rep} {H : List Ev} {ro po ho : Option Addr} {rc pc hc n : Nat} {w : World} (hn : R.length = n) (hlen : RP.length = n) (hR : RowV sRC w ro rc R) (hP : RowV sRP w po pc RP) (hH : RowV sRE w ho hc H) (hok : ∀ e ∈ H, EvOkM e) (hokR : ∀ c ∈ R, CmdOk c) {v : Int} (hv : ansF R RP H 0 = v) :
    Calls Tryz.prog 17 #[.slice ro n rc, .slice po n pc, .slice ho H.length hc] w fun e w' => e = .returned (.int .i64 v) ∧ Below w.heap.size w w' := by
  have := answered_any R RP H ro po ho rc pc hc w hR hP hH (hlen.trans hn.symm) hok hokR v hv
  rw [hn, hlen] at this
  exact this
theorem round_n {R : List Cmd} {H : List Ev} {ro ho : Option Addr} {rc hc n : Nat} {w : World} (hn : R.length = n) (hR : RowV sRC w ro rc R) (hH : RowV sRE w ho hc H) (hok : ∀ e ∈ H, EvOkM e) (hokR : ∀ c ∈ R, CmdOk c) (hl : n ≤ 1000) (hlh : H.length ≤ 100000) {v : Bool} (hv : RoundV R H v) :
    Calls Tryz.prog 18 #[.slice ro n rc, .slice ho H.length hc] w fun e w' => e = .returned (.bool v) ∧ Below w.heap.size w w' := by
  subst hn; exact round_any R H ro ho rc hc w hR hH hok hokR hl hlh v hv
set_option maxRecDepth 100000 in
set_option maxHeartbeats 4000000 in
theorem linear_any (X : List Rv) (RP : List Rep) (H : List Ev) (ao ho : Option Addr) (cap hc : Nat) (w : World) (hV : RecsV w ao cap X) (hT : TabsI w) (hX : RecsOk X RP) (hH : RowV sRE w ho hc H) (hok : ∀ e ∈ H, EvOkM e) (hlh : H.length ≤ 100000) (v : Int) (hv : LinV (X.map Rv.cmd) RP H v) :
    Calls Tryz.prog 9 #[.slice ao X.length cap, .slice ho H.length hc] w fun e w' => e = .returned (.int .i64 v) ∧ Below w.heap.size w w' := by
  have HD := Lib.hid (done_any X RP ao cap w hV hT hX.ch hX.fr hX.len hX.dl hX.kl)
  have HH := Lib.hid hH
  have HOK := Lib.hid hok
  have hln := hX.len
  have HOR := Lib.hid (show ∀ c ∈ X.map Rv.cmd, CmdOk c from fun c hc => by
    obtain ⟨x, hx, rfl⟩ := List.mem_map.1 hc
    exact (hV.ok x hx).cmd)
  have HRL := Lib.hid (show (X.map Rv.cmd).length = X.length by simp)
  have HPL := Lib.hid (show RP.length = X.length by rw [hX.fr.len]; simp)
  obtain ⟨R, hR⟩ : ∃ R, X.map Rv.cmd = R := ⟨_, rfl⟩
  rw [hR] at HD HOR HRL hv
  obtain ⟨n, hn⟩ : ∃ n, X.length = n := ⟨_, rfl⟩
  rw [hn] at HD HRL HPL hln ⊢
  have HV := Lib.hid hv
  clear hV hT hX hH hok hv hn hR
  go_enter Tryz.func9, Tryz.ntmps9
  go_wp2_with fail
  refine HD.out.mono ?_
  rintro e w1 ⟨ro, rc, po, pc, rfl, hro, hpo, hb1⟩
  have HR1 := Lib.hid (hro.view lRC)
  have HP1 := Lib.hid (hpo.view lRP)
  have HB1 := Lib.hid hb1
  have HH1 := Lib.hid (HH.out.below hb1)
  clear hro hpo hb1 HD
  obtain ⟨cb, hcb⟩ : ∃ cb, calledB R H = cb := ⟨_, rfl⟩
  have HCL := Lib.hid (called_n HRL.out HR1.out HH1.out (fun e he => (HOK.out e he).cmd) HOR.out (by omega) hcb)
  have HCB := Lib.hid hcb
  clear hcb
  cases cb with
  | false =>
    have HE := Lib.hid (show 4 = v by
      cases HV.out with
      | form _ => rfl
      | ans h _ _ => rw [HCB.out] at h; cases h
      | round h _ _ => rw [HCB.out] at h; cases h)
    go_wp2_with fail
    refine HCL.out.mono ?_
    rintro e w2 ⟨rfl, hb2⟩
    have HB2 := Lib.hid (HB1.out.trans (hb2.mono HB1.out.size))
    clear hb2 HCL
    go_wp2_with fail
    go_ret
    exact ⟨by rw [← HE.out]; rfl, HB2.out⟩
  | true =>
    obtain ⟨av, hav⟩ : ∃ av, ansF R RP H 0 = av := ⟨_, rfl⟩
    have HAV := Lib.hid hav
    go_wp2_with fail
    refine HCL.out.mono ?_
    rintro e w2 ⟨rfl, hb2⟩
    have HB2 := Lib.hid (HB1.out.trans (hb2.mono HB1.out.size))
    have HR2 := Lib.hid (HR1.out.below hb2)
    have HH2 := Lib.hid (HH1.out.below hb2)
    have HAN := Lib.hid (answered_n HRL.out HPL.out (HR1.out.below hb2) (HP1.out.below hb2) (HH1.out.below hb2) HOK.out HOR.out hav)
    clear hb2 HCL hav
    go_wp2_with fail
    refine HAN.out.mono ?_
    rintro e w3 ⟨rfl, hb3⟩
    have HB3 := Lib.hid (HB2.out.trans (hb3.mono HB2.out.size))
    have HR3 := Lib.hid (HR2.out.below hb3)
    have HH3 := Lib.hid (HH2.out.below hb3)
    clear hb3 HAN
    cases haz : (av != 0) with
    | true =>
      have HE := Lib.hid (show av = v by
        have h0 : av ≠ 0 := by simpa using haz
        cases HV.out with
        | form h => rw [HCB.out] at h; cases h
        | ans _ h2 _ => rw [← HAV.out]; exact h2
        | round _ h2 _ => rw [HAV.out] at h2; exact absurd h2 h0)
      go_wp2_with fail
      go_ret
      exact ⟨by rw [← HE.out]; rfl, HB3.out⟩
    | false =>
      have HZ := Lib.hid (show av = 0 by simpa using haz)
      obtain ⟨rb, hrb, hve⟩ : ∃ rb, RoundV R H rb ∧ v = (if rb then 9 else 0) := by
        cases HV.out with
        | form h => rw [HCB.out] at h; cases h
        | ans _ h2 h3 => rw [HAV.out, HZ.out] at h2; exact absurd h2.symm h3
        | round _ _ h => exact ⟨_, h, rfl⟩
      have HRD := Lib.hid (round_n HRL.out HR3.out HH3.out HOK.out HOR.out (by omega) hlh hrb)
      have HVE := Lib.hid hve
      clear hrb hve
      go_wp2_with fail
      refine HRD.out.mono ?_
      rintro e w4 ⟨rfl, hb4⟩
      have HB4 := Lib.hid (HB3.out.trans (hb4.mono HB3.out.size))
      clear hb4 HRD haz
      cases rb with
      | true =>
        go_wp2_with fail
        go_ret
        exact ⟨by rw [HVE.out]; rfl, HB4.out⟩
      | false =>
        go_wp2_with fail
        go_ret
        exact ⟨by rw [HVE.out]; rfl, HB4.out⟩
set_option maxRecDepth 100000 in
set_option maxHeartbeats 4000000 in
theorem row_any (X : List Rv) (RP : List Rep) (ao : Option Addr) (cap : Nat) (w : World) (hV : RecsV w ao cap X) (hT : TabsI w) (hX : RecsOk X RP) :
    Calls Tryz.prog 10 #[.slice ao X.length cap] w fun e w' => ∃ ro rc, e = .returned (.slice ro X.length rc) ∧ Below w.heap.size w w' := by
  have HD := Lib.hid (done_any X RP ao cap w hV hT hX.ch hX.fr hX.len hX.dl hX.kl)
  clear hV hT hX
  go_enter Tryz.func10, Tryz.ntmps10
  go_wp2_with fail
  refine HD.out.mono ?_
  rintro e w1 ⟨ro, rc, po, pc, rfl, hro, hpo, hb1⟩
  have HB1 := Lib.hid hb1
  clear hro hpo hb1 HD
  go_wp2_with fail
  go_ret
  exact ⟨ro, rc, rfl, HB1.out⟩
end Go.Proofs.YtkgjfagejnppbaaGreatDoor.X

/- check: what the law of rows asks beside (of ChkP). -/
namespace Go.Proofs.YtkgjfagejnppbaaGreatDoor.X
open Go.Proofs.YtkgjfagejnppbaaGreatDoor.O Go.Proofs.YtkgjfagejnppbaaGreatDoor.P Go.Proofs.YtkgjfagejnppbaaGreatDoor.Mp Go.Proofs.YtkgjfagejnppbaaGreatDoor.K Go.Proofs.YtkgjfagejnppbaaGreatDoor.T
set_option linter.unusedVariables false
set_option linter.unusedSimpArgs false
theorem ansF_nz (R : List Cmd) (RP : List Rep) : ∀ (H : List Ev) (wr : Int), wr ≠ 0 → ansF R RP H wr ≠ 0
  | [], wr, h => h
  | e :: t, wr, h => by
    unfold ansF
    split
    · exact ansF_nz R RP t wr h
    · split
      · exact ansF_nz R RP t wr h
      · split
        · decide
        · split
          · exact ansF_nz R RP t 10 (by decide)
          · exact ansF_nz R RP t wr h
/-- an answer is another one -/
theorem ansF_other {R : List Cmd} {RP : List Rep} (hn : (R.map whoC).Nodup) {H H2 : List Ev} {e : Ev} {j : Nat} {c : Cmd} (h : ∀ e ∈ H, EvOk R RP e) (h2 : e.kind = 2) (h3 : e.rep.code ≠ 14) (h4 : R[j]? = some c) (h5 : whoC c = e.who) (h6 : RP[j]? ≠ some e.rep) : ansF R RP (H ++ e :: H2) 0 ≠ 0 := by
  have hf := at_hit hn h4 (List.getElem?_eq_some_iff.1 h4).1
  rw [h5] at hf
  have hl : lookD (atL R R.length) e.who 0 = (j : Int) := by unfold lookD; rw [hf]; rfl
  rw [ansF_app hn h, ansF, if_neg (by simp [h2]), if_neg (fun h => h3 h.1), if_neg (by rw [findD_has, hf]; simp [h3]), hl, Int.toNat_natCast, if_pos h6]
  exact ansF_nz R RP H2 10 (by decide)

theorem lin_other {R : List Cmd} {RP : List Rep} {H H2 : List Ev} {e : Ev} {j : Nat} {c : Cmd} (hn : (R.map whoC).Nodup) (h1 : ∀ c ∈ R, ∃ x ∈ H ++ e :: H2, x.kind = 1 ∧ x.cmd = c) (h : ∀ e ∈ H, EvOk R RP e) (h2 : e.kind = 2) (h3 : e.rep.code ≠ 14) (h4 : R[j]? = some c) (h5 : whoC c = e.who) (h6 : RP[j]? ≠ some e.rep) :
    ∃ v, v ≠ 0 ∧ LinV R RP (H ++ e :: H2) v := ⟨_, ansF_other hn h h2 h3 h4 h5 h6, .ans (called_of h1) rfl (ansF_other hn h h2 h3 h4 h5 h6)⟩
end Go.Proofs.YtkgjfagejnppbaaGreatDoor.X

/- The laws of check: plain: histories and records as the laws make them. -/
namespace Go.Proofs.YtkgjfagejnppbaaGreatDoor.X
open Go.RowKit Go.Proofs.YtkgjfagejnppbaaGreatDoor.M Go.BigFrame Go.Proofs.YtkgjfagejnppbaaGreatDoor.O Go.Proofs.YtkgjfagejnppbaaGreatDoor.P Go.Proofs.YtkgjfagejnppbaaGreatDoor.Mp Go.Proofs.YtkgjfagejnppbaaGreatDoor.Rw
set_option linter.unusedVariables false
set_option linter.unusedSimpArgs false

/-- a record as the laws make it -/
def mkR (i : O.Id) (c : Cmd) (deps : List O.Id) (ao : Option Addr) (cap : Nat) : Rv := ⟨i, 3, ⟨0, 0⟩, ⟨0, 0⟩, c, deps, 0, 2, ao, cap⟩
theorem mkR_good {i : O.Id} {c : Cmd} {deps : List O.Id} {ao : Option Addr} {cap : Nat} (h1 : idOk i = true) (h3 : P.chk c = 0) (h4 : setOk deps = true) (h5 : i ∉ deps) : goodR (mkR i c deps ao cap) = true := by
  have h6 : attrChk deps 0 2 = 0 := by
    unfold attrChk
    simp [h4]
    decide
  unfold goodR recOk headBad balBad restOk mkR
  simp only [h1, h3, h6]
  simp [h5]
  decide
def callE (c : Cmd) : Ev := ⟨1, 0, c, 0, 0, ⟨0, nul, 0⟩⟩
theorem callE_kind (c : Cmd) : ¬ (callE c).kind = 2 := by show ¬ (1 : Int) = 2; decide
def ansE (cl sq : Int) (r : Rep) : Ev := ⟨2, 0, cmd0, cl, sq, r⟩
theorem ansE_who (c : Cmd) (r : Rep) : (ansE c.client c.seq r).who = whoC c := rfl
/-- each command called, and answered, ahead of the next one -/
def evsR : List Cmd → List Rep → List Ev
  | c :: C, r :: RP => callE c :: ansE c.client c.seq r :: evsR C RP
  | _, _ => []
theorem evsR_snoc {C : List Cmd} : ∀ {RP : List Rep} {c : Cmd} {r : Rep}, RP.length = C.length → evsR (C ++ [c]) (RP ++ [r]) = evsR C RP ++ [callE c, ansE c.client c.seq r] := by
  induction C with
  | nil =>
    intro RP c r h
    obtain rfl := List.length_eq_zero_iff.1 h
    rfl
  | cons d C ih =>
    intro RP c r h
    cases RP with
    | nil => cases h
    | cons q RP =>
      show callE d :: ansE d.client d.seq q :: evsR (C ++ [c]) (RP ++ [r]) = _
      rw [ih (by simpa using h)]
      rfl
theorem evsR_len {C : List Cmd} : ∀ {RP : List Rep}, RP.length = C.length → (evsR C RP).length = 2 * C.length := by
  induction C with
  | nil => intro RP h; obtain rfl := List.length_eq_zero_iff.1 h; rfl
  | cons d C ih =>
    intro RP h
    cases RP with
    | nil => cases h
    | cons q RP =>
      show (evsR C RP).length + 1 + 1 = _
      rw [ih (by simpa using h), List.length_cons]
      omega
theorem evsR_get {C : List Cmd} : ∀ {RP : List Rep} {j : Nat} {e : Ev}, RP.length = C.length → (evsR C RP)[j]? = some e → ∃ c r, C[j / 2]? = some c ∧ RP[j / 2]? = some r ∧ ((j % 2 = 0 ∧ e = callE c) ∨ (j % 2 = 1 ∧ e = ansE c.client c.seq r)) := by
  induction C with
  | nil => intro RP j e h hj; obtain rfl := List.length_eq_zero_iff.1 h; simp [evsR] at hj
  | cons d C ih =>
    intro RP j e h hj
    cases RP with
    | nil => cases h
    | cons q RP =>
      match j, hj with
      | 0, hj => exact ⟨d, q, rfl, rfl, .inl ⟨rfl, (Option.some.inj hj).symm⟩⟩
      | 1, hj => exact ⟨d, q, rfl, rfl, .inr ⟨rfl, (Option.some.inj hj).symm⟩⟩
      | j + 2, hj =>
        obtain ⟨c, r, h1, h2, h3⟩ := ih (j := j) (by simpa using h) hj
        have e1 : (j + 2) / 2 = j / 2 + 1 := by omega
        have e2 : (j + 2) % 2 = j % 2 := by omega
        exact ⟨c, r, by rw [e1]; exact h1, by rw [e1]; exact h2, by rw [e2]; exact h3⟩
theorem evsR_call {C : List Cmd} : ∀ {RP : List Rep} {k : Nat} {c : Cmd}, RP.length = C.length → C[k]? = some c → (evsR C RP)[2 * k]? = some (callE c) := by
  induction C with
  | nil => intro RP k c h hk; simp at hk
  | cons d C ih =>
    intro RP k c h hk
    cases RP with
    | nil => cases h
    | cons q RP =>
      cases k with
      | zero => cases hk; rfl
      | succ k =>
        have := ih (RP := RP) (by simpa using h) (show C[k]? = some c from hk)
        have e1 : 2 * (k + 1) = 2 * k + 2 := by omega
        rw [e1]
        exact this
theorem evsR_ok {C : List Cmd} {RP : List Rep} (h : FreshAll C RP) {e : Ev} (he : e ∈ evsR C RP) : EvOk C RP e := by
  obtain ⟨j, hj⟩ := List.mem_iff_getElem?.1 he
  obtain ⟨c, r, h1, h2, h3 | h3⟩ := evsR_get h.len hj
  · left; rw [h3.2]; exact callE_kind c
  · right
    rw [h3.2]
    exact ⟨fresh_code (h.at_ _ c r h1 h2), j / 2, c, h1, rfl, h2⟩
/-- in order: linear -/
theorem linR_ok {C : List Cmd} {RP : List Rep} (h : FreshAll C RP) (hn : (C.map whoC).Nodup) : LinV C RP (evsR C RP) 0 := by
  refine lin_ok hn (fun c hc => ?_) (fun e he => evsR_ok h he) (fun i k hi hk hlt => ?_)
  · obtain ⟨k, hk⟩ := List.mem_iff_getElem?.1 hc
    exact ⟨_, List.mem_of_getElem? (evsR_call h.len hk), rfl, rfl⟩
  · have h1 : 2 * i + 1 ≤ anN C (evsR C RP) i := firstF_ge (by rw [evsR_len h.len]; omega) (fun j e hj he hq => by
      obtain ⟨c, r, g1, g2, g3 | g3⟩ := evsR_get h.len he
      · have := hq.1; rw [g3.2] at this; cases this
      · have h2 := hq.2.2
        rw [g3.2, ansE_who, at_hit hn g1 (List.getElem?_eq_some_iff.1 g1).1] at h2
        have := Option.some.inj h2
        omega) _
    obtain ⟨c, hc⟩ : ∃ c, C[k]? = some c := ⟨_, List.getElem?_eq_getElem hk⟩
    have h2 : caN C (evsR C RP) k ≤ 2 * k := firstF_le (evsR_call h.len hc) ⟨rfl, at_hit hn hc hk, hc⟩ (by rw [evsR_len h.len]; omega)
    omega
/-- one answer turned: not linear -/
theorem linR_no {C : List Cmd} {RP : List Rep} (h : FreshAll C RP) (hn : (C.map whoC).Nodup) {j : Nat} {e : Ev} (he : (evsR C RP)[j]? = some e) (h2 : e.kind = 2) {r : Rep} (hr : r.code = e.rep.code) (hne : r ≠ e.rep) : ∃ v, v ≠ 0 ∧ LinV C RP ((evsR C RP).set j { e with rep := r }) v := by
  obtain ⟨hl, hg⟩ := List.getElem?_eq_some_iff.1 he
  obtain ⟨c, q, g1, g2, g3 | g3⟩ := evsR_get h.len he
  · rw [g3.2] at h2; cases h2
  have hs : (evsR C RP).set j { e with rep := r } = (evsR C RP).take j ++ { e with rep := r } :: (evsR C RP).drop (j + 1) := by
    rw [List.set_eq_take_append_cons_drop, if_pos hl]
  rw [hs]
  refine lin_other (j := j / 2) (c := c) hn (fun d hd => ?_) (fun x hx => evsR_ok h (List.mem_of_mem_take hx)) h2 ?_ g1 ?_ ?_
  · obtain ⟨k, hk⟩ := List.mem_iff_getElem?.1 hd
    have hc := evsR_call h.len hk
    refine ⟨callE d, ?_, rfl, rfl⟩
    rw [← hs]
    refine List.mem_of_getElem? (i := 2 * k) ?_
    rw [List.getElem?_set_ne (by omega)]
    exact hc
  · rw [show ({ e with rep := r } : Ev).rep.code = r.code from rfl, hr, g3.2]
    exact fresh_code (h.at_ _ c q g1 g2)
  · rw [g3.2]; rfl
  · rw [g2]
    intro h3
    apply hne
    rw [g3.2]
    exact (Option.some.inj h3).symm
/-! CheckMore -/
def twiceR : List Cmd → List Rep → List Ev
  | c :: C, r :: RP => ansE c.client c.seq r :: ansE c.client c.seq r :: twiceR C RP
  | _, _ => []
/-- one more that hangs on all -/
theorem Chain.snoc {X : List Rv} (h : Chain X) {x : Rv} (hg : goodR x = true) (hd : x.deps = idsX X) (hn : x.id ∉ idsX X) : Chain (X ++ [x]) := by
  have e1 : idsX (X ++ [x]) = idsX X ++ [x.id] := List.map_append
  refine ⟨?_, fun y hy => ?_, fun i y hi d => ?_⟩
  · rw [e1]
    refine List.nodup_append.2 ⟨h.nd, by simp, fun a ha b hb => ?_⟩
    simp at hb
    subst hb
    exact fun e => hn (e ▸ ha)
  · rcases List.mem_append.1 hy with hy | hy
    · exact h.good y hy
    · rw [List.mem_singleton.1 hy]; exact hg
  · rw [e1]
    by_cases hl : i < X.length
    · rw [List.getElem?_append_left hl] at hi
      rw [h.dep i y hi d]
      refine exists_congr fun j => and_congr_right fun hj => ?_
      rw [List.getElem?_append_left (by simp; omega)]
    · have := (List.getElem?_eq_some_iff.1 hi).1
      rw [List.length_append, List.length_singleton] at this
      obtain rfl : i = X.length := by omega
      rw [List.getElem?_append_right (Nat.le_refl _)] at hi
      simp at hi
      subst hi
      rw [hd]
      constructor
      · intro hm
        obtain ⟨j, hj⟩ := List.mem_iff_getElem?.1 hm
        have hjl := (List.getElem?_eq_some_iff.1 hj).1
        exact ⟨j, by simpa using hjl, by rw [List.getElem?_append_left hjl]; exact hj⟩
      · rintro ⟨j, hj, hg⟩
        rw [List.getElem?_append_left (by simpa using hj)] at hg
        exact List.mem_of_getElem? hg
theorem Chain.nil : Chain [] := ⟨.nil, fun x h => (by cases h), fun i x h => by simp at h⟩
end Go.Proofs.YtkgjfagejnppbaaGreatDoor.X
