/- Several texts in one. -/
import Derived.Test.YtkgjfagejnppbaaGreatDoorMrg31
import Derived.Test.YtkgjfagejnppbaaGreatDoorMrg25
import Derived.Test.YtkgjfagejnppbaaGreatDoorMrg29

/- check.Linear and check.Row; the laws' example. -/
namespace Go.Proofs.YtkgjfagejnppbaaGreatDoor.X
open Go.RowKit Go.Proofs.YtkgjfagejnppbaaGreatDoor.M Go.BigFrame Go.Proofs.YtkgjfagejnppbaaGreatDoor.O Go.Proofs.YtkgjfagejnppbaaGreatDoor.P Go.Proofs.YtkgjfagejnppbaaGreatDoor.Mp Go.Proofs.YtkgjfagejnppbaaGreatDoor.Rw
set_option linter.unusedVariables false
set_option linter.unusedSimpArgs false

/-- what the walks ask of records, and of what they answer -/
structure RecsOk (X : List Rv) (RP : List Rep) : Prop where
  ch : Chain X
  fr : FreshAll (X.map Rv.cmd) RP
  len : X.length ≤ 20
  dl : ∀ x ∈ X, x.deps.length ≤ 10000
  kl : ∀ x ∈ X, x.cmd.key.size ≤ 1000000
theorem called_n {R : List Cmd} {H : List Ev} {ro ho : Option Addr} {rc hc n : Nat} {w : World} (hn : R.length = n) (hR : RowV sRC w ro rc R) (hH : RowV sRE w ho hc H) (hok : ∀ e ∈ H, CmdOk e.cmd) (hokR : ∀ c ∈ R, CmdOk c) (hl : H.length ≤ 1000000) {v : Bool} (hv : calledB R H = v) :
    Calls Tryz.prog 16 #[.slice ro n rc, .slice ho H.length hc] w fun e w' => e = .returned (.bool v) ∧ Below w.heap.size w w' := by
  subst hn; exact called_any R H ro ho rc hc w hR hH hok hokR hl v hv
theorem answered_n {R : List Cmd} {RP : List Rep} {H : List Ev} {ro po ho : Option Addr} {rc pc hc n : Nat} {w : World} (hn : R.length = n) (hlen : RP.length = n) (hR : RowV sRC w ro rc R) (hP : RowV sRP w po pc RP) (hH : RowV sRE w ho hc H) (hok : ∀ e ∈ H, EvOkM e) (hokR : ∀ c ∈ R, CmdOk c) {v : Int} (hv : ansF R RP H 0 = v) :
    Calls Tryz.prog 17 #[.slice ro n rc, .slice po n pc, .slice ho H.length hc] w fun e w' => e = .returned (.int .i64 v) ∧ Below w.heap.size w w' := by
  have := answered_any R RP H ro po ho rc pc hc w hR hP hH (hlen.trans hn.symm) hok hokR v hv
  rw [hn, hlen] at this
  exact this
theorem round_n {R : List Cmd} {H : List Ev} {ro ho : Option Addr} {rc hc n : Nat} {w : World} (hn : R.length = n) (hR : RowV sRC w ro rc R) (hH : RowV sRE w ho hc H) (hok : ∀ e ∈ H, EvOkM e) (hokR : ∀ c ∈ R, CmdOk c) (hl : n ≤ 1000) (hlh : H.length ≤ 100000) {v : Bool} (hv : RoundV R H v) :
    Calls Tryz.prog 18 #[.slice ro n rc, .slice ho H.length hc] w fun e w' => e = .returned (.bool v) ∧ Below w.heap.size w w' := by
  subst hn; exact round_any R H ro ho rc hc w hR hH hok hokR hl hlh v hv
set_option maxRecDepth 100000 in
set_option maxHeartbeats 4000000 in
theorem linear_any (X : List Rv) (RP : List Rep) (H : List Ev) (ao ho : Option Addr) (cap hc : Nat) (w : World) (hV : RecsV w ao cap X) (hT : TabsI w) (hX : RecsOk X RP) (hH : RowV sRE w ho hc H) (hok : ∀ e ∈ H, EvOkM e) (hlh : H.length ≤ 100000) (v : Int) (hv : LinV (X.map Rv.cmd) RP H v) :
    Calls Tryz.prog 9 #[.slice ao X.length cap, .slice ho H.length hc] w fun e w' => e = .returned (.int .i64 v) ∧ Below w.heap.size w w' := by
  have HD := Lib.hid (done_any X RP ao cap w hV hT hX.ch hX.fr hX.len hX.dl hX.kl)
  have HH := Lib.hid hH
  have HOK := Lib.hid hok
  have hln := hX.len
  have HOR := Lib.hid (show ∀ c ∈ X.map Rv.cmd, CmdOk c from fun c hc => by
    obtain ⟨x, hx, rfl⟩ := List.mem_map.1 hc
    exact (hV.ok x hx).cmd)
  have HRL := Lib.hid (show (X.map Rv.cmd).length = X.length by simp)
  have HPL := Lib.hid (show RP.length = X.length by rw [hX.fr.len]; simp)
  obtain ⟨R, hR⟩ : ∃ R, X.map Rv.cmd = R := ⟨_, rfl⟩
  rw [hR] at HD HOR HRL hv
  obtain ⟨n, hn⟩ : ∃ n, X.length = n := ⟨_, rfl⟩
  rw [hn] at HD HRL HPL hln ⊢
  have HV := Lib.hid hv
  clear hV hT hX hH hok hv hn hR
  go_enter Tryz.func9, Tryz.ntmps9
  go_wp2_with fail
  refine HD.out.mono ?_
  rintro e w1 ⟨ro, rc, po, pc, rfl, hro, hpo, hb1⟩
  have HR1 := Lib.hid (hro.view lRC)
  have HP1 := Lib.hid (hpo.view lRP)
  have HB1 := Lib.hid hb1
  have HH1 := Lib.hid (HH.out.below hb1)
  clear hro hpo hb1 HD
  obtain ⟨cb, hcb⟩ : ∃ cb, calledB R H = cb := ⟨_, rfl⟩
  have HCL := Lib.hid (called_n HRL.out HR1.out HH1.out (fun e he => (HOK.out e he).cmd) HOR.out (by omega) hcb)
  have HCB := Lib.hid hcb
  clear hcb
  cases cb with
  | false =>
    have HE := Lib.hid (show 4 = v by
      cases HV.out with
      | form _ => rfl
      | ans h _ _ => rw [HCB.out] at h; cases h
      | round h _ _ => rw [HCB.out] at h; cases h)
    go_wp2_with fail
    refine HCL.out.mono ?_
    rintro e w2 ⟨rfl, hb2⟩
    have HB2 := Lib.hid (HB1.out.trans (hb2.mono HB1.out.size))
    clear hb2 HCL
    go_wp2_with fail
    go_ret
    exact ⟨by rw [← HE.out]; rfl, HB2.out⟩
  | true =>
    obtain ⟨av, hav⟩ : ∃ av, ansF R RP H 0 = av := ⟨_, rfl⟩
    have HAV := Lib.hid hav
    go_wp2_with fail
    refine HCL.out.mono ?_
    rintro e w2 ⟨rfl, hb2⟩
    have HB2 := Lib.hid (HB1.out.trans (hb2.mono HB1.out.size))
    have HR2 := Lib.hid (HR1.out.below hb2)
    have HH2 := Lib.hid (HH1.out.below hb2)
    have HAN := Lib.hid (answered_n HRL.out HPL.out (HR1.out.below hb2) (HP1.out.below hb2) (HH1.out.below hb2) HOK.out HOR.out hav)
    clear hb2 HCL hav
    go_wp2_with fail
    refine HAN.out.mono ?_
    rintro e w3 ⟨rfl, hb3⟩
    have HB3 := Lib.hid (HB2.out.trans (hb3.mono HB2.out.size))
    have HR3 := Lib.hid (HR2.out.below hb3)
    have HH3 := Lib.hid (HH2.out.below hb3)
    clear hb3 HAN
    cases haz : (av != 0) with
    | true =>
      have HE := Lib.hid (show av = v by
        have h0 : av ≠ 0 := by simpa using haz
        cases HV.out with
        | form h => rw [HCB.out] at h; cases h
        | ans _ h2 _ => rw [← HAV.out]; exact h2
        | round _ h2 _ => rw [HAV.out] at h2; exact absurd h2 h0)
      go_wp2_with fail
      go_ret
      exact ⟨by rw [← HE.out]; rfl, HB3.out⟩
    | false =>
      have HZ := Lib.hid (show av = 0 by simpa using haz)
      obtain ⟨rb, hrb, hve⟩ : ∃ rb, RoundV R H rb ∧ v = (if rb then 9 else 0) := by
        cases HV.out with
        | form h => rw [HCB.out] at h; cases h
        | ans _ h2 h3 => rw [HAV.out, HZ.out] at h2; exact absurd h2.symm h3
        | round _ _ h => exact ⟨_, h, rfl⟩
      have HRD := Lib.hid (round_n HRL.out HR3.out HH3.out HOK.out HOR.out (by omega) hlh hrb)
      have HVE := Lib.hid hve
      clear hrb hve
      go_wp2_with fail
      refine HRD.out.mono ?_
      rintro e w4 ⟨rfl, hb4⟩
      have HB4 := Lib.hid (HB3.out.trans (hb4.mono HB3.out.size))
      clear hb4 HRD haz
      cases rb with
      | true =>
        go_wp2_with fail
        go_ret
        exact ⟨by rw [HVE.out]; rfl, HB4.out⟩
      | false =>
        go_wp2_with fail
        go_ret
        exact ⟨by rw [HVE.out]; rfl, HB4.out⟩
set_option maxRecDepth 100000 in
set_option maxHeartbeats 4000000 in
theorem row_any (X : List Rv) (RP : List Rep) (ao : Option Addr) (cap : Nat) (w : World) (hV : RecsV w ao cap X) (hT : TabsI w) (hX : RecsOk X RP) :
    Calls Tryz.prog 10 #[.slice ao X.length cap] w fun e w' => ∃ ro rc, e = .returned (.slice ro X.length rc) ∧ Below w.heap.size w w' := by
  have HD := Lib.hid (done_any X RP ao cap w hV hT hX.ch hX.fr hX.len hX.dl hX.kl)
  clear hV hT hX
  go_enter Tryz.func10, Tryz.ntmps10
  go_wp2_with fail
  refine HD.out.mono ?_
  rintro e w1 ⟨ro, rc, po, pc, rfl, hro, hpo, hb1⟩
  have HB1 := Lib.hid hb1
  clear hro hpo hb1 HD
  go_wp2_with fail
  go_ret
  exact ⟨ro, rc, rfl, HB1.out⟩
end Go.Proofs.YtkgjfagejnppbaaGreatDoor.X

/- The laws of check: plain: histories and records as the laws make them. -/
namespace Go.Proofs.YtkgjfagejnppbaaGreatDoor.X
open Go.RowKit Go.Proofs.YtkgjfagejnppbaaGreatDoor.M Go.BigFrame Go.Proofs.YtkgjfagejnppbaaGreatDoor.O Go.Proofs.YtkgjfagejnppbaaGreatDoor.P Go.Proofs.YtkgjfagejnppbaaGreatDoor.Mp Go.Proofs.YtkgjfagejnppbaaGreatDoor.Rw
set_option linter.unusedVariables false
set_option linter.unusedSimpArgs false

/-- a record as the laws make it -/
def mkR (i : O.Id) (c : Cmd) (deps : List O.Id) (ao : Option Addr) (cap : Nat) : Rv := ⟨i, 3, ⟨0, 0⟩, ⟨0, 0⟩, c, deps, 0, 2, ao, cap⟩
theorem mkR_good {i : O.Id} {c : Cmd} {deps : List O.Id} {ao : Option Addr} {cap : Nat} (h1 : idOk i = true) (h3 : P.chk c = 0) (h4 : setOk deps = true) (h5 : i ∉ deps) : goodR (mkR i c deps ao cap) = true := by
  have h6 : attrChk deps 0 2 = 0 := by
    unfold attrChk
    simp [h4]
    decide
  unfold goodR recOk headBad balBad restOk mkR
  simp only [h1, h3, h6]
  simp [h5]
  decide
def callE (c : Cmd) : Ev := ⟨1, 0, c, 0, 0, ⟨0, nul, 0⟩⟩
theorem callE_kind (c : Cmd) : ¬ (callE c).kind = 2 := by show ¬ (1 : Int) = 2; decide
def ansE (cl sq : Int) (r : Rep) : Ev := ⟨2, 0, cmd0, cl, sq, r⟩
theorem ansE_who (c : Cmd) (r : Rep) : (ansE c.client c.seq r).who = whoC c := rfl
/-- each command called, and answered, ahead of the next one -/
def evsR : List Cmd → List Rep → List Ev
  | c :: C, r :: RP => callE c :: ansE c.client c.seq r :: evsR C RP
  | _, _ => []
theorem evsR_len {C : List Cmd} : ∀ {RP : List Rep}, RP.length = C.length → (evsR C RP).length = 2 * C.length := by
  induction C with
  | nil => intro RP h; obtain rfl := List.length_eq_zero_iff.1 h; rfl
  | cons d C ih =>
    intro RP h
    cases RP with
    | nil => cases h
    | cons q RP =>
      show (evsR C RP).length + 1 + 1 = _
      rw [ih (by simpa using h), List.length_cons]
      omega
theorem evsR_get {C : List Cmd} : ∀ {RP : List Rep} {j : Nat} {e : Ev}, RP.length = C.length → (evsR C RP)[j]? = some e → ∃ c r, C[j / 2]? = some c ∧ RP[j / 2]? = some r ∧ ((j % 2 = 0 ∧ e = callE c) ∨ (j % 2 = 1 ∧ e = ansE c.client c.seq r)) := by
  induction C with
  | nil => intro RP j e h hj; obtain rfl := List.length_eq_zero_iff.1 h; simp [evsR] at hj
  | cons d C ih =>
    intro RP j e h hj
    cases RP with
    | nil => cases h
    | cons q RP =>
      match j, hj with
      | 0, hj => exact ⟨d, q, rfl, rfl, .inl ⟨rfl, (Option.some.inj hj).symm⟩⟩
      | 1, hj => exact ⟨d, q, rfl, rfl, .inr ⟨rfl, (Option.some.inj hj).symm⟩⟩
      | j + 2, hj =>
        obtain ⟨c, r, h1, h2, h3⟩ := ih (j := j) (by simpa using h) hj
        have e1 : (j + 2) / 2 = j / 2 + 1 := by omega
        have e2 : (j + 2) % 2 = j % 2 := by omega
        exact ⟨c, r, by rw [e1]; exact h1, by rw [e1]; exact h2, by rw [e2]; exact h3⟩
theorem evsR_call {C : List Cmd} : ∀ {RP : List Rep} {k : Nat} {c : Cmd}, RP.length = C.length → C[k]? = some c → (evsR C RP)[2 * k]? = some (callE c) := by
  induction C with
  | nil => intro RP k c h hk; simp at hk
  | cons d C ih =>
    intro RP k c h hk
    cases RP with
    | nil => cases h
    | cons q RP =>
      cases k with
      | zero => cases hk; rfl
      | succ k =>
        have := ih (RP := RP) (by simpa using h) (show C[k]? = some c from hk)
        have e1 : 2 * (k + 1) = 2 * k + 2 := by omega
        rw [e1]
        exact this
theorem evsR_ok {C : List Cmd} {RP : List Rep} (h : FreshAll C RP) {e : Ev} (he : e ∈ evsR C RP) : EvOk C RP e := by
  obtain ⟨j, hj⟩ := List.mem_iff_getElem?.1 he
  obtain ⟨c, r, h1, h2, h3 | h3⟩ := evsR_get h.len hj
  · left; rw [h3.2]; exact callE_kind c
  · right
    rw [h3.2]
    exact ⟨fresh_code (h.at_ _ c r h1 h2), j / 2, c, h1, rfl, h2⟩
/-- in order: linear -/
theorem linR_ok {C : List Cmd} {RP : List Rep} (h : FreshAll C RP) (hn : (C.map whoC).Nodup) : LinV C RP (evsR C RP) 0 := by
  refine lin_ok hn (fun c hc => ?_) (fun e he => evsR_ok h he) (fun i k hi hk hlt => ?_)
  · obtain ⟨k, hk⟩ := List.mem_iff_getElem?.1 hc
    exact ⟨_, List.mem_of_getElem? (evsR_call h.len hk), rfl, rfl⟩
  · have h1 : 2 * i + 1 ≤ anN C (evsR C RP) i := firstF_ge (by rw [evsR_len h.len]; omega) (fun j e hj he hq => by
      obtain ⟨c, r, g1, g2, g3 | g3⟩ := evsR_get h.len he
      · have := hq.1; rw [g3.2] at this; cases this
      · have h2 := hq.2.2
        rw [g3.2, ansE_who, at_hit hn g1 (List.getElem?_eq_some_iff.1 g1).1] at h2
        have := Option.some.inj h2
        omega) _
    obtain ⟨c, hc⟩ : ∃ c, C[k]? = some c := ⟨_, List.getElem?_eq_getElem hk⟩
    have h2 : caN C (evsR C RP) k ≤ 2 * k := firstF_le (evsR_call h.len hc) ⟨rfl, at_hit hn hc hk, hc⟩ (by rw [evsR_len h.len]; omega)
    omega
/-! CheckMore -/
def twiceR : List Cmd → List Rep → List Ev
  | c :: C, r :: RP => ansE c.client c.seq r :: ansE c.client c.seq r :: twiceR C RP
  | _, _ => []
/-- one more that hangs on all -/
theorem Chain.snoc {X : List Rv} (h : Chain X) {x : Rv} (hg : goodR x = true) (hd : x.deps = idsX X) (hn : x.id ∉ idsX X) : Chain (X ++ [x]) := by
  have e1 : idsX (X ++ [x]) = idsX X ++ [x.id] := List.map_append
  refine ⟨?_, fun y hy => ?_, fun i y hi d => ?_⟩
  · rw [e1]
    refine List.nodup_append.2 ⟨h.nd, by simp, fun a ha b hb => ?_⟩
    simp at hb
    subst hb
    exact fun e => hn (e ▸ ha)
  · rcases List.mem_append.1 hy with hy | hy
    · exact h.good y hy
    · rw [List.mem_singleton.1 hy]; exact hg
  · rw [e1]
    by_cases hl : i < X.length
    · rw [List.getElem?_append_left hl] at hi
      rw [h.dep i y hi d]
      refine exists_congr fun j => and_congr_right fun hj => ?_
      rw [List.getElem?_append_left (by simp; omega)]
    · have := (List.getElem?_eq_some_iff.1 hi).1
      rw [List.length_append, List.length_singleton] at this
      obtain rfl : i = X.length := by omega
      rw [List.getElem?_append_right (Nat.le_refl _)] at hi
      simp at hi
      subst hi
      rw [hd]
      constructor
      · intro hm
        obtain ⟨j, hj⟩ := List.mem_iff_getElem?.1 hm
        have hjl := (List.getElem?_eq_some_iff.1 hj).1
        exact ⟨j, by simpa using hjl, by rw [List.getElem?_append_left hjl]; exact hj⟩
      · rintro ⟨j, hj, hg⟩
        rw [List.getElem?_append_left (by simpa using hj)] at hg
        exact List.mem_of_getElem? hg
theorem Chain.nil : Chain [] := ⟨.nil, fun x h => (by cases h), fun i x h => by simp at h⟩
end Go.Proofs.YtkgjfagejnppbaaGreatDoor.X

/- The laws of check: the document's example. -/
namespace Go.Proofs.YtkgjfagejnppbaaGreatDoor.X
open Go.RowKit Go.Proofs.YtkgjfagejnppbaaGreatDoor.M Go.BigFrame Go.Proofs.YtkgjfagejnppbaaGreatDoor.O Go.Proofs.YtkgjfagejnppbaaGreatDoor.P Go.Proofs.YtkgjfagejnppbaaGreatDoor.Mp Go.Proofs.YtkgjfagejnppbaaGreatDoor.Rw
set_option linter.unusedVariables false
set_option linter.unusedSimpArgs false

/-- a row that was laid in a block of its own -/
theorem own_lit {α : Type} {S : RowS α} (hS : S.Law) {w : World} {B g : Nat} {cs : Array Value} {X : List α} (hg : w.heap[g]? = some (.cells cs S.e (0, 0))) (hc : cs.toList = X.flatMap S.enc) (hB : B ≤ g) (hn : X.length ≤ 1000000) : OwnG S w B (some ⟨g, 0, none⟩) X.length X := by
  have hl : cs.toList.length = X.length * S.k := by rw [hc]; exact Rw.flat_len S.enc S.k hS.len X
  refine ⟨?_, .inr ⟨g, X.length, cs, rfl, hB, hg, Nat.le_refl _, by unfold maxLen; omega, by simpa using hl, by rw [← hl, List.take_length, hc]⟩⟩
  exact Rw.flat_len S.enc S.k hS.len X
def xOne : Rv := mkR ⟨0, 1⟩ ex1 [] none 0
theorem idok_of {i : O.Id} (h1 : 0 ≤ i.r) (h2 : i.r ≤ 6) (h3 : 0 ≤ i.n) (h4 : i.n ≤ 1099511627776) : idOk i = true := idOk_iff.2 (by omega)
theorem fresh_one : FreshAll [ex1] [⟨0, nul, 1⟩] := by
  have h := FreshAll.snoc FreshAll.nil (c := ex1) (r := ⟨0, nul, 1⟩) (by
    show (sesDo ⟨[], []⟩ ex1).2 = _
    rw [sex_one])
  exact h
theorem one_ok : RecsOk [xOne] [⟨0, nul, 1⟩] := by
  have hg : goodR xOne = true := mkR_good (idok_of (by decide) (by decide) (by decide) (by decide)) chk_ex1 (by decide) (by simp)
  refine ⟨Chain.snoc Chain.nil hg rfl (by simp), fresh_one, by decide, fun x hx => ?_, fun x hx => ?_⟩
  · rw [List.mem_singleton.1 hx]; decide
  · rw [List.mem_singleton.1 hx]; decide
theorem nil_ok : RecsOk [] [] := ⟨Chain.nil, FreshAll.nil, by decide, fun x h => (by cases h), fun x h => (by cases h)⟩
theorem ex1_ok : CmdOk ex1 := by
  refine ⟨?_, ?_, ?_, ?_, ?_, ?_⟩ <;> first | (unfold InI ex1; decide) | (unfold ex1 maxLen; decide)
theorem xOne_ok (w : World) : RvOk w xOne := ⟨ex1_ok, ⟨⟨Nat.le_refl _, Nat.zero_le _⟩, fun _ => rfl, fun i x h => by simp [xOne, mkR] at h, fun d hd => by cases hd⟩, ⟨by unfold P.InI xOne mkR; decide, by unfold P.InI xOne mkR; decide⟩⟩
def hOne (rev : Int) : List Ev := [callE ex1, ansE 1 1 ⟨0, nul, rev⟩]
set_option maxRecDepth 100000 in
set_option maxHeartbeats 4000000 in
theorem one_any (rev : Int) (w : World) :
    Calls Tryz.prog 11 #[.int .i64 rev] w fun e w' => ∃ lo ho, e = .returned (.tuple #[.slice lo 1 1, .slice ho 2 2]) ∧ (RecsV w' lo 1 [xOne] ∧ RowV sRE w' ho 2 (hOne rev) ∧ Below w.heap.size w w') := by
  go_enter Tryz.func11, Tryz.ntmps11
  go_upto_region 3 with fail
  obtain ⟨W, hW⟩ : ∃ W, W = (w.alloc (.cells #[.int .i64 2, .int .i64 1, .int .i64 1, .string ⟨#[97]⟩, .string ⟨#[118]⟩, .int .i64 0] 30)).alloc (.cells #[.int .i64 0, .int .i64 1, .int .i64 3, .int .i64 0, .int .i64 0, .int .i64 0, .int .i64 0, .int .i64 2, .int .i64 1, .int .i64 1, .string ⟨#[97]⟩, .string ⟨#[118]⟩, .int .i64 0, .slice none 0 0, .int .i64 0, .int .i64 2] 43) := ⟨_, rfl⟩
  rw [← hW]
  have HB : Hid (Below w.heap.size w W) := Lib.hid (by rw [hW]; exact ((Below.refl _ _).alloc (Nat.le_refl _) _).alloc (by simp) _)
  have hc : W.heap[w.heap.size]? = some (.cells #[.int .i64 2, .int .i64 1, .int .i64 1, .string ⟨#[97]⟩, .string ⟨#[118]⟩, .int .i64 0] 30 (0, 0)) := by rw [hW, heap_al, if_neg (by simp)]; exact heap_alloc_new w _
  have HR : Hid (W.heap[w.heap.size + 1]? = some (.cells (recA xOne) 43 (0, 0))) := Lib.hid (by rw [hW, heap_al, if_pos (by simp)]; rfl)
  clear hW
  obtain ⟨⟨c0, c1, c2, c3, c4, c5⟩, _⟩ := box6 hc
  clear hc
  go_region
  all_goals
    go_wp2_with fail
    (try simp only [Exit.inBlock, Exit.then])
    refine bodyPost_ret (results_tmp2 rfl _ _ _) rfl ?_
    have HW2 := Lib.hid ((Below.refl W.heap.size W).alloc (Nat.le_refl _) (.cells ((hOne rev).flatMap evC).toArray 45))
    refine ⟨_, _, rfl, ?_, ?_, ?_⟩
    · refine recs_of (B := 0) (own_lit lRR (cs := recA xOne) (g := w.heap.size + 1) (X := [xOne]) ?_ rfl (Nat.zero_le _) (by decide)) (fun x hx => ?_)
      · exact (HW2.out.block _ (M.heap_lt HR.out)).trans HR.out
      · rw [List.mem_singleton.1 hx]; exact xOne_ok _
    · exact (own_lit (B := 0) lRE (cs := ((hOne rev).flatMap evC).toArray) (X := hOne rev) (heap_alloc_new W _) rfl (Nat.zero_le _) (by simp [hOne])).view lRE
    · first | exact HB.out.trans (HW2.out.mono HB.out.size) | exact HB.out.trans ((HW2.out.mono HB.out.size).drew)
theorem lin_nil : LinV [] [] [] 0 := .round (b := false) rfl rfl (round_no (fun i k h => by cases h))
theorem who_one : ([ex1].map whoC).Nodup := by simp
theorem code_one : ∀ rev : Int, (⟨0, nul, rev⟩ : Rep).code ≠ 14 := fun rev => by show (0 : Int) ≠ 14; decide
theorem lin_one : LinV [ex1] [⟨0, nul, 1⟩] (hOne 1) 0 := linR_ok fresh_one who_one
theorem lin_two : LinV [ex1] [⟨0, nul, 1⟩] (hOne 2) 10 := by
  refine .ans (called_of fun c hc => ⟨callE ex1, List.mem_cons_self, rfl, (List.mem_singleton.1 hc).symm⟩) ?_ (by decide)
  have hf := at_hit who_one (show [ex1][0]? = some ex1 from rfl) (show 0 < 1 by decide)
  have hl : lookD (atL [ex1] 1) (whoC ex1) 0 = 0 := by unfold lookD; rw [hf]; rfl
  have h := ansF_app who_one (RP := [⟨0, nul, 1⟩]) (H := [callE ex1]) (H2 := [ansE 1 1 ⟨0, nul, 2⟩]) (wr := 0) (fun e he => by rw [List.mem_singleton.1 he]; exact .inl (callE_kind _))
  refine h.trans ?_
  have hw : (ansE 1 1 ⟨0, nul, 2⟩).who = whoC ex1 := rfl
  unfold ansF
  rw [hw, if_neg (by decide), if_neg (fun h => code_one 2 h.1)]
  rw [if_neg (by
    rintro (h | h)
    · exact code_one 2 h
    · rw [findD_has, show [ex1].length = 1 from rfl, hf] at h; cases h)]
  rw [show [ex1].length = 1 from rfl, hl, if_pos (by
    intro h
    have h1 := congrArg Rep.rev (Option.some.inj h)
    exact absurd (show (1 : Int) = 2 from h1) (by decide))]
  rfl
theorem lin_non : LinV [] [] (hOne 1) 8 :=
  lin_none (H := [callE ex1]) (e := ansE 1 1 ⟨0, nul, 1⟩) .nil (fun c h => by cases h) (fun e he => by rw [List.mem_singleton.1 he]; exact .inl (callE_kind _)) rfl (code_one 1) (fun c h => by cases h)
theorem hOne_ok (rev : Int) (h : InI rev) : ∀ e ∈ hOne rev, EvOkM e := by
  intro e he
  have h0 : CmdOk cmd0 := by
    refine ⟨?_, ?_, ?_, ?_, ?_, ?_⟩ <;> first | (unfold InI cmd0; decide) | (unfold cmd0 maxLen; decide)
  rcases List.mem_cons.1 he with rfl | he
  · exact ⟨by unfold InI callE; decide, ex1_ok, by unfold InI callE; decide, by unfold InI callE; decide⟩
  · rw [List.mem_singleton.1 he]
    exact ⟨by show InI 2; unfold InI; decide, h0, by show InI 1; unfold InI; decide, by show InI 1; unfold InI; decide⟩
theorem recs_nil (w : World) : RecsV w none 0 [] := ⟨⟨Nat.le_refl _, Nat.zero_le _⟩, fun _ => rfl, fun i x h => by simp at h, fun x h => by cases h⟩
set_option maxRecDepth 100000 in
set_option maxHeartbeats 4000000 in
theorem cawake_any (w : World) (hT : TabsI w) :
    Calls Tryz.prog 6 #[] w fun e w' => e = .returned (.bool true) ∧ Below w.heap.size w w' := by
  have HT := Lib.hid hT
  clear hT
  go_enter Tryz.func6, Tryz.ntmps6
  go_wp2_with fail
  refine (one_any 1 w).mono ?_
  rintro e w1 ⟨lo, ho, rfl, hl1, hh1, hb1⟩
  have HL1 := Lib.hid hl1
  have HH1 := Lib.hid hh1
  have HB1 := Lib.hid hb1
  clear hl1 hh1 hb1
  go_wp2_with fail
  refine (one_any 2 w1).mono ?_
  rintro e w2 ⟨lo2, ho2, rfl, hl2, hh2, hb2⟩
  have HB2 := Lib.hid (HB1.out.trans (hb2.mono HB1.out.size))
  have HL2 := Lib.hid (HL1.out.below hb2)
  have HH2 := Lib.hid (HH1.out.below hb2)
  have HG2 := Lib.hid hh2
  clear hl2 hh2 hb2 HL1 HH1
  have HN := Lib.hid (show Calls Tryz.prog 9 #[.slice none 0 0, .slice none 0 0] w2 fun e w' => e = .returned (.int .i64 0) ∧ Below w2.heap.size w2 w' from
    linear_any [] [] [] none none 0 0 w2 (recs_nil w2) (HT.out.next HB2.out) nil_ok (RowV.nil _ _) (fun e h => by cases h) (by decide) 0 lin_nil)
  go_wp2_with fail
  refine HN.out.mono ?_
  rintro e w3 ⟨rfl, hb3⟩
  have HB3 := Lib.hid (HB2.out.trans (hb3.mono HB2.out.size))
  have HL3 := Lib.hid (HL2.out.below hb3)
  have HH3 := Lib.hid (HH2.out.below hb3)
  have HG3 := Lib.hid (HG2.out.below hb3)
  clear hb3 HL2 HH2 HG2 HN
  have HN := Lib.hid (show Calls Tryz.prog 9 #[.slice lo 1 1, .slice ho 2 2] w3 fun e w' => e = .returned (.int .i64 0) ∧ Below w3.heap.size w3 w' from
    linear_any [xOne] [⟨0, nul, 1⟩] (hOne 1) lo ho 1 2 w3 HL3.out (HT.out.next HB3.out) one_ok HH3.out (hOne_ok 1 (by unfold InI; decide)) (by decide) 0 lin_one)
  go_wp2_with fail
  refine HN.out.mono ?_
  rintro e w4 ⟨rfl, hb4⟩
  have HB4 := Lib.hid (HB3.out.trans (hb4.mono HB3.out.size))
  have HL4 := Lib.hid (HL3.out.below hb4)
  have HH4 := Lib.hid (HH3.out.below hb4)
  have HG4 := Lib.hid (HG3.out.below hb4)
  clear hb4 HL3 HH3 HG3 HN
  have HN := Lib.hid (show Calls Tryz.prog 9 #[.slice lo 1 1, .slice ho2 2 2] w4 fun e w' => e = .returned (.int .i64 10) ∧ Below w4.heap.size w4 w' from
    linear_any [xOne] [⟨0, nul, 1⟩] (hOne 2) lo ho2 1 2 w4 HL4.out (HT.out.next HB4.out) one_ok HG4.out (hOne_ok 2 (by unfold InI; decide)) (by decide) 10 lin_two)
  go_wp2_with fail
  refine HN.out.mono ?_
  rintro e w5 ⟨rfl, hb5⟩
  have HB5 := Lib.hid (HB4.out.trans (hb5.mono HB4.out.size))
  have HL5 := Lib.hid (HL4.out.below hb5)
  have HH5 := Lib.hid (HH4.out.below hb5)
  clear hb5 HL4 HH4 HG4 HN
  have HN := Lib.hid (show Calls Tryz.prog 9 #[.slice none 0 0, .slice ho 2 2] w5 fun e w' => e = .returned (.int .i64 8) ∧ Below w5.heap.size w5 w' from
    linear_any [] [] (hOne 1) none ho 0 2 w5 (recs_nil w5) (HT.out.next HB5.out) nil_ok HH5.out (hOne_ok 1 (by unfold InI; decide)) (by decide) 8 lin_non)
  go_wp2_with fail
  refine HN.out.mono ?_
  rintro e w6 ⟨rfl, hb6⟩
  have HB6 := Lib.hid (HB5.out.trans (hb6.mono HB5.out.size))
  have HL6 := Lib.hid (HL5.out.below hb6)
  clear hb6 HL5 HH5 HN
  have HN := Lib.hid (show Calls Tryz.prog 10 #[.slice lo 1 1] w6 fun e w' => ∃ ro rc, e = .returned (.slice ro 1 rc) ∧ Below w6.heap.size w6 w' from
    row_any [xOne] [⟨0, nul, 1⟩] lo 1 w6 HL6.out (HT.out.next HB6.out) one_ok)
  go_wp2_with fail
  refine HN.out.mono ?_
  rintro e w7 ⟨ro, rc, rfl, hb7⟩
  have HB7 := Lib.hid (HB6.out.trans (hb7.mono HB6.out.size))
  clear hb7 HN
  go_wp2_with fail
  go_ret
  exact ⟨rfl, HB7.out⟩
end Go.Proofs.YtkgjfagejnppbaaGreatDoor.X

/- CheckTime: plain, and the walk. -/
namespace Go.Proofs.YtkgjfagejnppbaaGreatDoor.X
open Go.RowKit Go.Proofs.YtkgjfagejnppbaaGreatDoor.M Go.BigFrame Go.Proofs.YtkgjfagejnppbaaGreatDoor.O Go.Proofs.YtkgjfagejnppbaaGreatDoor.P Go.Proofs.YtkgjfagejnppbaaGreatDoor.Mp Go.Proofs.YtkgjfagejnppbaaGreatDoor.Rw
set_option linter.unusedVariables false
set_option linter.unusedSimpArgs false

def tc : Cmd := ⟨2, 1, 1, ⟨#[107]⟩, ⟨#[120]⟩, 0⟩
def td : Cmd := ⟨2, 2, 1, ⟨#[107]⟩, ⟨#[121]⟩, 0⟩
def cC (a : Int) : Ev := ⟨1, a, tc, 0, 0, ⟨0, nul, 0⟩⟩
def cD (a : Int) : Ev := ⟨1, a, td, 0, 0, ⟨0, nul, 0⟩⟩
def aC (a : Int) : Ev := ⟨2, a, cmd0, 1, 1, ⟨0, nul, 1⟩⟩
def aD (a : Int) : Ev := ⟨2, a, cmd0, 2, 1, ⟨0, nul, 2⟩⟩
def RP2 : List Rep := [⟨0, nul, 1⟩, ⟨0, nul, 2⟩]
theorem chk_tc : chk tc = 0 := by decide +kernel
theorem chk_td : chk td = 0 := by decide +kernel
theorem do_tc : appDo [] tc = ([⟨⟨#[107]⟩, ⟨#[120]⟩, 1⟩], ⟨0, nul, 1⟩) := by
  unfold appDo
  rw [if_pos chk_tc]
  rfl
theorem do_td : (appDo [⟨⟨#[107]⟩, ⟨#[120]⟩, 1⟩] td).2 = ⟨0, nul, 2⟩ := by
  unfold appDo
  rw [if_pos chk_td]
  rfl
theorem ses_tc : sesDo ⟨[], []⟩ tc = (⟨[⟨⟨#[107]⟩, ⟨#[120]⟩, 1⟩], [⟨1, 1, ⟨0, nul, 1⟩⟩]⟩, ⟨0, nul, 1⟩, true) := by
  unfold sesDo
  rw [if_neg (by rw [chk_tc]; decide), if_neg (by decide), if_neg (by decide), if_neg (by decide)]
  unfold sesNew
  rw [do_tc]
  rfl
theorem ses_td : (sesDo ⟨[⟨⟨#[107]⟩, ⟨#[120]⟩, 1⟩], [⟨1, 1, ⟨0, nul, 1⟩⟩]⟩ td).2 = (⟨0, nul, 2⟩, true) := by
  unfold sesDo
  rw [if_neg (by rw [chk_td]; decide), if_neg (by decide), if_neg (by decide), if_neg (by decide), do_td]
theorem fresh_two : FreshAll [tc, td] RP2 := by
  have h1 := FreshAll.snoc FreshAll.nil (c := tc) (r := ⟨0, nul, 1⟩) (by
    show (sesDo ⟨[], []⟩ tc).2 = _
    rw [ses_tc])
  exact FreshAll.snoc h1 (c := td) (r := ⟨0, nul, 2⟩) (by
    show (sesDo (sesDo ⟨[], []⟩ tc).1 td).2 = _
    rw [ses_tc]
    exact ses_td)
theorem who_two : ([tc, td].map whoC).Nodup := by decide
theorem at_c : findD (atL [tc, td] 2) (whoC tc) = some 0 := at_hit who_two (show [tc, td][0]? = some tc from rfl) (by decide)
theorem at_d : findD (atL [tc, td] 2) (whoC td) = some 1 := at_hit who_two (show [tc, td][1]? = some td from rfl) (by decide)
theorem tc_ne : tc ≠ td := fun h => absurd (congrArg Cmd.client h) (by decide)
theorem hit_cC (a : Int) : hitC [tc, td] (cC a) 0 := ⟨rfl, at_c, rfl⟩
theorem hit_cD (a : Int) : hitC [tc, td] (cD a) 1 := ⟨rfl, at_d, rfl⟩
theorem hit_aD (a : Int) : hitA [tc, td] (aD a) 1 := ⟨rfl, code_one 2, at_d⟩
theorem noA {e : Ev} (h : e.kind = 1) (i : Nat) : ¬ hitA [tc, td] e i := fun hq => by have := hq.1; rw [h] at this; cases this
theorem noC {e : Ev} (h : e.kind = 2) (i : Nat) : ¬ hitC [tc, td] e i := fun hq => by have := hq.1; rw [h] at this; cases this
theorem cD_no (a : Int) : ¬ hitC [tc, td] (cD a) 0 := fun hq => tc_ne (Option.some.inj hq.2.2)
theorem aC_no (a : Int) : ¬ hitA [tc, td] (aC a) 1 := fun hq => by
  have h := hq.2.2
  rw [show (aC a).who = whoC tc from rfl, show [tc, td].length = 2 from rfl, at_c] at h
  have := Option.some.inj h
  omega
theorem ev_oks {a : Int} : EvOk [tc, td] RP2 (cC a) ∧ EvOk [tc, td] RP2 (cD a) ∧ EvOk [tc, td] RP2 (aC a) ∧ EvOk [tc, td] RP2 (aD a) :=
  ⟨.inl (by show ¬ (1 : Int) = 2; decide), .inl (by show ¬ (1 : Int) = 2; decide), .inr ⟨code_one 1, 0, tc, rfl, rfl, rfl⟩, .inr ⟨code_one 2, 1, td, rfl, rfl, rfl⟩⟩
theorem time_both (a b : Int) : LinV [tc, td] RP2 [cD b, cC a, aD b, aC a] 0 := by
  refine lin_ok who_two (fun c hc => ?_) (fun e he => ?_) (fun i k hi hk hlt => ?_)
  · rcases List.mem_cons.1 hc with rfl | hc
    · exact ⟨cC a, by simp, rfl, rfl⟩
    · rw [List.mem_singleton.1 hc]; exact ⟨cD b, by simp, rfl, rfl⟩
  · have h1 := @ev_oks a
    have h2 := @ev_oks b
    simp only [List.mem_cons, List.not_mem_nil, or_false] at he
    rcases he with rfl | rfl | rfl | rfl
    · exact h2.2.1
    · exact h1.1
    · exact h2.2.2.2
    · exact h1.2.2.1
  · exfalso
    have h1 : 2 ≤ anN [tc, td] [cD b, cC a, aD b, aC a] i := firstF_ge (by simp) (fun j e hj he => by
      match j, he with
      | 0, he => cases he; exact noA rfl i
      | 1, he => cases he; exact noA rfl i
      | j + 2, _ => omega) _
    have h2 : caN [tc, td] [cD b, cC a, aD b, aC a] k ≤ 1 := by
      match k, hk with
      | 0, _ => exact firstF_le (j := 1) rfl (hit_cC a) (by simp)
      | 1, _ => exact Nat.le_trans (firstF_le (j := 0) rfl (hit_cD b) (by simp)) (by decide)
      | k + 2, hk => simp at hk; omega
    omega
theorem time_order (a b : Int) : LinV [tc, td] RP2 [cC a, aC a, cD b, aD b] 0 := by
  refine lin_ok who_two (fun c hc => ?_) (fun e he => ?_) (fun i k hi hk hlt => ?_)
  · rcases List.mem_cons.1 hc with rfl | hc
    · exact ⟨cC a, by simp, rfl, rfl⟩
    · rw [List.mem_singleton.1 hc]; exact ⟨cD b, by simp, rfl, rfl⟩
  · have h1 := @ev_oks a
    have h2 := @ev_oks b
    simp only [List.mem_cons, List.not_mem_nil, or_false] at he
    rcases he with rfl | rfl | rfl | rfl
    · exact h1.1
    · exact h1.2.2.1
    · exact h2.2.1
    · exact h2.2.2.2
  · have h1 : 1 ≤ anN [tc, td] [cC a, aC a, cD b, aD b] i := firstF_ge (by simp) (fun j e hj he => by
      match j, he with
      | 0, he => cases he; exact noA rfl i
      | j + 1, _ => omega) _
    match k, hk with
    | 0, _ =>
      have : caN [tc, td] [cC a, aC a, cD b, aD b] 0 ≤ 0 := firstF_le (j := 0) rfl (hit_cC a) (by simp)
      omega
    | 1, _ =>
      match i, hi with
      | 0, _ => decide
      | 1, _ =>
        have h3 : 3 ≤ anN [tc, td] [cC a, aC a, cD b, aD b] 1 := firstF_ge (by simp) (fun j e hj he => by
          match j, he with
          | 0, he => cases he; exact noA rfl 1
          | 1, he => cases he; exact aC_no a
          | 2, he => cases he; exact noA rfl 1
          | j + 3, _ => omega) _
        have h4 : caN [tc, td] [cC a, aC a, cD b, aD b] 1 ≤ 2 := firstF_le (j := 2) rfl (hit_cD b) (by simp)
        omega
      | i + 2, hi => simp at hi; omega
    | k + 2, hk => simp at hk; omega
theorem time_round (a b : Int) : LinV [tc, td] RP2 [cD b, aD b, cC a, aC a] 9 := by
  refine .round (b := true) (called_of fun c hc => ?_) (ansF_ok who_two fun e he => ?_) (round_yes (i := 0) (k := 1) (by decide) (by decide) ?_ ?_)
  · rcases List.mem_cons.1 hc with rfl | hc
    · exact ⟨cC a, by simp, rfl, rfl⟩
    · rw [List.mem_singleton.1 hc]; exact ⟨cD b, by simp, rfl, rfl⟩
  · have h1 := @ev_oks a
    have h2 := @ev_oks b
    simp only [List.mem_cons, List.not_mem_nil, or_false] at he
    rcases he with rfl | rfl | rfl | rfl
    · exact h2.2.1
    · exact h2.2.2.2
    · exact h1.1
    · exact h1.2.2.1
  · unfold edgeB
    rw [show meet ([tc, td].getD 0 ⟨0, 0, 0, nul, nul, 0⟩) ([tc, td].getD 1 ⟨0, 0, 0, nul, nul, 0⟩) = true by decide +kernel]
    rfl
  · have h1 : anN [tc, td] [cD b, aD b, cC a, aC a] 1 ≤ 1 := firstF_le (j := 1) rfl (hit_aD b) (by simp)
    have h2 : 2 ≤ caN [tc, td] [cD b, aD b, cC a, aC a] 0 := firstF_ge (by simp) (fun j e hj he => by
      match j, he with
      | 0, he => cases he; exact cD_no b
      | 1, he => cases he; exact noC rfl 0
      | j + 2, _ => omega) _
    unfold edgeB
    rw [decide_eq_true (show anN [tc, td] [cD b, aD b, cC a, aC a] 1 < caN [tc, td] [cD b, aD b, cC a, aC a] 0 by omega)]
    simp
def tA : Rv := mkR ⟨0, 1⟩ tc [] none 0
def tB (g : Nat) : Rv := mkR ⟨1, 1⟩ td [⟨0, 1⟩] (some ⟨g, 0, none⟩) 1
theorem two_ok (g : Nat) : RecsOk [tA, tB g] RP2 := by
  have g1 : goodR tA = true := mkR_good (idok_of (by decide) (by decide) (by decide) (by decide)) chk_tc (by decide) (by simp)
  have g2 : goodR (tB g) = true := mkR_good (idok_of (by decide) (by decide) (by decide) (by decide)) chk_td (by decide) (by decide)
  have c1 : Chain [tA] := Chain.snoc Chain.nil g1 rfl (by simp)
  refine ⟨Chain.snoc c1 g2 rfl (by show (⟨1, 1⟩ : O.Id) ∉ [(⟨0, 1⟩ : O.Id)]; decide), fresh_two, by show 2 ≤ 20; decide, fun x hx => ?_, fun x hx => ?_⟩
  · rcases List.mem_cons.1 hx with rfl | hx
    · decide
    · rw [List.mem_singleton.1 hx]; show 1 ≤ 10000; decide
  · rcases List.mem_cons.1 hx with rfl | hx
    · decide
    · rw [List.mem_singleton.1 hx]; show (1 : Nat) ≤ 1000000; decide
end Go.Proofs.YtkgjfagejnppbaaGreatDoor.X
