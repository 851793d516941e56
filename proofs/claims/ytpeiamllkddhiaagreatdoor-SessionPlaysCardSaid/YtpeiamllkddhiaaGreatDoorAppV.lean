/- The program's settings: Do. -/
import Derived.Test.YtpeiamllkddhiaaGreatDoorAppT
import Derived.Test.YtpeiamllkddhiaaGreatDoorAppE
import Derived.Laws.EntriesVeiled
import Derived.Deep.WholeRow
namespace Go.Proofs.YtpeiamllkddhiaaGreatDoor.P
open Go.RowKit Go.Proofs.YtpeiamllkddhiaaGreatDoor.R Go.Proofs.YtpeiamllkddhiaaGreatDoor.M Go.BigFrame Go.Maps
set_option linter.unusedVariables false
set_option linter.unusedSimpArgs false

theorem check_v (c : Cmd) (w : World) (hT : Tabs w) (hs : c.key.size ≤ 1000000) (v : Int) (hv : chk c = v) :
    Calls Tryz.prog 20 #[cmdV c] w fun e w' => e = .returned (.int .i64 v) ∧ Below w.heap.size w w' := by subst hv; exact check_any c w hT hs
theorem box7 {w : World} {b : Nat} {v0 v1 v2 v3 v4 v5 v6 : Value} {T : TypeId} (h : w.heap[b]? = some (.cells #[v0, v1, v2, v3, v4, v5, v6] T (0, 0))) :
    w.cell? ⟨b, 0, none⟩ = some v0 ∧ w.cell? ⟨b, 1, none⟩ = some v1 ∧ w.cell? ⟨b, 2, none⟩ = some v2 ∧ w.cell? ⟨b, 3, none⟩ = some v3 ∧ w.cell? ⟨b, 4, none⟩ = some v4 ∧ w.cell? ⟨b, 5, none⟩ = some v5 ∧ w.cell? ⟨b, 6, none⟩ = some v6 :=
  ⟨cell_of_row w b 0 _ _ _ h, cell_of_row w b 1 _ _ _ h, cell_of_row w b 2 _ _ _ h, cell_of_row w b 3 _ _ _ h, cell_of_row w b 4 _ _ _ h, cell_of_row w b 5 _ _ _ h, cell_of_row w b 6 _ _ _ h⟩
set_option maxRecDepth 100000 in
set_option maxHeartbeats 2000000 in
theorem do_bad (p b n : Nat) (A : List Ent) (c : Cmd) (w : World) (hT : TabsI w) (hs : c.key.size ≤ 1000000) (v : Int) (hv : chk c = v) (h0 : v ≠ 0) :
    Calls Tryz.prog 15 #[.pointer (some ⟨p, 0, none⟩), cmdV c] w fun e w' => e = .returned (repV ⟨v, nul, 0⟩) ∧ Below w.heap.size w w' := by
  have HT := Lib.hid hT
  have HCK := Lib.hid (fun W (hT : Tabs W) => check_v c W hT hs v hv)
  have e0 : (v != 0) = true := by rw [bne_iff_ne]; exact h0
  clear hT hv h0
  go_enter Tryz.func15, Tryz.ntmps15
  go_upto_region 1 with fail
  obtain ⟨W, hW⟩ : ∃ W, W = (w.alloc (.cells (cmdA c) 38)).alloc (.cells #[.int .i64 0, .string ⟨#[]⟩, .int .i64 0] 33) := ⟨_, rfl⟩
  rw [← hW]
  have HD : Hid (DoAt c w W) := Lib.hid (by rw [hW]; exact doAt_start c w)
  clear hW
  obtain ⟨⟨c0, c1, c2, c3, c4, c5⟩, _⟩ := box6 HD.out.cb
  have HTW := Lib.hid (HT.out.next HD.out.bel)
  go_wp2_with fail
  refine (HCK.out _ HTW.out.t).mono ?_
  rintro e w1 ⟨rfl, hb1⟩
  have HD1 := Lib.hid (HD.out.next hb1)
  clear c0 c1 c2 c3 c4 c5 hb1
  obtain ⟨⟨d0, d1, d2⟩, fd, sd⟩ := box3 HD1.out.rb
  go_wp2_with fail
  refine ret_box (w.heap.size + 1) #[.int .i64 v, .string nul, .int .i64 0] 33 (.agg #[.int .i64 v, .string nul, .int .i64 0]) ?_ (fun W' h => ?_) rfl ?_
  · exact set3 HD1.out.rb
  · obtain ⟨⟨r0, r1, r2⟩, _, _⟩ := box3 h
    simp [results, Tryz.results15, go_sem, r0, r1, r2]
  · exact ⟨rfl, set3_below (by omega) HD1.out.bel⟩
def deedF (k : Nat) : FuncId := if k = 1 then 28 else if k = 2 then 29 else if k = 3 then 30 else if k = 4 then 31 else if k = 5 then 32 else 27
theorem deed_at {w : World} {b : Nat} {T : TypeId} (h : w.heap[b]? = some (.cells #[.func (.func 27) #[] #[], .func (.func 28) #[] #[], .func (.func 29) #[] #[], .func (.func 30) #[] #[], .func (.func 31) #[] #[], .func (.func 32) #[] #[], .func (.func 27) #[] #[]] T (0, 0))) {k : Nat} (hk : k ≤ 6) :
    w.cell? ⟨b, k, none⟩ = some (.func (.func (deedF k)) #[] #[]) := by
  obtain ⟨f0, f1, f2, f3, f4, f5, f6⟩ := box7 h
  rcases (by omega : k = 0 ∨ k = 1 ∨ k = 2 ∨ k = 3 ∨ k = 4 ∨ k = 5 ∨ k = 6) with rfl | rfl | rfl | rfl | rfl | rfl | rfl
  · exact f0
  · exact f1
  · exact f2
  · exact f3
  · exact f4
  · exact f5
  · exact f6
theorem call_enter {f : FuncId} {fn : Func} (hf : Tryz.prog.funcs[f]? = some fn) (h1 : (fn.name == "runtime.NumGoroutine") = false) (h2 : fn.body.isNone = false) (args : Array Value) (w : World) :
    (callFunc f args).run Tryz.prog w = .ok (.enter f args) w := by
  unfold callFunc
  simp only [Sem.run_bind, Result.andThen]
  rw [show Sem.run Tryz.prog program w = .ok Tryz.prog w from rfl]
  simp only [hf, h1, h2, Bool.false_eq_true, if_false, Sem.run_pure]
theorem deed_enter {k : Nat} (hk : k ≤ 6) (args : Array Value) (w : World) : (callFunc (deedF k) args).run Tryz.prog w = .ok (.enter (deedF k) args) w := by
  rcases (by omega : k = 0 ∨ k = 1 ∨ k = 2 ∨ k = 3 ∨ k = 4 ∨ k = 5 ∨ k = 6) with rfl | rfl | rfl | rfl | rfl | rfl | rfl
  · exact call_enter Tryz.func27 (by kernel_rfl) (by kernel_rfl) args w
  · exact call_enter Tryz.func28 (by kernel_rfl) (by kernel_rfl) args w
  · exact call_enter Tryz.func29 (by kernel_rfl) (by kernel_rfl) args w
  · exact call_enter Tryz.func30 (by kernel_rfl) (by kernel_rfl) args w
  · exact call_enter Tryz.func31 (by kernel_rfl) (by kernel_rfl) args w
  · exact call_enter Tryz.func32 (by kernel_rfl) (by kernel_rfl) args w
  · exact call_enter Tryz.func27 (by kernel_rfl) (by kernel_rfl) args w
set_option maxRecDepth 100000 in
set_option maxHeartbeats 2000000 in
theorem do_ok (p b n m k : Nat) (A B : List Ent) (c : Cmd) (R : Rep) (F : FuncId) (w : World) (h : AppAt w p b n A) (hT : TabsI w) (hs : c.key.size ≤ 1000000) (hz : chk c = 0) (hk : c.kind = (k : Int)) (hk6 : k ≤ 6) (hF : deedF k = F)
    (HC : ∀ W, AppAt W p b n A → TabsI W → Calls Tryz.prog F #[.pointer (some ⟨p, 0, none⟩), cmdV c] W fun e w' => e = .returned (repV R) ∧ (AppAt w' p b m B ∧ Mods (fun k => k = b) W w')) :
    Calls Tryz.prog 15 #[.pointer (some ⟨p, 0, none⟩), cmdV c] w fun e w' => e = .returned (repV R) ∧ (AppAt w' p b m B ∧ Mods (fun k => k = b) w w') := by
  have HH := Lib.hid h
  have HT := Lib.hid hT
  have HCC := Lib.hid HC
  have HK := Lib.hid hk
  have HFF := Lib.hid hF
  have hcf := @deed_enter k hk6
  rw [hF] at hcf
  have HCK := Lib.hid (fun W (hT : Tabs W) => check_v c W hT hs 0 hz)
  clear h hT HC hz hk hF
  go_enter Tryz.func15, Tryz.ntmps15
  go_upto_region 1 with fail
  obtain ⟨W, hW⟩ : ∃ W, W = (w.alloc (.cells (cmdA c) 38)).alloc (.cells #[.int .i64 0, .string ⟨#[]⟩, .int .i64 0] 33) := ⟨_, rfl⟩
  rw [← hW]
  have HD : Hid (DoAt c w W) := Lib.hid (by rw [hW]; exact doAt_start c w)
  clear hW
  have HA := Lib.hid (HH.out.below HD.out.bel)
  have hzp := HA.out.plt
  have hzc : w.heap.size < W.heap.size := M.heap_lt HD.out.cb
  obtain ⟨⟨c0, c1, c2, c3, c4, c5⟩, _⟩ := box6 HD.out.cb
  have HTW := Lib.hid (HT.out.next HD.out.bel)
  clear hzp hzc
  go_wp2_with fail
  refine (HCK.out _ HTW.out.t).mono ?_
  rintro e w1 ⟨rfl, hb1⟩
  have HD1 := Lib.hid (HD.out.next hb1)
  have HA1 := Lib.hid (HA.out.below hb1)
  have HT1 := Lib.hid (HTW.out.next hb1)
  clear c0 c1 c2 c3 c4 c5 hb1
  go_upto_region 5 with fail
  obtain ⟨w2, hw2⟩ : ∃ w2, w2 = w1.alloc (.cells #[.func (.func 27) #[] #[], .func (.func 28) #[] #[], .func (.func 29) #[] #[], .func (.func 30) #[] #[], .func (.func 31) #[] #[], .func (.func 32) #[] #[], .func (.func 27) #[] #[]] 71) := ⟨_, rfl⟩
  rw [← hw2]
  have hb2 : Below w1.heap.size w1 w2 := by rw [hw2]; exact (Below.refl _ _).alloc (Nat.le_refl _) _
  have hx2 := deed_at (w := w2) (b := w1.heap.size) (T := 71) (by rw [hw2]; exact heap_alloc_new w1 _) hk6
  rw [HFF.out] at hx2
  have HD2 := Lib.hid (HD1.out.next hb2)
  have HA2 := Lib.hid (HA1.out.below hb2)
  have HT2 := Lib.hid (HT1.out.next hb2)
  obtain ⟨⟨c0, c1, c2, c3, c4, c5⟩, _⟩ := box6 HD2.out.cb
  rw [HK.out] at c0
  have hcv : cmdV c = .agg #[.int .i64 (k : Int), .int .i64 c.client, .int .i64 c.seq, .string c.key, .string c.val, .int .i64 c.rev] := by unfold cmdV; rw [HK.out]
  have HCD := Lib.hid (HCC.out (w2.drew) (HA2.out.below (below_drawn w2)) (HT2.out.next (below_drawn w2)))
  rw [hcv] at HCD
  have hk7 : (k : Int) < 7 := by omega
  have hk7n : k < 7 := by omega
  clear hw2 hb2 hcv
  go_still_tail 6, (by kernel_rfl)
  go_wp2_with fail
  refine HCD.out.mono ?_
  rintro e w5 ⟨rfl, hA5, hM5⟩
  have hbw := HH.out.blt
  have hpw := HH.out.plt
  have hM : Mods (fun k => k = b) w w5 := (Mods.of_below (HD2.out.bel.trans ((below_drawn w2).mono HD2.out.bel.size))).trans hM5
  have hrb : w5.heap[w.heap.size + 1]? = _ := hM5.heap (HD2.out.next (below_drawn w2)).rb (by omega)
  obtain ⟨⟨d0, d1, d2⟩, fd, sd⟩ := box3 hrb
  have HM := Lib.hid hM
  have HRB := Lib.hid hrb
  have HA5 := Lib.hid hA5
  clear hM5 hM hrb hA5 c0 c1 c2 c3 c4 c5 hx2 HCD
  go_wp2_with fail
  refine ret_box (w.heap.size + 1) #[.int .i64 R.code, .string R.val, .int .i64 R.rev] 33 (.agg #[.int .i64 R.code, .string R.val, .int .i64 R.rev]) ?_ (fun W' h => ?_) rfl ?_
  · exact set3 HRB.out
  · obtain ⟨⟨r0, r1, r2⟩, _, _⟩ := box3 h
    simp [results, Tryz.results15, go_sem, r0, r1, r2]
  · exact ⟨rfl, HA5.out.set3 (by omega) (by omega), mods_set3 HM.out (by omega)⟩
/-- THE CONTRACT OF Do. -/
theorem do_any (p b n : Nat) (A : List Ent) (c : Cmd) (w : World) (h : AppAt w p b n A) (hG : Good n A) (hn : n ≤ 90000) (hT : TabsI w) (hs : c.key.size ≤ 1000000) :
    Calls Tryz.prog 15 #[.pointer (some ⟨p, 0, none⟩), cmdV c] w fun e w' => e = .returned (repV (appDo A c).2) ∧ (AppAt w' p b (n + 1) (appDo A c).1 ∧ Mods (fun k => k = b) w w') := by
  have keep : ∀ {W w' : World}, AppAt W p b n A → Below W.heap.size W w' → (AppAt w' p b (n + 1) A ∧ Mods (fun k => k = b) W w') := fun h hb =>
    ⟨(h.below hb).mono (by omega), (Mods.of_below hb)⟩
  by_cases hz : chk c = 0
  · have he : appDo A c = act A c := by unfold appDo; rw [if_pos hz]
    rw [he]
    have hrv := hG.rev c.key
    have hk := formBad_kind (chk_good hz).1
    rcases (by omega : c.kind = 0 ∨ c.kind = 1 ∨ c.kind = 2 ∨ c.kind = 3 ∨ c.kind = 4 ∨ c.kind = 5 ∨ c.kind = 6) with k | k | k | k | k | k | k
    · have e : act A c = (A, Rep.zero) := by unfold act; rw [if_neg (by omega), if_neg (by omega), if_neg (by omega), if_neg (by omega), if_neg (by omega)]
      rw [e]
      exact do_ok p b n (n + 1) 0 A A c ⟨0, nul, 0⟩ _ w h hT hs hz k (by decide) rfl fun W hW hTW => (none_any c _ W).mono fun e w' hh => ⟨hh.1, keep hW hh.2⟩
    · have e : act A c = (A, getR A c.key) := by
        unfold act; rw [if_pos k]; unfold getR getO
        cases look A c.key <;> rfl
      rw [e]
      exact do_ok p b n (n + 1) 1 A A c _ _ w h hT hs hz k (by decide) rfl fun W hW hTW => (get_any p b n A c W hW hs _ rfl).mono fun e w' hh => ⟨hh.1, keep hW hh.2⟩
    · have e : act A c = (put A ⟨c.key, c.val, revOf A c.key + 1⟩, ⟨0, nul, revOf A c.key + 1⟩) := by unfold act; rw [if_neg (by omega), if_neg (by omega), if_pos k]
      rw [e]
      exact do_ok p b n (n + 1) 2 A _ c _ _ w h hT hs hz k (by decide) rfl fun W hW hTW => put_any p b n A c W hW (by omega) hG.srt hs _ rfl (by omega) (by omega)
    · cases hl : look A c.key with
      | none =>
        have e : act A c = (A, ⟨8, nul, 0⟩) := by unfold act; rw [if_neg (by omega), if_pos k, hl]
        rw [e]
        exact do_ok p b n (n + 1) 3 A A c _ _ w h hT hs hz k (by decide) rfl fun W hW hTW => (rm_none p b n A c W hW hs hl).mono fun e w' hh => ⟨hh.1, keep hW hh.2⟩
      | some x =>
        have e : act A c = (del A c.key, ⟨0, nul, x.rev⟩) := by unfold act; rw [if_neg (by omega), if_pos k, hl]
        rw [e]
        exact do_ok p b n (n + 1) 3 A _ c _ _ w h hT hs hz k (by decide) rfl fun W hW hTW => (rm_some p b n A c W hW hG.srt hs x hl).mono fun e w' hh => ⟨hh.1, hh.2.1.mono (by omega), hh.2.2⟩
    · by_cases hr : revOf A c.key = c.rev
      · have e : act A c = (put A ⟨c.key, c.val, revOf A c.key + 1⟩, ⟨0, nul, revOf A c.key + 1⟩) := by unfold act; rw [if_neg (by omega), if_neg (by omega), if_neg (by omega), if_pos k, if_pos hr]
        rw [e]
        exact do_ok p b n (n + 1) 4 A _ c _ _ w h hT hs hz k (by decide) rfl fun W hW hTW => cas_yes p b n A c W hW (by omega) hG.srt hs _ rfl (by omega) (by omega) hr
      · have e : act A c = (A, ⟨10, nul, revOf A c.key⟩) := by unfold act; rw [if_neg (by omega), if_neg (by omega), if_neg (by omega), if_pos k, if_neg hr]
        rw [e]
        exact do_ok p b n (n + 1) 4 A A c _ _ w h hT hs hz k (by decide) rfl fun W hW hTW => (cas_no p b n A c W hW hs _ rfl hr).mono fun e w' hh => ⟨hh.1, keep hW hh.2⟩
    · have e : act A c = (A, findR A c.key) := by unfold act; rw [if_neg (by omega), if_neg (by omega), if_neg (by omega), if_neg (by omega), if_pos k]
      rw [e]
      exact do_ok p b n (n + 1) 5 A A c _ _ w h hT hs hz k (by decide) rfl fun W hW hTW => (find_any p b n n A c W hW (by omega) hG (by omega) hTW hs _ rfl).mono fun e w' hh => ⟨hh.1, keep hW hh.2⟩
    · have e : act A c = (A, Rep.zero) := by unfold act; rw [if_neg (by omega), if_neg (by omega), if_neg (by omega), if_neg (by omega), if_neg (by omega)]
      rw [e]
      exact do_ok p b n (n + 1) 6 A A c ⟨0, nul, 0⟩ _ w h hT hs hz k (by decide) rfl fun W hW hTW => (none_any c _ W).mono fun e w' hh => ⟨hh.1, keep hW hh.2⟩
  · have he : appDo A c = (A, ⟨chk c, nul, 0⟩) := by unfold appDo; rw [if_neg hz]
    rw [he]
    exact (do_bad p b n A c w hT hs _ rfl hz).mono fun e w' hh => ⟨hh.1, keep h hh.2⟩
end Go.Proofs.YtpeiamllkddhiaaGreatDoor.P
