/- escaped at every text, in one contract. -/
import Derived.Test.YtojchifegifecaaDoorRunesY
import Derived.Test.YtojchifegifecaaDoorRunesI
namespace Go.Proofs.YtojchifegifecaaDoor.R
open Go.RowKit Go.PlainAid Go.Lib

/-- what the walks of Unquote take of the library's variables -/
structure Tabs2 (w : World) : Prop where
  t : Tabs w
  e1 : ErrAt 4 w
  e2 : ErrAt 5 w
  ml : ∃ m, w.cell? ⟨3, 0, none⟩ = some (.int .i64 m)
theorem ErrAt.lt {g : Nat} {w : World} (h : ErrAt g w) : g < w.heap.size := by obtain ⟨ev, h1, _⟩ := h; exact World.block_lt_of_cell? w _ h1
theorem Tabs2.next {w w' : World} (h : Tabs2 w) (hb : Below w.heap.size w w') : Tabs2 w' := by
  refine ⟨h.t.next hb, h.e1.below hb h.e1.lt, h.e2.below hb h.e2.lt, ?_⟩
  obtain ⟨m, hm⟩ := h.ml
  exact ⟨m, (hb.cell (p := ⟨3, 0, none⟩) (World.block_lt_of_cell? w _ hm)).trans hm⟩

/-- ParseUint's two ways, in one -/
theorem upu_any (t : ByteArray) (w : World) (hs : t.size ≤ 1000000) (h : Tabs2 w) (v : Nat) (hv : (puV t).1 = v) :
    Calls Tryd.prog 39 #[.string t, .int .i64 16, .int .i64 32] w fun e w' => (∃ x, e = .returned (.tuple #[.int .u64 v, x]) ∧ ((puV t).2 = 0 ∧ x = .nilIface ∨ (puV t).2 ≠ 0 ∧ ∃ T y, x = .iface T y)) ∧ Below w.heap.size w w' := by
  rcases puV_code t with hc | hc | hc
  · exact (upu_ok t w hs v (Prod.ext hv hc)).mono fun e w' hh => ⟨⟨_, hh.1, .inl ⟨hc, rfl⟩⟩, hh.2⟩
  · refine (upu_bad t w hs v 1 (by rw [hc]; rfl) hv (fun W hW => toE1 t W hs (h.next hW).e2 _)).mono ?_
    rintro e w' ⟨⟨T, x, rfl⟩, hb⟩
    exact ⟨⟨_, rfl, .inr ⟨by omega, T, x, rfl⟩⟩, hb⟩
  · refine (upu_bad t w hs v 2 (by rw [hc]; rfl) hv (fun W hW => toE2 t W hs (h.next hW).e1 _)).mono ?_
    rintro e w' ⟨⟨T, x, rfl⟩, hb⟩
    exact ⟨⟨_, rfl, .inr ⟨by omega, T, x, rfl⟩⟩, hb⟩
theorem cut_any (s : ByteArray) (w : World) (hs : s.size ≤ 1000000) (h : Tabs2 w) (d r : ByteArray) (ok : Bool) (hd : ⟨(Lib.cut s.data.toList [46]).1.toArray⟩ = d) (hr : ⟨(Lib.cut s.data.toList [46]).2.1.toArray⟩ = r) (hok : (Lib.cut s.data.toList [46]).2.2 = ok) :
    Calls Tryd.prog 38 #[.string s, .string ⟨#[46]⟩] w fun e w' => e = .returned (.tuple #[.string d, .string r, .bool ok]) ∧ Below w.heap.size w w' := by
  subst hd hr hok
  obtain ⟨m, hm⟩ := h.ml
  refine (Tryd.strings_Cut s ⟨#[46]⟩ m w (by omega) hm).mono ?_
  rintro e w' ⟨rfl, n, rfl⟩
  exact ⟨rfl, Go.below_drewN (Below.refl _ _) n⟩

theorem pu_le (l : List UInt8) : ∀ acc, acc ≤ 4294967295 → (pu acc l).1 ≤ 4294967295 := by
  induction l with
  | nil => intro acc h; exact h
  | cons c r ih =>
    intro acc h
    simp only [pu]
    split
    · exact Nat.zero_le _
    · split
      · exact Nat.le_refl _
      · exact ih _ (by omega)
theorem puV_le (t : ByteArray) : (puV t).1 ≤ 4294967295 := by
  unfold puV; split
  · exact Nat.zero_le _
  · exact pu_le _ _ (Nat.zero_le _)

set_option maxRecDepth 100000 in
set_option maxHeartbeats 2000000 in
theorem esc_u (s : ByteArray) (w : World) (hs : 1 ≤ s.size) (hs2 : s.size ≤ 1000000) (hc : (s.get! 0).toNat = 117) (h : Tabs2 w)
    (d r : ByteArray) (ok : Bool) (hd : ⟨(Lib.cut (s.extract 1 s.size).data.toList [46]).1.toArray⟩ = d) (hr : ⟨(Lib.cut (s.extract 1 s.size).data.toList [46]).2.1.toArray⟩ = r) (hok : (Lib.cut (s.extract 1 s.size).data.toList [46]).2.2 = ok)
    (hdz : d.size ≤ 1000000) (v : Nat) (hv : (puV d).1 = v) (R : ByteArray × Int)
    (hR : (if ok = true ∧ (puV d).2 = 0 ∧ v ≤ 1114111 then (Utf8.encode (v : Int), (d.size : Int) + 2) else (⟨#[]⟩, 0)) = R) :
    Calls Tryd.prog 29 #[.string s] w fun e w' => e = .returned (.tuple #[.string R.1, .int .i64 R.2]) ∧ Below w.heap.size w w' := by
  have hemp : s.toList.isEmpty = false := by rw [empty_iff]; exact beq_false_of_ne (by omega)
  have hix : ∀ W, (Instr.index 9 (.string s) (.int .i64 0)).run Tryd.prog W = .ok (.int .u8 117) W := fun W => ix_at s 0 117 (by omega) hc W
  have hsl : ∀ W, (Instr.slice 9 (.string s) (some (.int .i64 1)) none none).run Tryd.prog W = .ok (.string (s.extract 1 s.size)) W := fun W => by
    rw [run_slice_string_l W 9 s Tryd.underlying9 .i64 1 (by omega) (by omega)]; rfl
  have hez : (s.extract 1 s.size).size ≤ 1000000 := by simp; omega
  have HC := Lib.hid (cut_any (s.extract 1 s.size) w hez h d r ok hd hr hok)
  have HP := Lib.hid (fun W hW => upu_any d W hdz (h.next hW) v hv)
  have hvn : v ≤ 4294967295 := by rw [← hv]; exact puV_le d
  clear hd hr hok hc h
  generalize s.extract 1 s.size = s1 at *
  go_enter Tryd.func29, Tryd.ntmps29
  go_wp2_with fail
  refine HC.out.mono ?_
  rintro e w1 ⟨rfl, b1⟩
  go_wp2_with fail
  refine (HP.out w1 b1).mono ?_
  rintro e w2 ⟨⟨x, rfl, hx⟩, b2⟩
  have b2 := b1.trans (b2.mono b1.size)
  clear b1
  have HV := Lib.hid hR
  cases ok with
  | false =>
    have HE := Lib.hid (show R = (⟨#[]⟩, 0) by rw [← hR, if_neg (by simp)])
    clear hR hx
    go_wp2_with fail
    go_ret2
    exact ⟨by rw [HE.out]; rfl, b2⟩
  | true =>
    rcases hx with ⟨hz, rfl⟩ | ⟨hz, T, y, rfl⟩
    · by_cases hm : v ≤ 1114111
      · have HE := Lib.hid (show R = (Utf8.encode (v : Int), (d.size : Int) + 2) by rw [← hR, if_pos ⟨rfl, hz, hm⟩])
        have hmi : (v : Int) ≤ 1114111 := by omega
        have hcv : ∀ W, (convert 21 9 (.int .i32 (v : Int))).run Tryd.prog W = .ok (.string (Utf8.encode (v : Int))) W := fun W => run_convert_int_string W 21 9 .i32 _ (by kernel_rfl) Tryd.underlying9
        clear hR hz hm HV
        generalize Utf8.encode (v : Int) = EV at *
        obtain ⟨EN, hEN⟩ : ∃ EN : Int, (d.size : Int) + 2 = EN := ⟨_, rfl⟩
        rw [hEN] at HE
        go_wp2_with fail
        go_ret2
        exact ⟨by rw [HE.out, ← hEN]; rfl, b2⟩
      · have HE := Lib.hid (show R = (⟨#[]⟩, 0) by rw [← hR, if_neg (by omega)])
        have hmi : ¬ (v : Int) ≤ 1114111 := by omega
        clear hR hz hm
        go_wp2_with fail
        go_ret2
        exact ⟨by rw [HE.out]; rfl, b2⟩
    · have HE := Lib.hid (show R = (⟨#[]⟩, 0) by rw [← hR, if_neg (by omega)])
      clear hR hz
      go_wp2_with fail
      go_ret2
      exact ⟨by rw [HE.out]; rfl, b2⟩
end Go.Proofs.YtojchifegifecaaDoor.R
