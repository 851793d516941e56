/- The walk of BagPlays. -/
import Derived.Test.YtngackbgcknphaaBagL
import Derived.Test.YtngackbgcknphaaBagF
import Derived.Deep.DeepCutAuto
import Derived.BigCall
import Derived.BigGuard
import Derived.StillTailTactics
namespace Go.Proofs.Ytngackbgcknphaa.B
open Go.RowKit M
set_option linter.unusedVariables false

/-- an act -/
structure A5 where
  d : Int
  i : Int
  e : E
/-- acts that came in: below N they lie -/
structure Acts (N : Nat) (w : World) (ao : Option Addr) (cap : Nat) (Y : List A5) : Prop where
  le : Y.length ≤ cap
  cell : ∀ i y, Y[i]? = some y → ∃ g off, ao = some ⟨g, off, none⟩ ∧ g < N ∧ w.cell? ⟨g, off + i * 5, none⟩ = some (.int .i64 y.d) ∧ w.cell? ⟨g, off + i * 5 + 1, none⟩ = some (.int .i64 y.i) ∧ w.cell? ⟨g, off + i * 5 + 2, none⟩ = some (.int .i64 y.e.f) ∧ w.cell? ⟨g, off + i * 5 + 3, none⟩ = some (.int .i64 y.e.t) ∧ w.cell? ⟨g, off + i * 5 + 4, none⟩ = some (.slice y.e.ao y.e.l.length y.e.cap)
  byt : ∀ y ∈ Y, BytesV w y.e.v y.e.l ∧ BytesAway (fun k => N ≤ k) y.e.v y.e.l
theorem Acts.below {N : Nat} {w w1 : World} {ao : Option Addr} {cap : Nat} {Y : List A5} (h : Acts N w ao cap Y) (hb : Below N w w1) : Acts N w1 ao cap Y := by
  refine ⟨h.le, fun i y hy => ?_, fun y hy => ⟨?_, (h.byt y hy).2⟩⟩
  · obtain ⟨g, off, e, hg, c0, c1, c2, c3, c4⟩ := h.cell i y hy
    exact ⟨g, off, e, hg, (hb.cell (p := ⟨g, _, none⟩) hg).trans c0, (hb.cell (p := ⟨g, _, none⟩) hg).trans c1, (hb.cell (p := ⟨g, _, none⟩) hg).trans c2, (hb.cell (p := ⟨g, _, none⟩) hg).trans c3, (hb.cell (p := ⟨g, _, none⟩) hg).trans c4⟩
  · exact (h.byt y hy).1.keep (S := fun k => N ≤ k) ⟨hb.os, hb.tape, hb.output, hb.size, fun k _ hn => hb.block k (by omega)⟩ (h.byt y hy).2
/-- its bytes came in -/
def E.inn (N : Nat) (w : World) (x : E) : Prop := BytesV w x.v x.l ∧ BytesAway (fun k => N ≤ k) x.v x.l ∧ x.l.length ≤ 100
theorem E.inn.below {N : Nat} {w w1 : World} {x : E} (h : x.inn N w) (hb : Below N w w1) : x.inn N w1 :=
  ⟨h.1.keep (S := fun k => N ≤ k) ⟨hb.os, hb.tape, hb.output, hb.size, fun k _ hn => hb.block k (by omega)⟩ h.2.1, h.2⟩
/-- a bag at N, and a list of envelopes that says the same -/
structure PS (W : World) (r : Int) (X : List E) (xo : Option Addr) (xc : Nat) (L : List E) (al : Option Addr) (cl : Nat) (w : World) : Prop where
  bag : BagAt W.heap.size w W.heap.size r L al cl
  own : w.ownsRow W.heap.size 24 3 (.slice xo X.length xc) X.length (cellsE X)
  inn : ∀ x ∈ X, x.inn W.heap.size w
  apart : ∀ a, xo = some a → ¬ Foot W.heap.size al a.block
  away : ∀ y ∈ L, BytesAway (fun k => ∃ a, xo = some a ∧ k = a.block) y.v y.l
  bel : Below W.heap.size W w
/-- new blocks change nothing -/
theorem PS.below {W : World} {r : Int} {X L : List E} {xo al : Option Addr} {xc cl : Nat} {w w1 : World} (h : PS W r X xo xc L al cl w) (hb : Below w.heap.size w w1) : PS W r X xo xc L al cl w1 := by
  have hN := h.bel.size
  exact ⟨h.bag.below hb, own_kept h.own (Mods.of_below (S := fun _ => False) hb) (fun _ _ h => h), fun x hx => (h.inn x hx).below (hb.mono hN), h.apart, h.away, h.bel.trans (hb.mono hN)⟩
theorem PS.alloc {W : World} {r : Int} {X L : List E} {xo al : Option Addr} {xc cl : Nat} {w : World} (h : PS W r X xo xc L al cl w) (o : Obj) : PS W r X xo xc L al cl (w.alloc o) := h.below ((Below.refl _ _).alloc (Nat.le_refl _) _)
theorem PS.drewN {W : World} {r : Int} {X L : List E} {xo al : Option Addr} {xc cl : Nat} {w : World} (h : PS W r X xo xc L al cl w) (n : Nat) : PS W r X xo xc L al cl (w.drewN n) := h.below ⟨rfl, rfl, rfl, Nat.le_refl _, fun _ _ => rfl⟩

theorem PS.keep {W : World} {r : Int} {X L : List E} {xo al : Option Addr} {xc cl : Nat} {w w1 : World} {S : Nat → Prop} (h : PS W r X xo xc L al cl w) (hm : Mods S w w1) (h0 : ∀ k, S k → W.heap.size ≤ k)
    (h1 : ∀ k, S k → ¬ Foot W.heap.size al k) (h2 : ∀ a, xo = some a → ¬ S a.block) (h3 : ∀ y ∈ L, BytesAway S y.v y.l) : PS W r X xo xc L al cl w1 :=
  ⟨h.bag.keep hm h1 h3, own_kept h.own hm (fun k hk hS => by
      cases xo with
      | none => cases hk
      | some a => exact h2 a rfl ((Option.some.inj hk) ▸ hS)), fun x hx => ⟨(h.inn x hx).1.keep hm (fun k hk hne hS => (h.inn x hx).2.1 k hk hne (h0 k hS)), (h.inn x hx).2⟩, h.apart, h.away, h.bel.trans (hm.below h0 h.bel.size)⟩
theorem PS.xlt {W : World} {r : Int} {X L : List E} {xo al : Option Addr} {xc cl : Nat} {w : World} (h : PS W r X xo xc L al cl w) : ∀ a, xo = some a → W.heap.size ≤ a.block ∧ a.block < w.heap.size := fun a ha =>
  h.own.lt a.block (by rw [ha]; rfl)
/-- of the bag one more -/
theorem PS.put {W : World} {r : Int} {X L : List E} {xo al al2 : Option Addr} {xc cl cl2 : Nat} {w w2 : World} {z : E} (h : PS W r X xo xc L al cl w) (hb : BagAt W.heap.size w2 W.heap.size r (L ++ [z]) al2 cl2)
    (hf : ∀ k, Foot W.heap.size al2 k → Foot W.heap.size al k ∨ w.heap.size ≤ k) (hz : ∀ k, z.v.ownBlock = some k → w.heap.size ≤ k) (hm : Mods (Foot W.heap.size al) w w2) : PS W r X xo xc (L ++ [z]) al2 cl2 w2 :=
  ⟨hb, own_kept h.own hm (fun k hk hS => by
      cases xo with
      | none => cases hk
      | some a => exact h.apart a rfl ((Option.some.inj hk) ▸ hS)), fun x hx => ⟨(h.inn x hx).1.keep hm (fun k hk hne hS => (h.inn x hx).2.1 k hk hne (h.bag.lt k hS).1), (h.inn x hx).2⟩,
    fun a ha hF => by
      rcases hf _ hF with h5 | h5
      · exact h.apart a ha h5
      · have := (h.xlt a ha).2; omega,
    fun y hy k hk hne ⟨a, ha, e⟩ => by
      rcases List.mem_append.1 hy with hy | hy
      · exact h.away y hy k hk hne ⟨a, ha, e⟩
      · obtain rfl := List.mem_singleton.1 hy
        have h5 := hz k hk
        have h6 := (h.xlt a ha).2
        omega, h.bag.foot (Nat.le_refl _) h.bel hm⟩
/-- of the bag fewer -/
theorem PS.fewer {W : World} {r : Int} {X L L' : List E} {xo al : Option Addr} {xc cl : Nat} {w w2 : World} (h : PS W r X xo xc L al cl w) (hb : BagAt W.heap.size w2 W.heap.size r L' al cl)
    (hs : ∀ y ∈ L', y ∈ L) (hm : Mods (Foot W.heap.size al) w w2) : PS W r X xo xc L' al cl w2 :=
  ⟨hb, own_kept h.own hm (fun k hk hS => by
      cases xo with
      | none => cases hk
      | some a => exact h.apart a rfl ((Option.some.inj hk) ▸ hS)), fun x hx => ⟨(h.inn x hx).1.keep hm (fun k hk hne hS => (h.inn x hx).2.1 k hk hne (h.bag.lt k hS).1), (h.inn x hx).2⟩, h.apart,
    fun y hy => h.away y (hs y hy), h.bag.foot (Nat.le_refl _) h.bel hm⟩
/-- the list's row is a new one -/
theorem PS.anew {W : World} {r : Int} {X X' L : List E} {xo xo' al : Option Addr} {xc xc' cl : Nat} {w w2 : World} (h : PS W r X xo xc L al cl w) (ho : w2.ownsRow w.heap.size 24 3 (.slice xo' X'.length xc') X'.length (cellsE X'))
    (hs : ∀ x ∈ X', x ∈ X) (hb : Below w.heap.size w w2) : PS W r X' xo' xc' L al cl w2 := by
  have h2 := h.below hb
  have hN := h.bel.size
  have hlt : ∀ a, xo' = some a → w.heap.size ≤ a.block := fun a ha => (ho.lt a.block (by rw [ha]; rfl)).1
  refine ⟨h2.bag, own_base ho (fun k hk => by have := (ho.lt k hk).1; omega), fun x hx => h2.inn x (hs x hx), fun a ha hF => ?_, fun y hy k hk hne ⟨a, ha, e⟩ => ?_, h2.bel⟩
  · have h3 := hlt a ha; have h4 := (h.bag.lt _ hF).2; omega
  · have h3 := hlt a ha; have h4 := (h.bag.ok y hy).1.lt k hk hne; omega
/-- one more in the list -/
theorem PS.append {W : World} {r : Int} {X L : List E} {xo al : Option Addr} {xc cl gg cg : Nat} {w w2 : World} {x : E} {bx : Obj} (h : PS W r X xo xc L al cl w) (hx : x.inn W.heap.size w)
    (ho : w2.ownsRow W.heap.size 24 3 (.slice (some ⟨gg, 0, none⟩) (X.length + 1) cg) (X.length + 1) (cellsE X ++ [.int .i64 x.f, .int .i64 x.t, .slice x.ao x.l.length x.cap]))
    (hg : (w.alloc bx).grownBy w2 (Value.slice xo X.length xc).ownBlock) (hat : (Value.slice xo X.length xc).ownBlock = some gg ∨ gg = w.heap.size + 1) :
    PS W r (X ++ [x]) (some ⟨gg, 0, none⟩) cg L al cl w2 ∧ Mods (fun k => ∃ a, xo = some a ∧ k = a.block) w w2 := by
  have hN := h.bel.size
  have hM : Mods (fun k => ∃ a, xo = some a ∧ k = a.block) w w2 := ((Mods.refl _ w).alloc bx).grown hg (fun k hk _ => by
    cases xo with
    | none => cases hk
    | some a => exact ⟨a, rfl, (Option.some.inj hk).symm⟩)
  have hgg : (∃ a, xo = some a ∧ gg = a.block) ∨ gg = w.heap.size + 1 := by
    rcases hat with h1 | h1
    · cases xo with
      | none => cases h1
      | some a => exact .inl ⟨a, rfl, (Option.some.inj h1).symm⟩
    · exact .inr h1
  have h0 : ∀ k, (∃ a, xo = some a ∧ k = a.block) → W.heap.size ≤ k := fun k ⟨a, ha, e⟩ => by have := (h.xlt a ha).1; omega
  have hbel : Below W.heap.size w w2 := hM.below h0 hN
  refine ⟨⟨h.bag.keep hM (fun k ⟨a, ha, e⟩ hF => h.apart a ha (e ▸ hF)) h.away, ?_, fun y hy => ?_, fun a ha hF => ?_, fun y hy k hk hne ⟨a, ha, e⟩ => ?_, h.bel.trans hbel⟩, hM⟩
  · rw [List.length_append, cellsE_append]
    exact ho
  · rcases List.mem_append.1 hy with hy | hy
    · exact (h.inn y hy).below hbel
    · obtain rfl := List.mem_singleton.1 hy
      exact hx.below hbel
  · obtain rfl := Option.some.inj ha
    rcases hgg with ⟨a, ha, e⟩ | e
    · exact h.apart a ha (e ▸ hF)
    · have := (h.bag.lt _ hF).2
      simp only at this
      omega
  · obtain rfl := Option.some.inj ha
    rcases hgg with ⟨a, ha, e2⟩ | e2
    · exact h.away y hy k hk hne ⟨a, ha, e.trans e2⟩
    · have := (h.bag.ok y hy).1.lt k hk hne
      simp only at e
      omega
end Go.Proofs.Ytngackbgcknphaa.B
