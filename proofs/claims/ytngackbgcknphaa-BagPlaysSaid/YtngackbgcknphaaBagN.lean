/- The arms of BagPlays' switch. -/
import Derived.Test.YtngackbgcknphaaBagM
import Derived.Deep.AppendLies
import Derived.Deep.RegionHeld3
namespace Go.Proofs.Ytngackbgcknphaa.B
open Go.RowKit M
set_option linter.unusedVariables false

theorem if_yes {c : Bool} {p q : Prop} (h : c = true) (hp : p) : if c = true then p else q := by rw [if_pos h]; exact hp
theorem if_no {c : Bool} {p q : Prop} (h : c = false) (hq : q) : if c = true then p else q := by rw [if_neg (by rw [h]; decide)]; exact hq
section
variable {P : Program} {ops : Array Oper} {Q : Act → Prop} {o : Oper} {rest : List Oper} {a : Act} {w : World}
theorem st_val (v : Value) (hw : Region.wanted o (yielded ops a.tmps) = true) (h : (execOp a.eval o).run P w = .ok (.value v) w) (hr : wpStill P ops w Q rest (a.put o.dst v)) : wpStill P ops w Q (o :: rest) a :=
  wpStill_step fun K hK => if_yes hw (by unfold Oper.still; rw [h]; exact ⟨rfl, hK _ hr⟩)
theorem st_skip (hw : Region.wanted o (yielded ops a.tmps) = false) (hr : wpStill P ops w Q rest (a.put o.dst undef)) : wpStill P ops w Q (o :: rest) a :=
  wpStill_step fun K hK => if_no hw (hK _ hr)
theorem st_pass (j : Nat) (want b : Bool) (hg : o.guard = some (j, want)) (hy : yielded ops a.tmps j = some b) (hne : b = !want) (hr : wpStill P ops w Q rest (a.put o.dst undef)) : wpStill P ops w Q (o :: rest) a :=
  st_skip (by unfold Region.wanted; rw [hg]; simp only [hy, hne]; cases want <;> rfl) hr
theorem st_call (f : FuncId) (args : Array Value) (v : Value) (hw : Region.wanted o (yielded ops a.tmps) = true) (h : (execOp a.eval o).run P w = .ok (.enter f args) w) (hc : Calls P f args w fun e w'' => e = .returned v ∧ w'' = w)
    (hr : wpStill P ops w Q rest (a.put o.dst v)) : wpStill P ops w Q (o :: rest) a :=
  wpStill_step fun K hK => if_yes hw (by unfold Oper.still; rw [h]; exact ⟨rfl, v, hc, hK _ hr⟩)
end
theorem keys_erase {L X : List E} (n : Nat) (h : keys L = keys X) : keys (L.eraseIdx n) = keys (X.eraseIdx n) := by
  simp only [List.eraseIdx_eq_take_drop_succ, keys, List.map_append, List.map_take, List.map_drop] at *
  rw [h]
theorem keys_stay (o : Int) (L : List E) : keys (stay o L) = (keys L).filter (fun p => decide (p.2.1 ≠ o)) := by
  unfold stay keys
  rw [List.filter_map]
  rfl
theorem stay_keys {o : Int} {L X : List E} (h : keys L = keys X) : keys (stay o L) = keys (stay o X) := by rw [keys_stay, keys_stay, h]
theorem stay_step {o : Int} {X : List E} {m : Nat} {x : E} (h : X[m]? = some x) : stay o (X.take (m + 1)) = if x.t = o then stay o (X.take m) else stay o (X.take m) ++ [x] := by
  rw [List.take_add_one, h, stay_append]
  by_cases e : x.t = o <;> simp [stay, e]
theorem PS.none {W : World} {r : Int} {X L : List E} {xo al : Option Addr} {xc cl : Nat} {w : World} (h : PS W r X xo xc L al cl w) : PS W r [] .none 0 L al cl w :=
  ⟨h.bag, World.ownsRow_nil _ _ _ _, fun x hx => (by cases hx), fun a h => (by cases h), fun y _ k _ _ ⟨a, h, _⟩ => (by cases h), h.bel⟩
theorem slice_len {ao : Option Addr} {n m c : Nat} (h : n = m) : Value.slice ao n c = .slice ao m c := by rw [h]
theorem BagAt.lt_below {B : Nat} {w w2 : World} {b : Nat} {room : Int} {L : List E} {ao : Option Addr} {cap : Nat} (h : BagAt B w b room L ao cap) (hm : Mods (Foot b ao) w w2) (hB : B ≤ w.heap.size) : Below B w w2 :=
  hm.below (fun k hk => (h.lt k hk).1) hB

/-- what is behind the switch: the list, and the bag -/
def SW (W : World) (r : Int) (k : Nat) (xv : Value) (wx : World) : Prop :=
  ∃ (X' : List E) (xo' : Option Addr) (xc' : Nat) (L' : List E) (al' : Option Addr) (cl' : Nat), xv = .slice xo' X'.length xc' ∧ X'.length ≤ k + 1 ∧ keys L' = keys X' ∧ PS W r X' xo' xc' L' al' cl' wx
/-- the part of a function's text that begins with this region -/
def partAt (n : Nat) : Code → Option Code
  | .seq (.region i ops d) b => if i = n then some (.seq (.region i ops d) b) else partAt n b
  | .seq a b => (partAt n a).or (partAt n b)
  | .cond _ a b => (partAt n a).or (partAt n b)
  | .block _ a => partAt n a
  | .loop a => partAt n a
  | _ => none

set_option maxRecDepth 100000 in
set_option maxHeartbeats 4000000 in
theorem arm0 (W : World) (r : Int) (hrl : r ≤ 4096) (X L : List E) (xo al : Option Addr) (xc cl : Nat) (k : Nat) (hXk : X.length ≤ k) (hXl : X.length ≤ 80) (hLX : L.length = X.length) (HK : Hid (keys L = keys X)) (y : A5) (h100 : y.e.l.length ≤ 100)
    (wB : World) (bz : Nat) (hbz : bz < wB.heap.size) (HNF : Hid (¬ Foot W.heap.size al bz)) (HPB : Hid (PS W r X xo xc L al cl wB)) (HVB : Hid (BytesV wB y.e.v y.e.l)) (HBA : Hid (BytesAway (fun k => W.heap.size ≤ k) y.e.v y.e.l))
    (vin vfu : Bool) (HIN : Hid (decide (0 ≤ y.i ∧ y.i < (X.length : Int)) = vin)) (HFU : Hid (decide (r ≤ (X.length : Int)) = vfu))
    (c0 : wB.cell? ⟨bz, 0, none⟩ = some (.int .i64 y.d)) (c1 : wB.cell? ⟨bz, 1, none⟩ = some (.int .i64 y.i)) (c2 : wB.cell? ⟨bz, 2, none⟩ = some (.int .i64 y.e.f)) (c3 : wB.cell? ⟨bz, 3, none⟩ = some (.int .i64 y.e.t)) (c4 : wB.cell? ⟨bz, 4, none⟩ = some (.slice y.e.ao y.e.l.length y.e.cap))
    (e0 : (y.d == 0) = true) (cd : Code) (hcd : Try.f5.body.bind (partAt 13) = some cd) (s0 s1 s2 s3 s4 s7 s11 s12 s13 s14 s15 s16 s17 s18 s19 s20 s21 s22 s23 s24 s25 s26 s27 s28 s29 s30 s31 s32 s33 s34 s35 s36 s37 s38 s39 s40 s41 s42 s43 s44 s45 s46 s47 s48 s49 s50 s51 s52 s53 s54 s55 s56 s57 s58 s59 s60 s61 s62 s63 s64 s65 s66 s67 s68 s69 s70 s71 s72 s73 s74 s75 s76 s77 s78 s79 s80 s81 s82 s83 s84 s85 s86 s87 s88 s89 s90 s91 s92 s93 s94 s95 s96 s97 s98 s99 s100 s101 s102 s103 s104 s105 s106 s107 s108 s109 s110 s111 s112 s113 s114 s115 s116 s117 s118 s119 s120 s121 s122 s123 s124 s125 s126 s127 s128 s129 s130 s131 s132 s133 s134 s135 s136 s137 s138 s139 s140 s141 s142 s143 s144 s145 s146 s147 s148 s149 s150 s151 s152 s153 s154 s155 s156 s157 s158 s159 s160 s161 s162 s163 s164 s165 s166 s167 s168 s169 s170 s171 s172 s173 s174 s175 s176 s177 s178 s179 s180 s181 s182 s183 s184 s185 s186 s187 s188 s189 s190 s191 s192 s193 s194 s195 s196 s197 s198 s199 s200 s201 s202 s203 s204 s205 s206 : Value) (K : Act → World → Prop) (Q : Exit → Act → World → Prop)
    (hK : ∀ (xv : Value) (wx : World), SW W r k xv wx → ∀ (t4 t11 t12 t13 t14 t15 t25 t26 t27 t28 t29 t30 t31 t32 t33 t34 t35 t36 t37 t38 t39 t40 t41 t42 t43 t44 t45 t46 t47 t48 t49 t50 t51 t52 t53 t54 t55 t56 t57 t58 t59 t60 t61 t62 t63 t64 t65 t66 t67 t68 t69 t70 t71 t72 t73 t74 t75 t76 t77 t78 t79 t80 t81 t82 t83 t84 t85 t86 t87 t88 t89 t90 t91 t92 t93 t94 t95 t96 t97 t98 t99 t100 t101 t102 t103 t104 t105 t106 t107 t108 t109 t110 t111 t112 t113 t114 t115 t116 t117 t118 t119 t120 t121 t122 t123 t124 t125 t126 t127 t128 t129 t130 t131 t132 t133 t134 t135 t136 t137 t138 t139 t140 t141 t142 t143 t144 t145 t146 t147 t148 t149 t150 t151 t152 t153 t154 t155 t156 t157 t158 t159 t160 t161 t162 t163 t164 t165 t166 t167 t168 t169 t170 t171 t172 t173 t174 t175 t176 t177 t178 t179 t180 t181 t182 t183 t184 t185 t186 t187 t188 t189 t190 t191 t192 t193 t194 t195 t196 t197 t198 t199 t200 t201 t202 t203 t204 t205 : Value), K { tmps := #[s0, s1, s2, s3, t4, .pointer (some ⟨W.heap.size, 0, none⟩), xv, s7, .pointer (some ⟨bz, 0, none⟩), .bool vin, .bool vfu, t11, t12, t13, t14, t15, s16, s17, s18, s19, s20, s21, s22, s23, s24, t25, t26, t27, t28, t29, t30, t31, t32, t33, t34, t35, t36, t37, t38, t39, t40, t41, t42, t43, t44, t45, t46, t47, t48, t49, t50, t51, t52, t53, t54, t55, t56, t57, t58, t59, t60, t61, t62, t63, t64, t65, t66, t67, t68, t69, t70, t71, t72, t73, t74, t75, t76, t77, t78, t79, t80, t81, t82, t83, t84, t85, t86, t87, t88, t89, t90, t91, t92, t93, t94, t95, t96, t97, t98, t99, t100, t101, t102, t103, t104, t105, t106, t107, t108, t109, t110, t111, t112, t113, t114, t115, t116, t117, t118, t119, t120, t121, t122, t123, t124, t125, t126, t127, t128, t129, t130, t131, t132, t133, t134, t135, t136, t137, t138, t139, t140, t141, t142, t143, t144, t145, t146, t147, t148, t149, t150, t151, t152, t153, t154, t155, t156, t157, t158, t159, t160, t161, t162, t163, t164, t165, t166, t167, t168, t169, t170, t171, t172, t173, t174, t175, t176, t177, t178, t179, t180, t181, t182, t183, t184, t185, t186, t187, t188, t189, t190, t191, t192, t193, t194, t195, t196, t197, t198, t199, t200, t201, t202, t203, t204, t205, s206], defers := [] } wx) :
    Code.wp Try.prog cd (Exit.then K Q) { tmps := #[s0, s1, s2, s3, s4, .pointer (some ⟨W.heap.size, 0, none⟩), .slice xo X.length xc, s7, .pointer (some ⟨bz, 0, none⟩), .bool vin, .bool vfu, s11, s12, s13, s14, s15, s16, s17, s18, s19, s20, s21, s22, s23, s24, s25, s26, s27, s28, s29, s30, s31, s32, s33, s34, s35, s36, s37, s38, s39, s40, s41, s42, s43, s44, s45, s46, s47, s48, s49, s50, s51, s52, s53, s54, s55, s56, s57, s58, s59, s60, s61, s62, s63, s64, s65, s66, s67, s68, s69, s70, s71, s72, s73, s74, s75, s76, s77, s78, s79, s80, s81, s82, s83, s84, s85, s86, s87, s88, s89, s90, s91, s92, s93, s94, s95, s96, s97, s98, s99, s100, s101, s102, s103, s104, s105, s106, s107, s108, s109, s110, s111, s112, s113, s114, s115, s116, s117, s118, s119, s120, s121, s122, s123, s124, s125, s126, s127, s128, s129, s130, s131, s132, s133, s134, s135, s136, s137, s138, s139, s140, s141, s142, s143, s144, s145, s146, s147, s148, s149, s150, s151, s152, s153, s154, s155, s156, s157, s158, s159, s160, s161, s162, s163, s164, s165, s166, s167, s168, s169, s170, s171, s172, s173, s174, s175, s176, s177, s178, s179, s180, s181, s182, s183, s184, s185, s186, s187, s188, s189, s190, s191, s192, s193, s194, s195, s196, s197, s198, s199, s200, s201, s202, s203, s204, s205, s206], defers := [] } wB := by
  obtain ⟨i0, hi, hz0, hz1, hz2⟩ := info_parts info_env
  conv at hcd => lhs; whnf
  obtain rfl := Option.some.inj hcd
  clear hcd
  cases vfu with
  | true =>
    have hfu : r ≤ (L.length : Int) := by have := of_decide_eq_true HFU.out; omega
    go_wp2_with fail
    refine (put_full W.heap.size wB W.heap.size r L al cl HPB.out.bag _ _ _ hfu).mono ?_
    rintro e w2 ⟨rfl, b2⟩
    have HP2 := Lib.hid (HPB.out.below b2)
    clear b2
    go_wp2_with fail
    unfold SW
    exact ⟨X, xo, xc, L, al, cl, rfl, by omega, HK.out, HP2.out⟩
  | false =>
    have hfu : (L.length : Int) < r := by have := of_decide_eq_false HFU.out; omega
    go_wp2_with fail
    refine (put_any W.heap.size wB W.heap.size r L al cl HPB.out.bag y.e HVB.out h100 hfu hrl).mono ?_
    rintro e w2 ⟨rfl, z, al2, cl2, hz, hb2, ⟨hf2, hz2⟩, hm2⟩
    have hnf := HNF.out
    have x2 := (hm2.cell (p := ⟨bz, 2, none⟩) hbz hnf).trans c2
    have x3 := (hm2.cell (p := ⟨bz, 3, none⟩) hbz hnf).trans c3
    have x4 := (hm2.cell (p := ⟨bz, 4, none⟩) hbz hnf).trans c4
    have HP2 := Lib.hid (HPB.out.put hb2 hf2 hz2 hm2)
    have HKZ := Lib.hid (show keys (L ++ [z]) = keys (X ++ [y.e]) by have e := HK.out; simp only [keys, List.map_append, List.map_cons, List.map_nil] at e ⊢; rw [e, hz])
    have HIE := Lib.hid (show y.e.inn W.heap.size w2 from E.inn.below (w := wB) ⟨HVB.out, HBA.out, h100⟩ (HPB.out.bag.lt_below hm2 HPB.out.bel.size))
    have hbz2 : bz < w2.heap.size := by have := hm2.size; omega
    clear hb2 hf2 hz2 hm2 hz c0 c1 c2 c3 c4
    go_wp2_with (refine wpList_append_lies _ (by rfl) (.tmp 68) (.tmp 71) 33 (by rfl) W.heap.size 24 i0 _ 3 40 Try.underlying33 hi hz0 hz1 hz2 rfl (by decide) (.slice xo X.length xc) X.length (cellsE X) (by rfl) (HP2.out.own.alloc _) ⟨w2.heap.size, 0, none⟩ 1 1 [.int .i64 y.e.f, .int .i64 y.e.t, .slice y.e.ao y.e.l.length y.e.cap] (by rfl) (by rfl) (World.news_of_block (cs := #[.int .i64 y.e.f, .int .i64 y.e.t, .slice y.e.ao y.e.l.length y.e.cap]) (t := 24) (fr := (0, 0)) (heap_alloc_new w2 _)) (by simp [Value.oneCell']) (by omega) (by unfold maxLen; omega) (by omega) (by have := HP2.out.bel.size; simp; omega) (w2.heap.size + 1) (by simp) ?_; intro gg cg w3 hown hgrow hat hlt3; have HP3 := Lib.hid (HP2.out.append HIE.out hown hgrow hat).1; clear hown hgrow hat)
    unfold SW
    exact ⟨X ++ [y.e], some ⟨gg, 0, none⟩, cg, L ++ [z], al2, cl2, slice_len (by simp), by simp; omega, HKZ.out, HP3.out⟩

set_option maxRecDepth 100000 in
set_option maxHeartbeats 4000000 in
theorem arm1 (W : World) (r : Int) (hrl : r ≤ 4096) (X L : List E) (xo al : Option Addr) (xc cl : Nat) (k : Nat) (hXk : X.length ≤ k) (hXl : X.length ≤ 80) (hLX : L.length = X.length) (HK : Hid (keys L = keys X)) (y : A5) (h100 : y.e.l.length ≤ 100)
    (wB : World) (bz : Nat) (hbz : bz < wB.heap.size) (HNF : Hid (¬ Foot W.heap.size al bz)) (HPB : Hid (PS W r X xo xc L al cl wB)) (HVB : Hid (BytesV wB y.e.v y.e.l)) (HBA : Hid (BytesAway (fun k => W.heap.size ≤ k) y.e.v y.e.l))
    (vin vfu : Bool) (HIN : Hid (decide (0 ≤ y.i ∧ y.i < (X.length : Int)) = vin)) (HFU : Hid (decide (r ≤ (X.length : Int)) = vfu))
    (c0 : wB.cell? ⟨bz, 0, none⟩ = some (.int .i64 y.d)) (c1 : wB.cell? ⟨bz, 1, none⟩ = some (.int .i64 y.i)) (c2 : wB.cell? ⟨bz, 2, none⟩ = some (.int .i64 y.e.f)) (c3 : wB.cell? ⟨bz, 3, none⟩ = some (.int .i64 y.e.t)) (c4 : wB.cell? ⟨bz, 4, none⟩ = some (.slice y.e.ao y.e.l.length y.e.cap))
    (e0 : (y.d == 0) = false) (e1 : (y.d == 1) = true) (cd : Code) (hcd : Try.f5.body.bind (partAt 13) = some cd) (s0 s1 s2 s3 s4 s7 s11 s12 s13 s14 s15 s16 s17 s18 s19 s20 s21 s22 s23 s24 s25 s26 s27 s28 s29 s30 s31 s32 s33 s34 s35 s36 s37 s38 s39 s40 s41 s42 s43 s44 s45 s46 s47 s48 s49 s50 s51 s52 s53 s54 s55 s56 s57 s58 s59 s60 s61 s62 s63 s64 s65 s66 s67 s68 s69 s70 s71 s72 s73 s74 s75 s76 s77 s78 s79 s80 s81 s82 s83 s84 s85 s86 s87 s88 s89 s90 s91 s92 s93 s94 s95 s96 s97 s98 s99 s100 s101 s102 s103 s104 s105 s106 s107 s108 s109 s110 s111 s112 s113 s114 s115 s116 s117 s118 s119 s120 s121 s122 s123 s124 s125 s126 s127 s128 s129 s130 s131 s132 s133 s134 s135 s136 s137 s138 s139 s140 s141 s142 s143 s144 s145 s146 s147 s148 s149 s150 s151 s152 s153 s154 s155 s156 s157 s158 s159 s160 s161 s162 s163 s164 s165 s166 s167 s168 s169 s170 s171 s172 s173 s174 s175 s176 s177 s178 s179 s180 s181 s182 s183 s184 s185 s186 s187 s188 s189 s190 s191 s192 s193 s194 s195 s196 s197 s198 s199 s200 s201 s202 s203 s204 s205 s206 : Value) (K : Act → World → Prop) (Q : Exit → Act → World → Prop)
    (hK : ∀ (xv : Value) (wx : World), SW W r k xv wx → ∀ (t4 t11 t12 t13 t14 t15 t25 t26 t27 t28 t29 t30 t31 t32 t33 t34 t35 t36 t37 t38 t39 t40 t41 t42 t43 t44 t45 t46 t47 t48 t49 t50 t51 t52 t53 t54 t55 t56 t57 t58 t59 t60 t61 t62 t63 t64 t65 t66 t67 t68 t69 t70 t71 t72 t73 t74 t75 t76 t77 t78 t79 t80 t81 t82 t83 t84 t85 t86 t87 t88 t89 t90 t91 t92 t93 t94 t95 t96 t97 t98 t99 t100 t101 t102 t103 t104 t105 t106 t107 t108 t109 t110 t111 t112 t113 t114 t115 t116 t117 t118 t119 t120 t121 t122 t123 t124 t125 t126 t127 t128 t129 t130 t131 t132 t133 t134 t135 t136 t137 t138 t139 t140 t141 t142 t143 t144 t145 t146 t147 t148 t149 t150 t151 t152 t153 t154 t155 t156 t157 t158 t159 t160 t161 t162 t163 t164 t165 t166 t167 t168 t169 t170 t171 t172 t173 t174 t175 t176 t177 t178 t179 t180 t181 t182 t183 t184 t185 t186 t187 t188 t189 t190 t191 t192 t193 t194 t195 t196 t197 t198 t199 t200 t201 t202 t203 t204 t205 : Value), K { tmps := #[s0, s1, s2, s3, t4, .pointer (some ⟨W.heap.size, 0, none⟩), xv, s7, .pointer (some ⟨bz, 0, none⟩), .bool vin, .bool vfu, t11, t12, t13, t14, t15, s16, s17, s18, s19, s20, s21, s22, s23, s24, t25, t26, t27, t28, t29, t30, t31, t32, t33, t34, t35, t36, t37, t38, t39, t40, t41, t42, t43, t44, t45, t46, t47, t48, t49, t50, t51, t52, t53, t54, t55, t56, t57, t58, t59, t60, t61, t62, t63, t64, t65, t66, t67, t68, t69, t70, t71, t72, t73, t74, t75, t76, t77, t78, t79, t80, t81, t82, t83, t84, t85, t86, t87, t88, t89, t90, t91, t92, t93, t94, t95, t96, t97, t98, t99, t100, t101, t102, t103, t104, t105, t106, t107, t108, t109, t110, t111, t112, t113, t114, t115, t116, t117, t118, t119, t120, t121, t122, t123, t124, t125, t126, t127, t128, t129, t130, t131, t132, t133, t134, t135, t136, t137, t138, t139, t140, t141, t142, t143, t144, t145, t146, t147, t148, t149, t150, t151, t152, t153, t154, t155, t156, t157, t158, t159, t160, t161, t162, t163, t164, t165, t166, t167, t168, t169, t170, t171, t172, t173, t174, t175, t176, t177, t178, t179, t180, t181, t182, t183, t184, t185, t186, t187, t188, t189, t190, t191, t192, t193, t194, t195, t196, t197, t198, t199, t200, t201, t202, t203, t204, t205, s206], defers := [] } wx) :
    Code.wp Try.prog cd (Exit.then K Q) { tmps := #[s0, s1, s2, s3, s4, .pointer (some ⟨W.heap.size, 0, none⟩), .slice xo X.length xc, s7, .pointer (some ⟨bz, 0, none⟩), .bool vin, .bool vfu, s11, s12, s13, s14, s15, s16, s17, s18, s19, s20, s21, s22, s23, s24, s25, s26, s27, s28, s29, s30, s31, s32, s33, s34, s35, s36, s37, s38, s39, s40, s41, s42, s43, s44, s45, s46, s47, s48, s49, s50, s51, s52, s53, s54, s55, s56, s57, s58, s59, s60, s61, s62, s63, s64, s65, s66, s67, s68, s69, s70, s71, s72, s73, s74, s75, s76, s77, s78, s79, s80, s81, s82, s83, s84, s85, s86, s87, s88, s89, s90, s91, s92, s93, s94, s95, s96, s97, s98, s99, s100, s101, s102, s103, s104, s105, s106, s107, s108, s109, s110, s111, s112, s113, s114, s115, s116, s117, s118, s119, s120, s121, s122, s123, s124, s125, s126, s127, s128, s129, s130, s131, s132, s133, s134, s135, s136, s137, s138, s139, s140, s141, s142, s143, s144, s145, s146, s147, s148, s149, s150, s151, s152, s153, s154, s155, s156, s157, s158, s159, s160, s161, s162, s163, s164, s165, s166, s167, s168, s169, s170, s171, s172, s173, s174, s175, s176, s177, s178, s179, s180, s181, s182, s183, s184, s185, s186, s187, s188, s189, s190, s191, s192, s193, s194, s195, s196, s197, s198, s199, s200, s201, s202, s203, s204, s205, s206], defers := [] } wB := by
  obtain ⟨i0, hi, hz0, hz1, hz2⟩ := info_parts info_env
  conv at hcd => lhs; whnf
  obtain rfl := Option.some.inj hcd
  clear hcd
  cases vin with
  | false =>
    have hin : y.i < 0 ∨ (L.length : Int) ≤ y.i := by have := of_decide_eq_false HIN.out; omega
    go_wp2_with fail
    refine (take_out W.heap.size wB W.heap.size r L al cl HPB.out.bag y.i hin).mono ?_
    rintro e w2 ⟨rfl, b2⟩
    have hp2 := HPB.out.below b2
    clear b2
    go_wp2_with fail
    obtain ⟨w5, hw5⟩ : ∃ w5, w5 = w2.alloc (.cells #[.int .i64 0, .int .i64 0, .slice none 0 0] 24) := ⟨_, rfl⟩
    have HP5 := Lib.hid (show PS W r X xo xc L al cl w5.drew by rw [hw5]; exact (hp2.alloc _).drewN 1)
    rw [← hw5]
    clear hw5 hp2
    refine wp_region_still_tail 15 (by kernel_rfl) (by kernel_rfl) ?_
    simp only [List.take_succ_cons, List.take_zero, List.drop_succ_cons, List.drop_zero]
    with_reducible refine st_val (.bool false) ?_ ?_ ?_
    · kernel_rfl
    · kernel_rfl
    simp only [Act.put, List.setIfInBounds_toArray, List.set_cons_succ, List.set_cons_zero]
    with_reducible refine st_val (.bool false) ?_ ?_ ?_
    · kernel_rfl
    · kernel_rfl
    simp only [Act.put, List.setIfInBounds_toArray, List.set_cons_succ, List.set_cons_zero]
    with_reducible refine st_val (.bool false) ?_ ?_ ?_
    · kernel_rfl
    · kernel_rfl
    simp only [Act.put, List.setIfInBounds_toArray, List.set_cons_succ, List.set_cons_zero]
    with_reducible refine st_val (.bool false) ?_ ?_ ?_
    · kernel_rfl
    · kernel_rfl
    simp only [Act.put, List.setIfInBounds_toArray, List.set_cons_succ, List.set_cons_zero]
    with_reducible refine st_val (.bool false) ?_ ?_ ?_
    · kernel_rfl
    · kernel_rfl
    simp only [Act.put, List.setIfInBounds_toArray, List.set_cons_succ, List.set_cons_zero]
    with_reducible refine st_val (.bool false) ?_ ?_ ?_
    · kernel_rfl
    · kernel_rfl
    simp only [Act.put, List.setIfInBounds_toArray, List.set_cons_succ, List.set_cons_zero]
    with_reducible refine st_skip ?_ ?_
    · kernel_rfl
    simp only [Act.put, List.setIfInBounds_toArray, List.set_cons_succ, List.set_cons_zero]
    with_reducible refine st_skip ?_ ?_
    · kernel_rfl
    simp only [Act.put, List.setIfInBounds_toArray, List.set_cons_succ, List.set_cons_zero]
    with_reducible refine st_skip ?_ ?_
    · kernel_rfl
    simp only [Act.put, List.setIfInBounds_toArray, List.set_cons_succ, List.set_cons_zero]
    with_reducible refine st_skip ?_ ?_
    · kernel_rfl
    simp only [Act.put, List.setIfInBounds_toArray, List.set_cons_succ, List.set_cons_zero]
    with_reducible refine st_skip ?_ ?_
    · kernel_rfl
    simp only [Act.put, List.setIfInBounds_toArray, List.set_cons_succ, List.set_cons_zero]
    with_reducible refine st_skip ?_ ?_
    · kernel_rfl
    simp only [Act.put, List.setIfInBounds_toArray, List.set_cons_succ, List.set_cons_zero]
    with_reducible refine st_skip ?_ ?_
    · kernel_rfl
    simp only [Act.put, List.setIfInBounds_toArray, List.set_cons_succ, List.set_cons_zero]
    with_reducible refine st_skip ?_ ?_
    · kernel_rfl
    simp only [Act.put, List.setIfInBounds_toArray, List.set_cons_succ, List.set_cons_zero]
    with_reducible refine st_val (.bool false) ?_ ?_ ?_
    · kernel_rfl
    · kernel_rfl
    simp only [Act.put, List.setIfInBounds_toArray, List.set_cons_succ, List.set_cons_zero]
    with_reducible refine wpStill_nil ?_
    change wpList _ _ _ _ _ w5.drew
    go_wp2_with fail
    unfold SW
    exact ⟨X, xo, xc, L, al, cl, rfl, by omega, HK.out, HP5.out⟩
  | true =>
    obtain ⟨n, hn⟩ : ∃ n : Nat, y.i = n := ⟨y.i.toNat, by have := of_decide_eq_true HIN.out; omega⟩
    have hnX : n < X.length := by have := of_decide_eq_true HIN.out; omega
    obtain ⟨x, hx⟩ : ∃ x, X[n]? = some x := ⟨_, List.getElem?_eq_getElem hnX⟩
    obtain ⟨q, hq⟩ : ∃ q, L[n]? = some q := ⟨_, List.getElem?_eq_getElem (by omega)⟩
    have hxq : q.key = x.key := by
      have e : (keys L)[n]? = (keys X)[n]? := by rw [HK.out]
      simpa [keys, hx, hq] using e
    have hql := (HPB.out.bag.ok q (List.mem_of_getElem? hq)).2.2
    have HKZ := Lib.hid (keys_erase n HK.out)
    rw [hn] at c1
    go_wp2_with fail
    refine (take_in W.heap.size wB W.heap.size r L al cl HPB.out.bag n q hq).mono ?_
    rintro e w4 ⟨ao4, cap4, rfl, hbv4, _, hb4, hm4⟩
    have hp4 := HPB.out.fewer hb4 (fun y hy => List.mem_of_mem_eraseIdx hy) hm4
    have hnf := HNF.out
    have x1 := (hm4.cell (p := ⟨bz, 1, none⟩) hbz hnf).trans c1
    have hbz4 : bz < w4.heap.size := by have := hm4.size; omega
    clear hb4 hm4 c0 c1 c2 c3 c4
    go_wp2_with fail
    obtain ⟨W5, hW5⟩ : ∃ W5, W5 = w4.alloc (.cells #[.int .i64 q.f, .int .i64 q.t, .slice ao4 q.l.length cap4] 24) := ⟨_, rfl⟩
    have hbx5 : W5.heap[w4.heap.size]? = some (.cells #[.int .i64 q.f, .int .i64 q.t, .slice ao4 q.l.length cap4] 24 (0, 0)) := by rw [hW5]; exact heap_alloc_new w4 _
    have hM5 : Mods (fun _ => False) w4 W5 := by rw [hW5]; exact (Mods.refl _ w4).alloc _
    have hp5 : PS W r X xo xc (L.eraseIdx n) al cl W5 := by rw [hW5]; exact hp4.alloc _
    rw [← hW5]
    clear hW5
    have hz5 := heap_lt hbx5
    have hbz5 : bz < W5.heap.size := by have := hM5.size; omega
    have x2 := (hM5.cell (p := ⟨bz, 1, none⟩) hbz4 (fun h => h)).trans x1
    obtain ⟨p0, p1, p2⟩ := (box3 hbx5).1
    have HV5 := Lib.hid (hbv4.keep hM5 (fun _ _ _ h => h))
    have HIX := Lib.hid (hp5.inn x (List.mem_of_getElem? hx))
    have HEQ := Lib.hid (show decide ((⟨q.f, q.t, ao4, cap4, q.l⟩ : E).key = x.key) = true from decide_eq_true hxq)
    obtain ⟨g2, rfl, hg2, hgc⟩ := rowcell hp5.own (by omega)
    obtain ⟨q0, q1, q2⟩ := cellsE_get X n x hx
    have y0 := (hgc _ _ q0).1
    have y1 := (hgc _ _ q1).1
    have y2 := (hgc _ _ q2).1
    have HP5 := Lib.hid hp5
    have hnXi : (n : Int) < (X.length : Int) := by omega
    clear hbx5 hM5 hp5 hp4 hbv4 hgc q0 q1 q2 hx hq hxq x1
    have HST := Lib.hid (show ∀ w', Below W5.heap.size W5 w' → (fun w' => (w'.cell? ⟨w4.heap.size, 0, none⟩ = some (.int .i64 q.f) ∧ w'.cell? ⟨w4.heap.size, 1, none⟩ = some (.int .i64 q.t) ∧ w'.cell? ⟨w4.heap.size, 2, none⟩ = some (.slice ao4 q.l.length cap4)) ∧ (w'.cell? ⟨g2, n * 3, none⟩ = some (.int .i64 x.f) ∧ w'.cell? ⟨g2, n * 3 + 1, none⟩ = some (.int .i64 x.t) ∧ w'.cell? ⟨g2, n * 3 + 2, none⟩ = some (.slice x.ao x.l.length x.cap)) ∧ w'.cell? ⟨bz, 1, none⟩ = some (.int .i64 (n : Int)) ∧ Below W5.heap.size W5 w') w' from fun w' hb => ⟨⟨(hb.cell (p := ⟨w4.heap.size, 0, none⟩) hz5).trans p0, (hb.cell (p := ⟨w4.heap.size, 1, none⟩) hz5).trans p1, (hb.cell (p := ⟨w4.heap.size, 2, none⟩) hz5).trans p2⟩, ⟨(hb.cell (p := ⟨g2, n * 3, none⟩) hg2).trans y0, (hb.cell (p := ⟨g2, n * 3 + 1, none⟩) hg2).trans y1, (hb.cell (p := ⟨g2, n * 3 + 2, none⟩) hg2).trans y2⟩, (hb.cell (p := ⟨bz, 1, none⟩) hbz5).trans x2, hb⟩)
    have HS0 := Lib.hid (HST.out W5.drew (Below.refl _ _).drew)
    have HSAME := Lib.hid (show ∀ w', Below W5.heap.size W5 w' → Calls Try.prog 12 #[.agg #[.int .i64 q.f, .int .i64 q.t, .slice ao4 q.l.length cap4], .agg #[.int .i64 x.f, .int .i64 x.t, .slice x.ao x.l.length x.cap]] w' fun e w2 => e = .returned (.bool true) ∧ (fun w' => (w'.cell? ⟨w4.heap.size, 0, none⟩ = some (.int .i64 q.f) ∧ w'.cell? ⟨w4.heap.size, 1, none⟩ = some (.int .i64 q.t) ∧ w'.cell? ⟨w4.heap.size, 2, none⟩ = some (.slice ao4 q.l.length cap4)) ∧ (w'.cell? ⟨g2, n * 3, none⟩ = some (.int .i64 x.f) ∧ w'.cell? ⟨g2, n * 3 + 1, none⟩ = some (.int .i64 x.t) ∧ w'.cell? ⟨g2, n * 3 + 2, none⟩ = some (.slice x.ao x.l.length x.cap)) ∧ w'.cell? ⟨bz, 1, none⟩ = some (.int .i64 (n : Int)) ∧ Below W5.heap.size W5 w') w2 from fun w' hb =>
      (same_any ⟨q.f, q.t, ao4, cap4, q.l⟩ x w' (fun _ => False) (fun _ => False) ⟨HV5.out.keep (Mods.of_below (S := fun _ => False) hb) (fun _ _ _ h => h), fun _ _ _ h => h, hql⟩ ⟨HIX.out.1.keep (Mods.of_below (S := fun _ => False) hb) (fun _ _ _ h => h), fun _ _ _ h => h, HIX.out.2.2⟩ true HEQ.out).mono fun e w2 hh => ⟨hh.1, HST.out w2 (hb.trans (hh.2.mono hb.size))⟩)
    clear p0 p1 p2 y0 y1 y2
    go_region_held3 (fun w' => (w'.cell? ⟨w4.heap.size, 0, none⟩ = some (.int .i64 q.f) ∧ w'.cell? ⟨w4.heap.size, 1, none⟩ = some (.int .i64 q.t) ∧ w'.cell? ⟨w4.heap.size, 2, none⟩ = some (.slice ao4 q.l.length cap4)) ∧ (w'.cell? ⟨g2, n * 3, none⟩ = some (.int .i64 x.f) ∧ w'.cell? ⟨g2, n * 3 + 1, none⟩ = some (.int .i64 x.t) ∧ w'.cell? ⟨g2, n * 3 + 2, none⟩ = some (.slice x.ao x.l.length x.cap)) ∧ w'.cell? ⟨bz, 1, none⟩ = some (.int .i64 (n : Int)) ∧ Below W5.heap.size W5 w')
      (first | exact HS0.out | exact h9)
      ((first
        | (go_at_call 12; refine (HSAME.out _ (by obtain ⟨_, _, _, hb⟩ := (by assumption : (fun w' => (w'.cell? ⟨w4.heap.size, 0, none⟩ = some (.int .i64 q.f) ∧ w'.cell? ⟨w4.heap.size, 1, none⟩ = some (.int .i64 q.t) ∧ w'.cell? ⟨w4.heap.size, 2, none⟩ = some (.slice ao4 q.l.length cap4)) ∧ (w'.cell? ⟨g2, n * 3, none⟩ = some (.int .i64 x.f) ∧ w'.cell? ⟨g2, n * 3 + 1, none⟩ = some (.int .i64 x.t) ∧ w'.cell? ⟨g2, n * 3 + 2, none⟩ = some (.slice x.ao x.l.length x.cap)) ∧ w'.cell? ⟨bz, 1, none⟩ = some (.int .i64 (n : Int)) ∧ Below W5.heap.size W5 w') _); exact hb)).mono ?_; rintro e w9 ⟨rfl, h9⟩)))
    have HP6 := Lib.hid (HP5.out.below h9.2.2.2)
    have x3 := h9.2.2.1
    clear h9 x2
    go_wp2_with fail
    refine (out_any W.heap.size _ g2 xc X n hnX HP6.out.own (by omega)).mono ?_
    rintro e w7 ⟨ao7, cap7, rfl, hown7, b7⟩
    have HP7 := Lib.hid (HP6.out.anew hown7 (fun y hy => List.mem_of_mem_eraseIdx hy) b7)
    have hel : (X.eraseIdx n).length ≤ X.length := List.length_eraseIdx_le _ _
    clear hown7 b7 x3
    go_wp2_with fail
    unfold SW
    exact ⟨X.eraseIdx n, ao7, cap7, L.eraseIdx n, al, cl, rfl, by omega, HKZ.out, HP7.out⟩

set_option maxRecDepth 100000 in
set_option maxHeartbeats 4000000 in
theorem arm2 (W : World) (r : Int) (hrl : r ≤ 4096) (X L : List E) (xo al : Option Addr) (xc cl : Nat) (k : Nat) (hXk : X.length ≤ k) (hXl : X.length ≤ 80) (hLX : L.length = X.length) (HK : Hid (keys L = keys X)) (y : A5) (h100 : y.e.l.length ≤ 100)
    (wB : World) (bz : Nat) (hbz : bz < wB.heap.size) (HNF : Hid (¬ Foot W.heap.size al bz)) (HPB : Hid (PS W r X xo xc L al cl wB)) (HVB : Hid (BytesV wB y.e.v y.e.l)) (HBA : Hid (BytesAway (fun k => W.heap.size ≤ k) y.e.v y.e.l))
    (vin vfu : Bool) (HIN : Hid (decide (0 ≤ y.i ∧ y.i < (X.length : Int)) = vin)) (HFU : Hid (decide (r ≤ (X.length : Int)) = vfu))
    (c0 : wB.cell? ⟨bz, 0, none⟩ = some (.int .i64 y.d)) (c1 : wB.cell? ⟨bz, 1, none⟩ = some (.int .i64 y.i)) (c2 : wB.cell? ⟨bz, 2, none⟩ = some (.int .i64 y.e.f)) (c3 : wB.cell? ⟨bz, 3, none⟩ = some (.int .i64 y.e.t)) (c4 : wB.cell? ⟨bz, 4, none⟩ = some (.slice y.e.ao y.e.l.length y.e.cap))
    (e0 : (y.d == 0) = false) (e1 : (y.d == 1) = false) (e2 : (y.d == 2) = true) (cd : Code) (hcd : Try.f5.body.bind (partAt 13) = some cd) (s0 s1 s2 s3 s4 s7 s11 s12 s13 s14 s15 s16 s17 s18 s19 s20 s21 s22 s23 s24 s25 s26 s27 s28 s29 s30 s31 s32 s33 s34 s35 s36 s37 s38 s39 s40 s41 s42 s43 s44 s45 s46 s47 s48 s49 s50 s51 s52 s53 s54 s55 s56 s57 s58 s59 s60 s61 s62 s63 s64 s65 s66 s67 s68 s69 s70 s71 s72 s73 s74 s75 s76 s77 s78 s79 s80 s81 s82 s83 s84 s85 s86 s87 s88 s89 s90 s91 s92 s93 s94 s95 s96 s97 s98 s99 s100 s101 s102 s103 s104 s105 s106 s107 s108 s109 s110 s111 s112 s113 s114 s115 s116 s117 s118 s119 s120 s121 s122 s123 s124 s125 s126 s127 s128 s129 s130 s131 s132 s133 s134 s135 s136 s137 s138 s139 s140 s141 s142 s143 s144 s145 s146 s147 s148 s149 s150 s151 s152 s153 s154 s155 s156 s157 s158 s159 s160 s161 s162 s163 s164 s165 s166 s167 s168 s169 s170 s171 s172 s173 s174 s175 s176 s177 s178 s179 s180 s181 s182 s183 s184 s185 s186 s187 s188 s189 s190 s191 s192 s193 s194 s195 s196 s197 s198 s199 s200 s201 s202 s203 s204 s205 s206 : Value) (K : Act → World → Prop) (Q : Exit → Act → World → Prop)
    (hK : ∀ (xv : Value) (wx : World), SW W r k xv wx → ∀ (t4 t11 t12 t13 t14 t15 t25 t26 t27 t28 t29 t30 t31 t32 t33 t34 t35 t36 t37 t38 t39 t40 t41 t42 t43 t44 t45 t46 t47 t48 t49 t50 t51 t52 t53 t54 t55 t56 t57 t58 t59 t60 t61 t62 t63 t64 t65 t66 t67 t68 t69 t70 t71 t72 t73 t74 t75 t76 t77 t78 t79 t80 t81 t82 t83 t84 t85 t86 t87 t88 t89 t90 t91 t92 t93 t94 t95 t96 t97 t98 t99 t100 t101 t102 t103 t104 t105 t106 t107 t108 t109 t110 t111 t112 t113 t114 t115 t116 t117 t118 t119 t120 t121 t122 t123 t124 t125 t126 t127 t128 t129 t130 t131 t132 t133 t134 t135 t136 t137 t138 t139 t140 t141 t142 t143 t144 t145 t146 t147 t148 t149 t150 t151 t152 t153 t154 t155 t156 t157 t158 t159 t160 t161 t162 t163 t164 t165 t166 t167 t168 t169 t170 t171 t172 t173 t174 t175 t176 t177 t178 t179 t180 t181 t182 t183 t184 t185 t186 t187 t188 t189 t190 t191 t192 t193 t194 t195 t196 t197 t198 t199 t200 t201 t202 t203 t204 t205 : Value), K { tmps := #[s0, s1, s2, s3, t4, .pointer (some ⟨W.heap.size, 0, none⟩), xv, s7, .pointer (some ⟨bz, 0, none⟩), .bool vin, .bool vfu, t11, t12, t13, t14, t15, s16, s17, s18, s19, s20, s21, s22, s23, s24, t25, t26, t27, t28, t29, t30, t31, t32, t33, t34, t35, t36, t37, t38, t39, t40, t41, t42, t43, t44, t45, t46, t47, t48, t49, t50, t51, t52, t53, t54, t55, t56, t57, t58, t59, t60, t61, t62, t63, t64, t65, t66, t67, t68, t69, t70, t71, t72, t73, t74, t75, t76, t77, t78, t79, t80, t81, t82, t83, t84, t85, t86, t87, t88, t89, t90, t91, t92, t93, t94, t95, t96, t97, t98, t99, t100, t101, t102, t103, t104, t105, t106, t107, t108, t109, t110, t111, t112, t113, t114, t115, t116, t117, t118, t119, t120, t121, t122, t123, t124, t125, t126, t127, t128, t129, t130, t131, t132, t133, t134, t135, t136, t137, t138, t139, t140, t141, t142, t143, t144, t145, t146, t147, t148, t149, t150, t151, t152, t153, t154, t155, t156, t157, t158, t159, t160, t161, t162, t163, t164, t165, t166, t167, t168, t169, t170, t171, t172, t173, t174, t175, t176, t177, t178, t179, t180, t181, t182, t183, t184, t185, t186, t187, t188, t189, t190, t191, t192, t193, t194, t195, t196, t197, t198, t199, t200, t201, t202, t203, t204, t205, s206], defers := [] } wx) :
    Code.wp Try.prog cd (Exit.then K Q) { tmps := #[s0, s1, s2, s3, s4, .pointer (some ⟨W.heap.size, 0, none⟩), .slice xo X.length xc, s7, .pointer (some ⟨bz, 0, none⟩), .bool vin, .bool vfu, s11, s12, s13, s14, s15, s16, s17, s18, s19, s20, s21, s22, s23, s24, s25, s26, s27, s28, s29, s30, s31, s32, s33, s34, s35, s36, s37, s38, s39, s40, s41, s42, s43, s44, s45, s46, s47, s48, s49, s50, s51, s52, s53, s54, s55, s56, s57, s58, s59, s60, s61, s62, s63, s64, s65, s66, s67, s68, s69, s70, s71, s72, s73, s74, s75, s76, s77, s78, s79, s80, s81, s82, s83, s84, s85, s86, s87, s88, s89, s90, s91, s92, s93, s94, s95, s96, s97, s98, s99, s100, s101, s102, s103, s104, s105, s106, s107, s108, s109, s110, s111, s112, s113, s114, s115, s116, s117, s118, s119, s120, s121, s122, s123, s124, s125, s126, s127, s128, s129, s130, s131, s132, s133, s134, s135, s136, s137, s138, s139, s140, s141, s142, s143, s144, s145, s146, s147, s148, s149, s150, s151, s152, s153, s154, s155, s156, s157, s158, s159, s160, s161, s162, s163, s164, s165, s166, s167, s168, s169, s170, s171, s172, s173, s174, s175, s176, s177, s178, s179, s180, s181, s182, s183, s184, s185, s186, s187, s188, s189, s190, s191, s192, s193, s194, s195, s196, s197, s198, s199, s200, s201, s202, s203, s204, s205, s206], defers := [] } wB := by
  obtain ⟨i0, hi, hz0, hz1, hz2⟩ := info_parts info_env
  conv at hcd => lhs; whnf
  obtain rfl := Option.some.inj hcd
  clear hcd
  cases vin with
  | false =>
    have hin : y.i < 0 ∨ (L.length : Int) ≤ y.i := by have := of_decide_eq_false HIN.out; omega
    go_wp2_with fail
    refine (twice_out W.heap.size wB W.heap.size r L al cl HPB.out.bag y.i hin).mono ?_
    rintro e w2 ⟨rfl, b2⟩
    have HP2 := Lib.hid (HPB.out.below b2)
    clear b2
    go_wp2_with fail
    unfold SW
    exact ⟨X, xo, xc, L, al, cl, rfl, by omega, HK.out, HP2.out⟩
  | true =>
    obtain ⟨n, hn⟩ : ∃ n : Nat, y.i = n := ⟨y.i.toNat, by have := of_decide_eq_true HIN.out; omega⟩
    have hnX : n < X.length := by have := of_decide_eq_true HIN.out; omega
    obtain ⟨x, hx⟩ : ∃ x, X[n]? = some x := ⟨_, List.getElem?_eq_getElem hnX⟩
    obtain ⟨q, hq⟩ : ∃ q, L[n]? = some q := ⟨_, List.getElem?_eq_getElem (by omega)⟩
    have hxq : q.key = x.key := by
      have e : (keys L)[n]? = (keys X)[n]? := by rw [HK.out]
      simpa [keys, hx, hq] using e
    rw [hn] at c1
    cases vfu with
    | true =>
      have hfu : r ≤ (L.length : Int) := by have := of_decide_eq_true HFU.out; omega
      go_wp2_with fail
      refine (twice_full W.heap.size wB W.heap.size r L al cl HPB.out.bag n q hq hfu).mono ?_
      rintro e w2 ⟨rfl, b2⟩
      have HP2 := Lib.hid (HPB.out.below b2)
      clear b2
      go_wp2_with fail
      unfold SW
      exact ⟨X, xo, xc, L, al, cl, rfl, by omega, HK.out, HP2.out⟩
    | false =>
      have hfu : (L.length : Int) < r := by have := of_decide_eq_false HFU.out; omega
      go_wp2_with fail
      refine (twice_in W.heap.size wB W.heap.size r L al cl HPB.out.bag n q hq hfu hrl).mono ?_
      rintro e w2 ⟨rfl, z, al2, cl2, hz, hb2, ⟨hf2, hz2⟩, hm2⟩
      have hnf := HNF.out
      have x1 := (hm2.cell (p := ⟨bz, 1, none⟩) hbz hnf).trans c1
      have hp2 := HPB.out.put hb2 hf2 hz2 hm2
      have hix := hp2.inn x (List.mem_of_getElem? hx)
      obtain ⟨g2, rfl, hg2, hgc⟩ := rowcell hp2.own (by omega)
      obtain ⟨q0, q1, q2⟩ := cellsE_get X n x hx
      have y0 := (hgc _ _ q0).1
      have y1 := (hgc _ _ q1).1
      have y2 := (hgc _ _ q2).1
      have HP2 := Lib.hid hp2
      have HIX := Lib.hid hix
      have HKZ := Lib.hid (show keys (L ++ [z]) = keys (X ++ [x]) by have e := HK.out; simp only [keys, List.map_append, List.map_cons, List.map_nil] at e ⊢; rw [e, hz, hxq])
      have hbz2 : bz < w2.heap.size := by have := hm2.size; omega
      have hnXi : (n : Int) < (X.length : Int) := by omega
      clear hb2 hf2 hz2 hm2 hz c0 c1 c2 c3 c4 hp2 hix hgc q0 q1 q2 hx hq hxq
      go_wp2_with (refine wpList_append_lies _ (by rfl) (.tmp 120) (.tmp 126) 33 (by rfl) W.heap.size 24 i0 _ 3 40 Try.underlying33 hi hz0 hz1 hz2 rfl (by decide) (.slice (some ⟨g2, 0, none⟩) X.length xc) X.length (cellsE X) (by rfl) (HP2.out.own.alloc _) ⟨w2.heap.size, 0, none⟩ 1 1 [.int .i64 x.f, .int .i64 x.t, .slice x.ao x.l.length x.cap] (by rfl) (by rfl) (World.news_of_block (cs := #[.int .i64 x.f, .int .i64 x.t, .slice x.ao x.l.length x.cap]) (t := 24) (fr := (0, 0)) (heap_alloc_new w2 _)) (by simp [Value.oneCell']) (by omega) (by unfold maxLen; omega) (by omega) (by have := HP2.out.bel.size; simp; omega) (w2.heap.size + 1) (by simp) ?_; intro gg cg w3 hown hgrow hat hlt3; have HP3 := Lib.hid (HP2.out.append HIX.out hown hgrow hat).1; clear hown hgrow hat)
      unfold SW
      exact ⟨X ++ [x], some ⟨gg, 0, none⟩, cg, L ++ [z], al2, cl2, slice_len (by simp), by simp; omega, HKZ.out, HP3.out⟩

set_option maxRecDepth 100000 in
set_option maxHeartbeats 4000000 in
theorem arm3 (W : World) (r : Int) (hrl : r ≤ 4096) (X L : List E) (xo al : Option Addr) (xc cl : Nat) (k : Nat) (hXk : X.length ≤ k) (hXl : X.length ≤ 80) (hLX : L.length = X.length) (HK : Hid (keys L = keys X)) (y : A5) (h100 : y.e.l.length ≤ 100)
    (wB : World) (bz : Nat) (hbz : bz < wB.heap.size) (HNF : Hid (¬ Foot W.heap.size al bz)) (HPB : Hid (PS W r X xo xc L al cl wB)) (HVB : Hid (BytesV wB y.e.v y.e.l)) (HBA : Hid (BytesAway (fun k => W.heap.size ≤ k) y.e.v y.e.l))
    (vin vfu : Bool) (HIN : Hid (decide (0 ≤ y.i ∧ y.i < (X.length : Int)) = vin)) (HFU : Hid (decide (r ≤ (X.length : Int)) = vfu))
    (c0 : wB.cell? ⟨bz, 0, none⟩ = some (.int .i64 y.d)) (c1 : wB.cell? ⟨bz, 1, none⟩ = some (.int .i64 y.i)) (c2 : wB.cell? ⟨bz, 2, none⟩ = some (.int .i64 y.e.f)) (c3 : wB.cell? ⟨bz, 3, none⟩ = some (.int .i64 y.e.t)) (c4 : wB.cell? ⟨bz, 4, none⟩ = some (.slice y.e.ao y.e.l.length y.e.cap))
    (e0 : (y.d == 0) = false) (e1 : (y.d == 1) = false) (e2 : (y.d == 2) = false) (e3 : (y.d == 3) = true) (cd : Code) (hcd : Try.f5.body.bind (partAt 13) = some cd) (s0 s1 s2 s3 s4 s7 s11 s12 s13 s14 s15 s16 s17 s18 s19 s20 s21 s22 s23 s24 s25 s26 s27 s28 s29 s30 s31 s32 s33 s34 s35 s36 s37 s38 s39 s40 s41 s42 s43 s44 s45 s46 s47 s48 s49 s50 s51 s52 s53 s54 s55 s56 s57 s58 s59 s60 s61 s62 s63 s64 s65 s66 s67 s68 s69 s70 s71 s72 s73 s74 s75 s76 s77 s78 s79 s80 s81 s82 s83 s84 s85 s86 s87 s88 s89 s90 s91 s92 s93 s94 s95 s96 s97 s98 s99 s100 s101 s102 s103 s104 s105 s106 s107 s108 s109 s110 s111 s112 s113 s114 s115 s116 s117 s118 s119 s120 s121 s122 s123 s124 s125 s126 s127 s128 s129 s130 s131 s132 s133 s134 s135 s136 s137 s138 s139 s140 s141 s142 s143 s144 s145 s146 s147 s148 s149 s150 s151 s152 s153 s154 s155 s156 s157 s158 s159 s160 s161 s162 s163 s164 s165 s166 s167 s168 s169 s170 s171 s172 s173 s174 s175 s176 s177 s178 s179 s180 s181 s182 s183 s184 s185 s186 s187 s188 s189 s190 s191 s192 s193 s194 s195 s196 s197 s198 s199 s200 s201 s202 s203 s204 s205 s206 : Value) (K : Act → World → Prop) (Q : Exit → Act → World → Prop)
    (hK : ∀ (xv : Value) (wx : World), SW W r k xv wx → ∀ (t4 t11 t12 t13 t14 t15 t25 t26 t27 t28 t29 t30 t31 t32 t33 t34 t35 t36 t37 t38 t39 t40 t41 t42 t43 t44 t45 t46 t47 t48 t49 t50 t51 t52 t53 t54 t55 t56 t57 t58 t59 t60 t61 t62 t63 t64 t65 t66 t67 t68 t69 t70 t71 t72 t73 t74 t75 t76 t77 t78 t79 t80 t81 t82 t83 t84 t85 t86 t87 t88 t89 t90 t91 t92 t93 t94 t95 t96 t97 t98 t99 t100 t101 t102 t103 t104 t105 t106 t107 t108 t109 t110 t111 t112 t113 t114 t115 t116 t117 t118 t119 t120 t121 t122 t123 t124 t125 t126 t127 t128 t129 t130 t131 t132 t133 t134 t135 t136 t137 t138 t139 t140 t141 t142 t143 t144 t145 t146 t147 t148 t149 t150 t151 t152 t153 t154 t155 t156 t157 t158 t159 t160 t161 t162 t163 t164 t165 t166 t167 t168 t169 t170 t171 t172 t173 t174 t175 t176 t177 t178 t179 t180 t181 t182 t183 t184 t185 t186 t187 t188 t189 t190 t191 t192 t193 t194 t195 t196 t197 t198 t199 t200 t201 t202 t203 t204 t205 : Value), K { tmps := #[s0, s1, s2, s3, t4, .pointer (some ⟨W.heap.size, 0, none⟩), xv, s7, .pointer (some ⟨bz, 0, none⟩), .bool vin, .bool vfu, t11, t12, t13, t14, t15, s16, s17, s18, s19, s20, s21, s22, s23, s24, t25, t26, t27, t28, t29, t30, t31, t32, t33, t34, t35, t36, t37, t38, t39, t40, t41, t42, t43, t44, t45, t46, t47, t48, t49, t50, t51, t52, t53, t54, t55, t56, t57, t58, t59, t60, t61, t62, t63, t64, t65, t66, t67, t68, t69, t70, t71, t72, t73, t74, t75, t76, t77, t78, t79, t80, t81, t82, t83, t84, t85, t86, t87, t88, t89, t90, t91, t92, t93, t94, t95, t96, t97, t98, t99, t100, t101, t102, t103, t104, t105, t106, t107, t108, t109, t110, t111, t112, t113, t114, t115, t116, t117, t118, t119, t120, t121, t122, t123, t124, t125, t126, t127, t128, t129, t130, t131, t132, t133, t134, t135, t136, t137, t138, t139, t140, t141, t142, t143, t144, t145, t146, t147, t148, t149, t150, t151, t152, t153, t154, t155, t156, t157, t158, t159, t160, t161, t162, t163, t164, t165, t166, t167, t168, t169, t170, t171, t172, t173, t174, t175, t176, t177, t178, t179, t180, t181, t182, t183, t184, t185, t186, t187, t188, t189, t190, t191, t192, t193, t194, t195, t196, t197, t198, t199, t200, t201, t202, t203, t204, t205, s206], defers := [] } wx) :
    Code.wp Try.prog cd (Exit.then K Q) { tmps := #[s0, s1, s2, s3, s4, .pointer (some ⟨W.heap.size, 0, none⟩), .slice xo X.length xc, s7, .pointer (some ⟨bz, 0, none⟩), .bool vin, .bool vfu, s11, s12, s13, s14, s15, s16, s17, s18, s19, s20, s21, s22, s23, s24, s25, s26, s27, s28, s29, s30, s31, s32, s33, s34, s35, s36, s37, s38, s39, s40, s41, s42, s43, s44, s45, s46, s47, s48, s49, s50, s51, s52, s53, s54, s55, s56, s57, s58, s59, s60, s61, s62, s63, s64, s65, s66, s67, s68, s69, s70, s71, s72, s73, s74, s75, s76, s77, s78, s79, s80, s81, s82, s83, s84, s85, s86, s87, s88, s89, s90, s91, s92, s93, s94, s95, s96, s97, s98, s99, s100, s101, s102, s103, s104, s105, s106, s107, s108, s109, s110, s111, s112, s113, s114, s115, s116, s117, s118, s119, s120, s121, s122, s123, s124, s125, s126, s127, s128, s129, s130, s131, s132, s133, s134, s135, s136, s137, s138, s139, s140, s141, s142, s143, s144, s145, s146, s147, s148, s149, s150, s151, s152, s153, s154, s155, s156, s157, s158, s159, s160, s161, s162, s163, s164, s165, s166, s167, s168, s169, s170, s171, s172, s173, s174, s175, s176, s177, s178, s179, s180, s181, s182, s183, s184, s185, s186, s187, s188, s189, s190, s191, s192, s193, s194, s195, s196, s197, s198, s199, s200, s201, s202, s203, s204, s205, s206], defers := [] } wB := by
  obtain ⟨i0, hi, hz0, hz1, hz2⟩ := info_parts info_env
  conv at hcd => lhs; whnf
  obtain rfl := Option.some.inj hcd
  clear hcd
  have hsl : (stay y.e.t L).length = (stay y.e.t X).length := by simpa [keys] using congrArg List.length (stay_keys (o := y.e.t) HK.out)
  have hsx := stay_le y.e.t X
  have HKZ := Lib.hid (stay_keys (o := y.e.t) HK.out)
  go_wp2_with fail
  refine (filter_any W.heap.size wB W.heap.size r L al cl HPB.out.bag y.e.t).mono ?_
  rintro e w2 ⟨he, hb2, hm2⟩
  rw [hLX, hsl] at he
  subst he
  have hp2 := HPB.out.fewer hb2 (fun y hy => (List.mem_filter.1 hy).1) hm2
  have hnf := HNF.out
  have x3 := (hm2.cell (p := ⟨bz, 3, none⟩) hbz hnf).trans c3
  have hbz2 : bz < w2.heap.size := by have := hm2.size; omega
  have hs2 := hm2.size
  have HXL := Lib.hid HPB.out.xlt
  have HP2 := Lib.hid hp2
  have HX3 := Lib.hid x3
  obtain ⟨zl, hzl⟩ : ∃ zl, (stay y.e.t X).length = zl := ⟨_, rfl⟩
  rw [hzl] at hsx ⊢
  clear hb2 hm2 hp2 x3 c0 c1 c2 c3 c4
  go_wp2_with fail
  go_loopw [14, 15] (fun zv iv w3 => ∃ (m : Nat) (zo : Option Addr) (zc : Nat), zv = .slice zo (stay y.e.t (X.take m)).length zc ∧ iv = .int .i64 m ∧ m ≤ X.length ∧ PS W r X xo xc (stay y.e.t L) al cl w3 ∧ PS W r (stay y.e.t (X.take m)) zo zc (stay y.e.t L) al cl w3 ∧ (∀ b, zo = some b → wB.heap.size ≤ b.block) ∧ w3.cell? ⟨bz, 3, none⟩ = some (.int .i64 y.e.t) ∧ wB.heap.size ≤ w3.heap.size) (fun _ iv _ => X.length - (intOf iv).toNat)
  case atStart => exact ⟨0, none, 0, rfl, rfl, Nat.zero_le _, HP2.out, HP2.out.none, fun b h => (by cases h), HX3.out, hs2⟩
  case round =>
    obtain ⟨m, zo, zc, rfl, rfl, hm, hpx, hpz, hzo, hc3, hw3⟩ := hrel
    have HPX := Lib.hid hpx
    have HPZ := Lib.hid hpz
    have HZO := Lib.hid hzo
    by_cases hlt : m < X.length
    · obtain ⟨x, hx⟩ : ∃ x, X[m]? = some x := ⟨_, List.getElem?_eq_getElem hlt⟩
      have hix := hpx.inn x (List.mem_of_getElem? hx)
      obtain ⟨g2, rfl, hg2, hgc⟩ := rowcell hpx.own (by omega)
      obtain ⟨q0, q1, q2⟩ := cellsE_get X m x hx
      have y0 := (hgc _ _ q0).1
      have y1 := (hgc _ _ q1).1
      have y2 := (hgc _ _ q2).1
      have HIX := Lib.hid hix
      have HST := Lib.hid (stay_step (o := y.e.t) hx)
      have hmX : (m : Int) < (X.length : Int) := by omega
      have hzle : (stay y.e.t (X.take m)).length ≤ m := Nat.le_trans (stay_le _ _) (by rw [List.length_take]; omega)
      obtain ⟨zn, hzn⟩ : ∃ zn, (stay y.e.t (X.take m)).length = zn := ⟨_, rfl⟩
      have HZN := Lib.hid hzn
      rw [hzn] at hzle ⊢
      have hbzw : bz < wr.heap.size := by omega
      clear hpx hpz hix hgc q0 q1 q2 hx hzo hzn
      by_cases hto : x.t = y.e.t
      · have e9 : (x.t != y.e.t) = false := by rw [bne_eq_false_iff_eq]; exact hto
        have HTO := Lib.hid hto
        clear hto
        go_wp2_with fail
        go_quiet (fail)
        go_wp2_with fail
        go_roundw
        case rel =>
          refine ⟨m + 1, zo, zc, slice_len ?_, by go_num, by omega, HPX.out.drewN _, ?_, HZO.out, hc3, hw3⟩
          · rw [HST.out, if_pos HTO.out]; exact HZN.out.symm
          · rw [HST.out, if_pos HTO.out]; exact HPZ.out.drewN _
        case measure => simp [intOf]; omega
      · have e9 : (x.t != y.e.t) = true := by rw [bne_iff_ne]; exact hto
        have HTO := Lib.hid hto
        have HC3 := Lib.hid hc3
        clear hto
        go_wp2_with fail
        go_quiet (fail)
        obtain ⟨w4, hw4⟩ : ∃ w4, w4 = wr.drewN nq := ⟨_, rfl⟩
        have HZ4 := Lib.hid (show PS W r (stay y.e.t (X.take m)) zo zc (stay y.e.t L) al cl w4 by rw [hw4]; exact HPZ.out.drewN _)
        have HX4 := Lib.hid (show PS W r X _ xc (stay y.e.t L) al cl w4 by rw [hw4]; exact HPX.out.drewN _)
        have HI4 := Lib.hid (show x.inn W.heap.size w4 by rw [hw4]; exact HIX.out)
        have HO4 := Lib.hid (show w4.ownsRow W.heap.size 24 3 (.slice zo zn zc) zn (cellsE (stay y.e.t (X.take m))) by have h := HZ4.out.own; rw [HZN.out] at h; exact h)
        have y0' : w4.cell? ⟨g2, m * 3, none⟩ = some (.int .i64 x.f) := by rw [hw4]; exact y0
        have y1' : w4.cell? ⟨g2, m * 3 + 1, none⟩ = some (.int .i64 x.t) := by rw [hw4]; exact y1
        have y2' : w4.cell? ⟨g2, m * 3 + 2, none⟩ = some (.slice x.ao x.l.length x.cap) := by rw [hw4]; exact y2
        have H34 := Lib.hid (show w4.heap.size = wr.heap.size by rw [hw4]; rfl)
        have HC4 := Lib.hid (show w4.cell? ⟨bz, 3, none⟩ = some (.int .i64 y.e.t) by rw [hw4]; exact HC3.out)
        have hg4 : g2 < w4.heap.size := by have := H34.out; omega
        rw [← hw4]
        clear hw4 y0 y1 y2 hc3
        go_wp2_with (refine wpList_append_lies _ (by rfl) (.tmp 152) (.tmp 157) 33 (by rfl) W.heap.size 24 i0 _ 3 40 Try.underlying33 hi hz0 hz1 hz2 rfl (by decide) (.slice zo zn zc) zn (cellsE (stay y.e.t (X.take m))) (by rfl) (HO4.out.alloc _) ⟨w4.heap.size, 0, none⟩ 1 1 [.int .i64 x.f, .int .i64 x.t, .slice x.ao x.l.length x.cap] (by rfl) (by rfl) (World.news_of_block (cs := #[.int .i64 x.f, .int .i64 x.t, .slice x.ao x.l.length x.cap]) (t := 24) (fr := (0, 0)) (heap_alloc_new w4 _)) (by simp [Value.oneCell']) (by omega) (by unfold maxLen; omega) (by omega) (by have := HX4.out.bel.size; simp; omega) (w4.heap.size + 1) (by simp) ?_; intro gg cg w5 hown hgrow hat hlt5; have HAP := Lib.hid (HZ4.out.append HI4.out (by rw [HZN.out]; exact hown) (by rw [HZN.out]; exact hgrow) (by rw [HZN.out]; exact hat)); have HAT := Lib.hid hat; clear hown hgrow hat)
        go_roundw
        case rel =>
          have h34 := H34.out
          have hzx : ∀ k, (∃ a, zo = some a ∧ k = a.block) → wB.heap.size ≤ k := fun k ⟨a, ha, e⟩ => by rw [e]; exact HZO.out a ha
          have hxb : g2 < wB.heap.size := (HXL.out _ rfl).2
          refine ⟨m + 1, some ⟨gg, 0, none⟩, cg, slice_len ?_, by go_num, by omega, ?_, ?_, ?_, ?_, ?_⟩
          · rw [HST.out, if_neg HTO.out, List.length_append, HZN.out]; rfl
          · refine HX4.out.keep HAP.out.2 (fun k hk => by have := hzx k hk; have := HPB.out.bel.size; omega) (fun k hk hF => ?_) (fun a ha hk => ?_) HZ4.out.away
            · obtain ⟨a, ha, rfl⟩ := hk
              exact HZ4.out.apart a ha hF
            · obtain rfl := Option.some.inj ha
              have := hzx _ hk
              simp only at this
              omega
          · rw [HST.out, if_neg HTO.out]; exact HAP.out.1
          · intro b hb
            obtain rfl := Option.some.inj hb
            rcases HAT.out with h | h
            · cases zo with
              | none => cases h
              | some a =>
                have e := Option.some.inj h
                have := HZO.out a rfl
                simp only
                omega
            · simp only; omega
          · exact (HAP.out.2.cell (p := ⟨bz, 3, none⟩) (by show bz < _; omega) (fun hk => by have := hzx _ hk; simp only at this; omega)).trans HC4.out
          · have := HAP.out.2.size; omega
        case measure => simp [intOf]; omega
    · obtain rfl : m = X.length := by omega
      rw [List.take_length] at HPZ ⊢
      have e9 : (((X.length : Int) - (zl : Int)) != ((X.length : Int) - (zl : Int))) = false := by simp
      have hmX : ¬ ((X.length : Nat) : Int) < (X.length : Int) := by omega
      rw [hzl]
      have HZL := Lib.hid hzl
      clear hpx hpz hzo hc3 hzl
      go_wp2_with fail
      unfold SW
      exact ⟨stay y.e.t X, zo, zc, stay y.e.t L, al, cl, slice_len HZL.out.symm, by have := HZL.out; omega, HKZ.out, HPZ.out⟩

set_option maxRecDepth 100000 in
set_option maxHeartbeats 4000000 in
theorem armo (W : World) (r : Int) (hrl : r ≤ 4096) (X L : List E) (xo al : Option Addr) (xc cl : Nat) (k : Nat) (hXk : X.length ≤ k) (hXl : X.length ≤ 80) (hLX : L.length = X.length) (HK : Hid (keys L = keys X)) (y : A5) (h100 : y.e.l.length ≤ 100)
    (wB : World) (bz : Nat) (hbz : bz < wB.heap.size) (HNF : Hid (¬ Foot W.heap.size al bz)) (HPB : Hid (PS W r X xo xc L al cl wB)) (HVB : Hid (BytesV wB y.e.v y.e.l)) (HBA : Hid (BytesAway (fun k => W.heap.size ≤ k) y.e.v y.e.l))
    (vin vfu : Bool) (HIN : Hid (decide (0 ≤ y.i ∧ y.i < (X.length : Int)) = vin)) (HFU : Hid (decide (r ≤ (X.length : Int)) = vfu))
    (c0 : wB.cell? ⟨bz, 0, none⟩ = some (.int .i64 y.d)) (c1 : wB.cell? ⟨bz, 1, none⟩ = some (.int .i64 y.i)) (c2 : wB.cell? ⟨bz, 2, none⟩ = some (.int .i64 y.e.f)) (c3 : wB.cell? ⟨bz, 3, none⟩ = some (.int .i64 y.e.t)) (c4 : wB.cell? ⟨bz, 4, none⟩ = some (.slice y.e.ao y.e.l.length y.e.cap))
    (e0 : (y.d == 0) = false) (e1 : (y.d == 1) = false) (e2 : (y.d == 2) = false) (e3 : (y.d == 3) = false) (cd : Code) (hcd : Try.f5.body.bind (partAt 13) = some cd) (s0 s1 s2 s3 s4 s7 s11 s12 s13 s14 s15 s16 s17 s18 s19 s20 s21 s22 s23 s24 s25 s26 s27 s28 s29 s30 s31 s32 s33 s34 s35 s36 s37 s38 s39 s40 s41 s42 s43 s44 s45 s46 s47 s48 s49 s50 s51 s52 s53 s54 s55 s56 s57 s58 s59 s60 s61 s62 s63 s64 s65 s66 s67 s68 s69 s70 s71 s72 s73 s74 s75 s76 s77 s78 s79 s80 s81 s82 s83 s84 s85 s86 s87 s88 s89 s90 s91 s92 s93 s94 s95 s96 s97 s98 s99 s100 s101 s102 s103 s104 s105 s106 s107 s108 s109 s110 s111 s112 s113 s114 s115 s116 s117 s118 s119 s120 s121 s122 s123 s124 s125 s126 s127 s128 s129 s130 s131 s132 s133 s134 s135 s136 s137 s138 s139 s140 s141 s142 s143 s144 s145 s146 s147 s148 s149 s150 s151 s152 s153 s154 s155 s156 s157 s158 s159 s160 s161 s162 s163 s164 s165 s166 s167 s168 s169 s170 s171 s172 s173 s174 s175 s176 s177 s178 s179 s180 s181 s182 s183 s184 s185 s186 s187 s188 s189 s190 s191 s192 s193 s194 s195 s196 s197 s198 s199 s200 s201 s202 s203 s204 s205 s206 : Value) (K : Act → World → Prop) (Q : Exit → Act → World → Prop)
    (hK : ∀ (xv : Value) (wx : World), SW W r k xv wx → ∀ (t4 t11 t12 t13 t14 t15 t25 t26 t27 t28 t29 t30 t31 t32 t33 t34 t35 t36 t37 t38 t39 t40 t41 t42 t43 t44 t45 t46 t47 t48 t49 t50 t51 t52 t53 t54 t55 t56 t57 t58 t59 t60 t61 t62 t63 t64 t65 t66 t67 t68 t69 t70 t71 t72 t73 t74 t75 t76 t77 t78 t79 t80 t81 t82 t83 t84 t85 t86 t87 t88 t89 t90 t91 t92 t93 t94 t95 t96 t97 t98 t99 t100 t101 t102 t103 t104 t105 t106 t107 t108 t109 t110 t111 t112 t113 t114 t115 t116 t117 t118 t119 t120 t121 t122 t123 t124 t125 t126 t127 t128 t129 t130 t131 t132 t133 t134 t135 t136 t137 t138 t139 t140 t141 t142 t143 t144 t145 t146 t147 t148 t149 t150 t151 t152 t153 t154 t155 t156 t157 t158 t159 t160 t161 t162 t163 t164 t165 t166 t167 t168 t169 t170 t171 t172 t173 t174 t175 t176 t177 t178 t179 t180 t181 t182 t183 t184 t185 t186 t187 t188 t189 t190 t191 t192 t193 t194 t195 t196 t197 t198 t199 t200 t201 t202 t203 t204 t205 : Value), K { tmps := #[s0, s1, s2, s3, t4, .pointer (some ⟨W.heap.size, 0, none⟩), xv, s7, .pointer (some ⟨bz, 0, none⟩), .bool vin, .bool vfu, t11, t12, t13, t14, t15, s16, s17, s18, s19, s20, s21, s22, s23, s24, t25, t26, t27, t28, t29, t30, t31, t32, t33, t34, t35, t36, t37, t38, t39, t40, t41, t42, t43, t44, t45, t46, t47, t48, t49, t50, t51, t52, t53, t54, t55, t56, t57, t58, t59, t60, t61, t62, t63, t64, t65, t66, t67, t68, t69, t70, t71, t72, t73, t74, t75, t76, t77, t78, t79, t80, t81, t82, t83, t84, t85, t86, t87, t88, t89, t90, t91, t92, t93, t94, t95, t96, t97, t98, t99, t100, t101, t102, t103, t104, t105, t106, t107, t108, t109, t110, t111, t112, t113, t114, t115, t116, t117, t118, t119, t120, t121, t122, t123, t124, t125, t126, t127, t128, t129, t130, t131, t132, t133, t134, t135, t136, t137, t138, t139, t140, t141, t142, t143, t144, t145, t146, t147, t148, t149, t150, t151, t152, t153, t154, t155, t156, t157, t158, t159, t160, t161, t162, t163, t164, t165, t166, t167, t168, t169, t170, t171, t172, t173, t174, t175, t176, t177, t178, t179, t180, t181, t182, t183, t184, t185, t186, t187, t188, t189, t190, t191, t192, t193, t194, t195, t196, t197, t198, t199, t200, t201, t202, t203, t204, t205, s206], defers := [] } wx) :
    Code.wp Try.prog cd (Exit.then K Q) { tmps := #[s0, s1, s2, s3, s4, .pointer (some ⟨W.heap.size, 0, none⟩), .slice xo X.length xc, s7, .pointer (some ⟨bz, 0, none⟩), .bool vin, .bool vfu, s11, s12, s13, s14, s15, s16, s17, s18, s19, s20, s21, s22, s23, s24, s25, s26, s27, s28, s29, s30, s31, s32, s33, s34, s35, s36, s37, s38, s39, s40, s41, s42, s43, s44, s45, s46, s47, s48, s49, s50, s51, s52, s53, s54, s55, s56, s57, s58, s59, s60, s61, s62, s63, s64, s65, s66, s67, s68, s69, s70, s71, s72, s73, s74, s75, s76, s77, s78, s79, s80, s81, s82, s83, s84, s85, s86, s87, s88, s89, s90, s91, s92, s93, s94, s95, s96, s97, s98, s99, s100, s101, s102, s103, s104, s105, s106, s107, s108, s109, s110, s111, s112, s113, s114, s115, s116, s117, s118, s119, s120, s121, s122, s123, s124, s125, s126, s127, s128, s129, s130, s131, s132, s133, s134, s135, s136, s137, s138, s139, s140, s141, s142, s143, s144, s145, s146, s147, s148, s149, s150, s151, s152, s153, s154, s155, s156, s157, s158, s159, s160, s161, s162, s163, s164, s165, s166, s167, s168, s169, s170, s171, s172, s173, s174, s175, s176, s177, s178, s179, s180, s181, s182, s183, s184, s185, s186, s187, s188, s189, s190, s191, s192, s193, s194, s195, s196, s197, s198, s199, s200, s201, s202, s203, s204, s205, s206], defers := [] } wB := by
  obtain ⟨i0, hi, hz0, hz1, hz2⟩ := info_parts info_env
  conv at hcd => lhs; whnf
  obtain rfl := Option.some.inj hcd
  clear hcd
  go_wp2_with fail
  unfold SW
  exact ⟨X, xo, xc, L, al, cl, rfl, by omega, HK.out, HPB.out⟩
end Go.Proofs.Ytngackbgcknphaa.B
