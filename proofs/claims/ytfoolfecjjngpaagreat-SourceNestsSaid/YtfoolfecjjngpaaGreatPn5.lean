/-
  Part 5 of 6 of a proof: sourceNests_holds. No condition beyond those that stand in each statement.
-/
import Derived.Test.YtfoolfecjjngpaaGreatPn4
set_option linter.unusedVariables false
set_option linter.unusedSimpArgs false
namespace Go.Proofs.YtfoolfecjjngpaaGreat
open Go.RowKit
theorem ag25 : aggB Tryz.prog 25 = some false := by kernel_rfl
theorem cc207 : Tryz.prog.concrete 207 = true := by kernel_rfl
theorem fo207_0 : fieldB Tryz.prog 207 0 = some (0, 7) := by kernel_rfl
theorem sd207 : sizedB Tryz.prog 207 = true := by kernel_rfl
theorem sd40 : sizedB Tryz.prog 40 = true := by kernel_rfl
theorem ze207 : zeroB Tryz.prog 207 = some (.agg #[.int .i64 0, .int .i64 0, .string (⟨#[]⟩ : ByteArray), (.slice none 0 0), (.slice none 0 0), .pointer none, .pointer none]) := by kernel_rfl
theorem gArg_any {E : List (Option Nat)} {b : Nat} {x : Sx} {s : SS} {k n : Int} {nm : ByteArray} {kv fp kp : Value} {vx : X} {t : Tm} {ev : Value} {e : X} (w : World) (hM : StA E b x w s) (ht : Xs kTm (x.M b ++ E) w [t]) (he : XAt (x.M b ++ E) s.cells.length w .e [ev] e) (hv : XAt (x.M b ++ E) s.cells.length w .v (V7 k n nm kv fp kp) vx) :
  Calls Tryz.prog 134 ([.agg (mx [] t.cs [ev]), .pointer (some ⟨b, 0, none⟩), .agg #[.int .i64 k, .int .i64 n, .string nm, zN, kv, fp, kp]] : List Value).toArray w (Pst E b x w (getsF (.arg (shT t) e) s vx)) := by
 have hG := Gr.refl (x.M b) w
 refine At.enter (N := 18) Tryz.func134 rfl rfl (by simp) [(0, .agg (mx [] t.cs [ev])), (1, .pointer (some ⟨b, 0, none⟩)), (2, .agg #[.int .i64 k, .int .i64 n, .string nm, zN, kv, fp, kp])] (by simp) ?_
 refine .seq (.region ?_)
 refine At.box rfl rfl (fun b1 w1 F1 => ?_)
 have mb1 := hM.newM F1
 have hb1 : w1.heap[b1]? = some (.cells (mx [] t.cs [ev]) 115) := F1.new
 replace hG := hG.below F1.bel
 replace hM := hM.below F1.bel
 refine At.box rfl rfl (fun b2 w2 F2 => ?_)
 have mb2 := hM.newM F2
 replace hb1 := F2.old hb1
 have hb2 : w2.heap[b2]? = some (.cells #[.int .i64 k, .int .i64 n, .string nm, zN, kv, fp, kp] 82) := F2.new
 replace hG := hG.below F2.bel
 replace hM := hM.below F2.bel
 refine .assign rfl rfl (.ops0 (.thenN (.seq (.region (.move rfl rfl (.load rfl (Ld.own (C := #[.int .i64 k, .int .i64 n, .string nm, zN, kv, fp, kp]) ag82 sz82 hb2) rfl (.build (C := #[.int .i64 k, .int .i64 n, .string nm, zN, kv, fp, kp]) sd207 ze207 rfl (Bld.whole fo207_0 rfl rfl) rfl (.iface rfl cc207 rfl ?_))))))))
 refine At.callM en44 rfl rfl (push_any  _ hM (XAt.fn rfl (hv.gr hG.ext lR))) (fun x1 w3 hM G1 => ?_)
 replace hG := hG.trans G1
 obtain ⟨hb1, mb1⟩ := G1.both mb1 hb1
 obtain ⟨hb2, mb2⟩ := G1.both mb2 hb2
 refine .ops0 (.thenN (.seq (.region (.move rfl rfl (.fieldAddr rfl fo115_0 rfl (.load rfl (Ld.ownPart ag31 (sz31.trans (congrArg some ht.one.size.symm)) hb1 (mx_part ht.one.size)) rfl (.fieldAddr rfl fo115_1 rfl (.load rfl (Ld.ownCell ag77 hb1 (mx_at (j := 0) ht.one.size rfl rfl)) rfl ?_))))))))
 refine At.callM en45 rfl rfl (goes_any  _ hM (ht.gr hG.ext) (he.gr hG.ext lR)) (fun x2 w4 hM G2 => ?_)
 replace hG := hG.trans G2
 obtain ⟨hb1, mb1⟩ := G2.both mb1 hb1
 obtain ⟨hb2, mb2⟩ := G2.both mb2 hb2
 refine .assign rfl rfl (.ops0 (.thenN (.retc (.doneR (ResV.tmp rfl ResV.nil) ?_))))
 exact Pst.fin rfl hM hG
theorem gBnd_any {E : List (Option Nat)} {b : Nat} {x : Sx} {s : SS} {k n : Int} {nm : ByteArray} {kv fp kp : Value} {vx : X} {t : Tm} {ev : Value} {e : X} {name : ByteArray} (w : World) (hM : StA E b x w s) (ht : Xs kTm (x.M b ++ E) w [t]) (he : XAt (x.M b ++ E) s.cells.length w .e [ev] e) (hv : XAt (x.M b ++ E) s.cells.length w .v (V7 k n nm kv fp kp) vx) :
  Calls Tryz.prog 135 ([.agg (mx [.string name] t.cs [ev]), .pointer (some ⟨b, 0, none⟩), .agg #[.int .i64 k, .int .i64 n, .string nm, zN, kv, fp, kp]] : List Value).toArray w (Pst E b x w (getsF (.bnd name (shT t) e) s vx)) := by
 have hG := Gr.refl (x.M b) w
 refine At.enter (N := 17) Tryz.func135 rfl rfl (by simp) [(0, .agg (mx [.string name] t.cs [ev])), (1, .pointer (some ⟨b, 0, none⟩)), (2, .agg #[.int .i64 k, .int .i64 n, .string nm, zN, kv, fp, kp])] (by simp) ?_
 refine .seq (.region ?_)
 refine At.box rfl rfl (fun b1 w1 F1 => ?_)
 have mb1 := hM.newM F1
 have hb1 : w1.heap[b1]? = some (.cells (mx [.string name] t.cs [ev]) 117) := F1.new
 replace hG := hG.below F1.bel
 replace hM := hM.below F1.bel
 refine At.box rfl rfl (fun b2 w2 F2 => ?_)
 have mb2 := hM.newM F2
 replace hb1 := F2.old hb1
 have hb2 : w2.heap[b2]? = some (.cells #[.int .i64 k, .int .i64 n, .string nm, zN, kv, fp, kp] 82) := F2.new
 replace hG := hG.below F2.bel
 replace hM := hM.below F2.bel
 refine .assign rfl rfl (.ops0 (.thenN (.seq (.drawG (n := 11) mixed (by kernel_rfl) rfl (PanicOk.then PanicOk.body) ?_))))
 replace hG := hG.drew
 replace hM := hM.drew
 have hb1 : _ := (show w2.drew.heap[b1]? = _ from hb1)
 have hb2 : _ := (show w2.drew.heap[b2]? = _ from hb2)
 refine .wpcS (i := 0) (d := 7) (.pointer (some ⟨b, 0, none⟩)) (by kernel_rfl) rfl rfl rfl (fun Lx => .move rfl rfl (.ops0 fun a ha => ⟨ha, rfl⟩)) ?_
 refine .wpcS (i := 1) (d := 8) (.pointer (some ⟨b1, 0 + 1, none⟩)) (by kernel_rfl) rfl rfl rfl (fun Lx => .fieldAddr rfl fo117_1 rfl (.ops0 fun a ha => ⟨ha, rfl⟩)) ?_
 refine .wpcS (i := 2) (d := 9) (.agg t.cs) (by kernel_rfl) rfl rfl rfl (fun Lx => .load rfl (Ld.ownPart ag31 (sz31.trans (congrArg some ht.one.size.symm)) hb1 (mx_part ht.one.size)) rfl (.ops0 fun a ha => ⟨ha, rfl⟩)) ?_
 refine .wpcS (i := 3) (d := 10) (.pointer (some ⟨b1, 0 + 22, none⟩)) (by kernel_rfl) rfl rfl rfl (fun Lx => .fieldAddr rfl fo117_2 rfl (.ops0 fun a ha => ⟨ha, rfl⟩)) ?_
 refine .wpcS (i := 4) (d := 11) (ev) (by kernel_rfl) rfl rfl rfl (fun Lx => .load rfl (Ld.ownCell ag77 hb1 (mx_at (j := 0) ht.one.size rfl rfl)) rfl (.ops0 fun a ha => ⟨ha, rfl⟩)) ?_
 refine .wpcS (i := 5) (d := 12) (.pointer (some ⟨b1, 0 + 0, none⟩)) (by kernel_rfl) rfl rfl rfl (fun Lx => .fieldAddr rfl fo117_0 rfl (.ops0 fun a ha => ⟨ha, rfl⟩)) ?_
 refine .wpcS (i := 6) (d := 13) (.string name) (by kernel_rfl) rfl rfl rfl (fun Lx => .load rfl (Ld.ownCell ag9 hb1 (mx_pre rfl)) rfl (.ops0 fun a ha => ⟨ha, rfl⟩)) ?_
 refine .wpcS (i := 7) (d := 14) (.agg #[.int .i64 k, .int .i64 n, .string nm, zN, kv, fp, kp]) (by kernel_rfl) rfl rfl rfl (fun Lx => .load rfl (Ld.own (C := #[.int .i64 k, .int .i64 n, .string nm, zN, kv, fp, kp]) ag82 sz82 hb2) rfl (.ops0 fun a ha => ⟨ha, rfl⟩)) ?_
 refine At.wpcE [8] (by kernel_rfl) (by kernel_rfl) (.cons [0, 1, 2] rfl (by kernel_rfl) ?_ .nil)
 refine At.call en46 rfl rfl (with_any name _ hM.lt (he.gr hG.ext lR) (hv.gr hG.ext lR)) (fun e w3 hR => ?_)
 obtain ⟨pe1, rfl, hwe1, hbl1⟩ := hR; refine ⟨_, rfl, ?_⟩
 replace hb1 := Below.old hbl1 hb1
 replace hb2 := Below.old hbl1 hb2
 replace hG := hG.below hbl1
 replace hM := hM.below hbl1
 refine .ops0 ?_
 refine At.wpcN (.cons rfl rfl rfl rfl (fun Lx => ?_) (.cons rfl rfl rfl rfl (fun Lx => ?_) (.cons rfl rfl rfl rfl (fun Lx => ?_) .nil))) ?_
 ·skip
  exact .move rfl rfl (.ops0 fun a ha => ⟨ha, rfl⟩)
 ·skip
  exact .fieldAddr rfl fo117_1 rfl (.ops0 fun a ha => ⟨ha, rfl⟩)
 ·skip
  exact .load rfl (Ld.ownPart ag31 (sz31.trans (congrArg some ht.one.size.symm)) hb1 (mx_part ht.one.size)) rfl (.ops0 fun a ha => ⟨ha, rfl⟩)
 refine At.wpcE [9] (by kernel_rfl) (by kernel_rfl) (.cons [] rfl (by kernel_rfl) ?_ .nil)
 refine At.callM en45 rfl rfl (goes_any  _ hM (ht.gr hG.ext) hwe1) (fun x1 w4 hM G1 => ?_)
 replace hG := hG.trans G1
 obtain ⟨hb1, mb1⟩ := G1.both mb1 hb1
 obtain ⟨hb2, mb2⟩ := G1.both mb2 hb2
 refine .ops0 (.wpcN .nil ?_)
 refine At.wpcE [10] (by kernel_rfl) (by kernel_rfl) (.cons [] rfl (by kernel_rfl) ?_ .nil)
 refine .assign rfl rfl (.ops0 (.wpcN .nil (.wpcZ (.thenN (.retc (.doneR (ResV.tmp rfl ResV.nil) ?_))))))
 exact Pst.fin rfl hM hG
theorem gFrk_any {E : List (Option Nat)} {b : Nat} {x : Sx} {s : SS} {k n : Int} {nm : ByteArray} {kv fp kp : Value} {vx : X} {kv2 ev : Value} {l : List Tm} {e : X} (w : World) (hM : StA E b x w s) (hl : l.length = 2) (hr : RowsAt w kv2 21 (l.map Tm.cs)) (hm : some (vBlock kv2) ∉ x.M b ++ E) (ht : Xs kTm (x.M b ++ E) w l) (he : XAt (x.M b ++ E) s.cells.length w .e [ev] e) (hv : XAt (x.M b ++ E) s.cells.length w .v (V7 k n nm kv fp kp) vx) :
  Calls Tryz.prog 136 ([.agg #[kv2, ev], .pointer (some ⟨b, 0, none⟩), .agg #[.int .i64 k, .int .i64 n, .string nm, zN, kv, fp, kp]] : List Value).toArray w (Pst E b x w (getsF (.frk (l.map shT) e) s vx)) := by
 have hG := Gr.refl (x.M b) w
 refine At.enter (N := 23) Tryz.func136 rfl rfl (by simp) [(0, .agg #[kv2, ev]), (1, .pointer (some ⟨b, 0, none⟩)), (2, .agg #[.int .i64 k, .int .i64 n, .string nm, zN, kv, fp, kp])] (by simp) ?_
 refine .seq (.region ?_)
 refine At.box rfl rfl (fun b1 w1 F1 => ?_)
 have mb1 := hM.newM F1
 have hb1 : w1.heap[b1]? = some (.cells #[kv2, ev] 121) := F1.new
 replace hG := hG.below F1.bel
 replace hM := hM.below F1.bel
 refine At.box rfl rfl (fun b2 w2 F2 => ?_)
 have mb2 := hM.newM F2
 replace hb1 := F2.old hb1
 have hb2 : w2.heap[b2]? = some (.cells #[.int .i64 k, .int .i64 n, .string nm, zN, kv, fp, kp] 82) := F2.new
 replace hG := hG.below F2.bel
 replace hM := hM.below F2.bel
 refine .assign rfl rfl (.ops0 (.thenN (.seq (.seq (.region (.fieldAddr rfl fo82_0 rfl (.fieldAddr rfl fo45_0 rfl (.load rfl (Ld.ownCell ag3 hb2 rfl) rfl (.neI rfl rfl rfl (.ops0 (.thenN ?_)))))))))))
 refine At.cond (b := (!decide (k = 2))) rfl (fun hc1 => ?_) (fun hc1 => ?_)
 ·skip
  have hc1' := hc1; simp only [Bool.not_eq_true', Bool.not_eq_false', decide_eq_true_eq, decide_eq_false_iff_not] at hc1'
  refine .seq (.region (.assign rfl rfl (.ops0 (.thenN (.retc (.thenR (.doneR (ResV.tmp rfl ResV.nil) ?_)))))))
  exact Pst.fin (by have e1 : decide (vx.k = 2) = false := (by rw [hv.kn1]; simpa using hc1); simp only [getsF, e1, cond_false]) hM hG
 have hc1' := hc1; simp only [Bool.not_eq_true', Bool.not_eq_false', decide_eq_true_eq, decide_eq_false_iff_not] at hc1'
 have h01 := hv.h2 (of_decide_eq_true (bnot_f hc1))
 refine .skip (.thenN (.seq (.drawG (n := 13) mixed (by kernel_rfl) rfl (PanicOk.then PanicOk.body) ?_)))
 replace hG := hG.drew
 replace hM := hM.drew
 have hb1 : _ := (show w2.drew.heap[b1]? = _ from hb1)
 have hb2 : _ := (show w2.drew.heap[b2]? = _ from hb2)
 refine .wpcS (i := 0) (d := 11) (.pointer (some ⟨b, 0, none⟩)) (by kernel_rfl) rfl rfl rfl (fun Lx => .move rfl rfl (.ops0 fun a ha => ⟨ha, rfl⟩)) ?_
 refine .wpcS (i := 1) (d := 12) (.pointer (some ⟨b1, 0 + 0, none⟩)) (by kernel_rfl) rfl rfl rfl (fun Lx => .fieldAddr rfl fo121_0 rfl (.ops0 fun a ha => ⟨ha, rfl⟩)) ?_
 refine .wpcS (i := 2) (d := 13) (kv2) (by kernel_rfl) rfl rfl rfl (fun Lx => .load rfl (Ld.ownCell ag22 hb1 rfl) rfl (.ops0 fun a ha => ⟨ha, rfl⟩)) ?_
 refine .wpcS (i := 3) (d := 14) (.pointer (some ⟨b2, 0 + 0, none⟩)) (by kernel_rfl) rfl rfl rfl (fun Lx => .fieldAddr rfl fo82_0 rfl (.ops0 fun a ha => ⟨ha, rfl⟩)) ?_
 refine .wpcS (i := 4) (d := 15) (.pointer (some ⟨b2, 0 + 0 + 1, none⟩)) (by kernel_rfl) rfl rfl rfl (fun Lx => .fieldAddr rfl fo45_1 rfl (.ops0 fun a ha => ⟨ha, rfl⟩)) ?_
 refine .wpcS (i := 5) (d := 16) (.int .i64 n) (by kernel_rfl) rfl rfl rfl (fun Lx => .load rfl (Ld.ownCell ag3 hb2 rfl) rfl (.ops0 fun a ha => ⟨ha, rfl⟩)) ?_
 refine At.wpcS (i := 6) (d := 17) (.int .i64 ((1 - n).toNat : Int)) (by kernel_rfl) rfl rfl rfl (fun Lx => ?_) ?_
 ·skip
  refine .subI rfl rfl rfl (by omega) (.set (d := 17) (u := .int .i64 ((1 - n).toNat : Int)) rfl (congrArg (Value.int .i64) (by omega)) (.ops0 ?_))
  exact fun a ha => ⟨Is.dup ha, rfl⟩
 obtain ⟨u1, hu1⟩ := some_of_lt (l := l) (i := (1 - n).toNat) (by omega)
 refine .wpcS (i := 7) (d := 18) (.pointer (some ⟨vBlock kv2, vOff kv2 + (1 - n).toNat * 21, none⟩)) (by kernel_rfl) rfl rfl rfl (fun Lx => .indexAddr (i := (1 - n).toNat) rfl rfl (hr).okL (lt_of_some hu1) el22 sz31 rfl (.ops0 fun a ha => ⟨ha, rfl⟩)) ?_
 refine .wpcS (i := 8) (d := 19) (.agg u1.cs) (by kernel_rfl) rfl rfl rfl (fun Lx => .load rfl (Ld.row ag31 (sz31.trans (congrArg some (ht.at_ hu1).one.size.symm)) ((((hr).gr hG.ext (fun _ => hm))).row hu1)) rfl (.ops0 fun a ha => ⟨ha, rfl⟩)) ?_
 refine .wpcS (i := 9) (d := 20) (.pointer (some ⟨b1, 0 + 1, none⟩)) (by kernel_rfl) rfl rfl rfl (fun Lx => .fieldAddr rfl fo121_1 rfl (.ops0 fun a ha => ⟨ha, rfl⟩)) ?_
 refine .wpcS (i := 10) (d := 21) (ev) (by kernel_rfl) rfl rfl rfl (fun Lx => .load rfl (Ld.ownCell ag77 hb1 rfl) rfl (.ops0 fun a ha => ⟨ha, rfl⟩)) ?_
 refine At.wpcE [11] (by kernel_rfl) (by kernel_rfl) (.cons [] rfl (by kernel_rfl) ?_ .nil)
 refine At.callM en45 rfl rfl (goes_any  _ hM ((ht.at_ hu1).gr hG.ext) (he.gr hG.ext lR)) (fun x1 w3 hM G1 => ?_)
 replace hG := hG.trans G1
 obtain ⟨hb1, mb1⟩ := G1.both mb1 hb1
 obtain ⟨hb2, mb2⟩ := G1.both mb2 hb2
 refine .ops0 (.wpcN .nil ?_)
 refine At.wpcE [12] (by kernel_rfl) (by kernel_rfl) (.cons [] rfl (by kernel_rfl) ?_ .nil)
 refine .assign rfl rfl (.ops0 (.wpcN .nil (.wpcZ (.thenN (.retc (.doneR (ResV.tmp rfl ResV.nil) ?_))))))
 exact Pst.fin (by rw [getsF, hv.kn1, hv.kn2, getD_sh hu1]; simp only [bnot_f hc1, cond_true]) hM hG
theorem gHnd0_any {E : List (Option Nat)} {b : Nat} {x : Sx} {s : SS} {k n : Int} {nm : ByteArray} {kv fp kp : Value} {vx : X} {av ev : Value} {e : X} (w : World) (hM : StA E b x w s) (hr : RowsAt w av 23 (([] : List Am).map Am.cs)) (hm : ([] : List Am) ≠ [] → some (vBlock av) ∉ x.M b ++ E) (ht : Xs kAm (x.M b ++ E) w ([] : List Am)) (he : XAt (x.M b ++ E) s.cells.length w .e [ev] e) (hv : XAt (x.M b ++ E) s.cells.length w .v (V7 k n nm kv fp kp) vx) :
  Calls Tryz.prog 157 ([.agg #[av, ev], .pointer (some ⟨b, 0, none⟩), .agg #[.int .i64 k, .int .i64 n, .string nm, zN, kv, fp, kp]] : List Value).toArray w (Pst E b x w (getsF (.hnd (([] : List Am).map shAm) e) s vx)) := by
 have hG := Gr.refl (x.M b) w
 refine At.enter (N := 38) Tryz.func157 rfl rfl (by simp) [(0, .agg #[av, ev]), (1, .pointer (some ⟨b, 0, none⟩)), (2, .agg #[.int .i64 k, .int .i64 n, .string nm, zN, kv, fp, kp])] (by simp) ?_
 refine .seq (.region ?_)
 refine At.box rfl rfl (fun b1 w1 F1 => ?_)
 have mb1 := hM.newM F1
 have hb1 : w1.heap[b1]? = some (.cells #[av, ev] 129) := F1.new
 replace hG := hG.below F1.bel
 replace hM := hM.below F1.bel
 refine At.box rfl rfl (fun b2 w2 F2 => ?_)
 have mb2 := hM.newM F2
 replace hb1 := F2.old hb1
 replace hG := hG.below F2.bel
 replace hM := hM.below F2.bel
 refine .assign rfl rfl (.ops0 (.thenN (.seq (.seq (.region ?_)))))
 refine At.join [(1, .pointer (some ⟨b, 0, none⟩)), (3, .pointer (some ⟨b1, 0, none⟩)), (5, .pointer (some ⟨b2, 0, none⟩)), (19, .bool true)] (fun w' => w2 = w') ?_ (fun w3 hS => ?_)
 ·skip
  refine .fieldAddr rfl fo129_0 rfl (.load rfl (Ld.ownCell ag23 hb1 rfl) rfl (.lenSl (n := 0) rfl (hr).okL el23 rfl (.eqI rfl rfl rfl (.set (d := 10) (u := .bool true) rfl (congrArg Value.bool (by simp)) (.move rfl rfl (.no rfl rfl rfl rfl rfl rfl rfl (.no rfl rfl rfl rfl rfl rfl rfl (.no rfl rfl rfl rfl rfl rfl rfl (.no rfl rfl rfl rfl rfl rfl rfl (.no rfl rfl rfl rfl rfl rfl rfl (.no rfl rfl rfl rfl rfl rfl rfl (.no rfl rfl rfl rfl rfl rfl rfl (.pickT rfl rfl rfl ?_)))))))))))))
  exact At.joined (sC rfl (sC rfl (sC rfl (sC rfl sN)))) rfl
 subst hS
 refine .thenN (.condT rfl (.seq (.region (.assign rfl rfl (.ops0 (.thenN (.retc (.thenR (.doneR (ResV.tmp rfl ResV.nil) ?_)))))))))
 exact Pst.fin rfl hM hG
theorem gHnd1_any {E : List (Option Nat)} {b : Nat} {x : Sx} {s : SS} {k n : Int} {nm : ByteArray} {kv fp kp : Value} {vx : X} {av ev : Value} {e : X} {a : Am} {r : List Am} (w : World) (hM : StA E b x w s) (hr : RowsAt w av 23 ((a :: r).map Am.cs)) (hm : (a :: r) ≠ [] → some (vBlock av) ∉ x.M b ++ E) (ht : Xs kAm (x.M b ++ E) w (a :: r)) (he : XAt (x.M b ++ E) s.cells.length w .e [ev] e) (hv : XAt (x.M b ++ E) s.cells.length w .v (V7 k n nm kv fp kp) vx) :
  Calls Tryz.prog 157 ([.agg #[av, ev], .pointer (some ⟨b, 0, none⟩), .agg #[.int .i64 k, .int .i64 n, .string nm, zN, kv, fp, kp]] : List Value).toArray w (Pst E b x w (getsF (.hnd ((a :: r).map shAm) e) s vx)) := by
 have hG := Gr.refl (x.M b) w
 refine At.enter (N := 38) Tryz.func157 rfl rfl (by simp) [(0, .agg #[av, ev]), (1, .pointer (some ⟨b, 0, none⟩)), (2, .agg #[.int .i64 k, .int .i64 n, .string nm, zN, kv, fp, kp])] (by simp) ?_
 have hua : (a :: r)[0]? = some a := rfl
 refine .seq (.region ?_)
 refine At.box rfl rfl (fun b1 w1 F1 => ?_)
 have mb1 := hM.newM F1
 have hb1 : w1.heap[b1]? = some (.cells #[av, ev] 129) := F1.new
 replace hG := hG.below F1.bel
 replace hM := hM.below F1.bel
 refine At.box rfl rfl (fun b2 w2 F2 => ?_)
 have mb2 := hM.newM F2
 replace hb1 := F2.old hb1
 have hb2 : w2.heap[b2]? = some (.cells #[.int .i64 k, .int .i64 n, .string nm, zN, kv, fp, kp] 82) := F2.new
 replace hG := hG.below F2.bel
 replace hM := hM.below F2.bel
 refine .assign rfl rfl (.ops0 (.thenN (.seq (.seq (.region ?_)))))
 refine At.join [(1, .pointer (some ⟨b, 0, none⟩)), (3, .pointer (some ⟨b1, 0, none⟩)), (5, .pointer (some ⟨b2, 0, none⟩)), (19, .bool (decide ((a.vars.length : Int) = 0)))] (fun w' => w2 = w') ?_ (fun w3 hS => ?_)
 ·skip
  refine .fieldAddr rfl fo129_0 rfl (.load rfl (Ld.ownCell ag23 hb1 rfl) rfl (.lenSl (n := (r.length + 1)) rfl (hr).okL el23 rfl (.eqI rfl rfl rfl (.set (d := 10) (u := .bool false) rfl (congrArg Value.bool (decide_eq_false (by omega))) (.move rfl rfl (.yes rfl rfl rfl rfl (.fieldAddr rfl fo129_0 rfl (.yes rfl rfl rfl rfl (.load rfl (Ld.ownCell ag23 hb1 rfl) rfl (.yes rfl rfl rfl rfl (.indexAddr (i := 0) rfl rfl (hr).okL (lt_of_some hua) el23 sz40 rfl (.yes rfl rfl rfl rfl (.fieldAddr rfl fo40_1 rfl (.yes rfl rfl rfl rfl (.load rfl (Ld.cell ag25 (((((hr).gr hG.ext (fun q => hm (map_ne q)))).row hua).get (ht.at_ hua).one.c1)) rfl (.yes rfl rfl rfl rfl (.lenSl (n := a.vars.length) rfl ((ht.at_ hua).one.varsAt).ok el25 rfl (.yes rfl rfl rfl rfl (.eqI rfl rfl rfl (.pickF rfl rfl rfl ?_))))))))))))))))))))
  exact At.joined (sC rfl (sC rfl (sC rfl (sC rfl sN)))) rfl
 subst hS
 refine .thenN ?_
 refine At.cond (b := decide ((a.vars.length : Int) = 0)) rfl (fun hc1 => ?_) (fun hc1 => ?_)
 ·skip
  have hc1' := of_decide_eq_true hc1
  refine .seq (.region (.assign rfl rfl (.ops0 (.thenN (.retc (.thenR (.doneR (ResV.tmp rfl ResV.nil) ?_)))))))
  exact Pst.fin (by have e1 : a.vars = [] := List.length_eq_zero_iff.1 (by have := of_decide_eq_true hc1; omega); simp only [getsF, List.map_cons, shAm, e1]) hM hG
 have hc1' := of_decide_eq_false hc1
 refine .skip (.thenN (.seq (.drawG (n := 19) mixed (by kernel_rfl) rfl (PanicOk.then PanicOk.body) ?_)))
 replace hG := hG.drew
 replace hM := hM.drew
 have hb1 : _ := (show w2.drew.heap[b1]? = _ from hb1)
 have hb2 : _ := (show w2.drew.heap[b2]? = _ from hb2)
 refine .wpcS (i := 0) (d := 20) (.pointer (some ⟨b, 0, none⟩)) (by kernel_rfl) rfl rfl rfl (fun Lx => .move rfl rfl (.ops0 fun a ha => ⟨ha, rfl⟩)) ?_
 refine .wpcS (i := 1) (d := 21) (.pointer (some ⟨b1, 0 + 0, none⟩)) (by kernel_rfl) rfl rfl rfl (fun Lx => .fieldAddr rfl fo129_0 rfl (.ops0 fun a ha => ⟨ha, rfl⟩)) ?_
 refine .wpcS (i := 2) (d := 22) (av) (by kernel_rfl) rfl rfl rfl (fun Lx => .load rfl (Ld.ownCell ag23 hb1 rfl) rfl (.ops0 fun a ha => ⟨ha, rfl⟩)) ?_
 refine .wpcS (i := 3) (d := 23) (.pointer (some ⟨vBlock av, vOff av + 0 * 23, none⟩)) (by kernel_rfl) rfl rfl rfl (fun Lx => .indexAddr (i := 0) rfl rfl (hr).okL (lt_of_some hua) el23 sz40 rfl (.ops0 fun a ha => ⟨ha, rfl⟩)) ?_
 refine .wpcS (i := 4) (d := 24) (.pointer (some ⟨vBlock av, vOff av + 0 * 23 + 2, none⟩)) (by kernel_rfl) rfl rfl rfl (fun Lx => .fieldAddr rfl fo40_2 rfl (.ops0 fun a ha => ⟨ha, rfl⟩)) ?_
 refine .wpcS (i := 5) (d := 25) (.agg a.body.cs) (by kernel_rfl) rfl rfl rfl (fun Lx => .load rfl (Ld.row ag31 (sz31.trans (congrArg some (ht.at_ hua).body.one.size.symm)) (((((hr).gr hG.ext (fun q => hm (map_ne q)))).row hua).part 2 (ht.at_ hua).one.bodyCs)) rfl (.ops0 fun a ha => ⟨ha, rfl⟩)) ?_
 refine .wpcS (i := 6) (d := 26) (.pointer (some ⟨b1, 0 + 1, none⟩)) (by kernel_rfl) rfl rfl rfl (fun Lx => .fieldAddr rfl fo129_1 rfl (.ops0 fun a ha => ⟨ha, rfl⟩)) ?_
 refine .wpcS (i := 7) (d := 27) (ev) (by kernel_rfl) rfl rfl rfl (fun Lx => .load rfl (Ld.ownCell ag77 hb1 rfl) rfl (.ops0 fun a ha => ⟨ha, rfl⟩)) ?_
 refine .wpcS (i := 8) (d := 28) (.pointer (some ⟨b1, 0 + 0, none⟩)) (by kernel_rfl) rfl rfl rfl (fun Lx => .fieldAddr rfl fo129_0 rfl (.ops0 fun a ha => ⟨ha, rfl⟩)) ?_
 refine .wpcS (i := 9) (d := 29) (av) (by kernel_rfl) rfl rfl rfl (fun Lx => .load rfl (Ld.ownCell ag23 hb1 rfl) rfl (.ops0 fun a ha => ⟨ha, rfl⟩)) ?_
 refine .wpcS (i := 10) (d := 30) (.pointer (some ⟨vBlock av, vOff av + 0 * 23, none⟩)) (by kernel_rfl) rfl rfl rfl (fun Lx => .indexAddr (i := 0) rfl rfl (hr).okL (lt_of_some hua) el23 sz40 rfl (.ops0 fun a ha => ⟨ha, rfl⟩)) ?_
 refine .wpcS (i := 11) (d := 31) (.pointer (some ⟨vBlock av, vOff av + 0 * 23 + 1, none⟩)) (by kernel_rfl) rfl rfl rfl (fun Lx => .fieldAddr rfl fo40_1 rfl (.ops0 fun a ha => ⟨ha, rfl⟩)) ?_
 refine .wpcS (i := 12) (d := 32) (a.vv) (by kernel_rfl) rfl rfl rfl (fun Lx => .load rfl (Ld.cell ag25 (((((hr).gr hG.ext (fun q => hm (map_ne q)))).row hua).get (ht.at_ hua).one.c1)) rfl (.ops0 fun a ha => ⟨ha, rfl⟩)) ?_
 obtain ⟨u1, hu1⟩ := some_of_lt (l := a.vars) (i := 0) (by omega)
 refine .wpcS (i := 13) (d := 33) (.pointer (some ⟨vBlock a.vv, vOff a.vv + 0 * 1, none⟩)) (by kernel_rfl) rfl rfl rfl (fun Lx => .indexAddr (i := 0) rfl rfl ((ht.at_ hua).one.varsAt).ok (lt_of_some hu1) el25 sz9 rfl (.ops0 fun a ha => ⟨ha, rfl⟩)) ?_
 refine .wpcS (i := 14) (d := 34) (.string u1) (by kernel_rfl) rfl rfl rfl (fun Lx => .load rfl (Ld.cell ag9 (cell_keep (((((ht.at_ hua).gr hG.ext).one.varsAt)).get hu1) (Below.refl _ _))) rfl (.ops0 fun a ha => ⟨ha, rfl⟩)) ?_
 refine .wpcS (i := 15) (d := 35) (.agg #[.int .i64 k, .int .i64 n, .string nm, zN, kv, fp, kp]) (by kernel_rfl) rfl rfl rfl (fun Lx => .load rfl (Ld.own (C := #[.int .i64 k, .int .i64 n, .string nm, zN, kv, fp, kp]) ag82 sz82 hb2) rfl (.ops0 fun a ha => ⟨ha, rfl⟩)) ?_
 refine At.wpcE [16] (by kernel_rfl) (by kernel_rfl) (.cons [0, 1, 2, 3, 4, 5] rfl (by kernel_rfl) ?_ .nil)
 refine At.call en46 rfl rfl (with_any u1 _ hM.lt (he.gr hG.ext lR) (hv.gr hG.ext lR)) (fun e w4 hR => ?_)
 obtain ⟨pe1, rfl, hwe1, hbl1⟩ := hR; refine ⟨_, rfl, ?_⟩
 replace hb1 := Below.old hbl1 hb1
 replace hb2 := Below.old hbl1 hb2
 replace hG := hG.below hbl1
 replace hM := hM.below hbl1
 refine .ops0 ?_
 refine At.wpcN (.cons rfl rfl rfl rfl (fun Lx => ?_) (.cons rfl rfl rfl rfl (fun Lx => ?_) (.cons rfl rfl rfl rfl (fun Lx => ?_) (.cons rfl rfl rfl rfl (fun Lx => ?_) (.cons rfl rfl rfl rfl (fun Lx => ?_) (.cons rfl rfl rfl rfl (fun Lx => ?_) .nil)))))) ?_
 ·skip
  exact .move rfl rfl (.ops0 fun a ha => ⟨ha, rfl⟩)
 ·skip
  exact .fieldAddr rfl fo129_0 rfl (.ops0 fun a ha => ⟨ha, rfl⟩)
 ·skip
  exact .load rfl (Ld.ownCell ag23 hb1 rfl) rfl (.ops0 fun a ha => ⟨ha, rfl⟩)
 ·skip
  exact .indexAddr (i := 0) rfl rfl (hr).okL (lt_of_some hua) el23 sz40 rfl (.ops0 fun a ha => ⟨ha, rfl⟩)
 ·skip
  exact .fieldAddr rfl fo40_2 rfl (.ops0 fun a ha => ⟨ha, rfl⟩)
 ·skip
  exact .load rfl (Ld.row ag31 (sz31.trans (congrArg some (ht.at_ hua).body.one.size.symm)) (((((hr).gr hG.ext (fun q => hm (map_ne q)))).row hua).part 2 (ht.at_ hua).one.bodyCs)) rfl (.ops0 fun a ha => ⟨ha, rfl⟩)
 refine At.wpcE [17] (by kernel_rfl) (by kernel_rfl) (.cons [] rfl (by kernel_rfl) ?_ .nil)
 refine At.callM en45 rfl rfl (goes_any  _ hM ((ht.at_ hua).body.gr hG.ext) hwe1) (fun x1 w5 hM G1 => ?_)
 replace hG := hG.trans G1
 obtain ⟨hb1, mb1⟩ := G1.both mb1 hb1
 obtain ⟨hb2, mb2⟩ := G1.both mb2 hb2
 refine .ops0 (.wpcN .nil ?_)
 refine At.wpcE [18] (by kernel_rfl) (by kernel_rfl) (.cons [] rfl (by kernel_rfl) ?_ .nil)
 refine .assign rfl rfl (.ops0 (.wpcN .nil (.wpcZ (.thenN (.retc (.doneR (ResV.tmp rfl ResV.nil) ?_))))))
 exact Pst.fin (by simp only [getsF, List.map_cons, shAm]; rw [cons_of0 hu1]) hM hG
theorem clauseS_any {M : List (Option Nat)} {nc : Nat} {av ev : Value} {l : List Am} (name : ByteArray) (w : World)  (hr : RowsAt w av 23 (l.map Am.cs)) (hm : l ≠ [] → some (vBlock av) ∉ M) (ht : Xs kAm M w l) (hev : ev.oneCell' = true) :
  Calls Tryz.prog 154 ([.agg #[av, ev], .string name] : List Value).toArray w fun r w' => ∃ cs ok, r = .returned (.tuple #[.agg cs, .bool ok]) ∧ ((ok = true ∧ ∃ a, clA name l 0 = some a ∧ cs = a.cs) ∨ (ok = false ∧ clA name l 0 = none ∧ cs = #[zS, zN, zI, zI, zS, zS, zI, zN, zN, zI, zS, zI, zN, zN, zI, zN, zI, zI, zS, zI, zN, zN, zI])) ∧ Below w.heap.size w w' := by
 have hlb := hr.lenL
 have hG := Gr.refl [] w
 refine At.enter (N := 33) Tryz.func154 rfl rfl (by simp) [(0, .agg #[av, ev]), (1, .string name)] (by simp) ?_
 refine .seq (.region ?_)
 refine At.box rfl rfl (fun b1 w1 F1 => ?_)
 have hb1 : w1.heap[b1]? = some (.cells #[av, ev] 129) := F1.new
 replace hG := hG.below F1.bel
 refine At.alloc ze40 rfl (fun b2 w2 F2 => ?_)
 have gb2 := F2.gq hG.size
 replace hb1 := F2.old hb1
 have hb2 : w2.heap[b2]? = some (.cells #[zS, zN, zI, zI, zS, zS, zI, zN, zN, zI, zS, zI, zN, zN, zI, zN, zI, zI, zS, zI, zN, zN, zI] 40) := F2.new
 replace hG := hG.below F2.bel
 refine .assign rfl rfl (.ops0 (.thenN (.seq (.seq (.region (.fieldAddr rfl fo129_0 rfl (.load rfl (Ld.ownCell ag23 hb1 rfl) rfl (.lenSl rfl (hr).okL el23 rfl (.move rfl rfl (.ops0 (.thenN (.block ?_))))))))))))
 refine At.loop (Nat) (fun k => [(1, .string name), (4, .pointer (some ⟨b2, 0, none⟩)), (9, av), (10, .int .i64 (l.length : Int)), (11, .int .i64 (k : Int))]) (fun k w3 => Gr [] w [] w3 ∧ w3.heap[b1]? = some (.cells #[av, ev] 129) ∧ w3.heap[b2]? = some (.cells #[zS, zN, zI, zI, zS, zS, zI, zN, zN, zI, zS, zI, zN, zN, zI, zN, zI, zI, zS, zI, zN, zN, zI] 40) ∧ (k ≤ l.length) ∧ (clA name l 0 = clA name l k)) (fun k => l.length - k) (0 : Nat) (sC rfl (sC rfl (sC rfl (sC rfl (sC rfl sN))))) ⟨hG, hb1, hb2, (Nat.zero_le _), (rfl)⟩ (fun k w3 hI => ?_)
 obtain ⟨hG, hb1, hb2, hkb, hs⟩ := hI
 show At _ _ [(1, .string name), (4, .pointer (some ⟨b2, 0, none⟩)), (9, av), (10, .int .i64 (l.length : Int)), (11, .int .i64 (k : Int))] _ _
 refine .seq (.region (.lss rfl rfl rfl (.ops0 (.thenN (.seq ?_)))))
 refine At.cond (b := decide ((k : Int) < (l.length : Int))) rfl (fun hc1 => ?_) (fun hc1 => ?_)
 ·skip
  have hc1' := of_decide_eq_true hc1
  refine .skip (.thenN (.seq (.block (.seq (.region (.move rfl rfl ?_))))))
  obtain ⟨u1, hu1⟩ := some_of_lt (l := l) (i := k) (by omega)
  refine .indexAddr (i := k) rfl rfl (hr).okL (lt_of_some hu1) el23 sz40 rfl (.load rfl (Ld.row ag40 (sz40.trans (congrArg some ((ht.at_ hu1).one).size.symm)) ((((hr).gr hG.any (fun q => hm (map_ne q)))).row hu1)) rfl ?_)
  refine At.alloc ze40 rfl (fun b3 w4 F3 => ?_)
  have n_b1_b3 := F3.ne' hb1
  have n_b2_b3 := F3.ne' hb2
  replace hb1 := F3.old hb1
  replace hb2 := F3.old hb2
  have hb3 : w4.heap[b3]? = some (.cells #[zS, zN, zI, zI, zS, zS, zI, zN, zN, zI, zS, zI, zN, zN, zI, zN, zI, zI, zS, zI, zN, zN, zI] 40) := F3.new
  refine .assign rfl rfl ?_
  refine At.storeAll rfl rfl hb3 (sz40.trans (congrArg some ((ht.at_ hu1).one).size.symm)) ((ht.at_ hu1).one).size.symm ((ht.at_ hu1).one).one (fun w5 S1 => ?_)
  replace hb1 := S1.other hb1 n_b1_b3
  replace hb2 := S1.other hb2 n_b2_b3
  replace hb3 : w5.heap[b3]? = some (.cells u1.cs 40) := S1.new
  replace hG := hG.below (F3.bel2 S1)
  refine .ops0 (.thenN (.seq (.region ?_)))
  refine At.join [(1, .string name), (4, .pointer (some ⟨b2, 0, none⟩)), (9, av), (10, .int .i64 (l.length : Int)), (11, .int .i64 (k : Int)), (7, .pointer (some ⟨b3, 0, none⟩)), (29, .bool ((decide (0 < (k : Int)) && decide (u1.nm = name)) && decide ((u1.vars.length : Int) = 2)))] (fun w' => w5 = w') ?_ (fun w6 hS => ?_)
  ·skip
   refine .move rfl rfl (.gtr rfl rfl rfl (.move rfl rfl ?_))
   refine At.cases (decide (0 < (k : Int))) (fun hg1 => ?_) (fun hg1 => ?_)
   ·skip
    refine .set (d := 18) (u := .bool true) rfl (congrArg Value.bool hg1) ?_
    have hg1' := of_decide_eq_true hg1
    refine .yes rfl rfl rfl rfl (.fieldAddr rfl fo40_0 rfl (.yes rfl rfl rfl rfl (.load rfl (Ld.ownCell ag9 hb3 (ht.at_ hu1).one.c0) rfl (.yes rfl rfl rfl rfl (.move rfl rfl (.yes rfl rfl rfl rfl (.eqS rfl rfl rfl (.pickT rfl rfl rfl (.move rfl rfl ?_)))))))))
    refine At.cases (decide (u1.nm = name)) (fun hg2 => ?_) (fun hg2 => ?_)
    ·skip
     refine .set (d := 24) (u := .bool true) rfl (congrArg Value.bool hg2) ?_
     have hg2' := of_decide_eq_true hg2
     refine .yes rfl rfl rfl rfl (.fieldAddr rfl fo40_1 rfl (.yes rfl rfl rfl rfl (.load rfl (Ld.ownCell ag25 hb3 (ht.at_ hu1).one.c1) rfl (.yes rfl rfl rfl rfl (.lenSl rfl ((ht.at_ hu1).one.varsAt).ok el25 rfl (.yes rfl rfl rfl rfl (.eqI rfl rfl rfl (.pickT rfl rfl rfl ?_))))))))
     exact At.joined (sC rfl (sC rfl (sC rfl (sC rfl (sC rfl (sC rfl (Sub.cons (by show some (Value.bool (decide ((u1.vars.length : Int) = 2))) = some (Value.bool ((decide (0 < (k : Int)) && decide (u1.nm = name)) && decide ((u1.vars.length : Int) = 2))); rw [hg1, hg2] <;> rfl) sN))))))) rfl
    refine .set (d := 24) (u := .bool false) rfl (congrArg Value.bool hg2) ?_
    have hg2' := of_decide_eq_false hg2
    refine .no rfl rfl rfl rfl rfl rfl rfl (.no rfl rfl rfl rfl rfl rfl rfl (.no rfl rfl rfl rfl rfl rfl rfl (.no rfl rfl rfl rfl rfl rfl rfl (.pickF rfl rfl rfl ?_))))
    exact At.joined (sC rfl (sC rfl (sC rfl (sC rfl (sC rfl (sC rfl (Sub.cons (by show some (Value.bool false) = some (Value.bool ((decide (0 < (k : Int)) && decide (u1.nm = name)) && decide ((u1.vars.length : Int) = 2))); rw [hg1, hg2] <;> rfl) sN))))))) rfl
   refine .set (d := 18) (u := .bool false) rfl (congrArg Value.bool hg1) ?_
   have hg1' := of_decide_eq_false hg1
   refine .no rfl rfl rfl rfl rfl rfl rfl (.no rfl rfl rfl rfl rfl rfl rfl (.no rfl rfl rfl rfl rfl rfl rfl (.no rfl rfl rfl rfl rfl rfl rfl (.pickF rfl rfl rfl (.move rfl rfl (.no rfl rfl rfl rfl rfl rfl rfl (.no rfl rfl rfl rfl rfl rfl rfl (.no rfl rfl rfl rfl rfl rfl rfl (.no rfl rfl rfl rfl rfl rfl rfl (.pickF rfl rfl rfl ?_))))))))))
   exact At.joined (sC rfl (sC rfl (sC rfl (sC rfl (sC rfl (sC rfl (Sub.cons (by show some (Value.bool false) = some (Value.bool ((decide (0 < (k : Int)) && decide (u1.nm = name)) && decide ((u1.vars.length : Int) = 2))); rw [hg1] <;> rfl) sN))))))) rfl
  subst hS
  refine .thenN ?_
  refine At.cond (b := ((decide (0 < (k : Int)) && decide (u1.nm = name)) && decide ((u1.vars.length : Int) = 2))) rfl (fun hc2 => ?_) (fun hc2 => ?_)
  ·skip
   refine .seq (.region (.load rfl (Ld.own ag40 (sz40.trans (congrArg some ((ht.at_ hu1).one).size.symm)) hb3) rfl ?_))
   refine At.storeAll rfl rfl hb2 (sz40.trans (congrArg some ((ht.at_ hu1).one).size.symm)) ((ht.at_ hu1).one).size.symm ((ht.at_ hu1).one).one (fun w7 S2 => ?_)
   replace hb2 : w7.heap[b2]? = some (.cells u1.cs 40) := S2.new
   replace hG := hG.set S2 (.inr gb2)
   refine .assign rfl rfl (.ops0 (.thenN (.retc (.inR (.thenR (.thenR (.inR (.thenR (.doneR (ResV.cell rfl (Ld.own ag40 (sz40.trans (congrArg some ((ht.at_ hu1).one).size.symm)) hb2) (ResV.tmp rfl ResV.nil)) ?_)))))))))
   exact ⟨_, _, rfl, .inl ⟨rfl, _, by rw [hs]; exact clA_yes hu1 (by simpa [clP, Bool.and_assoc, two_iff] using hc2), rfl⟩, hG.base⟩
  refine .skip (.inN (.thenN (.region (.addI rfl rfl rfl (by omega) (.move rfl rfl (.ops0 (.thenN ?_)))))))
  exact fun act_ hact_ => ⟨(k + 1), hact_.sub (sC rfl (sC rfl (sC rfl (sC rfl (sC rfl sN))))), ⟨hG, hb1, hb2, (by omega), (by rw [hs]; exact (clA_next hu1 (by simpa [clP, Bool.and_assoc, two_iff] using hc2)).symm)⟩, by first | omega | (dsimp only; omega)⟩
 have hc1' := of_decide_eq_false hc1
 refine .exit (.thenE (.thenE (.inE (.thenN (.seq (.region (.build (C := #[zS, zN, zI, zI, zS, zS, zI, zN, zN, zI, zS, zI, zN, zN, zI, zN, zI, zI, zS, zI, zN, zN, zI]) sd40 ze40 rfl (Bld.nil _) rfl ?_)))))))
 refine At.storeAll rfl rfl hb2 sz40 rfl (by first | (simp [Value.oneCell', ((SlOk.nil)).one]; done) | (simp only [List.all_toArray, List.all_cons, List.all_nil, ((SlOk.nil)).one, Bool.and_true, Bool.true_and] <;> rfl)) (fun w8 S3 => ?_)
 replace hb2 : w8.heap[b2]? = some (.cells #[zS, zN, zI, zI, zS, zS, zI, zN, zN, zI, zS, zI, zN, zN, zI, zN, zI, zI, zS, zI, zN, zN, zI] 40) := S3.new
 replace hG := hG.set S3 (.inr gb2)
 refine .assign rfl rfl (.ops0 (.thenN (.retc (.doneR (ResV.cell rfl (Ld.own (C := #[zS, zN, zI, zI, zS, zS, zI, zN, zN, zI, zS, zI, zN, zN, zI, zN, zI, zI, zS, zI, zN, zN, zI]) ag40 sz40 hb2) (ResV.tmp rfl ResV.nil)) ?_))))
 exact ⟨_, _, rfl, .inr ⟨rfl, by rw [hs]; exact clA_end (by have := of_decide_eq_false hc1; omega), rfl⟩, hG.base⟩
section
variable {M E : List (Option Nat)} {nc : Nat} {w w' : World} {v v' : Value} {rows : List (List Value × X)}
theorem Vs.ones (h : Vs M nc w v rows) : ∀ u ∈ rows, (pC u).all (·.oneCell') = true := fun u hu => by
  have h1 := h.all u hu
  obtain ⟨k, n, nm, kv, fp, kp, _, _, _, e, _⟩ := h1.vinv
  have h2 : XAt M nc w .v (V7 k n nm kv fp kp) u.2 := e ▸ h1
  have h3 := h2.vone
  show u.1.toArray.all _ = true
  rw [e]; exact h3
theorem Vs.sizes (h : Vs M nc w v rows) : ∀ u ∈ rows, (pC u).size = 7 := fun u hu => by
  obtain ⟨k, n, nm, kv, fp, kp, _, _, _, e, _⟩ := (h.all u hu).vinv
  simp [pC, e]
theorem Vs.ofOwn (hO : OwnR 82 7 pC w v rows) (hr : ∀ p ∈ rows, XAt M nc w .v p.1 p.2) (hb : ∀ g, v.ownBlock = some g → some g ∉ M) : Vs M nc w v rows := by
  have hz : ∀ u ∈ rows, (pC u).size = 7 := fun u hu => by
    obtain ⟨k, n, nm, kv, fp, kp, _, _, _, e, _⟩ := (hr u hu).vinv
    simp [pC, e]
  refine ⟨OwnR.rows hO hz, fun hne => ?_, hr⟩
  rcases hO.2 with ⟨_, h0⟩ | ⟨g, cap, cur, rfl, _⟩
  · exact absurd (List.eq_nil_of_length_eq_zero h0) hne
  · exact hb g rfl
theorem Vs.snoc {k n : Int} {nm : ByteArray} {kv fp kp : Value} {y : X} (h : ∀ p ∈ rows, XAt M nc w .v p.1 p.2) (hv : XAt M nc w .v (V7 k n nm kv fp kp) y) : ∀ p ∈ rows ++ [(V7 k n nm kv fp kp, y)], XAt M nc w .v p.1 p.2 := fun p hp => by
  rcases List.mem_append.1 hp with e | e
  · exact h p e
  · rw [List.mem_singleton.1 e]; exact hv
end
theorem kids_len {rows : List (List Value × X)} {y : X} (h : y.kids = rows.map Prod.snd) : y.kids.length = rows.length := by rw [h, List.length_map]
theorem flat_ints (l : List Int) : (l.map fun n : Int => #[Value.int .i64 n]).flatMap (·.toList) = l.map (Value.int .i64) := by
  induction l with
  | nil => rfl
  | cons a r ih => simp only [List.map_cons, List.flatMap_cons, ih]; rfl
def wayQ (nm : ByteArray) (n : Nat) (a : Am) : Bool := decide (a.nm = nm) && decide (a.vars.length = n)
theorem wayQ_next {nm : ByteArray} {n i : Nat} {l : List Am} {u : Am} (hu : l[i]? = some u) (h : wayQ nm n u = false) : (l.drop i).find? (wayQ nm n) = (l.drop (i + 1)).find? (wayQ nm n) := by
  rw [drop_cons hu, List.find?_cons, h]
theorem wayQ_yes {nm : ByteArray} {n i : Nat} {l : List Am} {u : Am} (hu : l[i]? = some u) (h : wayQ nm n u = true) : (l.drop i).find? (wayQ nm n) = some u := by
  rw [drop_cons hu, List.find?_cons, h]
theorem wayQ_end {nm : ByteArray} {n i : Nat} {l : List Am} (h : l.length ≤ i) : (l.drop i).find? (wayQ nm n) = none := by
  rw [List.drop_eq_nil_of_le h]; rfl
theorem wayQ_sh (l : List Am) (nm : ByteArray) (n : Nat) : (l.map shAm).find? (fun a => decide (a.nm = nm) && decide (a.vars.length = n)) = (l.find? (wayQ nm n)).map shAm := by
  rw [List.find?_map]; rfl
theorem wayQ_len {nm : ByteArray} {n : Nat} {l : List Am} {a : Am} (h : l.find? (wayQ nm n) = some a) : a.vars.length = n :=
  have h1 : wayQ nm n a = true := List.find?_some h
  of_decide_eq_true (Bool.and_eq_true_iff.mp h1).2
theorem bindX_snoc : ∀ (l : List ByteArray) (vs : List X) (i : Nat) (e : X) {nm : ByteArray} {y : X}, l[i]? = some nm → vs[i]? = some y → bindX (l.take (i + 1)) (vs.take (i + 1)) e = .e nm y (bindX (l.take i) (vs.take i) e)
  | [], _, _, _, _, _, h, _ => by cases h
  | _ :: _, [], _, _, _, _, _, h => by cases h
  | a :: l, v :: vs, 0, e, _, _, h1, h2 => by cases h1; cases h2; rfl
  | a :: l, v :: vs, i + 1, e, _, _, h1, h2 => by
    simp only [List.take_succ_cons, bindX]
    exact bindX_snoc l vs i _ h1 h2
theorem en138 : entB Tryz.prog 138 = true := by kernel_rfl
theorem en139 : entB Tryz.prog 139 = true := by kernel_rfl
theorem fo82_1 : fieldB Tryz.prog 82 1 = some (4, 1) := by kernel_rfl
theorem cloneV0_any {M : List (Option Nat)} {nc : Nat}  (w : World)  (hd : Vs M nc w zN ([] : List (List Value × X))) :
    Calls Tryz.prog 138 ([zN] : List Value).toArray w fun r w' => ∃ v', r = .returned v' ∧ OwnR 82 7 pC w' v' ([] : List (List Value × X)) ∧ (∀ g, v'.ownBlock = some g → w.heap.size ≤ g) ∧ Below w.heap.size w w' := by
  have hG := Gr.refl [] w
  refine At.enter (N := 8) Tryz.func138 rfl rfl (by simp) [(0, zN)] (by simp) ?_
  refine .seq (.region (.assign rfl rfl (.ops0 (.thenN (.seq (.seq (.region (.move rfl rfl (.eqSN rfl rfl el78 rfl (.ops0 (.thenN (.condT rfl (.seq (.region (.assign rfl rfl (.ops0 (.thenN (.retc (.thenR (.doneR (ResV.tmp rfl ResV.nil) ?_))))))))))))))))))))
  exact ⟨_, rfl, OwnR.nil _ _ _ _, fun _ h => (nomatch h), hG.base⟩
theorem cloneV1_any {M : List (Option Nat)} {nc : Nat} {rows : List (List Value × X)} {a : Addr} {c : Nat} (w : World)  (hd : Vs M nc w (.slice (some a) rows.length c) rows) (hl : rows.length ≤ 1000000000000) :
    Calls Tryz.prog 138 ([(.slice (some a) rows.length c)] : List Value).toArray w fun r w' => ∃ v', r = .returned v' ∧ OwnR 82 7 pC w' v' rows ∧ (∀ g, v'.ownBlock = some g → w.heap.size ≤ g) ∧ Below w.heap.size w w' := by
  have hG := Gr.refl [] w
  refine At.enter (N := 8) Tryz.func138 rfl rfl (by simp) [(0, (.slice (some a) rows.length c))] (by simp) ?_
  refine .seq (.region (.assign rfl rfl (.ops0 (.thenN (.seq (.seq (.region (.move rfl rfl (.eqSN rfl rfl el78 rfl (.ops0 (.thenN (.condF rfl (.skip (.thenN (.seq (.region ?_))))))))))))))))
  refine At.buildSlice (xs := []) rfl rfl el78 sz82 ze82 (by intro v hv; cases hv) rfl (by decide) rfl (fun b1 w1 F1 => ?_)
  have gb1 := F1.gq hG.size
  have hb1 : w1.heap[b1]? = some (.cells #[] 82) := F1.new
  replace hG := hG.below F1.bel
  refine .move rfl rfl ?_
  refine At.appendR (f := pC) (l := []) (l' := rows) rfl rfl el78 el78 sz82 by82 ze82 rfl (OwnR.made hb1) ((hd.gr hG.any lR)).at_ (by decide) hd.ones (by simp; omega) (by simp; omega) rfl (fun va1 w2 hO1 hA1 => ?_)
  have hW := hA1.below hG.base hG.size (fun g hg => by cases hg; exact gb1)
  have hge := hA1.ge hG.size (fun g hg => by cases hg; exact gb1)
  refine .assign rfl rfl (.ops0 (.thenN (.retc (.doneR (ResV.tmp rfl ResV.nil) ?_))))
  exact ⟨_, rfl, hO1, hge, hW⟩
theorem cloneV_any {M : List (Option Nat)} {nc : Nat} {rows : List (List Value × X)} {dv : Value} (w : World) (hd : Vs M nc w dv rows) (hl : rows.length ≤ 1000000000000) : Calls Tryz.prog 138 ([dv] : List Value).toArray w fun r w' => ∃ v', r = .returned v' ∧ OwnR 82 7 pC w' v' rows ∧ (∀ g, v'.ownBlock = some g → w.heap.size ≤ g) ∧ Below w.heap.size w w' := by
 rcases hd.ok with ⟨e, h0⟩ | ⟨a, c, e, _⟩
 ·have h1 := List.eq_nil_of_length_eq_zero h0; subst e h1; exact cloneV0_any w hd
 ·subst e; exact cloneV1_any w hd hl
theorem cloneI0_any  (w : World)  (hd : IntsAt w zN ([] : List Int)) :
    Calls Tryz.prog 30 ([zN] : List Value).toArray w fun r w' => ∃ v', r = .returned v' ∧ Own w' 3 1 v' ([] : List Int).length (([] : List Int).map (Value.int .i64)) ∧ (∀ g, v'.ownBlock = some g → w.heap.size ≤ g) ∧ Below w.heap.size w w' := by
  have hG := Gr.refl [] w
  refine At.enter (N := 8) Tryz.func30 rfl rfl (by simp) [(0, zN)] (by simp) ?_
  refine .seq (.region (.assign rfl rfl (.ops0 (.thenN (.seq (.seq (.region (.move rfl rfl (.eqSN rfl rfl el32 rfl (.ops0 (.thenN (.condT rfl (.seq (.region (.assign rfl rfl (.ops0 (.thenN (.retc (.thenR (.doneR (ResV.tmp rfl ResV.nil) ?_))))))))))))))))))))
  exact ⟨_, rfl, Own.nil _ _ _, fun _ h => (nomatch h), hG.base⟩
theorem cloneI1_any {l : List Int} {a : Addr} {c : Nat} (w : World)  (hd : IntsAt w (.slice (some a) l.length c) l) (hl : l.length ≤ 1000000000000) :
    Calls Tryz.prog 30 ([(.slice (some a) l.length c)] : List Value).toArray w fun r w' => ∃ v', r = .returned v' ∧ Own w' 3 1 v' l.length (l.map (Value.int .i64)) ∧ (∀ g, v'.ownBlock = some g → w.heap.size ≤ g) ∧ Below w.heap.size w w' := by
  have hG := Gr.refl [] w
  refine At.enter (N := 8) Tryz.func30 rfl rfl (by simp) [(0, (.slice (some a) l.length c))] (by simp) ?_
  refine .seq (.region (.assign rfl rfl (.ops0 (.thenN (.seq (.seq (.region (.move rfl rfl (.eqSN rfl rfl el32 rfl (.ops0 (.thenN (.condF rfl (.skip (.thenN (.seq (.region ?_))))))))))))))))
  refine At.buildSlice (xs := []) rfl rfl el32 sz3 ze3 (by intro v hv; cases hv) rfl (by decide) rfl (fun b1 w1 F1 => ?_)
  have gb1 := F1.gq hG.size
  have hb1 : w1.heap[b1]? = some (.cells #[] 3) := F1.new
  replace hG := hG.below F1.bel
  refine .move rfl rfl ?_
  refine At.append (xs := []) (n := 0) (m := l.length) (news := (l.map fun n : Int => #[Value.int .i64 n]).flatMap (·.toList)) rfl rfl el32 sz3 by3 ze3 rfl (OwnR.made (f := fun n : Int => #[Value.int .i64 n]) (sz := 1) hb1) (Src.rows (f := fun n : Int => #[Value.int .i64 n]) (l := l) el32 (IntsAt.keep hd hG.base) (by decide) (by intro u _; simp [Value.oneCell'])) (by have := hd.len; unfold maxLen; omega) (by omega) rfl (fun va1 w2 hO1 hA1 => ?_)
  have hW := hA1.below hG.base hG.size (fun g hg => by cases hg; exact gb1)
  have hge := hA1.ge hG.size (fun g hg => by cases hg; exact gb1)
  refine .assign rfl rfl (.ops0 (.thenN (.retc (.doneR (ResV.tmp rfl ResV.nil) ?_))))
  exact ⟨_, rfl, (by have q := hO1; rw [flat_ints] at q; simpa [resOf] using q), hge, hW⟩
theorem cloneI_any {l : List Int} {dv : Value} (w : World) (hd : IntsAt w dv l) (hl : l.length ≤ 1000000000000) : Calls Tryz.prog 30 ([dv] : List Value).toArray w fun r w' => ∃ v', r = .returned v' ∧ Own w' 3 1 v' l.length (l.map (Value.int .i64)) ∧ (∀ g, v'.ownBlock = some g → w.heap.size ≤ g) ∧ Below w.heap.size w w' := by
 rcases hd.ok with ⟨e, h0⟩ | ⟨a, c, e, _⟩
 ·have h1 := List.eq_nil_of_length_eq_zero h0; subst e h1; exact cloneI0_any w hd
 ·subst e; exact cloneI1_any w hd hl
theorem gGat_any {E : List (Option Nat)} {b : Nat} {x : Sx} {s : SS} {k n : Int} {nm : ByteArray} {kv fp kp : Value} {vx : X} {t : Tm} {dv ev : Value} {e : X} {rows : List (List Value × X)} (w : World) (hM : StA E b x w s) (ht : Xs kTm (x.M b ++ E) w [t]) (hd : Vs (x.M b ++ E) s.cells.length w dv rows) (he : XAt (x.M b ++ E) s.cells.length w .e [ev] e) (hv : XAt (x.M b ++ E) s.cells.length w .v (V7 k n nm kv fp kp) vx) (hl : rows.length ≤ 1000000000) (hlt : s.tr.length ≤ 1000000000000) (hlc : s.cells.length ≤ 1000000000000) :
    Calls Tryz.prog 137 ([.agg (mx [] t.cs [dv, ev]), .pointer (some ⟨b, 0, none⟩), .agg #[.int .i64 k, .int .i64 n, .string nm, zN, kv, fp, kp]] : List Value).toArray w (Pst E b x w (getsF (.gat (shT t) (rows.map Prod.snd) e) s vx)) := by
  have hl : rows.length ≤ 1000000000000 := by omega
  have hG := Gr.refl (x.M b) w
  refine At.enter (N := 59) Tryz.func137 rfl rfl (by simp) [(0, .agg (mx [] t.cs [dv, ev])), (1, .pointer (some ⟨b, 0, none⟩)), (2, .agg #[.int .i64 k, .int .i64 n, .string nm, zN, kv, fp, kp])] (by simp) ?_
  refine .seq (.region ?_)
  refine At.box rfl rfl (fun b1 w1 F1 => ?_)
  have mb1 := hM.newM F1
  have hb1 : w1.heap[b1]? = some (.cells (mx [] t.cs [dv, ev]) 124) := F1.new
  replace hG := hG.below F1.bel
  replace hM := hM.below F1.bel
  refine At.box rfl rfl (fun b2 w2 F2 => ?_)
  have mb2 := hM.newM F2
  replace hb1 := F2.old hb1
  have hb2 : w2.heap[b2]? = some (.cells #[.int .i64 k, .int .i64 n, .string nm, zN, kv, fp, kp] 82) := F2.new
  replace hG := hG.below F2.bel
  replace hM := hM.below F2.bel
  refine .assign rfl rfl (.ops0 (.thenN (.seq (.drawG (n := 7) mixed (by kernel_rfl) rfl (PanicOk.then PanicOk.body) ?_))))
  replace hG := hG.drew
  replace hM := hM.drew
  have hb1 : _ := (show w2.drew.heap[b1]? = _ from hb1)
  have hb2 : _ := (show w2.drew.heap[b2]? = _ from hb2)
  refine At.wpcS (i := 0) (d := 8) (.pointer (some ⟨b1, 0 + 21, none⟩)) (by kernel_rfl) rfl rfl rfl (fun Lx => ?_) ?_
  · skip
    exact .fieldAddr rfl fo124_1 rfl (.ops0 fun a ha => ⟨ha, rfl⟩)
  refine At.wpcS (i := 1) (d := 9) (dv) (by kernel_rfl) rfl rfl rfl (fun Lx => ?_) ?_
  · skip
    exact .load rfl (Ld.ownCell ag78 hb1 (mx_at (j := 0) ht.one.size rfl rfl)) rfl (.ops0 fun a ha => ⟨ha, rfl⟩)
  refine At.wpcS (i := 3) (d := 11) (.agg #[.int .i64 k, .int .i64 n, .string nm, zN, kv, fp, kp]) (by kernel_rfl) rfl rfl rfl (fun Lx => ?_) ?_
  · skip
    exact .load rfl (Ld.own (C := #[.int .i64 k, .int .i64 n, .string nm, zN, kv, fp, kp]) ag82 sz82 hb2) rfl (.ops0 fun a ha => ⟨ha, rfl⟩)
  refine At.wpcE [2, 4] (by kernel_rfl) (by kernel_rfl) (.cons [3] rfl (by kernel_rfl) ?_ (.cons [0, 1] rfl (by kernel_rfl) ?_ .nil))
  · skip
    have hMq := hM; have hGq := hG; have hpd0 := Nat.le_refl 0
    have lb1 := lt_of_obj hb1
    have lb2 := lt_of_obj hb2
    refine At.call en138 rfl rfl (cloneV_any _ (hd.gr hG.ext lR) hl) (fun e w3 hR => ?_)
    obtain ⟨vc, rfl, hOc, hgc, hpd⟩ := hR; refine ⟨_, rfl, ?_⟩
    replace hb1 := Below.old hpd hb1
    replace hb2 := Below.old hpd hb2
    replace hG := hG.below hpd
    replace hM := hM.below hpd
    replace hpd0 := hpd.size
    refine .ops0 ?_
    refine At.wpcN (.cons rfl rfl rfl rfl (fun Lx => ?_) .nil) ?_
    · skip
      exact .load rfl (Ld.own (C := #[.int .i64 k, .int .i64 n, .string nm, zN, kv, fp, kp]) ag82 sz82 hb2) rfl (.ops0 fun a ha => ⟨ha, rfl⟩)
    refine At.wpcE [4] (by kernel_rfl) (by kernel_rfl) (.cons [] rfl (by kernel_rfl) ?_ .nil)
    refine At.buildSlice (xs := [.tmp 11]) rfl rfl el78 sz82 ze82 (by intro v hv; simp only [List.mem_cons, List.not_mem_nil, or_false] at hv; rcases hv with rfl; rfl) rfl (by decide) rfl (fun b3 w4 F3 => ?_)
    replace hb1 := F3.old hb1
    replace hb2 := F3.old hb2
    have hb3 : w4.heap[b3]? = some (.cells #[.int .i64 k, .int .i64 n, .string nm, zN, kv, fp, kp] 82) := F3.new
    replace hM := hM.below F3.bel; replace hG := hG.below F3.bel
    replace hOc := OwnR.fresh hOc F3; replace hpd := Below.andThen hpd F3.bel; replace hpd0 := hpd.size
    refine .ops0 (.wpcN .nil ?_)
    refine At.wpcE [5] (by kernel_rfl) (by kernel_rfl) (.cons [] rfl (by kernel_rfl) ?_ .nil)
    refine At.appendR (f := pC) (l := rows) (l' := [((V7 k n nm kv fp kp, vx) : List Value × X)]) rfl rfl el78 el78 sz82 by82 ze82 rfl hOc (rows_own (f := pC) (ks := [((V7 k n nm kv fp kp, vx) : List Value × X)]) (m := 1) hb3 (by intro u hu; rw [List.mem_singleton.1 hu]; rfl) rfl (by decide)) (by decide) (by intro u hu; rw [List.mem_singleton.1 hu]; exact hv.vone) (by simp; omega) (by simp; omega) rfl (fun va1 w5 hO1 hA1 => ?_)
    replace hb1 := hA1.old hb1 (fun q => absurd (hgc _ q.symm) (Nat.not_le_of_lt lb1))
    replace hb2 := hA1.old hb2 (fun q => absurd (hgc _ q.symm) (Nat.not_le_of_lt lb2))
    have hpd := hA1.below hpd hpd.size hgc
    replace hM := hMq.below hpd; replace hG := hGq.below hpd
    have hnew : ∀ g, Value.ownBlock va1 = some g → some g ∉ x.M b ++ E := fun g hg e => by have h1 := hMq.lt g e; have h2 := hA1.ge hpd0 hgc g hg; omega
    have hvs := Vs.ofOwn hO1 (Vs.snoc (hd.gr hG.ext lR).all (hv.gr hG.ext lR)) hnew
    refine .ops0 (.wpcN .nil ?_)
    refine At.wpcE [6] (by kernel_rfl) (by kernel_rfl) (.cons [] rfl (by kernel_rfl) ?_ .nil)
    refine .assign rfl rfl (.ops0 (.wpcN .nil (.wpcZ (.thenN (.seq (.seq (.region (.move rfl rfl (.lenSl (n := rows.length + 1) rfl (by have q := hvs.ok; simpa using q) el78 rfl (.fieldAddr rfl fo124_0 rfl (.fieldAddr rfl fo31_5 rfl (.load rfl (Ld.ownCell ag22 hb1 (mx_in (j := 5) rfl ht.one.c5)) rfl (.lenSl rfl (ht.one.kidsAt).okL el22 rfl (.lss rfl rfl rfl (.ops0 (.thenN ?_))))))))))))))))
    refine At.cond (b := decide (((rows.length + 1 : Nat) : Int) < (t.kids.length : Int))) rfl (fun hc1 => ?_) (fun hc1 => ?_)
    · skip
      have hc1' := of_decide_eq_true hc1
      refine .seq (.region (.move rfl rfl (.fieldAddr rfl fo124_0 rfl (.load rfl (Ld.ownPart ag31 (sz31.trans (congrArg some ht.one.size.symm)) hb1 (mx_part ht.one.size)) rfl (.move rfl rfl (.fieldAddr rfl fo124_2 rfl (.load rfl (Ld.ownCell ag77 hb1 (mx_at (j := 1) ht.one.size rfl rfl)) rfl (.build (C := (mx [] t.cs [va1, ev])) sd124 ze124 rfl (Bld.mxT (pre := []) (post := [zN, .pointer none]) fo124_0 ht.one.size (Nat.le_of_ble_eq_true rfl) rfl rfl (Bld.mxP (post' := [va1, .pointer none]) (j := 0) fo124_1 ((hvs).ok).one ht.one.size rfl rfl (by simp) (Bld.mxP (post' := [va1, ev]) (j := 1) fo124_2 he.one ht.one.size rfl rfl (by simp) (Bld.nil _)))) rfl (.iface rfl cc124 rfl ?_)))))))))
      refine At.callM en44 rfl rfl (push_any  _ hM (XAt.gat' (ht.gr hG.ext) hvs (he.gr hG.ext lR))) (fun x1 w6 hM G1 => ?_)
      replace hG := hG.trans G1
      replace hvs := hvs.gr G1.ext lR
      obtain ⟨hb1, mb1⟩ := G1.both mb1 hb1
      obtain ⟨hb2, mb2⟩ := G1.both mb2 hb2
      refine .ops0 (.thenN (.seq (.drawG (n := 12) mixed (by kernel_rfl) rfl (PanicOk.then (PanicOk.then PanicOk.body)) ?_)))
      replace hG := hG.drew
      replace hM := hM.drew
      replace hvs := hvs.gr (Gr.refl _ _).drew lR
      have hb1 : _ := (show w6.drew.heap[b1]? = _ from hb1)
      have hb2 : _ := (show w6.drew.heap[b2]? = _ from hb2)
      refine At.wpcS (i := 0) (d := 30) (.pointer (some ⟨b, 0, none⟩)) (by kernel_rfl) rfl rfl rfl (fun Lx => ?_) ?_
      · skip
        exact .move rfl rfl (.ops0 fun a ha => ⟨ha, rfl⟩)
      refine At.wpcS (i := 1) (d := 31) (.pointer (some ⟨b1, 0 + 0, none⟩)) (by kernel_rfl) rfl rfl rfl (fun Lx => ?_) ?_
      · skip
        exact .fieldAddr rfl fo124_0 rfl (.ops0 fun a ha => ⟨ha, rfl⟩)
      refine At.wpcS (i := 2) (d := 32) (.pointer (some ⟨b1, 0 + 0 + 5, none⟩)) (by kernel_rfl) rfl rfl rfl (fun Lx => ?_) ?_
      · skip
        exact .fieldAddr rfl fo31_5 rfl (.ops0 fun a ha => ⟨ha, rfl⟩)
      refine At.wpcS (i := 3) (d := 33) (t.kv) (by kernel_rfl) rfl rfl rfl (fun Lx => ?_) ?_
      · skip
        exact .load rfl (Ld.ownCell ag22 hb1 (mx_in (j := 5) rfl ht.one.c5)) rfl (.ops0 fun a ha => ⟨ha, rfl⟩)
      refine At.wpcS (i := 4) (d := 34) (va1) (by kernel_rfl) rfl rfl rfl (fun Lx => ?_) ?_
      · skip
        exact .move rfl rfl (.ops0 fun a ha => ⟨ha, rfl⟩)
      refine At.wpcS (i := 5) (d := 35) (.int .i64 ((rows.length + 1 : Nat) : Int)) (by kernel_rfl) rfl rfl rfl (fun Lx => ?_) ?_
      · skip
        exact .lenSl (n := rows.length + 1) rfl (by have q := hvs.ok; simpa using q) el78 rfl (.ops0 fun a ha => ⟨ha, rfl⟩)
      obtain ⟨u1, hu1⟩ := some_of_lt (l := t.kids) (i := (rows.length + 1)) (by omega)
      refine At.wpcS (i := 6) (d := 36) (.pointer (some ⟨vBlock t.kv, vOff t.kv + (rows.length + 1) * 21, none⟩)) (by kernel_rfl) rfl rfl rfl (fun Lx => ?_) ?_
      · skip
        exact .indexAddr (i := (rows.length + 1)) rfl rfl (ht.one.kidsAt).okL (lt_of_some hu1) el22 sz31 rfl (.ops0 fun a ha => ⟨ha, rfl⟩)
      refine At.wpcS (i := 7) (d := 37) (.agg u1.cs) (by kernel_rfl) rfl rfl rfl (fun Lx => ?_) ?_
      · skip
        exact .load rfl (Ld.row ag31 (sz31.trans (congrArg some (ht.kid hu1).one.size.symm)) ((((ht.gr hG.ext).one.kidsAt)).row hu1)) rfl (.ops0 fun a ha => ⟨ha, rfl⟩)
      refine At.wpcS (i := 8) (d := 38) (.pointer (some ⟨b1, 0 + 22, none⟩)) (by kernel_rfl) rfl rfl rfl (fun Lx => ?_) ?_
      · skip
        exact .fieldAddr rfl fo124_2 rfl (.ops0 fun a ha => ⟨ha, rfl⟩)
      refine At.wpcS (i := 9) (d := 39) (ev) (by kernel_rfl) rfl rfl rfl (fun Lx => ?_) ?_
      · skip
        exact .load rfl (Ld.ownCell ag77 hb1 (mx_at (j := 1) ht.one.size rfl rfl)) rfl (.ops0 fun a ha => ⟨ha, rfl⟩)
      refine At.wpcE [10] (by kernel_rfl) (by kernel_rfl) (.cons [] rfl (by kernel_rfl) ?_ .nil)
      refine At.callM en45 rfl rfl (goes_any  _ hM ((ht.kid hu1).gr hG.ext) (he.gr hG.ext lR)) (fun x2 w7 hM G2 => ?_)
      replace hG := hG.trans G2
      obtain ⟨hb1, mb1⟩ := G2.both mb1 hb1
      obtain ⟨hb2, mb2⟩ := G2.both mb2 hb2
      refine .ops0 (.wpcN .nil ?_)
      refine At.wpcE [11] (by kernel_rfl) (by kernel_rfl) (.cons [] rfl (by kernel_rfl) ?_ .nil)
      refine .assign rfl rfl (.ops0 (.wpcN .nil (.wpcZ (.thenN (.retc (.thenR (.doneR (ResV.tmp rfl ResV.nil) ?_)))))))
      exact Pst.fin (by have e1 : decide (rows.length + 1 < (shT t).kids.length) = true := (by rw [stT_kl]; exact decide_eq_true (by have := hc1'; omega)); simp only [getsF, e1, cond_true, List.length_map, kid_sh hu1, List.map_append, List.map_cons, List.map_nil]) hM hG
    · skip
      have hc1' := of_decide_eq_false hc1
      refine .skip (.thenN (.seq (.seq (.region (.fieldAddr rfl fo124_0 rfl (.fieldAddr rfl fo31_0 rfl (.load rfl (Ld.ownCell ag3 hb1 (mx_in (j := 0) rfl ht.one.c0)) rfl (.eqI rfl rfl rfl (.ops0 (.thenN ?_))))))))))
      refine At.cond (b := decide (t.k = 11)) rfl (fun hc2 => ?_) (fun hc2 => ?_)
      · skip
        have hc2' := of_decide_eq_true hc2
        refine .seq (.region (.move rfl rfl (.fieldAddr rfl fo124_0 rfl (.fieldAddr rfl fo31_2 rfl (.load rfl (Ld.ownCell ag9 hb1 (mx_in (j := 2) rfl ht.one.c2)) rfl (.build (C := #[.int .i64 4, zI, .string t.nm, zN]) sd45 ze45 rfl (Bld.cons fo45_0 rfl (lB rfl) (Bld.cons fo45_2 rfl (lB rfl) (Bld.nil _))) rfl (.move rfl rfl (.build (C := #[.int .i64 4, zI, .string t.nm, zN, va1, .pointer none, .pointer none]) sd82 ze82 rfl (Bld.cons fo82_0 rfl (lB rfl) (Bld.one fo82_1 ((hvs).ok).one (by first | decide | exact Nat.le_of_ble_eq_true rfl | simp [Value.cells]) (Bld.nil _))) rfl ?_))))))))
        refine At.callM en41 rfl rfl (has_any  _ hM (XAt.mk hvs (.nil (by simp)) (.nil (by simp)) (fun e => absurd e (by decide)) (fun e => absurd e (by decide)))) (fun x3 w8 hM G3 => ?_)
        replace hG := hG.trans G3
        obtain ⟨hb1, mb1⟩ := G3.both mb1 hb1
        obtain ⟨hb2, mb2⟩ := G3.both mb2 hb2
        refine .assign rfl rfl (.ops0 (.thenN (.retc (.thenR (.doneR (ResV.tmp rfl ResV.nil) ?_)))))
        exact Pst.fin (by have e1 : decide (rows.length + 1 < (shT t).kids.length) = false := (by rw [stT_kl]; exact decide_eq_false (by have := hc1'; omega)); simp only [getsF, List.length_map, e1, cond_true, cond_false, stT_k, stT_nm, hc2, List.map_append, List.map_cons, List.map_nil] <;> rfl) hM hG
      · skip
        have hc2' := of_decide_eq_false hc2
        refine .skip (.thenN (.seq (.region (.move rfl rfl (.fieldAddr rfl fo124_0 rfl (.fieldAddr rfl fo31_2 rfl (.load rfl (Ld.ownCell ag9 hb1 (mx_in (j := 2) rfl ht.one.c2)) rfl (.move rfl rfl ?_))))))))
        refine At.callM en139 rfl rfl (op_any t.nm _ hM hvs hlt hlc) (fun x4 w9 hM G4 => ?_)
        replace hG := hG.trans G4
        obtain ⟨hb1, mb1⟩ := G4.both mb1 hb1
        obtain ⟨hb2, mb2⟩ := G4.both mb2 hb2
        refine .assign rfl rfl (.ops0 (.thenN (.retc (.doneR (ResV.tmp rfl ResV.nil) ?_))))
        exact Pst.fin (by have e1 : decide (rows.length + 1 < (shT t).kids.length) = false := (by rw [stT_kl]; exact decide_eq_false (by have := hc1'; omega)); simp only [getsF, List.length_map, e1, cond_true, cond_false, stT_k, stT_nm, hc2, List.map_append, List.map_cons, List.map_nil] <;> rfl) hM hG
  · skip
    refine At.buildSlice (xs := [.tmp 11]) rfl rfl el78 sz82 ze82 (by intro v hv; simp only [List.mem_cons, List.not_mem_nil, or_false] at hv; rcases hv with rfl; rfl) rfl (by decide) rfl (fun b4 w10 F4 => ?_)
    replace hb1 := F4.old hb1
    replace hb2 := F4.old hb2
    have hb4 : w10.heap[b4]? = some (.cells #[.int .i64 k, .int .i64 n, .string nm, zN, kv, fp, kp] 82) := F4.new
    replace hM := hM.below F4.bel; replace hG := hG.below F4.bel
    refine .ops0 ?_
    refine At.wpcN (.cons rfl rfl rfl rfl (fun Lx => ?_) (.cons rfl rfl rfl rfl (fun Lx => ?_) .nil)) ?_
    · skip
      exact .fieldAddr rfl fo124_1 rfl (.ops0 fun a ha => ⟨ha, rfl⟩)
    · skip
      exact .load rfl (Ld.ownCell ag78 hb1 (mx_at (j := 0) ht.one.size rfl rfl)) rfl (.ops0 fun a ha => ⟨ha, rfl⟩)
    refine At.wpcE [2] (by kernel_rfl) (by kernel_rfl) (.cons [] rfl (by kernel_rfl) ?_ .nil)
    have hMq := hM; have hGq := hG; have hpd0 := Nat.le_refl 0
    have lb1 := lt_of_obj hb1
    have lb2 := lt_of_obj hb2
    have lb4 := lt_of_obj hb4
    refine At.call en138 rfl rfl (cloneV_any _ (hd.gr hG.ext lR) hl) (fun e w11 hR => ?_)
    obtain ⟨vc, rfl, hOc, hgc, hpd⟩ := hR; refine ⟨_, rfl, ?_⟩
    replace hb1 := Below.old hpd hb1
    replace hb2 := Below.old hpd hb2
    replace hb4 := Below.old hpd hb4
    replace hG := hG.below hpd
    replace hM := hM.below hpd
    replace hpd0 := hpd.size
    refine .ops0 (.wpcN .nil ?_)
    refine At.wpcE [5] (by kernel_rfl) (by kernel_rfl) (.cons [] rfl (by kernel_rfl) ?_ .nil)
    refine At.appendR (f := pC) (l := rows) (l' := [((V7 k n nm kv fp kp, vx) : List Value × X)]) rfl rfl el78 el78 sz82 by82 ze82 rfl hOc (rows_own (f := pC) (ks := [((V7 k n nm kv fp kp, vx) : List Value × X)]) (m := 1) hb4 (by intro u hu; rw [List.mem_singleton.1 hu]; rfl) rfl (by decide)) (by decide) (by intro u hu; rw [List.mem_singleton.1 hu]; exact hv.vone) (by simp; omega) (by simp; omega) rfl (fun va2 w12 hO2 hA2 => ?_)
    replace hb1 := hA2.old hb1 (fun q => absurd (hgc _ q.symm) (Nat.not_le_of_lt lb1))
    replace hb2 := hA2.old hb2 (fun q => absurd (hgc _ q.symm) (Nat.not_le_of_lt lb2))
    have hpd := hA2.below hpd hpd.size hgc
    replace hM := hMq.below hpd; replace hG := hGq.below hpd
    have hnew : ∀ g, Value.ownBlock va2 = some g → some g ∉ x.M b ++ E := fun g hg e => by have h1 := hMq.lt g e; have h2 := hA2.ge hpd0 hgc g hg; omega
    have hvs := Vs.ofOwn hO2 (Vs.snoc (hd.gr hG.ext lR).all (hv.gr hG.ext lR)) hnew
    refine .ops0 (.wpcN .nil ?_)
    refine At.wpcE [6] (by kernel_rfl) (by kernel_rfl) (.cons [] rfl (by kernel_rfl) ?_ .nil)
    refine .assign rfl rfl (.ops0 (.wpcN .nil (.wpcZ (.thenN (.seq (.seq (.region (.move rfl rfl (.lenSl (n := rows.length + 1) rfl (by have q := hvs.ok; simpa using q) el78 rfl (.fieldAddr rfl fo124_0 rfl (.fieldAddr rfl fo31_5 rfl (.load rfl (Ld.ownCell ag22 hb1 (mx_in (j := 5) rfl ht.one.c5)) rfl (.lenSl rfl (ht.one.kidsAt).okL el22 rfl (.lss rfl rfl rfl (.ops0 (.thenN ?_))))))))))))))))
    refine At.cond (b := decide (((rows.length + 1 : Nat) : Int) < (t.kids.length : Int))) rfl (fun hc3 => ?_) (fun hc3 => ?_)
    · skip
      have hc3' := of_decide_eq_true hc3
      refine .seq (.region (.move rfl rfl (.fieldAddr rfl fo124_0 rfl (.load rfl (Ld.ownPart ag31 (sz31.trans (congrArg some ht.one.size.symm)) hb1 (mx_part ht.one.size)) rfl (.move rfl rfl (.fieldAddr rfl fo124_2 rfl (.load rfl (Ld.ownCell ag77 hb1 (mx_at (j := 1) ht.one.size rfl rfl)) rfl (.build (C := (mx [] t.cs [va2, ev])) sd124 ze124 rfl (Bld.mxT (pre := []) (post := [zN, .pointer none]) fo124_0 ht.one.size (Nat.le_of_ble_eq_true rfl) rfl rfl (Bld.mxP (post' := [va2, .pointer none]) (j := 0) fo124_1 ((hvs).ok).one ht.one.size rfl rfl (by simp) (Bld.mxP (post' := [va2, ev]) (j := 1) fo124_2 he.one ht.one.size rfl rfl (by simp) (Bld.nil _)))) rfl (.iface rfl cc124 rfl ?_)))))))))
      refine At.callM en44 rfl rfl (push_any  _ hM (XAt.gat' (ht.gr hG.ext) hvs (he.gr hG.ext lR))) (fun x5 w13 hM G5 => ?_)
      replace hG := hG.trans G5
      replace hvs := hvs.gr G5.ext lR
      obtain ⟨hb1, mb1⟩ := G5.both mb1 hb1
      obtain ⟨hb2, mb2⟩ := G5.both mb2 hb2
      refine .ops0 (.thenN (.seq (.drawG (n := 12) mixed (by kernel_rfl) rfl (PanicOk.then (PanicOk.then PanicOk.body)) ?_)))
      replace hG := hG.drew
      replace hM := hM.drew
      replace hvs := hvs.gr (Gr.refl _ _).drew lR
      have hb1 : _ := (show w13.drew.heap[b1]? = _ from hb1)
      have hb2 : _ := (show w13.drew.heap[b2]? = _ from hb2)
      refine At.wpcS (i := 0) (d := 30) (.pointer (some ⟨b, 0, none⟩)) (by kernel_rfl) rfl rfl rfl (fun Lx => ?_) ?_
      · skip
        exact .move rfl rfl (.ops0 fun a ha => ⟨ha, rfl⟩)
      refine At.wpcS (i := 1) (d := 31) (.pointer (some ⟨b1, 0 + 0, none⟩)) (by kernel_rfl) rfl rfl rfl (fun Lx => ?_) ?_
      · skip
        exact .fieldAddr rfl fo124_0 rfl (.ops0 fun a ha => ⟨ha, rfl⟩)
      refine At.wpcS (i := 2) (d := 32) (.pointer (some ⟨b1, 0 + 0 + 5, none⟩)) (by kernel_rfl) rfl rfl rfl (fun Lx => ?_) ?_
      · skip
        exact .fieldAddr rfl fo31_5 rfl (.ops0 fun a ha => ⟨ha, rfl⟩)
      refine At.wpcS (i := 3) (d := 33) (t.kv) (by kernel_rfl) rfl rfl rfl (fun Lx => ?_) ?_
      · skip
        exact .load rfl (Ld.ownCell ag22 hb1 (mx_in (j := 5) rfl ht.one.c5)) rfl (.ops0 fun a ha => ⟨ha, rfl⟩)
      refine At.wpcS (i := 4) (d := 34) (va2) (by kernel_rfl) rfl rfl rfl (fun Lx => ?_) ?_
      · skip
        exact .move rfl rfl (.ops0 fun a ha => ⟨ha, rfl⟩)
      refine At.wpcS (i := 5) (d := 35) (.int .i64 ((rows.length + 1 : Nat) : Int)) (by kernel_rfl) rfl rfl rfl (fun Lx => ?_) ?_
      · skip
        exact .lenSl (n := rows.length + 1) rfl (by have q := hvs.ok; simpa using q) el78 rfl (.ops0 fun a ha => ⟨ha, rfl⟩)
      obtain ⟨u2, hu2⟩ := some_of_lt (l := t.kids) (i := (rows.length + 1)) (by omega)
      refine At.wpcS (i := 6) (d := 36) (.pointer (some ⟨vBlock t.kv, vOff t.kv + (rows.length + 1) * 21, none⟩)) (by kernel_rfl) rfl rfl rfl (fun Lx => ?_) ?_
      · skip
        exact .indexAddr (i := (rows.length + 1)) rfl rfl (ht.one.kidsAt).okL (lt_of_some hu2) el22 sz31 rfl (.ops0 fun a ha => ⟨ha, rfl⟩)
      refine At.wpcS (i := 7) (d := 37) (.agg u2.cs) (by kernel_rfl) rfl rfl rfl (fun Lx => ?_) ?_
      · skip
        exact .load rfl (Ld.row ag31 (sz31.trans (congrArg some (ht.kid hu2).one.size.symm)) ((((ht.gr hG.ext).one.kidsAt)).row hu2)) rfl (.ops0 fun a ha => ⟨ha, rfl⟩)
      refine At.wpcS (i := 8) (d := 38) (.pointer (some ⟨b1, 0 + 22, none⟩)) (by kernel_rfl) rfl rfl rfl (fun Lx => ?_) ?_
      · skip
        exact .fieldAddr rfl fo124_2 rfl (.ops0 fun a ha => ⟨ha, rfl⟩)
      refine At.wpcS (i := 9) (d := 39) (ev) (by kernel_rfl) rfl rfl rfl (fun Lx => ?_) ?_
      · skip
        exact .load rfl (Ld.ownCell ag77 hb1 (mx_at (j := 1) ht.one.size rfl rfl)) rfl (.ops0 fun a ha => ⟨ha, rfl⟩)
      refine At.wpcE [10] (by kernel_rfl) (by kernel_rfl) (.cons [] rfl (by kernel_rfl) ?_ .nil)
      refine At.callM en45 rfl rfl (goes_any  _ hM ((ht.kid hu2).gr hG.ext) (he.gr hG.ext lR)) (fun x6 w14 hM G6 => ?_)
      replace hG := hG.trans G6
      obtain ⟨hb1, mb1⟩ := G6.both mb1 hb1
      obtain ⟨hb2, mb2⟩ := G6.both mb2 hb2
      refine .ops0 (.wpcN .nil ?_)
      refine At.wpcE [11] (by kernel_rfl) (by kernel_rfl) (.cons [] rfl (by kernel_rfl) ?_ .nil)
      refine .assign rfl rfl (.ops0 (.wpcN .nil (.wpcZ (.thenN (.retc (.thenR (.doneR (ResV.tmp rfl ResV.nil) ?_)))))))
      exact Pst.fin (by have e1 : decide (rows.length + 1 < (shT t).kids.length) = true := (by rw [stT_kl]; exact decide_eq_true (by have := hc3'; omega)); simp only [getsF, e1, cond_true, List.length_map, kid_sh hu2, List.map_append, List.map_cons, List.map_nil]) hM hG
    · skip
      have hc3' := of_decide_eq_false hc3
      refine .skip (.thenN (.seq (.seq (.region (.fieldAddr rfl fo124_0 rfl (.fieldAddr rfl fo31_0 rfl (.load rfl (Ld.ownCell ag3 hb1 (mx_in (j := 0) rfl ht.one.c0)) rfl (.eqI rfl rfl rfl (.ops0 (.thenN ?_))))))))))
      refine At.cond (b := decide (t.k = 11)) rfl (fun hc4 => ?_) (fun hc4 => ?_)
      · skip
        have hc4' := of_decide_eq_true hc4
        refine .seq (.region (.move rfl rfl (.fieldAddr rfl fo124_0 rfl (.fieldAddr rfl fo31_2 rfl (.load rfl (Ld.ownCell ag9 hb1 (mx_in (j := 2) rfl ht.one.c2)) rfl (.build (C := #[.int .i64 4, zI, .string t.nm, zN]) sd45 ze45 rfl (Bld.cons fo45_0 rfl (lB rfl) (Bld.cons fo45_2 rfl (lB rfl) (Bld.nil _))) rfl (.move rfl rfl (.build (C := #[.int .i64 4, zI, .string t.nm, zN, va2, .pointer none, .pointer none]) sd82 ze82 rfl (Bld.cons fo82_0 rfl (lB rfl) (Bld.one fo82_1 ((hvs).ok).one (by first | decide | exact Nat.le_of_ble_eq_true rfl | simp [Value.cells]) (Bld.nil _))) rfl ?_))))))))
        refine At.callM en41 rfl rfl (has_any  _ hM (XAt.mk hvs (.nil (by simp)) (.nil (by simp)) (fun e => absurd e (by decide)) (fun e => absurd e (by decide)))) (fun x7 w15 hM G7 => ?_)
        replace hG := hG.trans G7
        obtain ⟨hb1, mb1⟩ := G7.both mb1 hb1
        obtain ⟨hb2, mb2⟩ := G7.both mb2 hb2
        refine .assign rfl rfl (.ops0 (.thenN (.retc (.thenR (.doneR (ResV.tmp rfl ResV.nil) ?_)))))
        exact Pst.fin (by have e1 : decide (rows.length + 1 < (shT t).kids.length) = false := (by rw [stT_kl]; exact decide_eq_false (by have := hc3'; omega)); simp only [getsF, List.length_map, e1, cond_true, cond_false, stT_k, stT_nm, hc4, List.map_append, List.map_cons, List.map_nil] <;> rfl) hM hG
      · skip
        have hc4' := of_decide_eq_false hc4
        refine .skip (.thenN (.seq (.region (.move rfl rfl (.fieldAddr rfl fo124_0 rfl (.fieldAddr rfl fo31_2 rfl (.load rfl (Ld.ownCell ag9 hb1 (mx_in (j := 2) rfl ht.one.c2)) rfl (.move rfl rfl ?_))))))))
        refine At.callM en139 rfl rfl (op_any t.nm _ hM hvs hlt hlc) (fun x8 w16 hM G8 => ?_)
        replace hG := hG.trans G8
        obtain ⟨hb1, mb1⟩ := G8.both mb1 hb1
        obtain ⟨hb2, mb2⟩ := G8.both mb2 hb2
        refine .assign rfl rfl (.ops0 (.thenN (.retc (.doneR (ResV.tmp rfl ResV.nil) ?_))))
        exact Pst.fin (by have e1 : decide (rows.length + 1 < (shT t).kids.length) = false := (by rw [stT_kl]; exact decide_eq_false (by have := hc3'; omega)); simp only [getsF, List.length_map, e1, cond_true, cond_false, stT_k, stT_nm, hc4, List.map_append, List.map_cons, List.map_nil] <;> rfl) hM hG
theorem en151 : entB Tryz.prog 151 = true := by kernel_rfl
theorem en152 : entB Tryz.prog 152 = true := by kernel_rfl
theorem way1_any {M : List (Option Nat)} {nc : Nat} {k n : Int} {nm : ByteArray} {kv fp kp : Value} {rows : List (List Value × X)} {a : Am} {b : Nat} (w : World)  (hb : w.heap[b]? = some (.cells (V7 k n nm kv fp kp).toArray 82)) (hk : Vs M nc w kv rows) (ha : Xs kAm M w [a]) :
  Calls Tryz.prog 152 ([.agg a.cs, .pointer (some ⟨b, 0, none⟩)] : List Value).toArray w fun r w' => r = .returned (.bool (wayQ nm rows.length a)) ∧ Below w.heap.size w w' := by
 have hG := Gr.refl [] w
 refine At.enter (N := 19) Tryz.func152 rfl rfl (by simp) [(0, .agg a.cs), (1, .pointer (some ⟨b, 0, none⟩))] (by simp) ?_
 refine .seq (.region ?_)
 refine At.box rfl rfl (fun b1 w1 F1 => ?_)
 have hb1 : w1.heap[b1]? = some (.cells a.cs 40) := F1.new
 replace hG := hG.below F1.bel
 refine .assign rfl rfl (.ops0 (.thenN (.seq (.region ?_))))
 refine At.join [(3, .bool (decide (a.nm = nm) && decide ((a.vars.length : Int) = (rows.length : Int))))] (fun w' => w1 = w') ?_ (fun w2 hS => ?_)
 ·skip
  refine .fieldAddr rfl fo40_0 rfl (.load rfl (Ld.ownCell ag9 hb1 ha.one.c0) rfl (.fieldAddr rfl fo82_0 rfl (.fieldAddr rfl fo45_2 rfl (.load rfl (Ld.ownCell ag9 (Below.old hG.base hb) rfl) rfl (.eqS rfl rfl rfl (.move rfl rfl ?_))))))
  refine At.cases (decide (a.nm = nm)) (fun hg1 => ?_) (fun hg1 => ?_)
  ·skip
   refine .set (d := 10) (u := .bool true) rfl (congrArg Value.bool hg1) ?_
   have hg1' := of_decide_eq_true hg1
   refine .yes rfl rfl rfl rfl (.fieldAddr rfl fo40_1 rfl (.yes rfl rfl rfl rfl (.load rfl (Ld.ownCell ag25 hb1 ha.one.c1) rfl (.yes rfl rfl rfl rfl (.lenSl rfl (ha.one.varsAt).ok el25 rfl (.yes rfl rfl rfl rfl (.fieldAddr rfl fo82_1 rfl (.yes rfl rfl rfl rfl (.load rfl (Ld.ownCell ag78 (Below.old hG.base hb) rfl) rfl (.yes rfl rfl rfl rfl (.lenSl rfl (hk).ok el78 rfl (.yes rfl rfl rfl rfl (.eqI rfl rfl rfl (.pickT rfl rfl rfl (.assign rfl rfl ?_)))))))))))))))
   exact At.joined (Sub.cons (by show some (Value.bool (decide ((a.vars.length : Int) = (rows.length : Int)))) = some (Value.bool (decide (a.nm = nm) && decide ((a.vars.length : Int) = (rows.length : Int)))); rw [hg1] <;> rfl) sN) rfl
  refine .set (d := 10) (u := .bool false) rfl (congrArg Value.bool hg1) ?_
  have hg1' := of_decide_eq_false hg1
  refine .no rfl rfl rfl rfl rfl rfl rfl (.no rfl rfl rfl rfl rfl rfl rfl (.no rfl rfl rfl rfl rfl rfl rfl (.no rfl rfl rfl rfl rfl rfl rfl (.no rfl rfl rfl rfl rfl rfl rfl (.no rfl rfl rfl rfl rfl rfl rfl (.no rfl rfl rfl rfl rfl rfl rfl (.pickF rfl rfl rfl (.assign rfl rfl ?_))))))))
  exact At.joined (Sub.cons (by show some (Value.bool false) = some (Value.bool (decide (a.nm = nm) && decide ((a.vars.length : Int) = (rows.length : Int)))); rw [hg1] <;> rfl) sN) rfl
 subst hS
 refine .thenN (.retc (.doneR (ResV.tmp rfl ResV.nil) ?_))
 exact ⟨by simp [resOf, wayQ, nat_iff], hG.base⟩
theorem wayI_any {M : List (Option Nat)} {nc : Nat} {k n : Int} {nm : ByteArray} {kv fp kp av : Value} {rows : List (List Value × X)} {l : List Am} {b : Nat} (w : World)  (hr : RowsAt w av 23 (l.map Am.cs)) (hm : l ≠ [] → some (vBlock av) ∉ M) (ht : Xs kAm M w l) (hb : w.heap[b]? = some (.cells (V7 k n nm kv fp kp).toArray 82)) (hk : Vs M nc w kv rows) :
  Calls Tryz.prog 151 ([av, .func (.func 152) #[] #[.pointer (some ⟨b, 0, none⟩)]] : List Value).toArray w fun r w' => ∃ j : Int, r = .returned (.int .i64 j) ∧ ((0 ≤ j ∧ ∃ a, l[j.toNat]? = some a ∧ l.find? (wayQ nm rows.length) = some a) ∨ (j = -1 ∧ l.find? (wayQ nm rows.length) = none)) ∧ Below w.heap.size w w' := by
 have hlb := hr.lenL
 have hG := Gr.refl [] w
 refine At.enter (N := 19) Tryz.func151 rfl rfl (by simp) [(0, av), (1, .func (.func 152) #[] #[.pointer (some ⟨b, 0, none⟩)])] (by simp) ?_
 refine .seq (.region (.assign rfl rfl (.ops0 (.thenN (.seq (.seq (.region (.move rfl rfl (.lenSl rfl (hr).okL el23 rfl (.move rfl rfl (.ops0 (.thenN (.block ?_)))))))))))))
 refine At.loop (Nat) (fun i => [(0, av), (1, .func (.func 152) #[] #[.pointer (some ⟨b, 0, none⟩)]), (7, .int .i64 (l.length : Int)), (8, .int .i64 (i : Int))]) (fun i w1 => Gr [] w [] w1 ∧ (i ≤ l.length) ∧ (l.find? (wayQ nm rows.length) = (l.drop i).find? (wayQ nm rows.length))) (fun i => l.length - i) (0 : Nat) (sC rfl (sC rfl (sC rfl (sC rfl sN)))) ⟨hG, (Nat.zero_le _), (rfl)⟩ (fun i w1 hI => ?_)
 obtain ⟨hG, hkb, hs⟩ := hI
 show At _ _ [(0, av), (1, .func (.func 152) #[] #[.pointer (some ⟨b, 0, none⟩)]), (7, .int .i64 (l.length : Int)), (8, .int .i64 (i : Int))] _ _
 refine .seq (.region (.lss rfl rfl rfl (.ops0 (.thenN (.seq ?_)))))
 refine At.cond (b := decide ((i : Int) < (l.length : Int))) rfl (fun hc1 => ?_) (fun hc1 => ?_)
 ·skip
  have hc1' := of_decide_eq_true hc1
  refine .skip (.thenN (.seq (.block (.seq (.region (.move rfl rfl (.assign rfl rfl (.ops0 (.thenN (.seq (.region (.move rfl rfl (.move rfl rfl (.move rfl rfl ?_))))))))))))))
  obtain ⟨u1, hu1⟩ := some_of_lt (l := l) (i := i) (by omega)
  refine .indexAddr (i := i) rfl rfl (hr).okL (lt_of_some hu1) el23 sz40 rfl (.load rfl (Ld.row ag40 (sz40.trans (congrArg some ((ht.at_ hu1).one).size.symm)) ((((hr).gr hG.any (fun q => hm (map_ne q)))).row hu1)) rfl ?_)
  refine At.callV rfl en152 rfl rfl (way1_any _ (Below.old hG.base hb) (hk.gr hG.any lR) ((ht.at_ hu1).gr hG.any)) (fun e w2 hR => ?_)
  obtain ⟨rfl, hbl1⟩ := hR; refine ⟨_, rfl, ?_⟩
  replace hG := hG.below hbl1
  refine .ops0 (.thenN ?_)
  refine At.cond (b := (wayQ nm rows.length u1)) rfl (fun hc2 => ?_) (fun hc2 => ?_)
  ·skip
   refine .seq (.region (.move rfl rfl (.assign rfl rfl (.ops0 (.thenN (.retc (.inR (.thenR (.thenR (.inR (.thenR (.doneR (ResV.tmp rfl ResV.nil) ?_))))))))))))
   exact ⟨_, rfl, .inl ⟨Int.natCast_nonneg _, _, hu1, by rw [hs]; exact wayQ_yes hu1 hc2⟩, hG.base⟩
  refine .skip (.inN (.thenN (.region (.addI rfl rfl rfl (by omega) (.move rfl rfl (.ops0 (.thenN ?_)))))))
  exact fun act_ hact_ => ⟨(i + 1), hact_.sub (sC rfl (sC rfl (sC rfl (sC rfl sN)))), ⟨hG, (by omega), (by rw [hs]; exact wayQ_next hu1 hc2)⟩, by first | omega | (dsimp only; omega)⟩
 have hc1' := of_decide_eq_false hc1
 refine .exit (.thenE (.thenE (.inE (.thenN (.seq (.region (.assign rfl rfl (.ops0 (.thenN (.retc (.doneR (ResV.tmp rfl ResV.nil) ?_)))))))))))
 exact ⟨_, rfl, .inr ⟨rfl, by rw [hs]; exact wayQ_end (by have := of_decide_eq_false hc1; omega)⟩, hG.base⟩
theorem gWay_any {E : List (Option Nat)} {b : Nat} {x : Sx} {s : SS} {k n : Int} {nm : ByteArray} {kv fp kp : Value} {vx : X} {av ev : Value} {e : X} {l : List Am} (w : World) (hM : StA E b x w s) (hr : RowsAt w av 23 (l.map Am.cs)) (hm : l ≠ [] → some (vBlock av) ∉ x.M b ++ E) (ht : Xs kAm (x.M b ++ E) w l) (he : XAt (x.M b ++ E) s.cells.length w .e [ev] e) (hv : XAt (x.M b ++ E) s.cells.length w .v (V7 k n nm kv fp kp) vx) :
  Calls Tryz.prog 150 ([.agg #[av, ev], .pointer (some ⟨b, 0, none⟩), .agg #[.int .i64 k, .int .i64 n, .string nm, zN, kv, fp, kp]] : List Value).toArray w (Pst E b x w (getsF (.way (l.map shAm) e) s vx)) := by
 obtain ⟨_, _, hvm, rows, hk, hvk⟩ := hv.kn
 have hG := Gr.refl (x.M b) w
 refine At.enter (N := 53) Tryz.func150 rfl rfl (by simp) [(0, .agg #[av, ev]), (1, .pointer (some ⟨b, 0, none⟩)), (2, .agg #[.int .i64 k, .int .i64 n, .string nm, zN, kv, fp, kp])] (by simp) ?_
 refine .seq (.region ?_)
 refine At.box rfl rfl (fun b1 w1 F1 => ?_)
 have mb1 := hM.newM F1
 have hb1 : w1.heap[b1]? = some (.cells #[av, ev] 126) := F1.new
 replace hG := hG.below F1.bel
 replace hM := hM.below F1.bel
 refine At.box rfl rfl (fun b2 w2 F2 => ?_)
 have mb2 := hM.newM F2
 replace hb1 := F2.old hb1
 have hb2 : w2.heap[b2]? = some (.cells #[.int .i64 k, .int .i64 n, .string nm, zN, kv, fp, kp] 82) := F2.new
 replace hG := hG.below F2.bel
 replace hM := hM.below F2.bel
 refine .assign rfl rfl (.ops0 (.thenN (.seq (.seq (.region (.fieldAddr rfl fo82_0 rfl (.fieldAddr rfl fo45_0 rfl (.load rfl (Ld.ownCell ag3 hb2 rfl) rfl (.neI rfl rfl rfl (.ops0 (.thenN ?_)))))))))))
 refine At.cond (b := (!decide (k = 4))) rfl (fun hc1 => ?_) (fun hc1 => ?_)
 ·skip
  have hc1' := hc1; simp only [Bool.not_eq_true', Bool.not_eq_false', decide_eq_true_eq, decide_eq_false_iff_not] at hc1'
  refine .seq (.region (.assign rfl rfl (.ops0 (.thenN (.retc (.thenR (.doneR (ResV.tmp rfl ResV.nil) ?_)))))))
  exact Pst.fin (by have e1 : decide (vx.k = 4) = false := (by rw [hv.kn1]; simpa using hc1); simp only [getsF, e1, cond_false]) hM hG
 have hc1' := hc1; simp only [Bool.not_eq_true', Bool.not_eq_false', decide_eq_true_eq, decide_eq_false_iff_not] at hc1'
 have hk4 := of_decide_eq_true (bnot_f hc1)
 refine .skip (.thenN (.seq (.region (.fieldAddr rfl fo126_0 rfl (.load rfl (Ld.ownCell ag23 hb1 rfl) rfl (.makeFunc rfl rfl ?_))))))
 refine At.call en151 rfl rfl (wayI_any _ ((hr).gr hG.ext (fun q => hm (map_ne q))) (by exact hm) (ht.gr hG.ext) hb2 (hk.gr hG.ext lR)) (fun e w3 hR => ?_)
 obtain ⟨j, rfl, hjf, hbl1⟩ := hR; refine ⟨_, rfl, ?_⟩
 replace hb1 := Below.old hbl1 hb1
 replace hb2 := Below.old hbl1 hb2
 replace hG := hG.below hbl1
 replace hM := hM.below hbl1
 refine .assign rfl rfl (.ops0 (.thenN (.seq (.seq (.region (.move rfl rfl (.lss rfl rfl rfl (.ops0 (.thenN ?_)))))))))
 refine At.cond (b := decide (j < 0)) rfl (fun hc2 => ?_) (fun hc2 => ?_)
 ·skip
  have hc2' := of_decide_eq_true hc2
  obtain ⟨_, hfd⟩ := hjf.resolve_left (fun q => by have := q.1; omega)
  refine .seq (.region (.assign rfl rfl (.ops0 (.thenN (.retc (.thenR (.doneR (ResV.tmp rfl ResV.nil) ?_)))))))
  exact Pst.fin (by have e1 : decide (vx.k = 4) = true := (by rw [hv.kn1, hk4]; rfl); simp only [getsF, e1, cond_true, hvm, kids_len hvk, wayQ_sh, hfd, Option.map_none]) hM hG
 have hc2' := of_decide_eq_false hc2
 obtain ⟨hj0, a, haj, hfd⟩ := hjf.resolve_right (fun q => by omega); have hj : j = (j.toNat : Int) := (by omega); have hal := wayQ_len hfd
 refine .skip (.thenN (.seq (.region (.fieldAddr rfl fo126_1 rfl (.load rfl (Ld.ownCell ag77 hb1 rfl) rfl (.assign rfl rfl (.ops0 (.thenN (.seq (.seq (.region (.fieldAddr rfl fo126_0 rfl (.load rfl (Ld.ownCell ag23 hb1 rfl) rfl (.move rfl rfl (.set (d := 25) (u := .int .i64 (j.toNat : Int)) rfl (congrArg (Value.int .i64) hj) (.indexAddr (i := j.toNat) rfl rfl (hr).okL (lt_of_some haj) el23 sz40 rfl (.fieldAddr rfl fo40_1 rfl (.load rfl (Ld.cell ag25 (((((hr).gr hG.ext (fun q => hm (map_ne q)))).row haj).get (ht.at_ haj).one.c1)) rfl (.lenSl rfl ((ht.at_ haj).one.varsAt).ok el25 rfl (.move rfl rfl (.ops0 (.thenN (.block ?_)))))))))))))))))))))))
 refine At.loop (Nat × Value × X) (fun (i, ev1, e1) => [(1, .pointer (some ⟨b, 0, none⟩)), (3, .pointer (some ⟨b1, 0, none⟩)), (5, .pointer (some ⟨b2, 0, none⟩)), (7, .int .i64 j), (8, ev1), (28, a.vv), (29, .int .i64 (a.vars.length : Int)), (30, .int .i64 (i : Int))]) (fun (i, ev1, e1) w4 => StA E b x w4 s ∧ Gr (x.M b) w (x.M b) w4 ∧ w4.heap[b1]? = some (.cells #[av, ev] 126) ∧ some b1 ∉ x.M b ∧ w4.heap[b2]? = some (.cells #[.int .i64 k, .int .i64 n, .string nm, zN, kv, fp, kp] 82) ∧ some b2 ∉ x.M b ∧ XAt (x.M b ++ E) s.cells.length w4 .e [ev1] e1 ∧ (i ≤ a.vars.length) ∧ (e1 = bindX (a.vars.take i) ((rows.map Prod.snd).take i) e)) (fun (i, ev1, e1) => a.vars.length - i) (0, ev, e) (sC rfl (sC rfl (sC rfl (sC rfl (sC rfl (sC rfl (sC rfl (sC rfl sN)))))))) ⟨hM, hG, hb1, mb1, hb2, mb2, (he.gr hG.ext lR), (Nat.zero_le _), (by simp [bindX])⟩ (fun gh w4 hI => ?_)
 obtain ⟨i, ev1, e1⟩ := gh
 obtain ⟨hM, hG, hb1, mb1, hb2, mb2, he1, hib, hej⟩ := hI
 show At _ _ [(1, .pointer (some ⟨b, 0, none⟩)), (3, .pointer (some ⟨b1, 0, none⟩)), (5, .pointer (some ⟨b2, 0, none⟩)), (7, .int .i64 j), (8, ev1), (28, a.vv), (29, .int .i64 (a.vars.length : Int)), (30, .int .i64 (i : Int))] _ _
 refine .seq (.region (.lss rfl rfl rfl (.ops0 (.thenN (.seq ?_)))))
 refine At.cond (b := decide ((i : Int) < (a.vars.length : Int))) rfl (fun hc3 => ?_) (fun hc3 => ?_)
 ·skip
  have hc3' := of_decide_eq_true hc3
  refine .skip (.thenN (.seq (.block (.seq (.region (.move rfl rfl ?_))))))
  obtain ⟨u1, hu1⟩ := some_of_lt (l := a.vars) (i := i) (by first | omega | (have := (hk.at_).lenL; omega))
  refine .indexAddr (i := i) rfl rfl ((ht.at_ haj).one.varsAt).ok (lt_of_some hu1) el25 sz9 rfl (.load rfl (Ld.cell ag9 (cell_keep (((((ht.at_ haj).gr hG.ext).one.varsAt)).get hu1) (Below.refl _ _))) rfl (.assign rfl rfl (.assign rfl rfl (.ops0 (.thenN (.region (.move rfl rfl (.move rfl rfl (.fieldAddr rfl fo82_1 rfl (.load rfl (Ld.ownCell ag78 hb2 rfl) rfl (.move rfl rfl ?_)))))))))))
  obtain ⟨u2, hu2⟩ := some_of_lt (l := rows) (i := i) (by first | omega | (have := (hk.at_).lenL; omega))
  obtain ⟨ku2, nu2, mu2, vu2, fu2, qu2, eu2, hvu2, eku2, enu2, emu2⟩ := hk.get hu2
  refine .indexAddr (i := i) rfl rfl (hk).ok (lt_of_some hu2) el78 sz82 rfl (.load rfl (Ld.row ag82 (sz82.trans (congrArg some (rfl : (V7 _ _ _ _ _ _).toArray.size = 7).symm)) (((hk.gr hG.ext lR)).cells hu2 eu2)) rfl ?_)
  refine At.call en46 rfl rfl (with_any u1 _ hM.lt he1 (hvu2.gr hG.ext lR)) (fun e w5 hR => ?_)
  obtain ⟨pe1, rfl, hwe1, hbl2⟩ := hR; refine ⟨_, rfl, ?_⟩
  replace hb1 := Below.old hbl2 hb1
  replace hb2 := Below.old hbl2 hb2
  replace hG := hG.below hbl2
  replace hM := hM.below hbl2
  refine .assign rfl rfl (.ops0 (.inN (.thenN (.region (.addI rfl rfl rfl (by first | omega | (have := (hk.at_).lenL; omega)) (.move rfl rfl (.ops0 (.thenN ?_))))))))
  exact fun act_ hact_ => ⟨((i + 1), pe1, (.e u1 u2.2 e1)), hact_.sub (sC rfl (sC rfl (sC rfl (sC rfl (sC rfl (sC rfl (sC rfl (sC rfl sN)))))))), ⟨hM, hG, hb1, mb1, hb2, mb2, hwe1, (by omega), (by rw [hej]; exact (bindX_snoc _ _ _ _ hu1 (by simp [hu2])).symm)⟩, by first | omega | (dsimp only; omega)⟩
 have hc3' := of_decide_eq_false hc3
 refine .exit (.thenE (.thenE (.inE (.thenN (.seq (.region (.move rfl rfl (.fieldAddr rfl fo126_0 rfl (.load rfl (Ld.ownCell ag23 hb1 rfl) rfl (.move rfl rfl (.set (d := 47) (u := .int .i64 (j.toNat : Int)) rfl (congrArg (Value.int .i64) hj) (.indexAddr (i := j.toNat) rfl rfl (hr).okL (lt_of_some haj) el23 sz40 rfl (.fieldAddr rfl fo40_2 rfl (.load rfl (Ld.row ag31 (sz31.trans (congrArg some (ht.at_ haj).body.one.size.symm)) (((((hr).gr hG.ext (fun q => hm (map_ne q)))).row haj).part 2 (ht.at_ haj).one.bodyCs)) rfl (.move rfl rfl ?_)))))))))))))))
 refine At.callM en45 rfl rfl (goes_any  _ hM ((ht.at_ haj).body.gr hG.ext) he1) (fun x1 w6 hM G1 => ?_)
 replace hG := hG.trans G1
 obtain ⟨hb1, mb1⟩ := G1.both mb1 hb1
 obtain ⟨hb2, mb2⟩ := G1.both mb2 hb2
 refine .assign rfl rfl (.ops0 (.thenN (.retc (.doneR (ResV.tmp rfl ResV.nil) ?_))))
 exact Pst.fin (by have e1 : decide (vx.k = 4) = true := (by rw [hv.kn1, hk4]; rfl); simp only [getsF, e1, cond_true, hvm, kids_len hvk, wayQ_sh, hfd, Option.map_some]; rw [hej, List.take_of_length_le (by omega), List.take_of_length_le (by rw [List.length_map]; omega), hvk]; rfl) hM hG
inductive OAt (M : List (Option Nat)) (w : World) : List Value → OV → Prop
  | mk {k n : Int} {nm : ByteArray} {kv : Value} (rows : List (List Value × OV)) (hr : RowsAt w kv 4 (rows.map fun p => p.1.toArray)) (hm : rows ≠ [] → some (vBlock kv) ∉ M) (hk : ∀ p ∈ rows, OAt M w p.1 p.2) : OAt M w [.int .i64 k, .int .i64 n, .string nm, kv] (.mk k n nm (rows.map Prod.snd))
abbrev V4 (k n : Int) (nm : ByteArray) (kv : Value) : List Value := [.int .i64 k, .int .i64 n, .string nm, kv]
abbrev oC : List Value × OV → Array Value := fun p => p.1.toArray
theorem OAt.gr {M M' : List (Option Nat)} {w w' : World} {cs : List Value} {y : OV} (h : OAt M w cs y) (hG : Gr M w M' w') : OAt M' w' cs y := by
  induction h with
  | mk rows hr hm hk ih => exact .mk rows (hr.gr hG fun h => hm (map_ne h)) (fun h => hG.out (RowsAt.blkLt hr (by decide) h) (hm h)) ih
theorem OAt.inv {M : List (Option Nat)} {w : World} {cs : List Value} {y : OV} (h : OAt M w cs y) : ∃ k n nm kv rows, cs = V4 k n nm kv ∧ y = .mk k n nm (rows.map Prod.snd) ∧ RowsAt w kv 4 (rows.map fun p => p.1.toArray) ∧ (rows ≠ [] → some (vBlock kv) ∉ M) ∧ ∀ p ∈ rows, OAt M w p.1 p.2 := by
  cases h with
  | mk rows hr hm hk => exact ⟨_, _, _, _, rows, rfl, rfl, hr, hm, hk⟩
theorem OAt.sizes {M : List (Option Nat)} {w : World} {rows : List (List Value × OV)} (h : ∀ p ∈ rows, OAt M w p.1 p.2) : ∀ u ∈ rows, (oC u).size = 4 := fun u hu => by
  obtain ⟨_, _, _, _, _, e, _⟩ := (h u hu).inv
  simp [oC, e]
theorem OAt.vone {M : List (Option Nat)} {w : World} {k n : Int} {nm : ByteArray} {kv : Value} {y : OV} (h : OAt M w (V4 k n nm kv) y) : (V4 k n nm kv).toArray.all (·.oneCell') = true := by
  cases h with
  | mk rows hr hm hk =>
    have a := hr.ok.one
    simp only [V4, List.all_toArray, List.all_cons, List.all_nil, a]; rfl
theorem OAt.ofOwn {M : List (Option Nat)} {w : World} {k n : Int} {nm : ByteArray} {v : Value} {rows : List (List Value × OV)} (hO : OwnR 45 4 oC w v rows) (hr : ∀ p ∈ rows, OAt M w p.1 p.2) (hb : ∀ g, v.ownBlock = some g → some g ∉ M) : OAt M w (V4 k n nm v) (.mk k n nm (rows.map Prod.snd)) := by
  refine .mk rows (OwnR.rows hO (OAt.sizes hr)) (fun hne => ?_) hr
  rcases hO.2 with ⟨_, h0⟩ | ⟨g, cap, cur, rfl, _⟩
  · exact absurd (List.eq_nil_of_length_eq_zero h0) hne
  · exact hb g rfl
mutual
theorem pcs_bd : ∀ (y : X) (m : Int), 0 ≤ m → 1 ≤ pcs m y ∧ pcs m y ≤ m + 1
  | .v k n nm l f st, m, h => by rw [pcs]; exact pcsL_bd l m 1 h (by omega)
  | .nil, m, h | .c .., m, h | .e .., m, h | .s .., m, h | .arg .., m, h | .fn .., m, h | .bnd .., m, h | .frk .., m, h | .gat .., m, h | .way .., m, h | .ask .., m, h | .hnd .., m, h => by simp only [pcs]; omega
theorem pcsL_bd : ∀ (l : List X) (m n : Int), 0 ≤ m → n ≤ m + 1 → n ≤ pcsL m n l ∧ pcsL m n l ≤ m + 1
  | [], m, n, _, h2 => by rw [pcsL]; omega
  | y :: r, m, n, h, h2 => by
    rw [pcsL]
    by_cases e : m < n
    · simp [e]; omega
    · have e1 : decide (m < n) = false := decide_eq_false e
      rw [e1, cond_false]
      have h3 := pcs_bd y (m - n) (by omega)
      have h4 := pcsL_bd r m (n + pcs (m - n) y) h (by omega)
      omega
end
theorem pcsL_stop {m n : Int} (h : m < n) : ∀ l : List X, pcsL m n l = n
  | [] => rfl
  | _ :: _ => by rw [pcsL, decide_eq_true h]; rfl
theorem pcsL_go {m n : Int} {l : List X} {i : Nat} {y : X} (hy : l[i]? = some y) (h : ¬ m < n) : pcsL m n (l.drop i) = pcsL m (n + pcs (m - n) y) (l.drop (i + 1)) := by
  rw [drop_cons hy, pcsL, decide_eq_false h]; rfl
theorem snd_at {α β : Type} {rows : List (α × β)} {i : Nat} {p : α × β} (h : rows[i]? = some p) : (rows.map Prod.snd)[i]? = some p.2 := by simp [h]
def PcC (P : Program) (y : X) : Prop := ∀ {M : List (Option Nat)} {nc : Nat} {k n : Int} {nm : ByteArray} {kv fp kp : Value} (m : Int) (w : World), 0 ≤ m → m ≤ 10000 → XAt M nc w .v (V7 k n nm kv fp kp) y → Calls P 48 ([.agg (V7 k n nm kv fp kp).toArray, .int .i64 m] : List Value).toArray w fun r w' => r = .returned (.int .i64 (pcs m y)) ∧ Below w.heap.size w w'
inductive Wb : X → Prop
  | v {k n : Int} {nm : ByteArray} {l : List X} {f st : X} (h : l.length ≤ 10000) (hk : ∀ y ∈ l, Wb y) : Wb (.v k n nm l f st)
  | o {y : X} (h : ∀ k n nm l f st, y ≠ .v k n nm l f st) : Wb y
def WhC (P : Program) (y : X) : Prop := ∀ {M M1 : List (Option Nat)} {nc : Nat} {k n : Int} {nm : ByteArray} {kv fp kp : Value} (w : World), MLt w.heap.size M1 → Wb y → XAt M nc w .v (V7 k n nm kv fp kp) y → Calls P 49 ([.agg (V7 k n nm kv fp kp).toArray] : List Value).toArray w fun r w' => ∃ v', r = .returned (.agg (V4 k n nm v').toArray) ∧ OAt M1 w' (V4 k n nm v') (whl y) ∧ Below w.heap.size w w'
theorem Wb.inv {y : X} {k n : Int} {nm : ByteArray} {l : List X} {f st : X} (h : Wb y) (e : y = .v k n nm l f st) : l.length ≤ 10000 ∧ ∀ z ∈ l, Wb z := by
  subst e
  cases h with
  | v h hk => exact ⟨h, hk⟩
  | o h => exact absurd rfl (h _ _ _ _ _ _)
theorem pcsL_len : ∀ (l : List X) (m n : Int), 0 ≤ m → n ≤ m + 1 → pcsL m n l ≤ m → (l.length : Int) + n ≤ m ∧ ∀ y ∈ l, ∃ m', 0 ≤ m' ∧ m' ≤ m - n ∧ pcs m' y ≤ m'
  | [], m, n, _, _, h => by rw [pcsL] at h; exact ⟨by simpa using h, fun _ hy => by cases hy⟩
  | y :: r, m, n, h0, h1, h => by
    rw [pcsL] at h
    by_cases e : m < n
    · simp [e] at h; omega
    · have e1 : decide (m < n) = false := decide_eq_false e
      rw [e1, cond_false] at h
      have h3 := pcs_bd y (m - n) (by omega)
      obtain ⟨h5, h6⟩ := pcsL_len r m (n + pcs (m - n) y) h0 (by omega) h
      have h7 := (pcsL_bd r m (n + pcs (m - n) y) h0 (by omega)).1
      refine ⟨by rw [List.length_cons]; omega, fun z hz => ?_⟩
      rcases List.mem_cons.1 hz with e2 | e2
      · subst e2; exact ⟨m - n, by omega, Int.le_refl _, by omega⟩
      · obtain ⟨m', a, b, c⟩ := h6 z e2; exact ⟨m', a, by omega, c⟩
theorem pcs_wb : ∀ (N : Nat) (y : X) (m : Int), SizeOf.sizeOf y ≤ N → 0 ≤ m → m ≤ 10000 → pcs m y ≤ m → Wb y
  | 0, y, m, hN, _, _, _ => by cases y <;> simp at hN <;> omega
  | N + 1, y, m, hN, h0, h1, h => by
    cases y with
    | v k n nm l f st =>
      rw [pcs] at h
      obtain ⟨h2, h3⟩ := pcsL_len l m 1 h0 (by omega) h
      refine .v (by omega) fun z hz => ?_
      obtain ⟨m', a, b, c⟩ := h3 z hz
      have := List.sizeOf_lt_of_mem hz
      exact pcs_wb N z m' (by simp at hN; omega) a (by omega) c
    | _ => exact .o (by intros; simp)
theorem ag43 : aggB Tryz.prog 43 = some false := by kernel_rfl
theorem by45 : bytesB Tryz.prog 45 = some 56 := by kernel_rfl
theorem el43 : elemB Tryz.prog 43 = some 45 := by kernel_rfl
theorem en48 : entB Tryz.prog 48 = true := by kernel_rfl
theorem en49 : entB Tryz.prog 49 = true := by kernel_rfl
theorem fo45_3 : fieldB Tryz.prog 45 3 = some (3, 1) := by kernel_rfl
theorem sz43 : sizeB Tryz.prog 43 = some 1 := by kernel_rfl
theorem pieces_aux {M : List (Option Nat)} {nc : Nat} {k n : Int} {nm : ByteArray} {kv fp kp : Value} {kids : List X} {f st : X} (vx : X) (N : Nat) (IH : ∀ y, SizeOf.sizeOf y < N → PcC Tryz.prog y) (hN : SizeOf.sizeOf vx = N) (hvx : vx = .v k n nm kids f st) (m : Int) (w : World)  (h0 : 0 ≤ m) (h1 : m ≤ 10000) (hv : XAt M nc w .v (V7 k n nm kv fp kp) vx) :
    Calls Tryz.prog 48 ([.agg #[.int .i64 k, .int .i64 n, .string nm, zN, kv, fp, kp], .int .i64 m] : List Value).toArray w fun r w' => r = .returned (.int .i64 (pcs m vx)) ∧ Below w.heap.size w w' := by
  obtain ⟨_, _, _, rows, hk, hvk0⟩ := hv.kn; have hlb := hk.at_.lenL; have hvk : vx = .v k n nm (rows.map Prod.snd) f st := by rw [hvx] at hvk0 ⊢; exact congrArg (fun l => X.v k n nm l f st) hvk0
  have hG := Gr.refl [] w
  refine At.enter (N := 27) Tryz.func48 rfl rfl (by simp) [(0, .agg #[.int .i64 k, .int .i64 n, .string nm, zN, kv, fp, kp]), (1, .int .i64 m)] (by simp) ?_
  refine .seq (.region ?_)
  refine At.box rfl rfl (fun b1 w1 F1 => ?_)
  have hb1 : w1.heap[b1]? = some (.cells #[.int .i64 k, .int .i64 n, .string nm, zN, kv, fp, kp] 82) := F1.new
  replace hG := hG.below F1.bel
  refine .assign rfl rfl (.ops0 (.thenN (.seq (.region (.assign rfl rfl (.ops0 (.thenN (.seq (.seq (.region (.fieldAddr rfl fo82_1 rfl (.load rfl (Ld.ownCell ag78 hb1 rfl) rfl (.lenSl rfl (hk).ok el78 rfl (.move rfl rfl (.ops0 (.thenN (.block ?_)))))))))))))))))
  refine At.loop (Nat × Int) (fun (i, n1) => [(1, .int .i64 m), (5, .int .i64 n1), (9, kv), (10, .int .i64 (rows.length : Int)), (11, .int .i64 (i : Int))]) (fun (i, n1) w2 => Gr [] w [] w2 ∧ w2.heap[b1]? = some (.cells #[.int .i64 k, .int .i64 n, .string nm, zN, kv, fp, kp] 82) ∧ (i ≤ rows.length) ∧ (1 ≤ n1) ∧ (n1 ≤ m + 1) ∧ (pcsL m 1 (rows.map Prod.snd) = pcsL m n1 ((rows.map Prod.snd).drop i))) (fun (i, n1) => rows.length - i) (0, 1) (sC rfl (sC rfl (sC rfl (sC rfl (sC rfl sN))))) ⟨hG, hb1, (Nat.zero_le _), (by omega), (by omega), (rfl)⟩ (fun gh w2 hI => ?_)
  obtain ⟨i, n1⟩ := gh
  obtain ⟨hG, hb1, hib, hn0, hn1, hs⟩ := hI
  show At _ _ [(1, .int .i64 m), (5, .int .i64 n1), (9, kv), (10, .int .i64 (rows.length : Int)), (11, .int .i64 (i : Int))] _ _
  refine .seq (.region (.lss rfl rfl rfl (.ops0 (.thenN (.seq ?_)))))
  refine At.cond (b := decide ((i : Int) < (rows.length : Int))) rfl (fun hc1 => ?_) (fun hc1 => ?_)
  · skip
    have hc1' := of_decide_eq_true hc1
    refine .skip (.thenN (.seq (.block (.seq (.region ?_)))))
    obtain ⟨u1, hu1⟩ := some_of_lt (l := rows) (i := i) (by omega)
    obtain ⟨ku1, nu1, mu1, vu1, fu1, qu1, eu1, hvu1, eku1, enu1, emu1⟩ := hk.get hu1
    refine .indexAddr (i := i) rfl rfl (hk).ok (lt_of_some hu1) el78 sz82 rfl (.load rfl (Ld.row ag82 (sz82.trans (congrArg some (rfl : (V7 _ _ _ _ _ _).toArray.size = 7).symm)) (((hk.gr hG.any lR)).cells hu1 eu1)) rfl ?_)
    refine At.alloc ze82 rfl (fun b2 w3 F2 => ?_)
    have n_b1_b2 := F2.ne' hb1
    replace hb1 := F2.old hb1
    have hb2 : w3.heap[b2]? = some (.cells #[zI, zI, zS, zN, zN, .pointer none, .pointer none] 82) := F2.new
    refine At.storeAll rfl rfl hb2 sz82 rfl hvu1.vone (fun w4 S1 => ?_)
    replace hb1 := S1.other hb1 n_b1_b2
    replace hb2 : w4.heap[b2]? = some (.cells #[.int .i64 ku1, .int .i64 nu1, .string mu1, zN, vu1, fu1, qu1] 82) := S1.new
    replace hG := hG.below (F2.bel2 S1)
    refine .ops0 (.thenN (.seq (.seq (.region (.move rfl rfl (.move rfl rfl (.gtr rfl rfl rfl (.ops0 (.thenN ?_)))))))))
    refine At.cond (b := decide (m < n1)) rfl (fun hc2 => ?_) (fun hc2 => ?_)
    · skip
      have hc2' := of_decide_eq_true hc2
      refine .exit (.thenE (.inO rfl (.thenE (.thenE (.inE (.thenN (.seq (.region (.move rfl rfl (.assign rfl rfl (.ops0 (.thenN (.retc (.doneR (ResV.tmp rfl ResV.nil) ?_))))))))))))))
      exact ⟨by rw [hvk, pcs, hs, pcsL_stop (of_decide_eq_true hc2)]; rfl, hG.base⟩
    · skip
      have hc2' := of_decide_eq_false hc2
      refine .skip (.thenN (.region (.move rfl rfl (.load rfl (Ld.own (C := #[.int .i64 ku1, .int .i64 nu1, .string mu1, zN, vu1, fu1, qu1]) ag82 sz82 hb2) rfl (.move rfl rfl (.move rfl rfl (.subI rfl rfl rfl (by omega) ?_)))))))
      have hbd := pcs_bd u1.2 (m - n1) (by omega)
      refine At.call en48 rfl rfl (IH u1.2 (by have := List.sizeOf_lt_of_mem (List.mem_of_getElem? (snd_at hu1)); rw [← hN, hvk]; simp; omega) (m - n1) _ (by omega) (by omega) (hvu1.gr hG.any lR)) (fun e w5 hR => ?_)
      obtain ⟨rfl, hbl1⟩ := hR; refine ⟨_, rfl, ?_⟩
      replace hb1 := Below.old hbl1 hb1
      replace hG := hG.below hbl1
      refine .addI rfl rfl rfl (by omega) (.assign rfl rfl (.ops0 (.inN (.thenN (.region (.addI rfl rfl rfl (by omega) (.move rfl rfl (.ops0 (.thenN ?_)))))))))
      exact fun act_ hact_ => ⟨((i + 1), (n1 + (pcs (m - n1) u1.2))), hact_.sub (sC rfl (sC rfl (sC rfl (sC rfl (sC rfl sN))))), ⟨hG, hb1, (by omega), (by omega), (by omega), (by rw [hs]; exact pcsL_go (snd_at hu1) (of_decide_eq_false hc2))⟩, by first | omega | (dsimp only; omega)⟩
  · skip
    have hc1' := of_decide_eq_false hc1
    refine .exit (.thenE (.thenE (.inE (.thenN (.seq (.region (.move rfl rfl (.assign rfl rfl (.ops0 (.thenN (.retc (.doneR (ResV.tmp rfl ResV.nil) ?_))))))))))))
    exact ⟨by rw [hvk, pcs, hs, List.drop_eq_nil_of_le (by rw [List.length_map]; have := of_decide_eq_false hc1; omega)]; rfl, hG.base⟩
theorem pieces_all : ∀ (N : Nat) (y : X), SizeOf.sizeOf y = N → PcC Tryz.prog y := fun N => by
 induction N using Nat.strongRecOn with
 | ind N ih =>
  intro y hN M nc k n nm kv fp kp m w h0 h1 hv
  obtain ⟨_, _, _, _, _, _, rows, f, st, e, e2, _⟩ := hv.vinv
  have e3 := hv.kn
  have hvx : y = .v k n nm (rows.map Prod.snd) f st := by have a1 := e3.1; have a2 := e3.2.1; have a3 := e3.2.2.1; rw [e2] at a1 a2 a3; simp only [X.k, X.n, X.nm] at a1 a2 a3; rw [e2, a1, a2, a3]
  exact pieces_aux y N (fun z hz => ih _ hz z rfl) hN hvx m w h0 h1 hv
theorem pieces_any (y : X) : PcC Tryz.prog y := pieces_all _ y rfl
theorem whole_aux {M : List (Option Nat)} {nc : Nat} {M1 : List (Option Nat)} {k n : Int} {nm : ByteArray} {kv fp kp : Value} {kids : List X} {f st : X} (vx : X) (N : Nat) (IH : ∀ y, SizeOf.sizeOf y < N → WhC Tryz.prog y) (hN : SizeOf.sizeOf vx = N) (hvx : vx = .v k n nm kids f st) (w : World)  (hMl : MLt w.heap.size M1) (hw : Wb vx) (hv : XAt M nc w .v (V7 k n nm kv fp kp) vx) :
    Calls Tryz.prog 49 ([.agg #[.int .i64 k, .int .i64 n, .string nm, zN, kv, fp, kp]] : List Value).toArray w fun r w' => ∃ v', r = .returned (.agg (V4 k n nm v').toArray) ∧ OAt M1 w' (V4 k n nm v') (whl vx) ∧ Below w.heap.size w w' := by
  obtain ⟨_, _, _, rows, hk, hvk0⟩ := hv.kn; have hlb := hk.at_.lenL; have hvk : vx = .v k n nm (rows.map Prod.snd) f st := by rw [hvx] at hvk0 ⊢; exact congrArg (fun l => X.v k n nm l f st) hvk0
  obtain ⟨hwl, hwk⟩ := Wb.inv hw hvk; rw [List.length_map] at hwl
  have hG := Gr.refl [] w
  refine At.enter (N := 24) Tryz.func49 rfl rfl (by simp) [(0, .agg #[.int .i64 k, .int .i64 n, .string nm, zN, kv, fp, kp])] (by simp) ?_
  refine .seq (.region ?_)
  refine At.box rfl rfl (fun b1 w1 F1 => ?_)
  have hb1 : w1.heap[b1]? = some (.cells #[.int .i64 k, .int .i64 n, .string nm, zN, kv, fp, kp] 82) := F1.new
  replace hG := hG.below F1.bel
  refine At.alloc ze45 rfl (fun b2 w2 F2 => ?_)
  have gb2 := F2.gq hG.size
  replace hb1 := F2.old hb1
  have hb2 : w2.heap[b2]? = some (.cells #[zI, zI, zS, zN] 45) := F2.new
  replace hG := hG.below F2.bel
  refine .ops0 (.thenN (.seq (.region (.fieldAddr rfl fo82_0 rfl (.load rfl (Ld.ownPart (n := 4) (cs := #[.int .i64 k, .int .i64 n, .string nm, zN]) ag45 sz45 hb1 rfl) rfl ?_)))))
  refine At.alloc ze45 rfl (fun b3 w3 F3 => ?_)
  have n_b1_b3 := F3.ne' hb1
  have n_b2_b3 := F3.ne' hb2
  have gb3 := F3.gq hG.size
  replace hb1 := F3.old hb1
  replace hb2 := F3.old hb2
  have hb3 : w3.heap[b3]? = some (.cells #[zI, zI, zS, zN] 45) := F3.new
  refine At.storeAll rfl rfl hb3 sz45 rfl (by first | (simp [Value.oneCell', ((SlOk.nil)).one]; done) | (simp only [List.all_toArray, List.all_cons, List.all_nil, ((SlOk.nil)).one, Bool.and_true, Bool.true_and] <;> rfl)) (fun w4 S1 => ?_)
  replace hb1 := S1.other hb1 n_b1_b3
  replace hb2 := S1.other hb2 n_b2_b3
  replace hb3 : w4.heap[b3]? = some (.cells #[.int .i64 k, .int .i64 n, .string nm, zN] 45) := S1.new
  replace hG := hG.below (F3.bel2 S1)
  refine .ops0 (.thenN (.seq (.seq (.region (.fieldAddr rfl fo82_1 rfl (.load rfl (Ld.ownCell ag78 hb1 rfl) rfl (.lenSl rfl (hk).ok el78 rfl (.move rfl rfl (.ops0 (.thenN (.block ?_)))))))))))
  refine At.loop (Nat × Value × List (List Value × OV)) (fun (i, va, orow) => [(2, .pointer (some ⟨b2, 0, none⟩)), (3, .pointer (some ⟨b3, 0, none⟩)), (9, kv), (10, .int .i64 (rows.length : Int)), (11, .int .i64 (i : Int))]) (fun (i, va, orow) w5 => Gr [] w [] w5 ∧ w5.heap[b1]? = some (.cells #[.int .i64 k, .int .i64 n, .string nm, zN, kv, fp, kp] 82) ∧ w5.heap[b2]? = some (.cells #[zI, zI, zS, zN] 45) ∧ w5.heap[b3]? = some (.cells #[.int .i64 k, .int .i64 n, .string nm, va] 45) ∧ OwnR 45 4 oC w5 va orow ∧ (∀ p ∈ orow, OAt (some b2 :: some b3 :: Value.ownBlock va :: M1) w5 p.1 p.2) ∧ (i ≤ rows.length) ∧ (∀ g, Value.ownBlock va = some g → w.heap.size ≤ g) ∧ (some b2 ≠ Value.ownBlock va) ∧ (some b3 ≠ Value.ownBlock va) ∧ (orow.map Prod.snd = ((rows.map Prod.snd).take i).map whl) ∧ (orow.length = i)) (fun (i, va, orow) => rows.length - i) (0, zN, []) (sC rfl (sC rfl (sC rfl (sC rfl (sC rfl sN))))) ⟨hG, hb1, hb2, hb3, (OwnR.nil 45 4 oC _), (fun _ h => by cases h), (Nat.zero_le _), (fun _ h => by cases h), (by simp [Value.ownBlock]), (by simp [Value.ownBlock]), (rfl), (rfl)⟩ (fun gh w5 hI => ?_)
  obtain ⟨i, va, orow⟩ := gh
  obtain ⟨hG, hb1, hb2, hb3, hO, ho, hib, hge, hq2, hq3, hs, hol⟩ := hI
  show At _ _ [(2, .pointer (some ⟨b2, 0, none⟩)), (3, .pointer (some ⟨b3, 0, none⟩)), (9, kv), (10, .int .i64 (rows.length : Int)), (11, .int .i64 (i : Int))] _ _
  refine .seq (.region (.lss rfl rfl rfl (.ops0 (.thenN (.seq ?_)))))
  refine At.cond (b := decide ((i : Int) < (rows.length : Int))) rfl (fun hc1 => ?_) (fun hc1 => ?_)
  · skip
    have hc1' := of_decide_eq_true hc1
    refine .skip (.thenN (.seq (.block (.seq (.region ?_)))))
    obtain ⟨u1, hu1⟩ := some_of_lt (l := rows) (i := i) (by omega)
    obtain ⟨ku1, nu1, mu1, vu1, fu1, qu1, eu1, hvu1, eku1, enu1, emu1⟩ := hk.get hu1
    refine .indexAddr (i := i) rfl rfl (hk).ok (lt_of_some hu1) el78 sz82 rfl (.load rfl (Ld.row ag82 (sz82.trans (congrArg some (rfl : (V7 _ _ _ _ _ _).toArray.size = 7).symm)) (((hk.gr hG.any lR)).cells hu1 eu1)) rfl ?_)
    refine At.alloc ze82 rfl (fun b4 w6 F4 => ?_)
    have n_b1_b4 := F4.ne' hb1
    have n_b2_b4 := F4.ne' hb2
    have n_b3_b4 := F4.ne' hb3
    replace hb1 := F4.old hb1
    replace hb2 := F4.old hb2
    replace hb3 := F4.old hb3
    have hb4 : w6.heap[b4]? = some (.cells #[zI, zI, zS, zN, zN, .pointer none, .pointer none] 82) := F4.new
    refine At.storeAll rfl rfl hb4 sz82 rfl hvu1.vone (fun w7 S2 => ?_)
    replace hb1 := S2.other hb1 n_b1_b4
    replace hb2 := S2.other hb2 n_b2_b4
    replace hb3 := S2.other hb3 n_b3_b4
    replace hb4 : w7.heap[b4]? = some (.cells #[.int .i64 ku1, .int .i64 nu1, .string mu1, zN, vu1, fu1, qu1] 82) := S2.new
    replace hG := hG.below (F4.bel2 S2)
    replace hO := Own.below hO (F4.bel2 S2); replace ho := fun p hp => (ho p hp).gr (Gr.of (F4.bel2 S2) _)
    refine .ops0 (.thenN (.drawG (n := 8) mixed (by kernel_rfl) rfl (PanicOk.block (PanicOk.then (PanicOk.then (PanicOk.block (PanicOk.then PanicOk.body))))) ?_))
    replace hG := hG.drew
    replace hO := Own.drew hO; replace ho := fun p hp => (ho p hp).gr (Gr.refl _ _).drew
    have hb1 : _ := (show w7.drew.heap[b1]? = _ from hb1)
    have hb2 : _ := (show w7.drew.heap[b2]? = _ from hb2)
    have hb3 : _ := (show w7.drew.heap[b3]? = _ from hb3)
    have hb4 : _ := (show w7.drew.heap[b4]? = _ from hb4)
    refine At.wpcS (i := 0) (d := 15) (.pointer (some ⟨b3, 0 + 3, none⟩)) (by kernel_rfl) rfl rfl rfl (fun Lx => ?_) ?_
    · skip
      exact .fieldAddr rfl fo45_3 rfl (.ops0 fun a ha => ⟨ha, rfl⟩)
    refine At.wpcS (i := 1) (d := 16) (va) (by kernel_rfl) rfl rfl rfl (fun Lx => ?_) ?_
    · skip
      exact .load rfl (Ld.ownCell ag43 hb3 rfl) rfl (.ops0 fun a ha => ⟨ha, rfl⟩)
    refine At.wpcS (i := 2) (d := 17) (.agg #[.int .i64 ku1, .int .i64 nu1, .string mu1, zN, vu1, fu1, qu1]) (by kernel_rfl) rfl rfl rfl (fun Lx => ?_) ?_
    · skip
      exact .load rfl (Ld.own (C := #[.int .i64 ku1, .int .i64 nu1, .string mu1, zN, vu1, fu1, qu1]) ag82 sz82 hb4) rfl (.ops0 fun a ha => ⟨ha, rfl⟩)
    refine At.wpcE [3] (by kernel_rfl) (by kernel_rfl) (.cons [0, 1] rfl (by kernel_rfl) ?_ .nil)
    refine At.call en49 rfl rfl (IH u1.2 (by have := List.sizeOf_lt_of_mem (List.mem_of_getElem? (snd_at hu1)); rw [← hN, hvk]; simp; omega) (M1 := (some b2 :: some b3 :: Value.ownBlock va :: M1)) _ (fun g hg => ?_) (hwk _ (List.mem_of_getElem? (snd_at hu1))) (hvu1.gr hG.any lR)) (fun e w8 hR => ?_)
    · skip
      simp only [List.mem_cons] at hg
      rcases hg with e | e | e | e
      · cases e; exact lt_of_obj hb2
      · cases e; exact lt_of_obj hb3
      · exact hO.lt e.symm
      · exact Nat.lt_of_lt_of_le (hMl g e) hG.size
    obtain ⟨vo, rfl, hos, hbl1⟩ := hR; refine ⟨_, rfl, ?_⟩
    replace hb1 := Below.old hbl1 hb1
    replace hb2 := Below.old hbl1 hb2
    replace hb3 := Below.old hbl1 hb3
    replace hG := hG.below hbl1
    replace hO := Own.below hO hbl1; replace ho := fun p hp => (ho p hp).gr (Gr.of hbl1 _)
    refine .ops0 ?_
    refine At.wpcN (.cons rfl rfl rfl rfl (fun Lx => ?_) (.cons rfl rfl rfl rfl (fun Lx => ?_) .nil)) ?_
    · skip
      exact .fieldAddr rfl fo45_3 rfl (.ops0 fun a ha => ⟨ha, rfl⟩)
    · skip
      exact .load rfl (Ld.ownCell ag43 hb3 rfl) rfl (.ops0 fun a ha => ⟨ha, rfl⟩)
    refine At.wpcE [4] (by kernel_rfl) (by kernel_rfl) (.cons [0, 1] rfl (by kernel_rfl) ?_ .nil)
    refine At.buildSlice (xs := [.tmp 18]) rfl rfl el43 sz45 ze45 (by intro v hv; simp only [List.mem_cons, List.not_mem_nil, or_false] at hv; rcases hv with rfl; rfl) rfl (by decide) rfl (fun b5 w9 F5 => ?_)
    replace hb1 := F5.old hb1
    replace hb2 := F5.old hb2
    replace hb3 := F5.old hb3
    have hb5 : w9.heap[b5]? = some (.cells (V4 ku1 nu1 mu1 vo).toArray 45) := F5.new
    replace hG := hG.below F5.bel
    replace hO := Own.below hO F5.bel; replace ho := fun p hp => (ho p hp).gr (Gr.of F5.bel _)
    replace hos := hos.gr (Gr.of F5.bel _)
    have hge0 := hge
    refine .ops0 ?_
    refine At.wpcN (.cons rfl rfl rfl rfl (fun Lx => ?_) (.cons rfl rfl rfl rfl (fun Lx => ?_) .nil)) ?_
    · skip
      exact .fieldAddr rfl fo45_3 rfl (.ops0 fun a ha => ⟨ha, rfl⟩)
    · skip
      exact .load rfl (Ld.ownCell ag43 hb3 rfl) rfl (.ops0 fun a ha => ⟨ha, rfl⟩)
    refine At.wpcE [5] (by kernel_rfl) (by kernel_rfl) (.cons [] rfl (by kernel_rfl) ?_ .nil)
    refine At.appendR (f := oC) (l := orow) (l' := [((V4 ku1 nu1 mu1 vo, whl u1.2) : List Value × OV)]) rfl rfl el43 el43 sz45 by45 ze45 rfl hO (rows_own (f := oC) (ks := [((V4 ku1 nu1 mu1 vo, whl u1.2) : List Value × OV)]) (m := 1) hb5 (by intro u hu; rw [List.mem_singleton.1 hu]; rfl) rfl (by decide)) (by decide) (by intro u hu; rw [List.mem_singleton.1 hu]; exact hos.vone) (by simp; omega) (by simp; omega) rfl (fun va1 w10 hO1 hA1 => ?_)
    have hAG : Gr (some b2 :: some b3 :: Value.ownBlock va :: M1) _ (some b2 :: some b3 :: Value.ownBlock va1 :: M1) w10 := ((Gr.refl _ _).app hA1 (fun g hg => .inl (by simp [hg]))).to (Nw.cons (fun g hg => .inl (by simp [hg])) (Nw.cons (fun g hg => .inl (by simp [hg])) (Nw.cons (fun g hg => hA1.blk.elim (fun q => .inl (by rw [q] at hg; simp [hg])) (fun ⟨g', q, h⟩ => .inr (by rw [q] at hg; cases hg; exact h))) (fun g hg => .inl (by simp [hg])))))
    replace ho := fun p hp => (ho p hp).gr hAG; replace hos := hos.gr hAG
    have hq2' := Moved.ne hA1.blk (lt_of_obj hb2) hq2; have hq3' := Moved.ne hA1.blk (lt_of_obj hb3) hq3
    replace hb1 := hA1.old hb1 (hO.neT hb1 rfl)
    replace hb2 := hA1.old hb2 hq2
    replace hb3 := hA1.old hb3 hq3
    replace hge0 := hA1.ge hG.size hge; replace hG := hG.app hA1 (fun g hg => .inr (hge g hg))
    refine .ops0 (.wpcN .nil ?_)
    refine At.wpcS (i := 6) (d := 21) (.pointer (some ⟨b3, 0 + 3, none⟩)) (by kernel_rfl) rfl rfl rfl (fun Lx => ?_) ?_
    · skip
      exact .fieldAddr rfl fo45_3 rfl (.ops0 fun a ha => ⟨ha, rfl⟩)
    refine At.wpcE [7] (by kernel_rfl) (by kernel_rfl) (.cons [] rfl (by kernel_rfl) ?_ .nil)
    refine At.store1 rfl rfl hb3 sz43 (by simp) (hO1.one) (fun w11 S3 => ?_)
    replace hb1 := S3.other hb1 n_b1_b3
    replace hb2 := S3.other hb2 n_b2_b3
    replace hb3 : w11.heap[b3]? = some (.cells #[.int .i64 k, .int .i64 n, .string nm, va1] 45) := S3.new
    replace hG := hG.set S3 (.inr gb3)
    replace hO1 := Own.set hO1 S3 hq3'; replace ho := fun p hp => (ho p hp).gr ((Gr.refl _ _).set S3 (.inl (by simp))); replace hos := hos.gr ((Gr.refl _ _).set S3 (.inl (by simp)))
    refine .ops0 (.wpcN .nil (.wpcZ (.inN (.thenN (.region (.addI rfl rfl rfl (by omega) (.move rfl rfl (.ops0 (.thenN ?_)))))))))
    exact fun act_ hact_ => ⟨((i + 1), va1, _), hact_.sub (sC rfl (sC rfl (sC rfl (sC rfl (sC rfl sN))))), ⟨hG, hb1, hb2, hb3, hO1, (fun p hp => (List.mem_append.1 hp).elim (ho p) (fun e => by rw [List.mem_singleton.1 e]; exact hos)), (by omega), (hge0), (hq2'), (hq3'), (by rw [List.map_append, hs, List.take_add_one, List.map_append, snd_at hu1]; rfl), (by simp [hol])⟩, by first | omega | (dsimp only; omega)⟩
  · skip
    have hc1' := of_decide_eq_false hc1
    refine .exit (.thenE (.thenE (.inE (.thenN (.seq ?_)))))
    have hi : rows.length ≤ i := by have := of_decide_eq_false hc1; omega
    have hos : OAt (some b2 :: some b3 :: M1) w5 (V4 k n nm va) (whl vx) := by rw [hvk, whl, whlL_map, show (rows.map Prod.snd).map whl = orow.map Prod.snd by rw [hs, List.take_of_length_le (by rw [List.length_map]; exact hi)]]; exact OAt.ofOwn hO (fun p hp => (ho p hp).gr ⟨rfl, rfl, rfl, Nat.le_refl _, fun {c x} hc hx => hx, fun {c} hl hc hm => hc (by simp only [List.mem_cons] at hm ⊢; rcases hm with h | h | h <;> simp [h])⟩) (fun g hg e => by simp only [List.mem_cons] at e; rcases e with e | e | e; exact hq2 (e ▸ hg.symm); exact hq3 (e ▸ hg.symm); have h1 := hMl g e; have h2 := hge g hg; omega)
    refine .region (.load rfl (Ld.own (C := #[.int .i64 k, .int .i64 n, .string nm, va]) ag45 sz45 hb3) rfl ?_)
    refine At.storeAll rfl rfl hb2 sz45 rfl (hos.vone) (fun w12 S4 => ?_)
    replace hb2 : w12.heap[b2]? = some (.cells #[.int .i64 k, .int .i64 n, .string nm, va] 45) := S4.new
    replace hG := hG.set S4 (.inr gb2)
    replace hos := hos.gr ((Gr.refl _ _).set S4 (.inl (by simp)))
    refine .ops0 (.thenN (.retc (.doneR (ResV.cell rfl (Ld.own (C := #[.int .i64 k, .int .i64 n, .string nm, va]) ag45 sz45 hb2) ResV.nil) ?_)))
    refine ⟨va, rfl, ?_, hG.base⟩
    have q := hos.gr (M' := M1) ⟨rfl, rfl, rfl, Nat.le_refl _, fun {c x} hc hx => hx, fun {c} hl hc hm => hc (by simp [hm])⟩; exact q
theorem whole_all : ∀ (N : Nat) (y : X), SizeOf.sizeOf y = N → WhC Tryz.prog y := fun N => by
 induction N using Nat.strongRecOn with
 | ind N ih =>
  intro y hN M M1 nc k n nm kv fp kp w hMl hw hv
  obtain ⟨_, _, _, _, _, _, rows, f, st, e, e2, _⟩ := hv.vinv
  have e3 := hv.kn
  have hvx : y = .v k n nm (rows.map Prod.snd) f st := by have a1 := e3.1; have a2 := e3.2.1; have a3 := e3.2.2.1; rw [e2] at a1 a2 a3; simp only [X.k, X.n, X.nm] at a1 a2 a3; rw [e2, a1, a2, a3]
  exact whole_aux y N (fun z hz => ih _ hz z rfl) hN hvx w hMl hw hv
theorem whole_any (y : X) : WhC Tryz.prog y := whole_all _ y rfl
theorem shownS_any {M : List (Option Nat)} {nc : Nat} {M1 : List (Option Nat)} {k n : Int} {nm : ByteArray} {kv fp kp : Value} {vx : X} (w : World)  (hMl : MLt w.heap.size M1) (hv : XAt M nc w .v (V7 k n nm kv fp kp) vx) :
    Calls Tryz.prog 34 ([.agg #[.int .i64 k, .int .i64 n, .string nm, zN, kv, fp, kp]] : List Value).toArray w fun r w' => ∃ v', r = .returned (.agg (V4 k n nm v').toArray) ∧ OAt M1 w' (V4 k n nm v') (shwX vx) ∧ Below w.heap.size w w' := by
  have hG := Gr.refl [] w
  refine At.enter (N := 9) Tryz.func34 rfl rfl (by simp) [(0, .agg #[.int .i64 k, .int .i64 n, .string nm, zN, kv, fp, kp])] (by simp) ?_
  refine .seq (.region ?_)
  refine At.box rfl rfl (fun b1 w1 F1 => ?_)
  have gb1 := F1.gq hG.size
  have hb1 : w1.heap[b1]? = some (.cells #[.int .i64 k, .int .i64 n, .string nm, zN, kv, fp, kp] 82) := F1.new
  replace hG := hG.below F1.bel
  refine At.alloc ze45 rfl (fun b2 w2 F2 => ?_)
  have n_b1_b2 := F2.ne' hb1
  have gb2 := F2.gq hG.size
  replace hb1 := F2.old hb1
  have hb2 : w2.heap[b2]? = some (.cells #[zI, zI, zS, zN] 45) := F2.new
  replace hG := hG.below F2.bel
  refine .ops0 (.thenN (.seq (.seq (.region (.load rfl (Ld.own (C := #[.int .i64 k, .int .i64 n, .string nm, zN, kv, fp, kp]) ag82 sz82 hb1) rfl ?_)))))
  have hbd := pcs_bd vx 10000 (by omega)
  refine At.call en48 rfl rfl (pieces_any vx 10000 _ (by omega) (by omega) (hv.gr hG.any lR)) (fun e w3 hR => ?_)
  obtain ⟨rfl, hbl1⟩ := hR; refine ⟨_, rfl, ?_⟩
  replace hb1 := Below.old hbl1 hb1
  replace hb2 := Below.old hbl1 hb2
  replace hG := hG.below hbl1
  refine .gtr rfl rfl rfl (.ops0 (.thenN ?_))
  refine At.cond (b := decide (10000 < (pcs 10000 vx))) rfl (fun hc1 => ?_) (fun hc1 => ?_)
  · skip
    have hc1' := of_decide_eq_true hc1
    obtain ⟨k', n', nm', kv', fp', kp', rr, fX, sX, e0, hvx, _, hfv, hsv, h5v, h2v⟩ := hv.vinv; injection e0 with z1 e0; injection e0 with z2 e0; injection e0 with z3 e0; injection e0 with _ e0; injection e0 with _ e0; injection e0 with z5 e0; injection e0 with z6 _; injection z1 with _ z1; injection z2 with _ z2; injection z3 with z3; subst z1 z2 z3 z5 z6
    refine .region (.fieldAddr rfl fo82_1 rfl ?_)
    refine At.store1 rfl rfl hb1 sz78 (by simp) rfl (fun w4 S1 => ?_)
    replace hb2 := S1.other hb2 n_b1_b2.symm
    replace hb1 : w4.heap[b1]? = some (.cells #[.int .i64 k, .int .i64 n, .string nm, zN, zN, fp, kp] 82) := S1.new
    replace hG := hG.set S1 (.inr gb1)
    refine .ops0 (.thenN (.seq (.region (.load rfl (Ld.own (C := #[.int .i64 k, .int .i64 n, .string nm, zN, zN, fp, kp]) ag82 sz82 hb1) rfl ?_))))
    have hvv : XAt M nc w4 .v (V7 k n nm zN fp kp) (.v k n nm [] fX sX) := XAt.mk (rows := []) (Vs.nil _ _ _) (hfv.gr hG.any lR) (hsv.gr hG.any lR) h5v h2v
    refine At.call en49 rfl rfl (whole_any (.v k n nm [] fX sX) (M1 := some b2 :: M1) _ (fun g hg => ?_) (.v (Nat.zero_le _) (fun _ h => by cases h)) hvv) (fun e w5 hR => ?_)
    · skip
      rcases List.mem_cons.1 hg with e | e
      · cases e; exact lt_of_obj hb2
      · exact Nat.lt_of_lt_of_le (hMl g e) hG.size
    obtain ⟨vo, rfl, hos, hbl2⟩ := hR; refine ⟨_, rfl, ?_⟩
    replace hb2 := Below.old hbl2 hb2
    replace hG := hG.below hbl2
    refine At.storeAll rfl rfl hb2 sz45 rfl (hos.vone) (fun w6 S2 => ?_)
    replace hb2 : w6.heap[b2]? = some (.cells #[.int .i64 k, .int .i64 n, .string nm, vo] 45) := S2.new
    replace hG := hG.set S2 (.inr gb2)
    replace hos := hos.gr ((Gr.refl _ _).set S2 (.inl (by simp)))
    refine .ops0 (.thenN (.retc (.doneR (ResV.cell rfl (Ld.own (C := #[.int .i64 k, .int .i64 n, .string nm, vo]) ag45 sz45 hb2) ResV.nil) ?_)))
    have q := hos.gr (M' := M1) ⟨rfl, rfl, rfl, Nat.le_refl _, fun {c x} hc hx => hx, fun {c} hl hc hm => hc (by simp [hm])⟩
    refine ⟨vo, rfl, ?_, hG.base⟩
    rw [shwX, hc1, cond_true, hvx]; exact q
  · skip
    have hc1' := of_decide_eq_false hc1
    have hle : pcs 10000 vx ≤ 10000 := by omega
    refine .skip (.thenN (.seq (.region (.load rfl (Ld.own (C := #[.int .i64 k, .int .i64 n, .string nm, zN, kv, fp, kp]) ag82 sz82 hb1) rfl ?_))))
    refine At.call en49 rfl rfl (whole_any vx (M1 := some b2 :: M1) _ (fun g hg => ?_) (pcs_wb _ vx 10000 lR (by decide) (Int.le_refl _) hle) (hv.gr hG.any lR)) (fun e w7 hR => ?_)
    · skip
      rcases List.mem_cons.1 hg with e | e
      · cases e; exact lt_of_obj hb2
      · exact Nat.lt_of_lt_of_le (hMl g e) hG.size
    obtain ⟨vo, rfl, hos, hbl3⟩ := hR; refine ⟨_, rfl, ?_⟩
    replace hb2 := Below.old hbl3 hb2
    replace hG := hG.below hbl3
    refine At.storeAll rfl rfl hb2 sz45 rfl (hos.vone) (fun w8 S3 => ?_)
    replace hb2 : w8.heap[b2]? = some (.cells #[.int .i64 k, .int .i64 n, .string nm, vo] 45) := S3.new
    replace hG := hG.set S3 (.inr gb2)
    replace hos := hos.gr ((Gr.refl _ _).set S3 (.inl (by simp)))
    refine .ops0 (.thenN (.retc (.doneR (ResV.cell rfl (Ld.own (C := #[.int .i64 k, .int .i64 n, .string nm, vo]) ag45 sz45 hb2) ResV.nil) ?_)))
    have q := hos.gr (M' := M1) ⟨rfl, rfl, rfl, Nat.le_refl _, fun {c x} hc hx => hx, fun {c} hl hc hm => hc (by simp [hm])⟩
    refine ⟨vo, rfl, ?_, hG.base⟩
    rw [shwX, hc1, cond_false]; exact q
def RAt (M : List (Option Nat)) (w : World) (cs : List Value) (r : SR) : Prop := ∃ k n nm kv tv, cs = [.int .i64 r.ok, .int .i64 k, .int .i64 n, .string nm, kv, tv, .int .i64 r.st, .int .i64 r.kn] ∧ OAt M w (V4 k n nm kv) r.v ∧ IntsAt w tv r.tr ∧ (r.tr ≠ [] → some (vBlock tv) ∉ M)
theorem RAt.gr {M M' : List (Option Nat)} {w w' : World} {cs : List Value} {r : SR} (h : RAt M w cs r) (hG : Gr M w M' w') : RAt M' w' cs r := by
  obtain ⟨k, n, nm, kv, tv, e, ho, ht, hm⟩ := h
  exact ⟨k, n, nm, kv, tv, e, ho.gr hG, RowsAt.gr ht hG fun hn => hm (map_ne hn), fun hn => hG.out (by obtain ⟨u, r, hr⟩ := List.exists_cons_of_ne_nil hn; have := ht.get (i := 0) (n := u) (by rw [hr]; rfl); exact cell_lt this) (hm hn)⟩
def Sx.start (t : Tm) (inp : Value) : Sx := ⟨t, .pointer none, true, 0, 0, eB, .slice none 0 0, .pointer none, .pointer none, .pointer none, .slice none 0 0, inp, 0, .slice none 0 0, 0, 0⟩
theorem IntsAt.ofOwn {w : World} {v : Value} {l : List Int} (h : Own w 3 1 v l.length (l.map (Value.int .i64))) : IntsAt w v l := by
  have h' : OwnR 3 1 (fun n : Int => #[Value.int .i64 n]) w v l := by unfold OwnR; rw [flat_ints]; exact h
  exact OwnR.rows h' (fun u _ => rfl)
theorem IntsAt.out {M : List (Option Nat)} {w : World} {v : Value} {l : List Int} (h : Own w 3 1 v l.length (l.map (Value.int .i64))) (hb : ∀ g, v.ownBlock = some g → some g ∉ M) : l ≠ [] → some (vBlock v) ∉ M := fun hne => by
  rcases h.2 with ⟨_, h0⟩ | ⟨g, cap, cur, rfl, _⟩
  · exact absurd (List.eq_nil_of_length_eq_zero h0) hne
  · exact hb g rfl
theorem StA.start {E : List (Option Nat)} {b : Nat} {w w' : World} {t : Tm} {v : Value} {l : List Int} {o : Obj} (ht : Xs kTm E w [t]) (hE : MLt w.heap.size E) (hv : Own w 3 1 v l.length (l.map (Value.int .i64))) (hvE : ∀ g, v.ownBlock = some g → some g ∉ E) (F : Fresh w w' b o) (ho : o = .cells (Sx.cs (Sx.start t v)) 84) :
    StA E b (Sx.start t v) w' (startF (shT t) l) := by
  have hb : w'.heap[b]? = some (.cells (Sx.cs (Sx.start t v)) 84) := ho ▸ F.new
  have e := F.eq
  have G : Gr E w ((Sx.start t v).M b ++ E) w' := ⟨F.grown.os, F.grown.tape, F.grown.output, F.grown.size, fun _ hx => F.old hx, fun {c} hl hc hm => by
    simp only [Sx.M, Sx.start, Value.ownBlock, List.cons_append, List.nil_append, List.mem_cons] at hm
    rcases hm with h | h | h | h
    · cases h; omega
    · cases h
    · cases h
    · exact hc h⟩
  have hv' := Own.below hv F.bel
  refine { blk := hb, t := ht.gr G, st := rfl, e := .nil (by simp), at_ := rfl, v := ?_, fr := .nil (by simp), cl := ⟨[], OwnR.nil _ _ _ _, (fun _ h => by cases h), rfl⟩, inp := IntsAt.ofOwn hv', inpM := ?_, ok := rfl, tr := Own.nil _ _ _, n := rfl, kn := rfl, ap := ?_, lt := ?_ }
  · exact .v [] (RowsAt.nil _ 7) (fun h => absurd rfl h) (fun _ h => by cases h) (.nil (by simp)) (.nil (by simp)) (fun h => by cases h) (fun h => by cases h)
  · refine IntsAt.out hv' fun g hg hm => ?_
    simp only [Sx.M, Sx.start, Value.ownBlock, List.cons_append, List.nil_append, List.mem_cons] at hm
    rcases hm with h | h | h | h
    · cases h; have := hv.lt hg; omega
    · cases h
    · cases h
    · exact hvE g hg h
  · intro g hg hm
    simp only [Sx.M, Sx.start, Value.ownBlock, List.mem_cons, List.not_mem_nil, or_false] at hg
    rcases hg with h | h | h
    · cases h; have := hE b hm; omega
    · cases h
    · cases h
  · intro q hq
    simp only [Sx.M, Sx.start, Value.ownBlock, List.cons_append, List.nil_append, List.mem_cons] at hq
    rcases hq with h | h | h | h
    · cases h; exact lt_of_obj hb
    · cases h
    · cases h
    · exact Nat.lt_of_lt_of_le (hE q h) F.grown.size
theorem Gr.low {M M' : List (Option Nat)} {w w1 w2 : World} (hG : Gr [] w [] w1) (G : Gr M w1 M' w2) (hl : ∀ g, some g ∈ M → w.heap.size ≤ g) : Gr [] w [] w2 :=
  ⟨G.os.trans hG.os, G.tape.trans hG.tape, G.output.trans hG.output, Nat.le_trans hG.size G.size, fun {c x} _ hx => G.old (fun hm => by have := hl c hm; have := lt_of_obj hx; omega) (hG.old (by simp) hx), fun _ _ => by simp⟩
theorem OAt.one {M : List (Option Nat)} {w : World} {k n : Int} {nm : ByteArray} {kv : Value} {y : OV} (h : OAt M w (V4 k n nm kv) y) : kv.oneCell' = true := by
  cases h with
  | mk rows hr hm hk => exact hr.ok.one
theorem OAt.weak {M M' : List (Option Nat)} {w : World} {cs : List Value} {y : OV} (h : OAt M w cs y) (hs : ∀ q ∈ M', q ∈ M) : OAt M' w cs y := h.gr ⟨rfl, rfl, rfl, Nat.le_refl _, fun {c x} hc hx => hx, fun {c} hl hc hm => hc (hs _ hm)⟩
theorem ag4 : aggB Tryz.prog 4 = some false := by kernel_rfl
theorem ag49 : aggB Tryz.prog 49 = some true := by kernel_rfl
theorem en30 : entB Tryz.prog 30 = true := by kernel_rfl
theorem en31 : entB Tryz.prog 31 = true := by kernel_rfl
theorem en34 : entB Tryz.prog 34 = true := by kernel_rfl
theorem fo47_1 : fieldB Tryz.prog 47 1 = some (1, 4) := by kernel_rfl
theorem pt80 : ptrB Tryz.prog 80 = true := by kernel_rfl
theorem sd47 : sizedB Tryz.prog 47 = true := by kernel_rfl
theorem sd84 : sizedB Tryz.prog 84 = true := by kernel_rfl
theorem sz47 : sizeB Tryz.prog 47 = some 5 := by kernel_rfl
theorem sz49 : sizeB Tryz.prog 49 = some 8 := by kernel_rfl
theorem ze47 : zeroB Tryz.prog 47 = some (.agg #[.int .i64 0, .int .i64 0, .int .i64 0, .string (⟨#[]⟩ : ByteArray), (.slice none 0 0)]) := by kernel_rfl
theorem ze49 : zeroB Tryz.prog 49 = some (.agg #[.int .i64 0, .int .i64 0, .int .i64 0, .string (⟨#[]⟩ : ByteArray), (.slice none 0 0), (.slice none 0 0), .int .i64 0, .int .i64 0]) := by kernel_rfl
theorem ze84 : zeroB Tryz.prog 84 = some (.agg #[.int .i64 0, .int .i64 0, .string (⟨#[]⟩ : ByteArray), .string (⟨#[]⟩ : ByteArray), .int .i64 0, (.slice none 0 0), (.slice none 0 0), .int .i64 0, .string (⟨#[]⟩ : ByteArray), .int .i64 0, (.slice none 0 0), (.slice none 0 0), .int .i64 0, (.slice none 0 0), .int .i64 0, .int .i64 0, .string (⟨#[]⟩ : ByteArray), .int .i64 0, (.slice none 0 0), (.slice none 0 0), .int .i64 0, .pointer none, .bool false, .int .i64 0, .int .i64 0, .string (⟨#[]⟩ : ByteArray), (.slice none 0 0), (.slice none 0 0), .pointer none, .pointer none, .pointer none, (.slice none 0 0), (.slice none 0 0), .int .i64 0, .int .i64 0, .int .i64 0, .string (⟨#[]⟩ : ByteArray), (.slice none 0 0), (.slice none 0 0), .int .i64 0, .int .i64 0]) := by kernel_rfl
theorem ended_any {E : List (Option Nat)} {b : Nat} {x : Sx} {s : SS}  (w : World) (hM : StA E b x w s)  :
  Calls Tryz.prog 31 ([.pointer (some ⟨b, 0, none⟩)] : List Value).toArray w fun r w' => r = .returned (.bool (endedF s)) ∧ Below w.heap.size w w' := by
 have hok := hM.ok; have hat := hM.at_
 have hG := Gr.refl (x.M b) w
 have hW := Gr.refl [] w
 refine At.enter (N := 24) Tryz.func31 rfl rfl (by simp) [(0, .pointer (some ⟨b, 0, none⟩))] (by simp) ?_
 refine .seq (.region (.assign rfl rfl (.ops0 (.thenN (.seq (.region ?_))))))
 refine At.join [(2, .bool ((!decide (x.ok = 0)) || ((!x.at_) && nilX s.fr)))] (fun w' => w = w') ?_ (fun w1 hS => ?_)
 ·skip
  refine .move rfl rfl (.nilCheck rfl rfl (.fieldAddr rfl fo84_7 rfl (.fieldAddr rfl fo49_0 rfl (.fieldAddr rfl fo47_0 rfl (.load rfl (Ld.ownCell ag3 hM.blk (mx_at (j := 12) hM.tsz rfl rfl)) rfl (.neI rfl rfl rfl (.move rfl rfl ?_)))))))
  refine At.cases ((!decide (x.ok = 0))) (fun hg1 => ?_) (fun hg1 => ?_)
  ·skip
   refine .set (d := 10) (u := .bool true) rfl (congrArg Value.bool hg1) ?_
   have hg1' := hg1; simp only [Bool.not_eq_true', Bool.not_eq_false', decide_eq_true_eq, decide_eq_false_iff_not] at hg1'
   refine .no rfl rfl rfl rfl rfl rfl rfl (.no rfl rfl rfl rfl rfl rfl rfl (.no rfl rfl rfl rfl rfl rfl rfl (.no rfl rfl rfl rfl rfl rfl rfl (.no rfl rfl rfl rfl rfl rfl rfl (.no rfl rfl rfl rfl rfl rfl rfl (.noU rfl rfl rfl rfl rfl rfl (.noU rfl rfl rfl rfl rfl rfl (.noU rfl rfl rfl rfl rfl rfl (.noU rfl rfl rfl rfl rfl rfl (.noU rfl rfl rfl rfl rfl rfl (.no rfl rfl rfl rfl rfl rfl rfl (.pickT rfl rfl rfl (.assign rfl rfl ?_)))))))))))))
   exact At.joined (Sub.cons (by show some (Value.bool true) = some (Value.bool ((!decide (x.ok = 0)) || ((!x.at_) && nilX s.fr))); rw [hg1] <;> rfl) sN) rfl
  refine .set (d := 10) (u := .bool false) rfl (congrArg Value.bool hg1) ?_
  have hg1' := hg1; simp only [Bool.not_eq_true', Bool.not_eq_false', decide_eq_true_eq, decide_eq_false_iff_not] at hg1'
  refine .yes rfl rfl rfl rfl (.move rfl rfl (.yes rfl rfl rfl rfl (.nilCheck rfl rfl (.yes rfl rfl rfl rfl (.fieldAddr rfl fo84_2 rfl (.yes rfl rfl rfl rfl (.load rfl (Ld.ownCell ag4 hM.blk (mx_at (j := 1) hM.tsz rfl rfl)) rfl (.yes rfl rfl rfl rfl (.not rfl rfl (.yes rfl rfl rfl rfl (.move rfl rfl ?_)))))))))))
  refine At.cases ((!x.at_)) (fun hg2 => ?_) (fun hg2 => ?_)
  ·skip
   refine .set (d := 16) (u := .bool true) rfl (congrArg Value.bool hg2) (.yes rfl rfl rfl rfl (.move rfl rfl (.yes rfl rfl rfl rfl (.nilCheck rfl rfl (.yes rfl rfl rfl rfl (.fieldAddr rfl fo84_4 rfl (.yes rfl rfl rfl rfl (.load rfl (Ld.ownCell ag80 hM.blk (mx_at (j := 9) hM.tsz rfl rfl)) rfl (.yes rfl rfl rfl rfl ?_)))))))))
   obtain ⟨pp1, hp1, hpn1⟩ := XAt.ptr hM.fr nofun
   refine .set (d := 20) (u := .pointer pp1) rfl hp1 (.eqP rfl rfl pt80 rfl (.set (d := 21) (u := .bool (nilX s.fr)) rfl (by rw [hpn1]) (.yes rfl rfl rfl rfl (.pickT rfl rfl rfl (.pickF rfl rfl rfl (.assign rfl rfl ?_))))))
   exact At.joined (Sub.cons (by show some (Value.bool (nilX s.fr)) = some (Value.bool ((!decide (x.ok = 0)) || ((!x.at_) && nilX s.fr))); rw [hg1, hg2] <;> rfl) sN) rfl
  refine .set (d := 16) (u := .bool false) rfl (congrArg Value.bool hg2) (.no rfl rfl rfl rfl rfl rfl rfl (.no rfl rfl rfl rfl rfl rfl rfl (.no rfl rfl rfl rfl rfl rfl rfl (.no rfl rfl rfl rfl rfl rfl rfl (.no rfl rfl rfl rfl rfl rfl rfl (.yes rfl rfl rfl rfl (.pickF rfl rfl rfl (.pickF rfl rfl rfl (.assign rfl rfl ?_)))))))))
  exact At.joined (Sub.cons (by show some (Value.bool false) = some (Value.bool ((!decide (x.ok = 0)) || ((!x.at_) && nilX s.fr))); rw [hg1, hg2] <;> rfl) sN) rfl
 subst hS
 refine .thenN (.retc (.doneR (ResV.tmp rfl ResV.nil) ?_))
 exact ⟨by rw [endedF, ← hok, ← hat]; rfl, hW.base⟩
theorem start_any {E : List (Option Nat)} {t : Tm} {v1 v2 vl : Value} {l : List Int} (w : World)  (h1 : v1.oneCell' = true) (h2 : v2.oneCell' = true) (ht : Xs kTm E w [t]) (hE : MLt w.heap.size E) (hi : IntsAt w vl l) (hl : l.length ≤ 1000000000000) :
  Calls Tryz.prog 24 ([.agg (mx [v1, v2] t.cs []), vl] : List Value).toArray w fun r w' => ∃ b x, r = .returned (.pointer (some ⟨b, 0, none⟩)) ∧ StA E b x w' (startF (shT t) l) ∧ Below w.heap.size w w' ∧ ∀ g, some g ∈ x.M b → w.heap.size ≤ g := by
 have hG := Gr.refl [] w
 refine At.enter (N := 11) Tryz.func24 rfl rfl (by simp) [(0, .agg (mx [v1, v2] t.cs [])), (1, vl)] (by simp) ?_
 refine .seq (.region ?_)
 refine At.box rfl rfl (fun b1 w1 F1 => ?_)
 have hb1 : w1.heap[b1]? = some (.cells (mx [v1, v2] t.cs []) 38) := F1.new
 replace hG := hG.below F1.bel
 refine .assign rfl rfl (.ops0 (.thenN (.seq (.drawG (n := 7) mixed (by kernel_rfl) rfl (PanicOk.then PanicOk.body) ?_))))
 replace hG := hG.drew
 have hb1 : _ := (show w1.drew.heap[b1]? = _ from hb1)
 refine .wpcS (i := 0) (d := 5) (.pointer (some ⟨b1, 0 + 2, none⟩)) (by kernel_rfl) rfl rfl rfl (fun Lx => .fieldAddr rfl fo38_2 rfl (.ops0 fun a ha => ⟨ha, rfl⟩)) ?_
 refine .wpcS (i := 1) (d := 6) (.agg t.cs) (by kernel_rfl) rfl rfl rfl (fun Lx => .load rfl (Ld.ownPart ag31 (sz31.trans (congrArg some ht.one.size.symm)) hb1 (mx_part ht.one.size)) rfl (.ops0 fun a ha => ⟨ha, rfl⟩)) ?_
 refine .wpcS (i := 2) (d := 7) (vl) (by kernel_rfl) rfl rfl rfl (fun Lx => .move rfl rfl (.ops0 fun a ha => ⟨ha, rfl⟩)) ?_
 refine At.wpcE [3] (by kernel_rfl) (by kernel_rfl) (.cons [0, 1] rfl (by kernel_rfl) ?_ .nil)
 have hsz0 := hG.size
 refine At.call en30 rfl rfl (cloneI_any _ (IntsAt.keep hi hG.base) hl) (fun e w2 hR => ?_)
 obtain ⟨vi, rfl, hOi, hgi, hbl1⟩ := hR; refine ⟨_, rfl, ?_⟩
 replace hb1 := Below.old hbl1 hb1
 replace hG := hG.below hbl1
 refine .ops0 ?_
 refine At.wpcN (.cons rfl rfl rfl rfl (fun Lx => ?_) (.cons rfl rfl rfl rfl (fun Lx => ?_) .nil)) ?_
 ·skip
  exact .fieldAddr rfl fo38_2 rfl (.ops0 fun a ha => ⟨ha, rfl⟩)
 ·skip
  exact .load rfl (Ld.ownPart ag31 (sz31.trans (congrArg some ht.one.size.symm)) hb1 (mx_part ht.one.size)) rfl (.ops0 fun a ha => ⟨ha, rfl⟩)
 refine .wpcS (i := 4) (d := 9) (.agg (mx [] t.cs [.pointer none, .bool true, zI, zI, zS, zN, zN, .pointer none, .pointer none, .pointer none, zN, vi, zI, zI, zI, zS, zN, zN, zI, zI])) (by kernel_rfl) rfl rfl rfl (fun Lx => .build (C := (mx [] t.cs [.pointer none, .bool true, zI, zI, zS, zN, zN, .pointer none, .pointer none, .pointer none, zN, vi, zI, zI, zI, zS, zN, zN, zI, zI])) sd84 ze84 rfl (Bld.mxT (pre := []) (post := [.pointer none, .bool false, zI, zI, zS, zN, zN, .pointer none, .pointer none, .pointer none, zN, zN, zI, zI, zI, zS, zN, zN, zI, zI]) fo84_0 ht.one.size (Nat.le_of_ble_eq_true rfl) rfl rfl (Bld.mxP (post' := [.pointer none, .bool true, zI, zI, zS, zN, zN, .pointer none, .pointer none, .pointer none, zN, zN, zI, zI, zI, zS, zN, zN, zI, zI]) (j := 1) fo84_2 rfl ht.one.size rfl rfl (by simp) (Bld.mxP (post' := [.pointer none, .bool true, zI, zI, zS, zN, zN, .pointer none, .pointer none, .pointer none, zN, vi, zI, zI, zI, zS, zN, zN, zI, zI]) (j := 11) fo84_6 hOi.one ht.one.size rfl rfl (by simp) (Bld.nil _)))) rfl (.ops0 fun a ha => ⟨ha, rfl⟩)) ?_
 refine At.wpcE [5] (by kernel_rfl) (by kernel_rfl) (.cons [] rfl (by kernel_rfl) ?_ .nil)
 have hg0 := hG; have htq := ht.gr (hG.any)
 refine At.box rfl rfl (fun b2 w3 F2 => ?_)
 have gb2 := F2.gq hG.size
 replace hG := hG.below F2.bel
 have hS := StA.start (b := b2) htq (fun g hg => Nat.lt_of_lt_of_le (hE g hg) hg0.size) hOi (fun g hg e => by have h1 := hE g e; have h2 := Nat.le_trans hsz0 (hgi g hg); omega) F2 rfl
 refine .ops0 (.wpcN .nil ?_)
 refine At.wpcE [6] (by kernel_rfl) (by kernel_rfl) (.cons [] rfl (by kernel_rfl) ?_ .nil)
 refine .assign rfl rfl (.ops0 (.wpcN .nil (.wpcZ (.thenN (.retc (.doneR (ResV.tmp rfl ResV.nil) ?_))))))
 exact ⟨b2, _, rfl, hS, hG.base, fun g hg => by simp only [Sx.M, Sx.start, Value.ownBlock, List.mem_cons, List.not_mem_nil, or_false] at hg; rcases hg with h | h | h; cases h; exact gb2; cases h; cases h⟩
theorem now_any {E : List (Option Nat)} {b : Nat} {x : Sx} {s : SS} (M1 : List (Option Nat)) (w : World) (hM : StA E b x w s) (hM1 : MLt w.heap.size M1) (hlt : s.tr.length ≤ 1000000000000) :
  Calls Tryz.prog 26 ([.pointer (some ⟨b, 0, none⟩)] : List Value).toArray w fun r w' => ∃ cs : List Value, r = .returned (.agg cs.toArray) ∧ RAt M1 w' cs (nowF s) ∧ Below w.heap.size w w' := by
 have hok := hM.ok; have hst := hM.n; have hkn := hM.kn
 have hG := Gr.refl (x.M b) w
 have hW := Gr.refl [] w
 refine At.enter (N := 31) Tryz.func26 rfl rfl (by simp) [(0, .pointer (some ⟨b, 0, none⟩))] (by simp) ?_
 refine .seq (.region ?_)
 refine At.alloc ze49 rfl (fun b1 w1 F1 => ?_)
 have gb1 := F1.gq hG.size
 have hb1 : w1.heap[b1]? = some (.cells #[zI, zI, zI, zS, zN, zN, zI, zI] 49) := F1.new
 replace hG := hG.below F1.bel
 replace hW := hW.below F1.bel
 replace hM := hM.addE F1
 refine .ops0 (.thenN (.seq (.region (.move rfl rfl (.nilCheck rfl rfl (.fieldAddr rfl fo84_7 rfl (.load rfl (Ld.ownPart (n := 8) (cs := #[.int .i64 x.ok, zI, zI, .string eB, zN, x.tr, .int .i64 x.st, .int .i64 x.kn]) ag49 sz49 hM.blk (mx_sub hM.tsz 12 rfl rfl)) rfl ?_)))))))
 refine At.alloc ze49 rfl (fun b2 w2 F2 => ?_)
 have n_b1_b2 := F2.ne' hb1
 replace hb1 := F2.old hb1
 have gb2 := F2.gq hG.size
 have hb2 : w2.heap[b2]? = some (.cells #[zI, zI, zI, zS, zN, zN, zI, zI] 49) := F2.new
 replace hG := hG.below F2.bel
 replace hW := hW.below F2.bel
 replace hM := hM.addE F2
 refine At.storeAll rfl rfl hb2 sz49 rfl (by first | (simp [Value.oneCell', ((SlOk.nil)).one, (Own.one hM.tr)]; done) | (simp only [List.all_toArray, List.all_cons, List.all_nil, ((SlOk.nil)).one, (Own.one hM.tr), Bool.and_true, Bool.true_and] <;> rfl)) (fun w3 S1 => ?_)
 replace hb1 := S1.other hb1 n_b1_b2
 replace hb2 : w3.heap[b2]? = some (.cells #[.int .i64 x.ok, zI, zI, .string eB, zN, x.tr, .int .i64 x.st, .int .i64 x.kn] 49) := S1.new
 replace hG := hG.set S1 (.inr gb2)
 replace hW := hW.set S1 (.inr gb2)
 replace hM := hM.setE S1 (by simp)
 refine .ops0 (.thenN (.seq (.region (.move rfl rfl (.nilCheck rfl rfl (.fieldAddr rfl fo84_7 rfl (.fieldAddr rfl fo49_1 rfl (.load rfl (Ld.ownCell ag32 hM.blk (mx_at (j := 17) hM.tsz rfl rfl)) rfl ?_))))))))
 have hsz0 := hG.size
 refine At.call en30 rfl rfl (cloneI_any _ (IntsAt.ofOwn hM.tr) hlt) (fun e w4 hR => ?_)
 obtain ⟨vi, rfl, hOi, hgi, hbl1⟩ := hR; refine ⟨_, rfl, ?_⟩
 replace hb1 := Below.old hbl1 hb1
 replace hb2 := Below.old hbl1 hb2
 replace hG := hG.below hbl1
 replace hW := hW.below hbl1
 replace hM := hM.below hbl1
 refine .fieldAddr rfl fo49_1 rfl ?_
 refine At.store1 rfl rfl hb2 sz32 (by simp) hOi.one (fun w5 S2 => ?_)
 replace hOi := Own.set hOi S2 (hOi.neT hb2 rfl)
 replace hb1 := S2.other hb1 n_b1_b2
 replace hb2 : w5.heap[b2]? = some (.cells #[.int .i64 x.ok, zI, zI, .string eB, zN, vi, .int .i64 x.st, .int .i64 x.kn] 49) := S2.new
 replace hG := hG.set S2 (.inr gb2)
 replace hW := hW.set S2 (.inr gb2)
 replace hM := hM.setE S2 (by simp)
 refine .ops0 (.thenN (.seq (.seq (.region (.fieldAddr rfl fo49_0 rfl (.fieldAddr rfl fo47_0 rfl (.load rfl (Ld.ownCell ag3 hb2 rfl) rfl (.eqI rfl rfl rfl (.move rfl rfl ?_)))))))))
 refine At.cases (decide (x.ok = 0)) (fun hg1 => ?_) (fun hg1 => ?_)
 ·skip
  refine .set (d := 19) (u := .bool true) rfl (congrArg Value.bool hg1) ?_
  have hg1' := of_decide_eq_true hg1
  refine .yes rfl rfl rfl rfl (.move rfl rfl (.yes rfl rfl rfl rfl ?_))
  refine At.call en31 rfl rfl (ended_any _ hM) (fun e w6 hR => ?_)
  obtain ⟨rfl, hbl2⟩ := hR
  refine ⟨_, rfl, ?_⟩
  replace hb1 := Below.old hbl2 hb1
  replace hb2 := Below.old hbl2 hb2
  replace hG := hG.below hbl2
  replace hW := hW.below hbl2
  replace hM := hM.below hbl2
  replace hOi := Own.below hOi hbl2
  refine .pickT rfl rfl rfl (.ops0 (.thenN ?_))
  refine At.cond (b := (endedF s)) rfl (fun hc1 => ?_) (fun hc1 => ?_)
  ·skip
   refine .region (.move rfl rfl (.nilCheck rfl rfl (.fieldAddr rfl fo84_3 rfl (.load rfl (Ld.ownPart (n := 7) (cs := (V7 x.k x.n x.nm x.kv x.fp x.kp).toArray) ag82 sz82 hM.blk (mx_sub hM.tsz 2 rfl rfl)) rfl ?_))))
   refine At.call en34 rfl rfl (shownS_any (M1 := some b1 :: some b2 :: M1) _ (fun q hq => ?_) hM.v) (fun e w7 hR => ?_)
   ·skip
    rcases List.mem_cons.1 hq with e | e
    ·cases e; exact lt_of_obj hb1
    rcases List.mem_cons.1 e with e | e
    ·cases e; exact lt_of_obj hb2
    exact Nat.lt_of_lt_of_le (hM1 q e) hG.size
   obtain ⟨vo, rfl, hos, hbl3⟩ := hR; refine ⟨_, rfl, ?_⟩
   replace hb1 := Below.old hbl3 hb1
   replace hb2 := Below.old hbl3 hb2
   replace hW := hW.below hbl3
   replace hM := hM.below hbl3
   replace hOi := Own.below hOi hbl3
   refine .build (C := #[.int .i64 1, .int .i64 x.k, .int .i64 x.n, .string x.nm, vo]) sd47 ze47 rfl (Bld.cons fo47_0 rfl (lB rfl) (Bld.cons fo47_1 rfl (lB rfl) (Bld.nil _))) rfl (.fieldAddr rfl fo49_0 rfl ?_)
   refine At.storePart (cs := #[.int .i64 1, .int .i64 x.k, .int .i64 x.n, .string x.nm, vo]) rfl rfl hb2 sz47 (lB rfl) (by first | (simp [Value.oneCell', hos.one]; done) | (simp only [List.all_toArray, List.all_cons, List.all_nil, hos.one, Bool.and_true, Bool.true_and] <;> rfl)) (fun w8 S3 => ?_)
   replace hOi := Own.set hOi S3 (hOi.neT hb2 rfl)
   replace hos := hos.gr ((Gr.refl _ _).set S3 (.inl (by simp)))
   replace hb1 := S3.other hb1 n_b1_b2
   replace hb2 : w8.heap[b2]? = some (.cells #[.int .i64 1, .int .i64 x.k, .int .i64 x.n, .string x.nm, vo, vi, .int .i64 x.st, .int .i64 x.kn] 49) := S3.new
   replace hW := hW.set S3 (.inr gb2)
   replace hM := hM.setE S3 (by simp)
   refine .ops0 (.thenN (.seq (.region (.load rfl (Ld.own (C := #[.int .i64 1, .int .i64 x.k, .int .i64 x.n, .string x.nm, vo, vi, .int .i64 x.st, .int .i64 x.kn]) ag49 sz49 hb2) rfl ?_))))
   refine At.storeAll rfl rfl hb1 sz49 rfl (by first | (simp [Value.oneCell', hos.one, hOi.one]; done) | (simp only [List.all_toArray, List.all_cons, List.all_nil, hos.one, hOi.one, Bool.and_true, Bool.true_and] <;> rfl)) (fun w9 S4 => ?_)
   replace hOi := Own.set hOi S4 (hOi.neT hb1 rfl)
   replace hos := hos.gr ((Gr.refl _ _).set S4 (.inl (by simp)))
   replace hb1 : w9.heap[b1]? = some (.cells #[.int .i64 1, .int .i64 x.k, .int .i64 x.n, .string x.nm, vo, vi, .int .i64 x.st, .int .i64 x.kn] 49) := S4.new
   replace hW := hW.set S4 (.inr gb1)
   replace hM := hM.setE S4 (by simp)
   refine .ops0 (.thenN (.retc (.doneR (ResV.cell rfl (Ld.own (C := #[.int .i64 1, .int .i64 x.k, .int .i64 x.n, .string x.nm, vo, vi, .int .i64 x.st, .int .i64 x.kn]) ag49 sz49 hb1) ResV.nil) ?_)))
   have hn : nowF s = ⟨1, shwX s.v, s.tr, s.st, s.kn⟩ := by rw [nowF, ← hok]; simp only [hg1, hc1, Bool.and_true, Bool.true_and, Bool.false_and, Bool.and_false, cond_true, cond_false]
   exact ⟨_, rfl, (by rw [hn]; exact ⟨x.k, x.n, x.nm, vo, vi, (by rw [← hst, ← hkn] <;> rfl), hos.weak (fun q hq => by simp [hq]), IntsAt.ofOwn hOi, IntsAt.out hOi (fun g hg e => by have h1 := hM1 g e; have h2 := Nat.le_trans hsz0 (hgi g hg); omega)⟩), hW.base⟩
  refine .skip (.thenN (.seq (.region (.load rfl (Ld.own (C := #[.int .i64 x.ok, zI, zI, .string eB, zN, vi, .int .i64 x.st, .int .i64 x.kn]) ag49 sz49 hb2) rfl ?_))))
  refine At.storeAll rfl rfl hb1 sz49 rfl (by first | (simp [Value.oneCell', ((SlOk.nil)).one, hOi.one]; done) | (simp only [List.all_toArray, List.all_cons, List.all_nil, ((SlOk.nil)).one, hOi.one, Bool.and_true, Bool.true_and] <;> rfl)) (fun w10 S5 => ?_)
  replace hOi := Own.set hOi S5 (hOi.neT hb1 rfl)
  replace hb1 : w10.heap[b1]? = some (.cells #[.int .i64 x.ok, zI, zI, .string eB, zN, vi, .int .i64 x.st, .int .i64 x.kn] 49) := S5.new
  replace hW := hW.set S5 (.inr gb1)
  replace hM := hM.setE S5 (by simp)
  refine .ops0 (.thenN (.retc (.doneR (ResV.cell rfl (Ld.own (C := #[.int .i64 x.ok, zI, zI, .string eB, zN, vi, .int .i64 x.st, .int .i64 x.kn]) ag49 sz49 hb1) ResV.nil) ?_)))
  have hn : nowF s = ⟨s.ok, .mk 0 0 eB [], s.tr, s.st, s.kn⟩ := by rw [nowF, ← hok]; simp only [hg1, hc1, Bool.and_true, Bool.true_and, Bool.false_and, Bool.and_false, cond_true, cond_false]
  exact ⟨_, rfl, (by rw [hn]; exact ⟨0, 0, eB, zN, vi, (by rw [← hst, ← hkn, ← hok] <;> rfl), OAt.mk [] (RowsAt.nil _ 4) (fun h => absurd rfl h) (fun _ h => by cases h), IntsAt.ofOwn hOi, IntsAt.out hOi (fun g hg e => by have h1 := hM1 g e; have h2 := Nat.le_trans hsz0 (hgi g hg); omega)⟩), hW.base⟩
 refine .set (d := 19) (u := .bool false) rfl (congrArg Value.bool hg1) ?_
 have hg1' := of_decide_eq_false hg1
 refine .no rfl rfl rfl rfl rfl rfl rfl (.no rfl rfl rfl rfl rfl rfl rfl (.pickF rfl rfl rfl (.ops0 (.thenN (.condF rfl (.skip (.thenN (.seq (.region (.load rfl (Ld.own (C := #[.int .i64 x.ok, zI, zI, .string eB, zN, vi, .int .i64 x.st, .int .i64 x.kn]) ag49 sz49 hb2) rfl ?_))))))))))
 refine At.storeAll rfl rfl hb1 sz49 rfl (by first | (simp [Value.oneCell', ((SlOk.nil)).one, hOi.one]; done) | (simp only [List.all_toArray, List.all_cons, List.all_nil, ((SlOk.nil)).one, hOi.one, Bool.and_true, Bool.true_and] <;> rfl)) (fun w11 S6 => ?_)
 replace hOi := Own.set hOi S6 (hOi.neT hb1 rfl)
 replace hb1 : w11.heap[b1]? = some (.cells #[.int .i64 x.ok, zI, zI, .string eB, zN, vi, .int .i64 x.st, .int .i64 x.kn] 49) := S6.new
 replace hW := hW.set S6 (.inr gb1)
 replace hM := hM.setE S6 (by simp)
 refine .ops0 (.thenN (.retc (.doneR (ResV.cell rfl (Ld.own (C := #[.int .i64 x.ok, zI, zI, .string eB, zN, vi, .int .i64 x.st, .int .i64 x.kn]) ag49 sz49 hb1) ResV.nil) ?_)))
 have hn : nowF s = ⟨s.ok, .mk 0 0 eB [], s.tr, s.st, s.kn⟩ := by rw [nowF, ← hok]; simp only [hg1, Bool.and_true, Bool.true_and, Bool.false_and, Bool.and_false, cond_true, cond_false]
 exact ⟨_, rfl, (by rw [hn]; exact ⟨0, 0, eB, zN, vi, (by rw [← hst, ← hkn, ← hok] <;> rfl), OAt.mk [] (RowsAt.nil _ 4) (fun h => absurd rfl h) (fun _ h => by cases h), IntsAt.ofOwn hOi, IntsAt.out hOi (fun g hg e => by have h1 := hM1 g e; have h2 := Nat.le_trans hsz0 (hgi g hg); omega)⟩), hW.base⟩
def NC (w : World) (r : Nat) : Prop := ∃ o : Obj, w.heap[r]? = some o ∧ o.isCells = false
section
variable {M E : List (Option Nat)} {nc : Nat} {w w' : World} {r b : Nat}
theorem NC.ne {C : Array Value} {T : TypeId} {fr : Nat × Nat} (h : NC w r) (hb : w.heap[b]? = some (.cells C T fr)) : some b ≠ some r := fun e => by
  cases e
  obtain ⟨o, h1, h2⟩ := h
  rw [hb] at h1; cases h1; cases h2
theorem NC.neo {o : Obj} (h : NC w r) (hb : w.heap[b]? = some o) (hc : o.isCells = true) : some b ≠ some r := fun e => by
  cases e
  obtain ⟨o', h1, h2⟩ := h
  rw [hb] at h1; cases h1; rw [hc] at h2; cases h2
theorem NC.out {o : Obj} (h : NC w r) (hm : some b ∉ M) (hb : w.heap[b]? = some o) (hc : o.isCells = true) : some b ∉ some r :: M := fun e => by
  rcases List.mem_cons.1 e with q | q
  · exact h.neo hb hc q
  · exact hm q
theorem NC.rows {α : Type} {v : Value} {sz : Nat} {l : List α} {f : α → Array Value} (h : NC w r) (hr : RowsAt w v sz (l.map f)) (hp : 0 < sz) (hm : l ≠ [] → some (vBlock v) ∉ M) : l ≠ [] → some (vBlock v) ∉ some r :: M := fun hne => by
  obtain ⟨o, h1, h2⟩ := hr.cells hp hne
  exact h.out (hm hne) h1 h2
theorem Xs.addT {l : List Tm} (h : Xs kTm M w l) (hr : NC w r) : Xs kTm (some r :: M) w l := fun u hu => ⟨(h u hu).1, fun c hc => by
  obtain ⟨o, h1, h2⟩ := tm_cells u c (h u hu).1 hc
  exact hr.out ((h u hu).2 c hc) h1 h2⟩
theorem Xs.addA {l : List Am} (h : Xs kAm M w l) (hr : NC w r) : Xs kAm (some r :: M) w l := fun u hu => ⟨(h u hu).1, fun c hc => by
  obtain ⟨o, h1, h2⟩ := am_cells u c (h u hu).1 hc
  exact hr.out ((h u hu).2 c hc) h1 h2⟩
theorem XAt.addR {o : So} {cs : List Value} {y : X} (h : XAt M nc w o cs y) (hq : NC w r) : XAt (some r :: M) nc w o cs y := by
  induction h with
  | v rows hr hm hk hf hs h5 h2 ihk ihf ihs => exact .v rows hr (hq.rows (f := fun p : List Value × X => p.1.toArray) hr (by decide) hm) ihk ihf ihs h5 h2
  | nil ho => exact .nil ho
  | c hb hm ht he ihe => exact .c hb (hq.out hm hb rfl) (ht.addT hq) ihe
  | e hl hb hm hx hn ihx ihn => exact .e hl hb (hq.out hm hb rfl) ihx ihn
  | s hb hm ht hn iht ihn => exact .s hb (hq.out hm hb rfl) iht ihn
  | arg ht he ihe => exact .arg (ht.addT hq) ihe
  | fn hl hx ihx => exact .fn hl ihx
  | bnd ht he ihe => exact .bnd (ht.addT hq) ihe
  | frk hl hr hm ht he ihe => exact .frk hl hr (hq.rows hr (by decide) (fun _ => hm) (fun e => by rw [e] at hl; cases hl)) (ht.addT hq) ihe
  | gat ht rows hr hm hk he ihk ihe => exact .gat (ht.addT hq) rows hr (hq.rows (f := fun p : List Value × X => p.1.toArray) hr (by decide) hm) ihk ihe
  | way hr hm ht he ihe => exact .way hr (hq.rows hr (by decide) hm) (ht.addA hq) ihe
  | ask => exact .ask
  | hnd hr hm ht he ihe => exact .hnd hr (hq.rows hr (by decide) hm) (ht.addA hq) ihe
theorem Own.cells {e : TypeId} {sz n g : Nat} {v : Value} {xs : List Value} (h : Own w e sz v n xs) (hg : v.ownBlock = some g) : ∃ o : Obj, w.heap[g]? = some o ∧ o.isCells = true := by
  rcases h.2 with ⟨rfl, _⟩ | ⟨g', cap, cur, rfl, _, hb, _⟩
  · cases hg
  · cases hg; exact ⟨_, hb, rfl⟩
def Mk (w w' : World) : Prop := ∃ row, w.grownBy w' row ∧ ∀ r, row = some r → NC w r
theorem Mk.gr (h : Mk w w') (M : List (Option Nat)) : ∃ r, Gr (r ++ M) w (r ++ M) w' ∧ (r = [] ∨ ∃ q, r = [some q] ∧ NC w q) := by
  obtain ⟨row, hg, hr⟩ := h
  cases row with
  | none => exact ⟨[], ⟨hg.os, hg.tape, hg.output, hg.size, fun {c x} _ hx => by rw [hg.block c (lt_of_obj hx) (by simp)]; exact hx, fun _ h => h⟩, .inl rfl⟩
  | some q => exact ⟨[some q], ⟨hg.os, hg.tape, hg.output, hg.size, fun {c x} hc hx => by rw [hg.block c (lt_of_obj hx) (fun e => hc (by simp [e]))]; exact hx, fun _ h => h⟩, .inr ⟨q, rfl, hr q rfl⟩⟩
theorem XAt.mk' {o : So} {cs : List Value} {y : X} (h : XAt M nc w o cs y) (k : Mk w w') : XAt M nc w' o cs y := by
  obtain ⟨r, G, rfl | ⟨q, rfl, hq⟩⟩ := k.gr M
  · exact h.gr G lR
  · exact ((h.addR hq).gr G lR).mono fun z hz => List.mem_cons_of_mem _ hz
theorem Mk.cells {C : Array Value} {T : TypeId} {fr : Nat × Nat} (k : Mk w w') (hb : w.heap[b]? = some (.cells C T fr)) : w'.heap[b]? = some (.cells C T fr) := by
  obtain ⟨row, hg, hr⟩ := k
  exact cells_grown hb hg hr
theorem Own.mk' {e : TypeId} {sz n : Nat} {v : Value} {xs : List Value} (h : Own w e sz v n xs) (k : Mk w w') : Own w' e sz v n xs := h.keep fun g hg => by
  obtain ⟨o, h1, h2⟩ := h.cells hg
  obtain ⟨row, hgr, hr⟩ := k
  exact hgr.block g (lt_of_obj h1) fun e => (hr g e.symm).neo h1 h2 rfl
theorem Xs.mkT' {l : List Tm} (h : Xs kTm M w l) (k : Mk w w') : Xs kTm M w' l := by
  obtain ⟨row, hg, hr⟩ := k
  exact h.grownC hg hr
theorem RowsAt.mk' {α : Type} {v : Value} {sz : Nat} {l : List α} {f : α → Array Value} (h : RowsAt w v sz (l.map f)) (hp : 0 < sz) (k : Mk w w') : RowsAt w' v sz (l.map f) := h.keepB fun hne => by
  obtain ⟨o, h1, h2⟩ := h.cells hp (map_ne hne)
  obtain ⟨row, hgr, hr⟩ := k
  exact hgr.block _ (lt_of_obj h1) fun e => (hr _ e.symm).neo h1 h2 rfl
theorem StA.mk' {x : Sx} {s : SS} (h : StA E b x w s) (k : Mk w w') : StA E b x w' s := by
  obtain ⟨rows, h1, h2, h3⟩ := h.cl
  have hs : w.heap.size ≤ w'.heap.size := by obtain ⟨row, hg, _⟩ := k; exact hg.size
  exact { h with blk := k.cells h.blk, t := h.t.mkT' k, e := h.e.mk' k, v := h.v.mk' k, fr := h.fr.mk' k, cl := ⟨rows, Own.mk' h1 k, fun p hp => (h2 p hp).mk' k, h3⟩, inp := RowsAt.mk' h.inp (by decide) k, tr := Own.mk' h.tr k, lt := fun q hq => Nat.lt_of_lt_of_le (h.lt q hq) hs }
theorem Gr.mk' {M' : List (Option Nat)} {w0 : World} (h : Gr M w0 M' w) (k : Mk w w') (hr : ∀ row, w.grownBy w' row → True) (hl : ∀ r o, w.heap[r]? = some o → o.isCells = false → w'.heap[r]? ≠ some o → w0.heap.size ≤ r) : Gr M w0 M' w' := by
  obtain ⟨row, hg, hn⟩ := k
  refine ⟨hg.os.trans h.os, hg.tape.trans h.tape, hg.output.trans h.output, Nat.le_trans h.size hg.size, fun {c x} hc hx => ?_, h.out⟩
  have h1 := h.old hc hx
  by_cases e : some c = row
  · apply Classical.byContradiction
    intro hne
    obtain ⟨o, h2, h3⟩ := hn c e.symm
    have := hl c o h2 h3 (by rw [h1] at h2; cases h2; exact hne)
    have := lt_of_obj hx; omega
  · rw [hg.block c (lt_of_obj h1) e]; exact h1
theorem KeepsFrom.ofGr {M' : List (Option Nat)} {B : Nat} (h : Gr M w M' w') (hM : ∀ g, some g ∈ M → ∀ o, w.heap[g]? = some o → o.isCells = true) : KeepsFrom B w w' :=
  ⟨h.size, fun k o _ hk ho => h.old (fun e => by have := hM k e o hk; rw [this] at ho; cases ho) hk⟩
theorem StA.cellsM {x : Sx} {s : SS} (h : StA E b x w s) : ∀ g, some g ∈ x.M b → ∀ o, w.heap[g]? = some o → o.isCells = true := fun g hg o ho => by
  simp only [Sx.M, List.mem_cons, List.not_mem_nil, or_false] at hg
  rcases hg with e | e | e
  · cases e; rw [h.blk] at ho; cases ho; rfl
  · obtain ⟨rows, h1, _⟩ := h.cl
    obtain ⟨o', h2, h3⟩ := h1.cells e.symm
    rw [h2] at ho; cases ho; exact h3
  · obtain ⟨o', h2, h3⟩ := h.tr.cells e.symm
    rw [h2] at ho; cases ho; exact h3
end
def npQ (Q : Exit → Act → World → Prop) : Exit → Act → World → Prop
  | .panic _, _, _ => False
  | e, a, w => Q e a w
theorem PanicOk.np {Q : Exit → Act → World → Prop} : PanicOk (npQ Q) := fun _ _ _ _ _ h => h.elim
theorem At.enterMN {P : Program} {N n : Nat} {f : FuncId} {fn : Func} {c : Code} {args : List Value} {R : Ending → World → Prop} {w : World} (hf : P.funcs[f]? = some fn) (hb : fn.body = some c)
    (hn : fn.ntmps = N) (hl : args.length ≤ N) (L : List (Nat × Value)) (hL : ∀ p ∈ L, args[p.1]? = some p.2) (h : At N [] L (c.wp P (npQ (bodyPostM Fence.wide n P fn R))) w) : Calls P f args.toArray w R :=
  At.enterM (n := n) hf hb hn hl L hL fun a ha => (wpIn_wide (n := n)).1 (wpIn_mono ((wpIn_wide (n := n)).2 (h a ha)) fun e _ _ hq => by cases e <;> first | exact hq | exact hq.elim)
theorem At.doneMR {P : Program} {N n D : Nat} {fn : Func} {R : Ending → World → Prop} {L : List (Nat × Value)} {vs : List Value} {w : World} (h : ResV P L (w.putObj D (.deferred none)) fn.results.toList vs) (hD : w.heap[D]? = some (.deferred (some [])))
    (hR : R (.returned (resOf vs)) (w.putObj D (.deferred none))) : At N [{ target := .collected D, args := #[] }] L (npQ (bodyPostM Fence.wide n P fn R) .ret) w := fun a ha => by
  show LeavesInM _ _ _ _ _ _ a.defers _ _
  rw [ha.defers]
  exact ⟨by simp, .inl ⟨D, _, rfl, run_takeDeferred hD, _, run_results ha h, hR⟩⟩
theorem At.doneM0 {P : Program} {N n : Nat} {fn : Func} {R : Ending → World → Prop} {L : List (Nat × Value)} {vs : List Value} {w : World} (h : ResV P L w fn.results.toList vs) (hR : R (.returned (resOf vs)) w) : At N [] L (npQ (bodyPostM Fence.wide n P fn R) .ret) w := fun a ha => by
  show LeavesInM _ _ _ _ _ _ a.defers _ _
  rw [ha.defers]
  exact ⟨_, run_results ha h, hR⟩
theorem rev_snocG {α : Type} {ts : List α} {k : Nat} {u : α} (hk : k < ts.length) (hu : ts[ts.length - 1 - k]? = some u) : ts.reverse.take k ++ [u] = ts.reverse.take (k + 1) := by
  rw [List.take_add_one, List.getElem?_reverse hk, hu]; rfl
abbrev fC : Value × X → Array Value := fun p => #[p.1]
theorem stk_snoc (l : List X) (a r : X) : stk (l ++ [a]) r = stk l (.s a r) := by
  induction l with
  | nil => rfl
  | cons b l ih => rw [List.cons_append, stk, stk, ih]
def pushAll (s : SS) (l : List (Value × X)) : SS := l.foldl (fun s p => s.push p.2) s
theorem push_rev (l : List (Value × X)) (s : SS) : pushAll s l.reverse = { s with fr := stk (l.map Prod.snd) s.fr } := by
  induction l with
  | nil => rfl
  | cons a l ih =>
    have : pushAll s (l.reverse ++ [a]) = (pushAll s l.reverse).push a.2 := by simp [pushAll, List.foldl_append]
    rw [List.reverse_cons, this, ih]; rfl
theorem push_cells (l : List (Value × X)) (s : SS) : (pushAll s l).cells = s.cells := by
  induction l generalizing s with
  | nil => rfl
  | cons a l ih => show (pushAll (s.push a.2) l).cells = _; rw [ih]; rfl
theorem appX_stk (l : List X) (r : X) : appX (stk l .nil) r = stk l r := by
  induction l with
  | nil => rfl
  | cons a l ih => rw [stk, appX, ih, stk]
theorem gets_k {kf nf : Int} {mf : ByteArray} {kidsf : List X} {sX kx v : X} {l : List X} {s : SS} (h0 : stk l kx = sX) (hk : nilX kx = true) (hn : nilX sX = false) : getsF (.fn (.v kf nf mf kidsf .nil sX)) s v = ({ s with fr := stk l s.fr }.has v, true) := by
  subst h0
  rw [nilX_eq hk] at hn ⊢
  cases l with
  | nil => cases hn
  | cons a l => rw [← appX_stk (a :: l) s.fr]; rfl
abbrev Of (ts : List (Value × X)) : Type := { p : Value × X // p ∈ ts }
def unO {ts : List (Value × X)} (x : Int × Of ts) : Value × X := x.2.1
theorem At.rangeF {P : Program} {N : Nat} {ds : List Deferred} {L : List (Nat × Value)} {w : World} {g : Operand} {p1 p2 d6 : Nat} {assign body : Code} {Q : Exit → Act → World → Prop} {gf : Nat} {lb : Array Value} {S : Nat → Prop} {ts : List (Value × X)}
    (hg : ev L g = some (.func (.func gf) #[] lb)) (hent : entB P gf = true) (h1 : Nat.blt p1 N = true) (h2 : Nat.blt p2 N = true) (hS : ∀ k, w.heap.size ≤ k → S k)
    (hseq : SeqStopsK Fence.wide 2 P gf lb (fun x : Int × Of ts => #[.int .i64 x.1, x.2.1.1]) (Fr S) (fun xs => xs.map unO = ts.reverse) (fun _ => True) ts.length w)
    (I : List (Value × X) → World → Prop) (hI : ∀ pre W W', I pre W → Mk W W' → (∀ r o, W.heap[r]? = some o → o.isCells = false → W'.heap[r]? ≠ some o → w.heap.size ≤ r) → I pre W') (h0 : I [] w)
    (hassign : ∀ (l : Nat) (i : Int) (v : Value) (W : World), At N [] ((p2, v) :: (p1, .int .i64 i) :: L) (assign.wpIn (Fence.wide.inRound l) 1 P (fun e a' W' => e = .normal ∧ W' = W ∧ Is N [] ((d6, v) :: L) a')) W)
    (hbody : ∀ (l : Nat) (pre : List (Value × X)) (t : Value × X) (W : World), I pre W → t ∈ ts → At N [] ((d6, t.1) :: L) (body.wpIn (Fence.wide.inRound l) 1 P (fun e _ W' => e = .normal ∧ KeepsFrom w.heap.size W W' ∧ Fr S W W' ∧ I (pre ++ [t]) W')) W)
    (hdone : ∀ (D : Nat) (W : World), w.heap.size ≤ D → I ts.reverse W → W.heap[D]? = some (.deferred (some [])) → At N ({ target := .collected D, args := #[] } :: ds) L (Q .normal) W) :
    At N ds L ((Code.rangeFunc g #[p1, p2] assign body).wp P Q) w := fun a ha => by
  have mk : ∀ {W W' : World} {row : Option Nat}, W.grownBy W' row → (∀ r, row = some r → w.heap.size ≤ r ∧ ∃ o : Obj, W.heap[r]? = some o ∧ o.isCells = false) → Mk W W' ∧ ∀ r o, W.heap[r]? = some o → o.isCells = false → W'.heap[r]? ≠ some o → w.heap.size ≤ r := fun {W W' row} hg hr =>
    ⟨⟨row, hg, fun r e => (hr r e).2⟩, fun r o ho _ hne => by
      by_cases e : some r = row
      · exact (hr r e.symm).1
      · exact absurd (by rw [hg.block r (lt_of_obj ho) e]; exact ho) hne⟩
  refine (wpIn_wide (n := 3)).1 (wpIn_rangeFunc_ownH (F := Fence.wide) (n := 3) (w0 := w) rfl (by decide) (gf := gf) (lb := lb) (ha.ev hg) trivial (run_callFunc hent) hseq (fun h k => Fr.then h k (fun k hk => .inl hk))
    (fun W l o o' hl hW ho _ => Fr.grownG' hW (hS l hl)) (Below.refl _ _) (fun _ => rfl) (fun (pre : List (Int × Of ts)) W => I (pre.map unO) W) (fun _ _ _ => False) (fun pre W W' row hs hg hr => hI _ _ _ hs (mk hg hr).1 (mk hg hr).2) (fun _ _ _ _ _ h _ _ => h) h0
    (fun x a' W => Is N [] ((d6, x.2.1.1) :: L) a') (fun x a' u W W' row hs hg hr => hs) (fun l pre x W K hi hK => ?_) (fun l pre x a' W hl hlr hi hax hlen => ?_) (fun D xs W hD hxs hi hD2 => ?_) (fun _ _ _ _ _ _ h _ => h.elim))
  · have ha0 : Is N [] L { a with defers := [] } := ⟨ha.size, rfl, ha.get⟩
    have ha1 : Is N [] ((p2, x.2.1.1) :: (p1, .int .i64 x.1) :: L) { tmps := (a.tmps.setIfInBounds p1 (.int .i64 x.1)).setIfInBounds p2 x.2.1.1, defers := [] } := (ha0.put h1).put h2
    have hz : Array.foldl (fun t (x : Tmp × Value) => t.setIfInBounds x.1 x.2) a.tmps (#[p1, p2].zip #[Value.int .i64 x.1, x.2.1.1]) = (a.tmps.setIfInBounds p1 (.int .i64 x.1)).setIfInBounds p2 x.2.1.1 := by rw [← Array.foldl_toList]; simp
    refine wpIn_mono (show Code.wpIn _ _ _ _ _ { tmps := _, defers := [] } W from by rw [hz]; exact hassign l x.1 x.2.1.1 W _ ha1) (fun e a' W' hq => ?_)
    obtain ⟨rfl, rfl, q3⟩ := hq
    exact hK a' _ (KeepsFrom.refl _ _) (Fr.refl _ _) hi q3
  · refine wpIn_mono (hbody l (pre.map unO) x.2.1 W hi x.2.2 a' hax) (fun e a'' W' hq => ?_)
    obtain ⟨rfl, q1, q2, q3⟩ := hq
    refine ⟨q1, q2, ?_⟩
    show I ((pre ++ [x]).map unO) W'
    rw [List.map_append]; exact q3
  · have hxs : xs.map unO = ts.reverse := hxs
    have hi : I (xs.map unO) W := hi
    rw [hxs] at hi
    exact hdone D W hD hi hD2 _ ⟨ha.size, by rw [← ha.defers], ha.get⟩
theorem ag220 : aggB Tryz.prog 220 = some false := by kernel_rfl
theorem ag86 : aggB Tryz.prog 86 = some false := by kernel_rfl
theorem el220 : elemB Tryz.prog 220 = some 86 := by kernel_rfl
theorem sz86 : sizeB Tryz.prog 86 = some 1 := by kernel_rfl
theorem backF1_any (l bs n : Nat) (S : Nat → Prop) (v : Value) (ts : List (Value × X)) (J Jx : List (Int × Of ts) → World → Prop) (w : World)
  (hY : ∀ pre (x : Int × Of ts) W, J pre W → pre.length < ts.length → YieldAt Fence.wide (n - 1) Tryz.prog l #[.int .i64 x.1, x.2.1.1] W fun e W' => (e = .returned (.bool true) ∧ J (pre ++ [x]) W' ∧ Fr S W W') ∨ (e = .returned (.bool false) ∧ Jx (pre ++ [x]) W'))
  (hbs : w.heap[bs]? = some (.cells #[v] 220)) (hbn : ¬ S bs) (hv : RowsAt w v 1 (ts.map fC)) (hvn : ts ≠ [] → ¬ S (vBlock v)) (h0 : J [] w) :
  CallsIn Fence.wide n Tryz.prog 156 ([.func (.yield l) #[] #[], .pointer (some ⟨bs, 0, none⟩)] : List Value).toArray w fun e W' => (∃ v, e = .returned v) ∧ ((∃ xs : List (Int × Of ts), xs.map unO = ts.reverse ∧ J xs W') ∨ ∃ pre, Jx pre W') := by
 have hlen := hv.lenL
 have hR := Fr.refl S w
 refine AtI.enter (N := 19) (.inl rfl) rfl Tryz.func156 rfl rfl (by simp) [(0, .func (.yield l) #[] #[]), (1, .pointer (some ⟨bs, 0, none⟩))] (by simp) ?_
 refine AtI.seq ?_
 refine AtI.region (.inl rfl) (nl_then (own_out (fun w h => by obtain ⟨⟨v, h⟩, _⟩ := h; cases h))) rfl ?_
 refine .load rfl (Ld.ownCell ag220 hbs rfl) rfl (.lenSl rfl hv.okL el220 rfl (.subI rfl rfl rfl (by first | omega | (simp; omega)) (.assign rfl rfl (.ops0 (.thenN ?_)))))
 refine AtI.block ?_
 refine AtI.loop (Nat × List (Int × Of ts)) (fun (k, pre) => [(0, .func (.yield l) #[] #[]), (1, .pointer (some ⟨bs, 0, none⟩)), (3, .int .i64 ((ts.length : Int) - 1 - (k : Int)))]) (fun (k, pre) w1 => Fr S w w1 ∧ w1.heap[bs]? = some (.cells #[v] 220) ∧ RowsAt w1 v 1 (ts.map fC) ∧ J pre w1 ∧ (k ≤ ts.length) ∧ (pre.map unO = ts.reverse.take k) ∧ (pre.length = k)) (fun (k, pre) => ts.length - k) (0, []) (sC rfl (sC rfl (Sub.cons (congrArg some (congrArg (Value.int .i64) (by simp))) sN))) ⟨hR, hbs, hv, h0, (Nat.zero_le _), (rfl), (rfl)⟩ (fun gh w1 hI => ?_)
 obtain ⟨k, pre⟩ := gh
 clear hR hbs
 obtain ⟨hR, hbs, hv, hJ, hkb, hmap, hpl⟩ := hI
 show At _ _ [(0, .func (.yield l) #[] #[]), (1, .pointer (some ⟨bs, 0, none⟩)), (3, .int .i64 ((ts.length : Int) - 1 - (k : Int)))] _ _
 refine AtI.seq ?_
 refine AtI.seq ?_
 refine AtI.region (.inl rfl) (nl_then (nl_then (nl_then (nl_block (own_out (fun w h => by obtain ⟨⟨v, h⟩, _⟩ := h; cases h)))))) rfl ?_
 refine .move rfl rfl (.geq rfl rfl rfl (.ops0 (.thenN ?_)))
 refine AtI.cond (b := decide (0 ≤ ((ts.length : Int) - 1 - (k : Int)))) rfl (fun hc1 => ?_) (fun hc1 => ?_)
 ·skip
  have hc1' := of_decide_eq_true hc1
  refine AtI.skip ?_
  refine .thenN ?_
  refine AtI.seq ?_
  refine AtI.block ?_
  refine AtI.seq ?_
  refine .set (d := 3) (u := .int .i64 ((ts.length - 1 - k : Nat) : Int)) rfl (congrArg (Value.int .i64) (by omega)) ?_
  refine AtI.split (l1 := List.take 6 _) (l2 := List.drop 6 _) (List.take_append_drop 6 _).symm (.inl rfl) (nl_then (nl_block (nl_then (nl_then (nl_block (own_out (fun w h => by obtain ⟨⟨v, h⟩, _⟩ := h; cases h))))))) rfl ?_
  refine .move rfl rfl (.move rfl rfl (.load rfl (Ld.ownCell ag220 hbs rfl) rfl (.move rfl rfl ?_)))
  obtain ⟨u1, hu1⟩ := some_of_lt (l := ts) (i := ts.length - 1 - k) (by omega)
  refine .indexAddr (i := ts.length - 1 - k) rfl rfl hv.okL (lt_of_some hu1) el220 sz86 rfl (.load rfl (Ld.cell ag86 ((hv.row hu1).get (j := 0) rfl)) rfl (.ops0 ?_))
  refine AtI.yield (.inl rfl) rfl rfl rfl (hY pre (((ts.length - 1 - k : Nat) : Int), ⟨u1, List.mem_of_getElem? hu1⟩) w1 hJ (by omega)) (fun e wy hq => ?_)
  rcases hq with ⟨rfl, hJ, hk⟩ | ⟨rfl, hJx⟩
  ·skip
   refine ⟨_, rfl, ?_⟩
   replace hbs := hk.old _ _ hbn hbs
   replace hv := RowsAt.frS hv (by decide) hk hvn
   replace hR := Fr.then hR hk (fun k hk => .inl hk)
   refine AtI.last (.inl rfl) (nl_then (nl_block (nl_then (nl_then (nl_block (own_out (fun w h => by obtain ⟨⟨v, h⟩, _⟩ := h; cases h))))))) rfl ?_
   refine .not rfl rfl (.ops0 (.thenN ?_))
   have hb : ((!true)) = false := rfl
   refine .set (d := 18) (u := .bool false) rfl (congrArg Value.bool hb) ?_
   refine AtI.condF rfl ?_
   refine AtI.skip ?_
   refine .inN (.thenN ?_)
   refine AtI.region (.inl rfl) (nl_then (nl_block (own_out (fun w h => by obtain ⟨⟨v, h⟩, _⟩ := h; cases h)))) rfl ?_
   refine .move rfl rfl (.subI rfl rfl rfl (by first | omega | (simp; omega)) (.assign rfl rfl (.ops0 (.thenN ?_))))
   exact fun act_ hact_ => ⟨((k + 1), (pre ++ [((((ts.length - 1 - k : Nat) : Int), ⟨u1, List.mem_of_getElem? hu1⟩))])), hact_.sub (sC rfl (sC rfl (Sub.cons (congrArg some (congrArg (Value.int .i64) (by omega))) sN))), ⟨hR, hbs, hv, hJ, (by omega), (by rw [List.map_append, hmap]; exact rev_snocG (by omega) hu1), (by simp [hpl])⟩, by first | omega | (dsimp only; omega)⟩
  refine ⟨_, rfl, ?_⟩
  refine AtI.last (.inl rfl) (nl_then (nl_block (nl_then (nl_then (nl_block (own_out (fun w h => by obtain ⟨⟨v, h⟩, _⟩ := h; cases h))))))) rfl ?_
  refine .not rfl rfl (.ops0 (.thenN ?_))
  have hb : ((!false)) = true := rfl
  refine .set (d := 18) (u := .bool true) rfl (congrArg Value.bool hb) ?_
  refine AtI.condT rfl ?_
  refine AtI.retc ?_
  refine .inR (.thenR (.thenR (.inR (.doneR (ResV.nil) ?_))))
  exact ⟨⟨_, rfl⟩, .inr ⟨_, hJx⟩⟩
 have hc1' := of_decide_eq_false hc1
 refine AtI.exit ?_
 refine .thenE (.thenE (.inE (.doneN (ResV.nil) ?_)))
 exact ⟨⟨_, rfl⟩, .inl ⟨pre, by rw [hmap, List.take_of_length_le (by simp; omega)], hJ⟩⟩
theorem backF_stops (bs n : Nat) (S : Nat → Prop) (v : Value) (ts : List (Value × X)) (w : World) (hbs : w.heap[bs]? = some (.cells #[v] 220)) (hbn : ¬ S bs) (hv : RowsAt w v 1 (ts.map fC)) (hvn : ts ≠ [] → ¬ S (vBlock v)) :
  SeqStopsK Fence.wide n Tryz.prog 156 #[.pointer (some ⟨bs, 0, none⟩)] (fun x : Int × Of ts => #[.int .i64 x.1, x.2.1.1]) (Fr S) (fun xs => xs.map unO = ts.reverse) (fun _ => True) ts.length w := fun l J Jx W hW _ _ hY h0 =>
 (backF1_any l bs n S v ts J Jx W hY (Below.old hW hbs) hbn (hv.keep hW) hvn h0).mono fun e W' ⟨he, h⟩ => ⟨he, h.imp id fun ⟨pre, h⟩ => ⟨pre, trivial, h⟩⟩
theorem backwardF_any {v : Value} (w : World)  (h1 : v.oneCell' = true) :
  Calls Tryz.prog 155 ([v] : List Value).toArray w fun r w' => ∃ bs, r = .returned (.func (.func 156) #[] #[.pointer (some ⟨bs, 0, none⟩)]) ∧ Below w.heap.size w w' ∧ w'.heap[bs]? = some (.cells #[v] 220) ∧ w.heap.size ≤ bs := by
 have hG := Gr.refl [] w
 refine At.enter (N := 4) Tryz.func155 rfl rfl (by simp) [(0, v)] (by simp) ?_
 refine .seq (.region ?_)
 refine At.box rfl rfl (fun b1 w1 F1 => ?_)
 have gb1 := F1.gq hG.size
 have hb1 : w1.heap[b1]? = some (.cells #[v] 220) := cells_one h1 ▸ F1.new
 replace hG := hG.below F1.bel
 refine .assign rfl rfl (.ops0 (.thenN (.seq (.region (.makeFunc rfl rfl (.assign rfl rfl (.ops0 (.thenN (.retc (.doneR (ResV.tmp rfl ResV.nil) ?_))))))))))
 exact ⟨b1, rfl, hG.base, hb1, gb1⟩
theorem ag67 : aggB Tryz.prog 67 = some false := by kernel_rfl
theorem ag79 : aggB Tryz.prog 79 = some false := by kernel_rfl
theorem by86 : bytesB Tryz.prog 86 = some 16 := by kernel_rfl
theorem en155 : entB Tryz.prog 155 = true := by kernel_rfl
theorem en156 : entB Tryz.prog 156 = true := by kernel_rfl
theorem fo82_3 : fieldB Tryz.prog 82 3 = some (6, 1) := by kernel_rfl
theorem pt79 : ptrB Tryz.prog 79 = true := by kernel_rfl
theorem ze86 : zeroB Tryz.prog 86 = some (.nilIface) := by kernel_rfl
theorem gFn_any {E : List (Option Nat)} {b : Nat} {x : Sx} {s : SS} {k n : Int} {nm : ByteArray} {kv fp kp : Value} {vx : X} {kf nf : Int} {mf : ByteArray} {vf fpf kpf : Value} {fx fX sX : X} {kidsf : List X} (w : World) (hM : StA E b x w s) (hf : XAt (x.M b ++ E) s.cells.length w .v (V7 kf nf mf vf fpf kpf) fx) (hfx : fx = .v kf nf mf kidsf fX sX) (hfc : XAt (x.M b ++ E) s.cells.length w .c [fpf] fX) (hfs : XAt (x.M b ++ E) s.cells.length w .s [kpf] sX) (hls : lenX sX ≤ 1000000000000) (hv : XAt (x.M b ++ E) s.cells.length w .v (V7 k n nm kv fp kp) vx) :
  Calls Tryz.prog 159 ([.agg #[.int .i64 kf, .int .i64 nf, .string mf, zN, vf, fpf, kpf], .pointer (some ⟨b, 0, none⟩), .agg #[.int .i64 k, .int .i64 n, .string nm, zN, kv, fp, kp]] : List Value).toArray w (Pst E b x w (getsF (.fn fx) s vx)) := by
 have hM0 := hM
 have hG := Gr.refl (x.M b) w
 have hW := Gr.refl [] w
 refine At.enterMN (n := 3) (N := 82) Tryz.func159 rfl rfl (by simp) [(0, .agg #[.int .i64 kf, .int .i64 nf, .string mf, zN, vf, fpf, kpf]), (1, .pointer (some ⟨b, 0, none⟩)), (2, .agg #[.int .i64 k, .int .i64 n, .string nm, zN, kv, fp, kp])] (by simp) ?_
 refine .seq (.region ?_)
 refine At.box rfl rfl (fun b1 w1 F1 => ?_)
 have mb1 := hM.newM F1
 have hb1 : w1.heap[b1]? = some (.cells #[.int .i64 kf, .int .i64 nf, .string mf, zN, vf, fpf, kpf] 207) := F1.new
 replace hG := hG.below F1.bel
 replace hW := hW.below F1.bel
 replace hM := hM.below F1.bel
 refine At.box rfl rfl (fun b2 w2 F2 => ?_)
 have mb2 := hM.newM F2
 replace hb1 := F2.old hb1
 have hb2 : w2.heap[b2]? = some (.cells #[.pointer (some ⟨b, 0, none⟩)] 67) := F2.new
 replace hG := hG.below F2.bel
 replace hW := hW.below F2.bel
 replace hM := hM.below F2.bel
 refine At.box rfl rfl (fun b3 w3 F3 => ?_)
 have mb3 := hM.newM F3
 replace hb1 := F3.old hb1
 replace hb2 := F3.old hb2
 have hb3 : w3.heap[b3]? = some (.cells #[.int .i64 k, .int .i64 n, .string nm, zN, kv, fp, kp] 82) := F3.new
 replace hG := hG.below F3.bel
 replace hW := hW.below F3.bel
 replace hM := hM.below F3.bel
 refine .assign rfl rfl (.ops0 (.thenN (.seq (.block (.seq (.region (.fieldAddr rfl fo207_0 rfl (.fieldAddr rfl fo82_2 rfl (.load rfl (Ld.ownCell ag79 hb1 rfl) rfl ?_)))))))))
 obtain ⟨pp1, hp1, hpn1⟩ := XAt.ptr (hfc.gr hG.ext lR) nofun
 refine .set (d := 16) (u := .pointer pp1) rfl hp1 (.neP rfl rfl pt79 rfl (.set (d := 17) (u := .bool (!nilX fX)) rfl (by rw [hpn1]) (.assign rfl rfl (.ops0 (.thenN ?_)))))
 refine At.cond (b := (!nilX fX)) rfl (fun hc1 => ?_) (fun hc1 => ?_)
 ·skip
  refine .seq (.region (.fieldAddr rfl fo207_0 rfl (.fieldAddr rfl fo82_2 rfl (.load rfl (Ld.ownCell ag79 hb1 rfl) rfl (.assign rfl rfl (.ops0 (.thenN (.seq (.region (.move rfl rfl ?_))))))))))
  obtain ⟨bi1, ni1, mi1, ti1, ri1, yi1, pi1, ei1, hbi1, mbi1, hti1, hyi1⟩ := hfc.cinv' (by simpa using hc1)
  refine .set (d := 21) (u := .pointer (some ⟨bi1, 0, none⟩)) rfl pi1 (.nilCheck rfl rfl (.fieldAddr rfl fo112_3 rfl (.load rfl (Ld.ownCell ag77 (hG.ext.old mbi1 hbi1) (mx_at (j := 0) hti1.one.size rfl rfl)) rfl (.assign rfl rfl (.ops0 (.thenN (.seq (.seq (.region (.move rfl rfl (.set (d := 25) (u := .pointer (some ⟨bi1, 0, none⟩)) rfl pi1 (.nilCheck rfl rfl (.fieldAddr rfl fo112_0 rfl (.load rfl (Ld.ownCell ag9 (hG.ext.old mbi1 hbi1) (mx_pre rfl)) rfl (.neS rfl rfl rfl (.ops0 (.thenN ?_)))))))))))))))))
  refine At.cond (b := (!decide (ni1 = (⟨#[]⟩ : ByteArray)))) rfl (fun hc2 => ?_) (fun hc2 => ?_)
  ·skip
   have hc2' := hc2; simp only [Bool.not_eq_true', Bool.not_eq_false', decide_eq_true_eq, decide_eq_false_iff_not] at hc2'
   refine .drawG (n := 9) mixed (by kernel_rfl) rfl (PanicOk.then (PanicOk.block (PanicOk.then PanicOk.np))) ?_
   replace hG := hG.drew
   replace hM := hM.drew
   have hb1 : _ := (show w3.drew.heap[b1]? = _ from hb1)
   have hb2 : _ := (show w3.drew.heap[b2]? = _ from hb2)
   have hb3 : _ := (show w3.drew.heap[b3]? = _ from hb3)
   refine .wpcS (i := 0) (d := 30) (ri1) (by kernel_rfl) rfl rfl rfl (fun Lx => .move rfl rfl (.ops0 fun a ha => ⟨ha, rfl⟩)) ?_
   refine .wpcS (i := 1) (d := 31) (fpf) (by kernel_rfl) rfl rfl rfl (fun Lx => .move rfl rfl (.ops0 fun a ha => ⟨ha, rfl⟩)) ?_
   refine At.wpcS (i := 2) (d := 32) (.pointer (some ⟨bi1, 0, none⟩)) (by kernel_rfl) rfl rfl rfl (fun Lx => ?_) ?_
   ·skip
    refine .set (d := 31) (u := .pointer (some ⟨bi1, 0, none⟩)) rfl pi1 (.nilCheck rfl rfl (.ops0 ?_))
    exact fun a ha => ⟨Is.drop2 ha (congrArg some pi1), rfl⟩
   refine .wpcS (i := 3) (d := 33) (.pointer (some ⟨bi1, 0 + 0, none⟩)) (by kernel_rfl) rfl rfl rfl (fun Lx => .fieldAddr rfl fo112_0 rfl (.ops0 fun a ha => ⟨ha, rfl⟩)) ?_
   refine .wpcS (i := 4) (d := 34) (.string ni1) (by kernel_rfl) rfl rfl rfl (fun Lx => .load rfl (Ld.ownCell ag9 (hG.ext.old mbi1 hbi1) (mx_pre rfl)) rfl (.ops0 fun a ha => ⟨ha, rfl⟩)) ?_
   refine .wpcS (i := 5) (d := 35) (.pointer (some ⟨b1, 0 + 0, none⟩)) (by kernel_rfl) rfl rfl rfl (fun Lx => .fieldAddr rfl fo207_0 rfl (.ops0 fun a ha => ⟨ha, rfl⟩)) ?_
   refine .wpcS (i := 6) (d := 36) (.agg #[.int .i64 kf, .int .i64 nf, .string mf, zN, vf, fpf, kpf]) (by kernel_rfl) rfl rfl rfl (fun Lx => .load rfl (Ld.own (C := #[.int .i64 kf, .int .i64 nf, .string mf, zN, vf, fpf, kpf]) ag82 sz82 hb1) rfl (.ops0 fun a ha => ⟨ha, rfl⟩)) ?_
   refine At.wpcE [7] (by kernel_rfl) (by kernel_rfl) (.cons [] rfl (by kernel_rfl) ?_ .nil)
   refine At.call en46 rfl rfl (with_any ni1 _ hM.lt (hyi1.gr hG.ext lR) (hf.gr hG.ext lR)) (fun e w4 hR => ?_)
   obtain ⟨pe1, rfl, hwe1, hbl1⟩ := hR; refine ⟨_, rfl, ?_⟩
   replace hb1 := Below.old hbl1 hb1
   replace hb2 := Below.old hbl1 hb2
   replace hb3 := Below.old hbl1 hb3
   replace hG := hG.below hbl1
   replace hM := hM.below hbl1
   refine .ops0 (.wpcN .nil ?_)
   refine At.wpcE [8] (by kernel_rfl) (by kernel_rfl) (.cons [] rfl (by kernel_rfl) ?_ .nil)
   refine .assign rfl rfl (.ops0 (.wpcN .nil (.wpcZ (.thenN (.seq (.drawG (n := 14) mixed (by kernel_rfl) rfl (PanicOk.then (PanicOk.block (PanicOk.then PanicOk.np))) ?_))))))
   replace hG := hG.drew
   replace hM := hM.drew
   replace hwe1 := hwe1.gr (Gr.refl _ _).drew lR
   have hb1 : _ := (show w4.drew.heap[b1]? = _ from hb1)
   have hb2 : _ := (show w4.drew.heap[b2]? = _ from hb2)
   have hb3 : _ := (show w4.drew.heap[b3]? = _ from hb3)
   refine .wpcS (i := 0) (d := 38) (.pointer (some ⟨b, 0, none⟩)) (by kernel_rfl) rfl rfl rfl (fun Lx => .load rfl (Ld.ownCell ag67 hb2 rfl) rfl (.ops0 fun a ha => ⟨ha, rfl⟩)) ?_
   refine .wpcS (i := 1) (d := 39) (fpf) (by kernel_rfl) rfl rfl rfl (fun Lx => .move rfl rfl (.ops0 fun a ha => ⟨ha, rfl⟩)) ?_
   refine At.wpcS (i := 2) (d := 40) (.pointer (some ⟨bi1, 0, none⟩)) (by kernel_rfl) rfl rfl rfl (fun Lx => ?_) ?_
   ·skip
    refine .set (d := 39) (u := .pointer (some ⟨bi1, 0, none⟩)) rfl pi1 (.nilCheck rfl rfl (.ops0 ?_))
    exact fun a ha => ⟨Is.drop2 ha (congrArg some pi1), rfl⟩
   refine .wpcS (i := 3) (d := 41) (.pointer (some ⟨bi1, 0 + 2, none⟩)) (by kernel_rfl) rfl rfl rfl (fun Lx => .fieldAddr rfl fo112_2 rfl (.ops0 fun a ha => ⟨ha, rfl⟩)) ?_
   refine .wpcS (i := 4) (d := 42) (.agg ti1.cs) (by kernel_rfl) rfl rfl rfl (fun Lx => .load rfl (Ld.ownPart ag31 (sz31.trans (congrArg some hti1.one.size.symm)) (hG.ext.old mbi1 hbi1) (mx_part hti1.one.size)) rfl (.ops0 fun a ha => ⟨ha, rfl⟩)) ?_
   refine .wpcS (i := 5) (d := 43) (pe1) (by kernel_rfl) rfl rfl rfl (fun Lx => .move rfl rfl (.ops0 fun a ha => ⟨ha, rfl⟩)) ?_
   refine .wpcS (i := 6) (d := 44) (fpf) (by kernel_rfl) rfl rfl rfl (fun Lx => .move rfl rfl (.ops0 fun a ha => ⟨ha, rfl⟩)) ?_
   refine At.wpcS (i := 7) (d := 45) (.pointer (some ⟨bi1, 0, none⟩)) (by kernel_rfl) rfl rfl rfl (fun Lx => ?_) ?_
   ·skip
    refine .set (d := 44) (u := .pointer (some ⟨bi1, 0, none⟩)) rfl pi1 (.nilCheck rfl rfl (.ops0 ?_))
    exact fun a ha => ⟨Is.drop2 ha (congrArg some pi1), rfl⟩
   refine .wpcS (i := 8) (d := 46) (.pointer (some ⟨bi1, 0 + 1, none⟩)) (by kernel_rfl) rfl rfl rfl (fun Lx => .fieldAddr rfl fo112_1 rfl (.ops0 fun a ha => ⟨ha, rfl⟩)) ?_
   refine .wpcS (i := 9) (d := 47) (.string mi1) (by kernel_rfl) rfl rfl rfl (fun Lx => .load rfl (Ld.ownCell ag9 (hG.ext.old mbi1 hbi1) (mx_pre rfl)) rfl (.ops0 fun a ha => ⟨ha, rfl⟩)) ?_
   refine .wpcS (i := 10) (d := 48) (.agg #[.int .i64 k, .int .i64 n, .string nm, zN, kv, fp, kp]) (by kernel_rfl) rfl rfl rfl (fun Lx => .load rfl (Ld.own (C := #[.int .i64 k, .int .i64 n, .string nm, zN, kv, fp, kp]) ag82 sz82 hb3) rfl (.ops0 fun a ha => ⟨ha, rfl⟩)) ?_
   refine At.wpcE [11] (by kernel_rfl) (by kernel_rfl) (.cons [0, 1, 2, 3, 4] rfl (by kernel_rfl) ?_ .nil)
   refine At.call en46 rfl rfl (with_any mi1 _ hM.lt hwe1 (hv.gr hG.ext lR)) (fun e w5 hR => ?_)
   obtain ⟨pe2, rfl, hwe2, hbl2⟩ := hR; refine ⟨_, rfl, ?_⟩
   replace hb1 := Below.old hbl2 hb1
   replace hb2 := Below.old hbl2 hb2
   replace hb3 := Below.old hbl2 hb3
   replace hG := hG.below hbl2
   replace hM := hM.below hbl2
   refine .ops0 ?_
   refine At.wpcN (.cons rfl rfl rfl rfl (fun Lx => ?_) (.cons rfl rfl rfl rfl (fun Lx => ?_) (.cons rfl rfl rfl rfl (fun Lx => ?_) (.cons rfl rfl rfl rfl (fun Lx => ?_) (.cons rfl rfl rfl rfl (fun Lx => ?_) .nil))))) ?_
   ·skip
    exact .load rfl (Ld.ownCell ag67 hb2 rfl) rfl (.ops0 fun a ha => ⟨ha, rfl⟩)
   ·skip
    exact .move rfl rfl (.ops0 fun a ha => ⟨ha, rfl⟩)
   ·skip
    refine .set (d := 39) (u := .pointer (some ⟨bi1, 0, none⟩)) rfl pi1 (.nilCheck rfl rfl (.ops0 ?_))
    exact fun a ha => ⟨Is.drop2 ha (congrArg some pi1), rfl⟩
   ·skip
    exact .fieldAddr rfl fo112_2 rfl (.ops0 fun a ha => ⟨ha, rfl⟩)
   ·skip
    exact .load rfl (Ld.ownPart ag31 (sz31.trans (congrArg some hti1.one.size.symm)) (hG.ext.old mbi1 hbi1) (mx_part hti1.one.size)) rfl (.ops0 fun a ha => ⟨ha, rfl⟩)
   refine At.wpcE [12] (by kernel_rfl) (by kernel_rfl) (.cons [] rfl (by kernel_rfl) ?_ .nil)
   refine At.callM en45 rfl rfl (goes_any  _ hM (hti1.gr hG.ext) hwe2) (fun x1 w6 hM G1 => ?_)
   replace hG := hG.trans G1
   obtain ⟨hb1, mb1⟩ := G1.both mb1 hb1
   obtain ⟨hb2, mb2⟩ := G1.both mb2 hb2
   obtain ⟨hb3, mb3⟩ := G1.both mb3 hb3
   refine .ops0 (.wpcN .nil ?_)
   refine At.wpcE [13] (by kernel_rfl) (by kernel_rfl) (.cons [] rfl (by kernel_rfl) ?_ .nil)
   refine .assign rfl rfl (.ops0 (.wpcN .nil (.wpcZ (.thenN (.retc (.inR (.thenR (.doneM0 (ResV.tmp rfl ResV.nil) ?_))))))))
   exact Pst.fin (by have e1 : decide (ni1 = eB) = false := bnot_t hc2; rw [hfx, ei1]; simp only [getsF, e1, cond_true, cond_false, ← hfx, ← ei1]) hM hG
  have hc2' := hc2; simp only [Bool.not_eq_true', Bool.not_eq_false', decide_eq_true_eq, decide_eq_false_iff_not] at hc2'
  refine .skip (.thenN (.seq (.drawG (n := 14) mixed (by kernel_rfl) rfl (PanicOk.then (PanicOk.block (PanicOk.then PanicOk.np))) ?_)))
  replace hG := hG.drew
  replace hM := hM.drew
  have hb1 : _ := (show w3.drew.heap[b1]? = _ from hb1)
  have hb2 : _ := (show w3.drew.heap[b2]? = _ from hb2)
  have hb3 : _ := (show w3.drew.heap[b3]? = _ from hb3)
  refine .wpcS (i := 0) (d := 38) (.pointer (some ⟨b, 0, none⟩)) (by kernel_rfl) rfl rfl rfl (fun Lx => .load rfl (Ld.ownCell ag67 hb2 rfl) rfl (.ops0 fun a ha => ⟨ha, rfl⟩)) ?_
  refine .wpcS (i := 1) (d := 39) (fpf) (by kernel_rfl) rfl rfl rfl (fun Lx => .move rfl rfl (.ops0 fun a ha => ⟨ha, rfl⟩)) ?_
  refine At.wpcS (i := 2) (d := 40) (.pointer (some ⟨bi1, 0, none⟩)) (by kernel_rfl) rfl rfl rfl (fun Lx => ?_) ?_
  ·skip
   refine .set (d := 39) (u := .pointer (some ⟨bi1, 0, none⟩)) rfl pi1 (.nilCheck rfl rfl (.ops0 ?_))
   exact fun a ha => ⟨Is.drop2 ha (congrArg some pi1), rfl⟩
  refine .wpcS (i := 3) (d := 41) (.pointer (some ⟨bi1, 0 + 2, none⟩)) (by kernel_rfl) rfl rfl rfl (fun Lx => .fieldAddr rfl fo112_2 rfl (.ops0 fun a ha => ⟨ha, rfl⟩)) ?_
  refine .wpcS (i := 4) (d := 42) (.agg ti1.cs) (by kernel_rfl) rfl rfl rfl (fun Lx => .load rfl (Ld.ownPart ag31 (sz31.trans (congrArg some hti1.one.size.symm)) (hG.ext.old mbi1 hbi1) (mx_part hti1.one.size)) rfl (.ops0 fun a ha => ⟨ha, rfl⟩)) ?_
  refine .wpcS (i := 5) (d := 43) (ri1) (by kernel_rfl) rfl rfl rfl (fun Lx => .move rfl rfl (.ops0 fun a ha => ⟨ha, rfl⟩)) ?_
  refine .wpcS (i := 6) (d := 44) (fpf) (by kernel_rfl) rfl rfl rfl (fun Lx => .move rfl rfl (.ops0 fun a ha => ⟨ha, rfl⟩)) ?_
  refine At.wpcS (i := 7) (d := 45) (.pointer (some ⟨bi1, 0, none⟩)) (by kernel_rfl) rfl rfl rfl (fun Lx => ?_) ?_
  ·skip
   refine .set (d := 44) (u := .pointer (some ⟨bi1, 0, none⟩)) rfl pi1 (.nilCheck rfl rfl (.ops0 ?_))
   exact fun a ha => ⟨Is.drop2 ha (congrArg some pi1), rfl⟩
  refine .wpcS (i := 8) (d := 46) (.pointer (some ⟨bi1, 0 + 1, none⟩)) (by kernel_rfl) rfl rfl rfl (fun Lx => .fieldAddr rfl fo112_1 rfl (.ops0 fun a ha => ⟨ha, rfl⟩)) ?_
  refine .wpcS (i := 9) (d := 47) (.string mi1) (by kernel_rfl) rfl rfl rfl (fun Lx => .load rfl (Ld.ownCell ag9 (hG.ext.old mbi1 hbi1) (mx_pre rfl)) rfl (.ops0 fun a ha => ⟨ha, rfl⟩)) ?_
  refine .wpcS (i := 10) (d := 48) (.agg #[.int .i64 k, .int .i64 n, .string nm, zN, kv, fp, kp]) (by kernel_rfl) rfl rfl rfl (fun Lx => .load rfl (Ld.own (C := #[.int .i64 k, .int .i64 n, .string nm, zN, kv, fp, kp]) ag82 sz82 hb3) rfl (.ops0 fun a ha => ⟨ha, rfl⟩)) ?_
  refine At.wpcE [11] (by kernel_rfl) (by kernel_rfl) (.cons [0, 1, 2, 3, 4] rfl (by kernel_rfl) ?_ .nil)
  refine At.call en46 rfl rfl (with_any mi1 _ hM.lt (hyi1.gr hG.ext lR) (hv.gr hG.ext lR)) (fun e w7 hR => ?_)
  obtain ⟨pe3, rfl, hwe3, hbl3⟩ := hR; refine ⟨_, rfl, ?_⟩
  replace hb1 := Below.old hbl3 hb1
  replace hb2 := Below.old hbl3 hb2
  replace hb3 := Below.old hbl3 hb3
  replace hG := hG.below hbl3
  replace hM := hM.below hbl3
  refine .ops0 ?_
  refine At.wpcN (.cons rfl rfl rfl rfl (fun Lx => ?_) (.cons rfl rfl rfl rfl (fun Lx => ?_) (.cons rfl rfl rfl rfl (fun Lx => ?_) (.cons rfl rfl rfl rfl (fun Lx => ?_) (.cons rfl rfl rfl rfl (fun Lx => ?_) .nil))))) ?_
  ·skip
   exact .load rfl (Ld.ownCell ag67 hb2 rfl) rfl (.ops0 fun a ha => ⟨ha, rfl⟩)
  ·skip
   exact .move rfl rfl (.ops0 fun a ha => ⟨ha, rfl⟩)
  ·skip
   refine .set (d := 39) (u := .pointer (some ⟨bi1, 0, none⟩)) rfl pi1 (.nilCheck rfl rfl (.ops0 ?_))
   exact fun a ha => ⟨Is.drop2 ha (congrArg some pi1), rfl⟩
  ·skip
   exact .fieldAddr rfl fo112_2 rfl (.ops0 fun a ha => ⟨ha, rfl⟩)
  ·skip
   exact .load rfl (Ld.ownPart ag31 (sz31.trans (congrArg some hti1.one.size.symm)) (hG.ext.old mbi1 hbi1) (mx_part hti1.one.size)) rfl (.ops0 fun a ha => ⟨ha, rfl⟩)
  refine At.wpcE [12] (by kernel_rfl) (by kernel_rfl) (.cons [] rfl (by kernel_rfl) ?_ .nil)
  refine At.callM en45 rfl rfl (goes_any  _ hM (hti1.gr hG.ext) hwe3) (fun x2 w8 hM G2 => ?_)
  replace hG := hG.trans G2
  obtain ⟨hb1, mb1⟩ := G2.both mb1 hb1
  obtain ⟨hb2, mb2⟩ := G2.both mb2 hb2
  obtain ⟨hb3, mb3⟩ := G2.both mb3 hb3
  refine .ops0 (.wpcN .nil ?_)
  refine At.wpcE [13] (by kernel_rfl) (by kernel_rfl) (.cons [] rfl (by kernel_rfl) ?_ .nil)
  refine .assign rfl rfl (.ops0 (.wpcN .nil (.wpcZ (.thenN (.retc (.inR (.thenR (.doneM0 (ResV.tmp rfl ResV.nil) ?_))))))))
  exact Pst.fin (by have e1 : decide (ni1 = eB) = true := bnot_f hc2; rw [hfx, ei1]; simp only [getsF, e1, cond_true, cond_false, ← hfx, ← ei1]) hM hG
 refine .seq (.region (.fieldAddr rfl fo207_0 rfl (.fieldAddr rfl fo82_3 rfl (.load rfl (Ld.ownCell ag80 hb1 rfl) rfl ?_))))
 obtain ⟨pp2, hp2, hpn2⟩ := XAt.ptr (hfs.gr hG.ext lR) nofun
 refine .set (d := 54) (u := .pointer pp2) rfl hp2 (.neP rfl rfl pt80 rfl (.set (d := 55) (u := .bool (!nilX sX)) rfl (by rw [hpn2]) (.assign rfl rfl (.ops0 (.thenN ?_)))))
 refine At.cond (b := (!nilX sX)) rfl (fun hc3 => ?_) (fun hc3 => ?_)
 ·skip
  refine .seq (.region (.assign rfl rfl (.ops0 (.thenN (.seq (.seq (.region (.fieldAddr rfl fo207_0 rfl (.fieldAddr rfl fo82_3 rfl (.load rfl (Ld.ownCell ag80 hb1 rfl) rfl (.assign rfl rfl (.ops0 (.thenN (.block ?_))))))))))))))
  replace hG := hW
  have hO : OwnR 86 1 fC w3 zN [] := OwnR.nil _ _ _ _
  have hge : ∀ g, Value.ownBlock zN = some g → w.heap.size ≤ g := fun _ h => by cases h
  refine At.loop (Value × List (Value × X) × Value × X) (fun (vl, rws, kv1, kx) => [(4, .pointer (some ⟨b2, 0, none⟩)), (5, .pointer (some ⟨b3, 0, none⟩)), (9, vl), (10, kv1)]) (fun (vl, rws, kv1, kx) w9 => Gr [] w [] w9 ∧ w9.heap[b1]? = some (.cells #[.int .i64 kf, .int .i64 nf, .string mf, zN, vf, fpf, kpf] 207) ∧ w9.heap[b2]? = some (.cells #[.pointer (some ⟨b, 0, none⟩)] 67) ∧ w9.heap[b3]? = some (.cells #[.int .i64 k, .int .i64 n, .string nm, zN, kv, fp, kp] 82) ∧ OwnR 86 1 fC w9 vl rws ∧ (∀ g, Value.ownBlock vl = some g → w.heap.size ≤ g) ∧ (∀ p ∈ rws, XAt (x.M b ++ E) s.cells.length w .f [p.1] p.2) ∧ (XAt (x.M b ++ E) s.cells.length w .s [kv1] kx) ∧ (stk (rws.map Prod.snd) kx = sX) ∧ (rws.length + lenX kx = lenX sX)) (fun (vl, rws, kv1, kx) => lenX kx) (zN, [], kpf, sX) (sC rfl (sC rfl (sC rfl (sC rfl sN)))) ⟨hG, hb1, hb2, hb3, (hO), (fun _ h => by cases h), (fun _ h => by cases h), (hfs), (rfl), (by simp)⟩ (fun gh w9 hI => ?_)
  obtain ⟨vl, rws, kv1, kx⟩ := gh
  obtain ⟨hG, hb1, hb2, hb3, hO, hge, hxr, hkx, hs0, hln⟩ := hI
  show At _ _ [(4, .pointer (some ⟨b2, 0, none⟩)), (5, .pointer (some ⟨b3, 0, none⟩)), (9, vl), (10, kv1)] _ _
  refine .seq (.seq (.region (.move rfl rfl ?_)))
  obtain ⟨pp3, hp3, hpn3⟩ := XAt.ptr (hkx.gr hG.any lR) nofun
  refine .set (d := 59) (u := .pointer pp3) rfl hp3 (.neP rfl rfl pt80 rfl (.set (d := 60) (u := .bool (!nilX kx)) rfl (by rw [hpn3]) (.ops0 (.thenN ?_))))
  refine At.cond (b := (!nilX kx)) rfl (fun hc4 => ?_) (fun hc4 => ?_)
  ·skip
   refine .skip (.thenN (.seq (.block (.region (.move rfl rfl (.move rfl rfl ?_))))))
   obtain ⟨bi2, ti2, ri2, xi2, yi2, pi2, ei2, hbi2, mbi2, hxi2, hyi2⟩ := hkx.sinv' (by simpa using hc4)
   refine .set (d := 66) (u := .pointer (some ⟨bi2, 0, none⟩)) rfl pi2 (.nilCheck rfl rfl (.fieldAddr rfl fo88_0 rfl (.load rfl (Ld.ownCell ag86 (hG.any.old mbi2 hbi2) rfl) rfl ?_)))
   refine At.buildSlice (xs := [.tmp 69]) rfl rfl el220 sz86 ze86 (by intro v hv; simp only [List.mem_cons, List.not_mem_nil, or_false] at hv; rcases hv with rfl; rw [cells_one hxi2.one]; rfl) rfl (by decide) rfl (fun b4 w10 F4 => ?_)
   replace hb1 := F4.old hb1
   replace hb2 := F4.old hb2
   replace hb3 := F4.old hb3
   have hb4 : w10.heap[b4]? = some (.cells #[ti2] 86) := by have q : w10.heap[b4]? = some (.cells (([ti2] : List Value).flatMap fun v => v.cells.toList).toArray 86) := F4.new; simp only [List.flatMap_cons, List.flatMap_nil, cells_one hxi2.one] at q; exact q
   replace hG := hG.below F4.bel
   replace hO := Own.below hO F4.bel
   refine At.appendR (f := fC) (l := rws) (l' := [((ti2, xi2) : Value × X)]) rfl rfl el220 el220 sz86 by86 ze86 rfl hO (rows_own (f := fC) (ks := [((ti2, xi2) : Value × X)]) (m := 1) hb4 (by intro u hu; rw [List.mem_singleton.1 hu]; rfl) rfl (by decide)) (by decide) (by intro u hu; rw [List.mem_singleton.1 hu]; simp [fC, hxi2.one]) (by simp; omega) (by simp; omega) rfl (fun va1 w11 hOn1 hA1 => ?_)
   replace hb1 := hA1.old hb1 (hO.neT hb1 rfl)
   replace hb2 := hA1.old hb2 (hO.neT hb2 rfl)
   replace hb3 := hA1.old hb3 (hO.neT hb3 rfl)
   replace hO := hOn1
   have hge2 := hA1.ge hG.size hge
   replace hG := hG.app hA1 (fun g hg => .inr (hge g hg))
   refine .assign rfl rfl (.ops0 (.inN (.thenN (.region (.move rfl rfl (.set (d := 61) (u := .pointer (some ⟨bi2, 0, none⟩)) rfl pi2 (.nilCheck rfl rfl (.fieldAddr rfl fo88_1 rfl (.load rfl (Ld.ownCell ag80 (hG.any.old mbi2 hbi2) rfl) rfl (.assign rfl rfl (.ops0 (.thenN ?_))))))))))))
   exact fun act_ hact_ => ⟨(va1, (rws ++ [((ti2, xi2) : Value × X)]), ri2, yi2), hact_.sub (sC rfl (sC rfl (sC rfl (sC rfl sN)))), ⟨hG, hb1, hb2, hb3, hO, (hge2), (fun p hp => (List.mem_append.1 hp).elim (hxr p) (fun e => by rw [List.mem_singleton.1 e]; exact hxi2)), (hyi2), (by rw [List.map_append]; show stk (rws.map Prod.snd ++ [xi2]) _ = _; rw [stk_snoc, ← ei2]; exact hs0), (by rw [ei2, lenX] at hln; simp; omega)⟩, by first | omega | (rw [ei2]; exact Nat.lt_succ_self _) | (rw [ei1]; exact Nat.lt_succ_self _)⟩
  refine .exit (.thenE (.thenE (.inE (.thenN (.seq (.seq (.region (.move rfl rfl ?_))))))))
  have hlk := hG.size
  have lb1 := lt_of_obj hb1
  have lb2 := lt_of_obj hb2
  have lb3 := lt_of_obj hb3
  refine At.call en155 rfl rfl (backwardF_any _ (Own.one hO)) (fun e w12 hR => ?_)
  obtain ⟨bk, rfl, hbl4, hbk, hgk⟩ := hR; refine ⟨_, rfl, ?_⟩
  replace hb2 := Below.old hbl4 hb2
  replace hb3 := Below.old hbl4 hb3
  replace hG := hG.below hbl4
  replace hO := Own.below hO hbl4
  refine .ops0 (.thenN (.block ?_))
  have hM := hM0.below hG.base; have hG0 : Gr (x.M b) w (x.M b) w12 := Gr.of hG.base _
  refine .sub (L' := [(4, .pointer (some ⟨b2, 0, none⟩)), (5, .pointer (some ⟨b3, 0, none⟩)), (73, .func (.func 156) #[] #[.pointer (some ⟨bk, 0, none⟩)])]) (sC rfl (sC rfl (sC rfl sN))) ?_
  have hsz0 := hG.size
  have hMlt : ∀ q, some q ∈ x.M b → q < w.heap.size := fun q hq => hM0.lt q (List.mem_append_left _ hq)
  have hbn : ¬ (fun q => some q ∈ x.M b ∨ w12.heap.size ≤ q) bk := by rintro (e | e); have := hMlt _ e; omega; have := lt_of_obj hbk; omega
  have hvn : rws ≠ [] → ¬ (fun q => some q ∈ x.M b ∨ w12.heap.size ≤ q) (vBlock vl) := fun hn e => by have hg := Own.vb hO (by simpa using hn); have h1 := hge _ hg; obtain ⟨o, h2, _⟩ := Own.cells hO hg; have h3 := lt_of_obj h2; rcases e with e | e; have := hMlt _ e; omega; omega
  refine At.rangeF (d6 := 12) (S := (fun q => some q ∈ x.M b ∨ w12.heap.size ≤ q)) (ts := rws) rfl en156 rfl rfl (fun q hq => .inr hq) (backF_stops bk 2 (fun q => some q ∈ x.M b ∨ w12.heap.size ≤ q) vl rws _ hbk hbn (OwnR.rows hO (fun u _ => rfl)) hvn) (fun pre W => ∃ x1, StA E b x1 W (pushAll s pre) ∧ Gr (x.M b) w12 (x1.M b) W ∧ W.heap[b2]? = some (.cells #[.pointer (some ⟨b, 0, none⟩)] 67) ∧ W.heap[b3]? = some (.cells #[.int .i64 k, .int .i64 n, .string nm, zN, kv, fp, kp] 82) ∧ some b2 ∉ x1.M b ∧ some b3 ∉ x1.M b) ?_ ⟨x, hM, Gr.refl _ _, hb2, hb3, mb2, mb3⟩ (fun l i v W => ?_) (fun l pre t W hI ht => ?_) (fun D W hDg hI hD => ?_)
  ·skip
   rintro pre W W' ⟨x1, i1, i2, i3, i4, i5, i6⟩ hk hr
   exact ⟨x1, i1.mk' hk, i2.mk' hk (fun _ _ => trivial) (fun r o h1 h2 h3 => hr r o h1 h2 h3), hk.cells i3, hk.cells i4, i5, i6⟩
  ·skip
   refine AtI.region (.inr ⟨_, rfl⟩) (fun _ _ h => by cases h.1) rfl ?_
   refine .assign rfl rfl (.ops0 ?_)
   exact fun a ha => ⟨rfl, rfl, ha.sub (sC rfl (sC rfl (sC rfl (sC rfl sN))))⟩
  ·skip
   obtain ⟨x1, hM, hGi, hb2, hb3, mb2, mb3⟩ := hI; have hMb := hM; have hGb := hGi; have hG := hG0.trans hGi
   refine AtI.block ?_
   refine AtI.region (.inr ⟨_, rfl⟩) (fun _ _ h => by cases h.1) rfl ?_
   refine .load rfl (Ld.ownCell ag67 hb2 rfl) rfl (.move rfl rfl ?_)
   refine At.callM en44 rfl rfl (push_any  _ hM ((hxr t ht).gr hG.ext (Nat.le_of_eq (by rw [push_cells])))) (fun x3 w13 hM G3 => ?_)
   replace hGi := hGi.trans G3
   obtain ⟨hb2, mb2⟩ := G3.both mb2 hb2
   obtain ⟨hb3, mb3⟩ := G3.both mb3 hb3
   refine .ops0 (.inN ?_)
   exact fun a ha => ⟨rfl, KeepsFrom.ofGr G3 hMb.cellsM, ⟨G3.os, G3.tape, G3.output, G3.size, fun q y hq hy => G3.old (hGb.out (Nat.lt_of_not_le fun h2 => hq (.inr h2)) fun h3 => hq (.inl h3)) hy⟩, x3, by rw [pushAll, List.foldl_append]; exact hM, hGi, hb2, hb3, mb2, mb3⟩
  obtain ⟨x1, hM, hGi, hb2, hb3, mb2, mb3⟩ := hI; have hG := hG0.trans hGi; rw [push_rev] at hM; have hDge := hDg; have hMd := hM
  refine .inN (.thenN (.seq (.region (.load rfl (Ld.ownCell ag67 hb2 rfl) rfl (.load rfl (Ld.own (C := #[.int .i64 k, .int .i64 n, .string nm, zN, kv, fp, kp]) ag82 sz82 hb3) rfl ?_)))))
  refine At.callM en41 rfl rfl (has_any  _ hM (hv.gr hG.ext lR)) (fun x4 w14 hM G4 => ?_)
  replace hD := G4.old (fun hm => by cases hMd.cellsM _ hm _ hD) hD
  replace hG := hG.trans G4
  obtain ⟨hb2, mb2⟩ := G4.both mb2 hb2
  obtain ⟨hb3, mb3⟩ := G4.both mb3 hb3
  refine .assign rfl rfl (.ops0 (.thenN (.retc (.inR (.thenR ?_)))))
  have hmk : Mk w14 (w14.putObj D (.deferred none)) := ⟨some D, grownBy_putObj' w14 D (.deferred none), fun r e => by cases e; exact ⟨_, hD, rfl⟩⟩
  replace hM := hM.mk' hmk
  replace hG := hG.mk' hmk (fun _ _ => trivial) (fun r o hr hc hne => by by_cases e : some r = some D; cases e; exact Nat.le_trans hsz0 hDge; exact absurd (by rw [(grownBy_putObj' w14 D (.deferred none)).block r (lt_of_obj hr) e]; exact hr) hne)
  refine .doneMR (D := D) (ResV.tmp rfl ResV.nil) hD ?_
  exact Pst.fin (by rw [hfx, nilX_eq (y := fX) (by simpa using hc1)]; exact gets_k hs0 (by simpa using hc4) (by simpa using hc3)) hM hG
 refine .skip (.inN (.thenN (.seq (.region (.assign rfl rfl (.ops0 (.thenN (.retc (.doneM0 (ResV.tmp rfl ResV.nil) ?_)))))))))
 exact Pst.fin (by rw [hfx, nilX_eq (y := fX) (by simpa using hc1), nilX_eq (y := sX) (by simpa using hc3)]; rfl) hM hG
theorem plain_und {P : Program} {u : TypeId} (hp : plainB P u = true) : ∃ D, P.underlying u = some D ∧ ∀ ms, D ≠ .interface ms := by
  unfold plainB at hp
  split at hp
  · rename_i fs hu; exact ⟨_, hu, fun ms e => by cases e⟩
  · cases hp
section
variable {P : Program} {N : Nat} {ds : List Deferred} {L : List (Nat × Value)} {w : World} {ops : Array Oper} {Q : Exit → Act → World → Prop} {rest : List Oper} {d : Nat} {ty : TypeId} {pos : String} {aft : Array Edge} {x : Operand}
theorem At.asksY {xt t : TypeId} {v z : Value} (hx : ev L x = some (.iface t v)) (hp : plainB P t = true) (hz : zeroB P t = some z) (hN : Nat.blt d N = true) (k : At N ds ((d, .tuple #[v, .bool true]) :: L) (wpList P ops Q rest) w) :
    At N ds L (wpList P ops Q (⟨some d, .typeAssert x xt t true, ty, pos, aft, none⟩ :: rest)) w :=
  At.asks hx (plain_und hp) hz hN (by rw [show Nat.beq t t = true from Nat.beq_refl t]; exact k)
theorem At.asksN {xt t u : TypeId} {v z : Value} (hx : ev L x = some (.iface t v)) (hp : plainB P u = true) (hz : zeroB P u = some z) (hne : Nat.beq t u = false) (hN : Nat.blt d N = true) (k : At N ds ((d, .tuple #[z, .bool false]) :: L) (wpList P ops Q rest) w) :
    At N ds L (wpList P ops Q (⟨some d, .typeAssert x xt u true, ty, pos, aft, none⟩ :: rest)) w :=
  At.asks hx (plain_und hp) hz hN (by rw [hne]; exact k)
end
theorem XAt.frm {M : List (Option Nat)} {nc : Nat} {w : World} {v : Value} {y : X} (h : XAt M nc w .f [v] y) : ∃ (T : Nat) (p : Value), v = .iface T p ∧
    ((T = 129 ∧ ∃ (av ev : Value) (l : List Am) (e : X), p = .agg #[av, ev] ∧ y = .hnd (l.map shAm) e ∧ RowsAt w av 23 (l.map Am.cs) ∧ (l ≠ [] → some (vBlock av) ∉ M) ∧ Xs kAm M w l ∧ XAt M nc w .e [ev] e) ∨
      (Nat.beq T 129 = false ∧ ∀ arms e, y ≠ .hnd arms e)) := by
  cases h with
  | nil ho => exact absurd rfl ho.2
  | hnd hr hm ht he => exact ⟨_, _, rfl, .inl ⟨rfl, _, _, _, _, rfl, rfl, hr, hm, ht, he⟩⟩
  | arg => exact ⟨_, _, rfl, .inr ⟨rfl, nofun⟩⟩
  | fn => exact ⟨_, _, rfl, .inr ⟨rfl, nofun⟩⟩
  | bnd => exact ⟨_, _, rfl, .inr ⟨rfl, nofun⟩⟩
  | frk => exact ⟨_, _, rfl, .inr ⟨rfl, nofun⟩⟩
  | gat => exact ⟨_, _, rfl, .inr ⟨rfl, nofun⟩⟩
  | way => exact ⟨_, _, rfl, .inr ⟨rfl, nofun⟩⟩
  | ask => exact ⟨_, _, rfl, .inr ⟨rfl, nofun⟩⟩
theorem ask_o {nm : ByteArray} {y r : X} {l : List X} (h : ∀ arms e, y ≠ .hnd arms e) : askF nm (.s y r) l = askF nm r (l ++ [y]) := by
  cases y <;> first | rfl | exact absurd rfl (h _ _)
theorem ask_n {nm : ByteArray} {arms : List SA} {e r : X} {l : List X} (h : clF nm arms = none) : askF nm (.s (.hnd arms e) r) l = askF nm r (l ++ [.hnd arms e]) := by
  rw [askF, h]
theorem ask_y {nm : ByteArray} {arms : List SA} {e r : X} {l : List X} {a : SA} (h : clF nm arms = some a) : askF nm (.s (.hnd arms e) r) l = some (l ++ [.hnd arms e], a, e, r) := by
  rw [askF, h]
def revX (l : List (Value × X)) : X := l.foldl (fun k p => .s p.2 k) .nil
theorem revX_add (l : List (Value × X)) (p : Value × X) : revX (l ++ [p]) = .s p.2 (revX l) := by simp [revX, List.foldl_append]
theorem revX_rev (l : List (Value × X)) : revX l.reverse = stk (l.map Prod.snd) .nil := by
  induction l with
  | nil => rfl
  | cons a l ih => rw [List.reverse_cons, revX_add, ih]; rfl
theorem nw_add {M : List (Option Nat)} {w : World} {b : Nat} (h : w.heap.size ≤ b) : Nw M w (some b :: M) := fun c hc => (List.mem_cons.1 hc).elim (fun e => by cases e; exact .inr h) .inl
theorem one_cells {w : World} {b : Nat} {C : Array Value} {T : TypeId} {fr : Nat × Nat} (hb : w.heap[b]? = some (.cells C T fr)) : ∀ g, some g ∈ [some b] → ∀ o, w.heap[g]? = some o → o.isCells = true := fun g hg o ho => by
  cases List.mem_singleton.1 hg; rw [hb] at ho; cases ho; rfl
theorem ag129 : aggB Tryz.prog 129 = some true := by kernel_rfl
theorem en154 : entB Tryz.prog 154 = true := by kernel_rfl
theorem fo49_3 : fieldB Tryz.prog 49 3 = some (7, 1) := by kernel_rfl
theorem pl129 : plainB Tryz.prog 129 = true := by kernel_rfl
theorem sz129 : sizeB Tryz.prog 129 = some 2 := by kernel_rfl
theorem ze80 : zeroB Tryz.prog 80 = some (.pointer none) := by kernel_rfl
theorem gAsk_any {E : List (Option Nat)} {b : Nat} {x : Sx} {s : SS} {k n : Int} {nm : ByteArray} {kv fp kp : Value} {vx : X} (name : ByteArray) (w : World) (hM : StA E b x w s) (hls : lenX s.fr ≤ 1000000000000) (hv : XAt (x.M b ++ E) s.cells.length w .v (V7 k n nm kv fp kp) vx) :
  Calls Tryz.prog 153 ([.agg #[.string name], .pointer (some ⟨b, 0, none⟩), .agg #[.int .i64 k, .int .i64 n, .string nm, zN, kv, fp, kp]] : List Value).toArray w (Pst E b x w (getsF (.ask name) s vx)) := by
 have hM0 := hM
 have hG := Gr.refl (x.M b) w
 have hW := Gr.refl [] w
 refine At.enterMN (n := 3) (N := 97) Tryz.func153 rfl rfl (by simp) [(0, .agg #[.string name]), (1, .pointer (some ⟨b, 0, none⟩)), (2, .agg #[.int .i64 k, .int .i64 n, .string nm, zN, kv, fp, kp])] (by simp) ?_
 refine .seq (.region ?_)
 refine At.box rfl rfl (fun b1 w1 F1 => ?_)
 have mb1 := hM.newM F1
 have hb1 : w1.heap[b1]? = some (.cells #[.string name] 128) := F1.new
 replace hG := hG.below F1.bel
 replace hW := hW.below F1.bel
 replace hM := hM.below F1.bel
 refine At.box rfl rfl (fun b2 w2 F2 => ?_)
 have mb2 := hM.newM F2
 have gb2 := F2.gq hG.size
 replace hb1 := F2.old hb1
 have hb2 : w2.heap[b2]? = some (.cells #[.int .i64 k, .int .i64 n, .string nm, zN, kv, fp, kp] 82) := F2.new
 replace hG := hG.below F2.bel
 replace hW := hW.below F2.bel
 replace hM := hM.below F2.bel
 refine .assign rfl rfl (.ops0 (.thenN (.seq (.region (.assign rfl rfl (.ops0 (.thenN (.seq (.seq (.region (.move rfl rfl (.nilCheck rfl rfl (.fieldAddr rfl fo84_4 rfl (.load rfl (Ld.ownCell ag80 hM.blk (mx_at (j := 9) hM.tsz rfl rfl)) rfl (.assign rfl rfl (.ops0 (.thenN (.block ?_))))))))))))))))))
 replace hG := hW
 have hO : OwnR 86 1 fC w2 zN [] := OwnR.nil _ _ _ _
 have hge : ∀ g, Value.ownBlock zN = some g → w.heap.size ≤ g := fun _ h => by cases h
 refine At.loop (Value × List (Value × X) × Value × X) (fun (vl, rws, kv1, kx) => [(1, .pointer (some ⟨b, 0, none⟩)), (3, .pointer (some ⟨b1, 0, none⟩)), (5, .pointer (some ⟨b2, 0, none⟩)), (7, vl), (8, kv1)]) (fun (vl, rws, kv1, kx) w3 => Gr [] w [] w3 ∧ w3.heap[b1]? = some (.cells #[.string name] 128) ∧ w3.heap[b2]? = some (.cells #[.int .i64 k, .int .i64 n, .string nm, zN, kv, fp, kp] 82) ∧ OwnR 86 1 fC w3 vl rws ∧ (∀ g, Value.ownBlock vl = some g → w.heap.size ≤ g) ∧ (∀ p ∈ rws, XAt (x.M b ++ E) s.cells.length w .f [p.1] p.2) ∧ (XAt (x.M b ++ E) s.cells.length w .s [kv1] kx) ∧ (askF name s.fr [] = askF name kx (rws.map Prod.snd)) ∧ (rws.length + lenX kx = lenX s.fr)) (fun (vl, rws, kv1, kx) => lenX kx) (zN, [], x.fr, s.fr) (sC rfl (sC rfl (sC rfl (sC rfl (sC rfl sN))))) ⟨hG, hb1, hb2, (hO), (fun _ h => by cases h), (fun _ h => by cases h), (hM0.fr), (rfl), (by simp)⟩ (fun gh w3 hI => ?_)
 obtain ⟨vl, rws, kv1, kx⟩ := gh
 obtain ⟨hG, hb1, hb2, hO, hge, hxr, hkx, hask, hln⟩ := hI
 show At _ _ [(1, .pointer (some ⟨b, 0, none⟩)), (3, .pointer (some ⟨b1, 0, none⟩)), (5, .pointer (some ⟨b2, 0, none⟩)), (7, vl), (8, kv1)] _ _
 refine .seq (.seq (.region (.move rfl rfl ?_)))
 obtain ⟨pp1, hp1, hpn1⟩ := XAt.ptr (hkx.gr hG.any lR) nofun
 refine .set (d := 21) (u := .pointer pp1) rfl hp1 (.neP rfl rfl pt80 rfl (.set (d := 22) (u := .bool (!nilX kx)) rfl (by rw [hpn1]) (.ops0 (.thenN ?_))))
 refine At.cond (b := (!nilX kx)) rfl (fun hc1 => ?_) (fun hc1 => ?_)
 ·skip
  refine .skip (.thenN (.seq (.block (.seq (.region (.move rfl rfl (.move rfl rfl ?_)))))))
  obtain ⟨bi1, ti1, ri1, xi1, yi1, pi1, ei1, hbi1, mbi1, hxi1, hyi1⟩ := hkx.sinv' (by simpa using hc1)
  refine .set (d := 28) (u := .pointer (some ⟨bi1, 0, none⟩)) rfl pi1 (.nilCheck rfl rfl (.fieldAddr rfl fo88_0 rfl (.load rfl (Ld.ownCell ag86 (hG.any.old mbi1 hbi1) rfl) rfl ?_)))
  refine At.buildSlice (xs := [.tmp 31]) rfl rfl el220 sz86 ze86 (by intro v hv; simp only [List.mem_cons, List.not_mem_nil, or_false] at hv; rcases hv with rfl; rw [cells_one hxi1.one]; rfl) rfl (by decide) rfl (fun b3 w4 F3 => ?_)
  replace hb1 := F3.old hb1
  replace hb2 := F3.old hb2
  have hb3 : w4.heap[b3]? = some (.cells #[ti1] 86) := by have q : w4.heap[b3]? = some (.cells (([ti1] : List Value).flatMap fun v => v.cells.toList).toArray 86) := F3.new; simp only [List.flatMap_cons, List.flatMap_nil, cells_one hxi1.one] at q; exact q
  replace hG := hG.below F3.bel
  replace hO := Own.below hO F3.bel
  refine At.appendR (f := fC) (l := rws) (l' := [((ti1, xi1) : Value × X)]) rfl rfl el220 el220 sz86 by86 ze86 rfl hO (rows_own (f := fC) (ks := [((ti1, xi1) : Value × X)]) (m := 1) hb3 (by intro u hu; rw [List.mem_singleton.1 hu]; rfl) rfl (by decide)) (by decide) (by intro u hu; rw [List.mem_singleton.1 hu]; simp [fC, hxi1.one]) (by simp; omega) (by simp; omega) rfl (fun va1 w5 hOn1 hA1 => ?_)
  replace hb1 := hA1.old hb1 (hO.neT hb1 rfl)
  replace hb2 := hA1.old hb2 (hO.neT hb2 rfl)
  replace hO := hOn1
  have hge2 := hA1.ge hG.size hge
  replace hG := hG.app hA1 (fun g hg => .inr (hge g hg))
  refine .assign rfl rfl (.ops0 (.thenN (.seq (.region (.move rfl rfl (.set (d := 35) (u := .pointer (some ⟨bi1, 0, none⟩)) rfl pi1 (.nilCheck rfl rfl (.fieldAddr rfl fo88_0 rfl (.load rfl (Ld.ownCell ag86 (hG.any.old mbi1 hbi1) rfl) rfl ?_)))))))))
  obtain ⟨fT, fp, hft, hfq⟩ := hxi1.frm
  refine .set (d := 38) (u := .iface fT fp) rfl hft ?_
  rcases hfq with ⟨rfl, av, ev, l, e, rfl, hfx, hr, hm, ht, hee⟩ | ⟨hne, hfx⟩
  ·skip
   refine .asksY rfl pl129 ze129 rfl (.move rfl rfl (.extract rfl rfl rfl (.extract rfl rfl rfl ?_)))
   refine At.alloc ze129 rfl (fun b4 w6 F4 => ?_)
   have n_b1_b4 := F4.ne' hb1
   have n_b2_b4 := F4.ne' hb2
   have gb4 := F4.gq hG.size
   replace hb1 := F4.old hb1
   replace hb2 := F4.old hb2
   have hb4 : w6.heap[b4]? = some (.cells #[zN, .pointer none] 129) := F4.new
   refine At.storeAll rfl rfl hb4 sz129 rfl (by first | (simp [Value.oneCell', ((hr).okL).one, hee.one]; done) | (simp only [List.all_toArray, List.all_cons, List.all_nil, ((hr).okL).one, hee.one, Bool.and_true, Bool.true_and] <;> rfl)) (fun w7 S1 => ?_)
   replace hb1 := S1.other hb1 n_b1_b4
   replace hb2 := S1.other hb2 n_b2_b4
   replace hb4 : w7.heap[b4]? = some (.cells #[av, ev] 129) := S1.new
   replace hG := hG.below (F4.bel2 S1)
   replace hO := Own.below hO (F4.bel2 S1)
   refine .assign rfl rfl (.ops0 (.thenN (.seq (.seq (.region (.move rfl rfl (.not rfl rfl (.ops0 (.thenN (.condF rfl (.skip (.thenN (.seq (.region (.load rfl (Ld.own (C := #[av, ev]) ag129 sz129 hb4) rfl (.fieldAddr rfl fo128_0 rfl (.load rfl (Ld.ownCell ag9 hb1 rfl) rfl ?_)))))))))))))))))
   refine At.call en154 rfl rfl (clauseS_any (nc := 0) name _ ((hr).gr hG.any (fun q => hm (map_ne q))) hm (ht.gr hG.any) hee.one) (fun e9 w8 hR => ?_)
   obtain ⟨cs, ok, rfl, hcl, hbl1⟩ := hR; refine ⟨_, rfl, ?_⟩
   replace hb1 := Below.old hbl1 hb1
   replace hb2 := Below.old hbl1 hb2
   replace hb4 := Below.old hbl1 hb4
   replace hG := hG.below hbl1
   replace hO := Own.below hO hbl1
   rcases hcl with ⟨rfl, am, hca, rfl⟩ | ⟨rfl, hca, rfl⟩
   ·skip
    have hv2 := (clA_two hca).1; have hxa : Xs kAm (x.M b ++ E) w [am] := fun u hu => ht u (List.mem_singleton.1 hu ▸ (clA_two hca).2)
    refine .move rfl rfl (.extract rfl rfl rfl (.extract rfl rfl rfl ?_))
    refine At.alloc ze40 rfl (fun b5 w9 F5 => ?_)
    have n_b1_b5 := F5.ne' hb1
    have n_b2_b5 := F5.ne' hb2
    have n_b4_b5 := F5.ne' hb4
    have gb5 := F5.gq hG.size
    replace hb1 := F5.old hb1
    replace hb2 := F5.old hb2
    replace hb4 := F5.old hb4
    have hb5 : w9.heap[b5]? = some (.cells #[zS, zN, zI, zI, zS, zS, zI, zN, zN, zI, zS, zI, zN, zN, zI, zN, zI, zI, zS, zI, zN, zN, zI] 40) := F5.new
    refine At.storeAll rfl rfl hb5 (sz40.trans (congrArg some (hxa.one).size.symm)) (hxa.one).size.symm (hxa.one).one (fun w10 S2 => ?_)
    replace hb1 := S2.other hb1 n_b1_b5
    replace hb2 := S2.other hb2 n_b2_b5
    replace hb4 := S2.other hb4 n_b4_b5
    replace hb5 : w10.heap[b5]? = some (.cells am.cs 40) := S2.new
    replace hG := hG.below (F5.bel2 S2)
    replace hO := Own.below hO (F5.bel2 S2)
    refine .assign rfl rfl (.ops0 (.thenN (.seq (.region (.move rfl rfl (.ops0 (.thenN (.condT rfl (.seq (.region ?_))))))))))
    refine At.alloc ze80 rfl (fun b6 w11 F6 => ?_)
    have n_b2_b6 := F6.ne' hb2
    have n_b4_b6 := F6.ne' hb4
    have n_b5_b6 := F6.ne' hb5
    have gb6 := F6.gq hG.size
    replace hb1 := F6.old hb1
    replace hb2 := F6.old hb2
    replace hb4 := F6.old hb4
    replace hb5 := F6.old hb5
    have hb6 : w11.heap[b6]? = some (.cells #[.pointer none] 80) := F6.new
    replace hG := hG.below F6.bel
    replace hO := Own.below hO F6.bel
    refine .ops0 (.thenN (.seq (.seq (.region (.move rfl rfl ?_)))))
    have hlk := hG.size
    have lb1 := lt_of_obj hb1
    have lb2 := lt_of_obj hb2
    have lb4 := lt_of_obj hb4
    have lb5 := lt_of_obj hb5
    have lb6 := lt_of_obj hb6
    refine At.call en155 rfl rfl (backwardF_any _ (Own.one hO)) (fun e w12 hR => ?_)
    obtain ⟨bk, rfl, hbl2, hbk, hgk⟩ := hR; refine ⟨_, rfl, ?_⟩
    replace hb2 := Below.old hbl2 hb2
    replace hb4 := Below.old hbl2 hb4
    replace hb5 := Below.old hbl2 hb5
    replace hb6 := Below.old hbl2 hb6
    replace hG := hG.below hbl2
    replace hO := Own.below hO hbl2
    refine .ops0 (.thenN (.block (.sub (L' := [(1, .pointer (some ⟨b, 0, none⟩)), (5, .pointer (some ⟨b2, 0, none⟩)), (8, kv1), (9, .pointer (some ⟨b4, 0, none⟩)), (11, .pointer (some ⟨b5, 0, none⟩)), (13, .pointer (some ⟨b6, 0, none⟩)), (53, .func (.func 156) #[] #[.pointer (some ⟨bk, 0, none⟩)])]) (sC rfl (sC rfl (sC rfl (sC rfl (sC rfl (sC rfl (sC rfl sN))))))) ?_)))
    have hsz0 := hG.size
    have hbn : ¬ (fun q => q = b6 ∨ w12.heap.size ≤ q) bk := by rintro (e | e); rw [e, hb6] at hbk; cases hbk; have := lt_of_obj hbk; omega
    have hvn : (rws ++ [((ti1, xi1) : Value × X)]) ≠ [] → ¬ (fun q => q = b6 ∨ w12.heap.size ≤ q) (vBlock va1) := fun _ e => by have hg := Own.vb hO (by simp); obtain ⟨o, h2, _⟩ := Own.cells hO hg; have h3 := lt_of_obj h2; rcases e with e | e; exact hO.neT hb6 rfl (by rw [hg, e]); omega
    have hxr2 : ∀ p ∈ (rws ++ [((ti1, xi1) : Value × X)]), XAt (x.M b ++ E) s.cells.length w .f [p.1] p.2 := fun p hp => (List.mem_append.1 hp).elim (hxr p) (fun e => by rw [List.mem_singleton.1 e]; exact hxi1)
    refine At.rangeF (d6 := 15) (S := (fun q => q = b6 ∨ w12.heap.size ≤ q)) (ts := (rws ++ [((ti1, xi1) : Value × X)])) rfl en156 rfl rfl (fun q hq => .inr hq) (backF_stops bk 2 (fun q => q = b6 ∨ w12.heap.size ≤ q) va1 (rws ++ [((ti1, xi1) : Value × X)]) _ hbk hbn (OwnR.rows hO (fun u _ => rfl)) hvn) (fun pre W => ∃ kq, XAt (some b6 :: (x.M b ++ E)) s.cells.length W .s [kq] (revX pre) ∧ Gr [] w [] W ∧ W.heap[b2]? = some (.cells #[.int .i64 k, .int .i64 n, .string nm, zN, kv, fp, kp] 82) ∧ W.heap[b4]? = some (.cells #[av, ev] 129) ∧ W.heap[b5]? = some (.cells am.cs 40) ∧ W.heap[b6]? = some (.cells #[kq] 80)) ?_ ⟨_, .nil (by simp), hG, hb2, hb4, hb5, hb6⟩ (fun l i v W => ?_) (fun l pre t W hI ht0 => ?_) (fun D W hDg hI hD => ?_)
    ·skip
     rintro pre W W' ⟨kq, i1, i2, hb2, hb4, hb5, hb6⟩ hk hr
     exact ⟨kq, i1.mk' hk, i2.mk' hk (fun _ _ => trivial) (fun r o h1 h2 h3 => Nat.le_trans hsz0 (hr r o h1 h2 h3)), hk.cells hb2, hk.cells hb4, hk.cells hb5, hk.cells hb6⟩
    ·skip
     refine AtI.region (.inr ⟨_, rfl⟩) (fun _ _ h => by cases h.1) rfl ?_
     refine .assign rfl rfl (.ops0 ?_)
     exact fun a ha => ⟨rfl, rfl, ha.sub (sC rfl (sC rfl (sC rfl (sC rfl (sC rfl (sC rfl (sC rfl (sC rfl sN))))))))⟩
    ·skip
     obtain ⟨kq, hkq, hG, hb2, hb4, hb5, hb6⟩ := hI; have hKW := hb6; have hGW := hG
     refine AtI.block ?_
     refine AtI.region (.inr ⟨_, rfl⟩) (fun _ _ h => by cases h.1) rfl ?_
     refine .move rfl rfl (.load rfl (Ld.ownCell ag80 hb6 rfl) rfl (.build (C := #[t.1, kq]) sd88 ze88 rfl (Bld.one fo88_0 (hxr2 t ht0).one (by first | decide | exact Nat.le_of_ble_eq_true rfl | simp [Value.cells]) (Bld.one fo88_1 hkq.one (by first | decide | exact Nat.le_of_ble_eq_true rfl | simp [Value.cells]) (Bld.nil _))) rfl ?_))
     refine At.box rfl rfl (fun b7 w13 F7 => ?_)
     have n_b6_b7 := F7.ne' hb6
     replace hb2 := F7.old hb2
     replace hb4 := F7.old hb4
     replace hb5 := F7.old hb5
     replace hb6 := F7.old hb6
     have hb7 : w13.heap[b7]? = some (.cells #[t.1, kq] 88) := F7.new
     replace hG := hG.below F7.bel
     refine At.store1 rfl rfl hb6 sz80 (by simp) rfl (fun w14 S3 => ?_)
     replace hb2 := S3.other hb2 n_b2_b6
     replace hb4 := S3.other hb4 n_b4_b6
     replace hb5 := S3.other hb5 n_b5_b6
     replace hb7 := S3.other hb7 n_b6_b7.symm
     replace hb6 : w14.heap[b6]? = some (.cells #[.pointer (some ⟨b7, 0, none⟩)] 80) := S3.new
     replace hG := hG.set S3 (.inr gb6)
     refine .ops0 (.inN ?_)
     have Gq := ((Gr.refl [some b6] W).fresh F7).set S3 (.inl (by simp))
     have nbn : some b7 ∉ (some b6 :: (x.M b ++ E)) := by have h1 := F7.eq; have h2 := lt_of_obj hKW; have h3 := hGW.size; intro e; rcases List.mem_cons.1 e with e | e; injection e with e; omega; have h4 := hM0.lt _ e; omega
     exact fun a ha => ⟨rfl, KeepsFrom.ofGr Gq (one_cells hKW), ⟨Gq.os, Gq.tape, Gq.output, Gq.size, fun q y hq hy => Gq.old (fun e => hq (.inl (by simpa using e))) hy⟩, .pointer (some ⟨b7, 0, none⟩), by rw [revX_add]; exact .s hb7 nbn ((hxr2 t ht0).gr ((Gr.of hG.base _).to (nw_add gb6)) lR) (hkq.gr (((Gr.refl (some b6 :: (x.M b ++ E)) W).fresh F7).set S3 (.inl (by simp))) lR), hG, hb2, hb4, hb5, hb6⟩
    obtain ⟨kq, hkq, hG1, hb2, hb4, hb5, hb6⟩ := hI; rw [revX_rev] at hkq; replace hkq := hkq.mono (M' := x.M b ++ E) (fun z hz => List.mem_cons_of_mem _ hz); have hM := hM0.below hG1.base; have hMd := hM; have hG : Gr (x.M b) w (x.M b) W := Gr.of hG1.base _; have hDge := hDg
    have mb2 : some b2 ∉ x.M b := fun hm => by have h1 := hM0.lt _ (List.mem_append_left E hm); have h2 := gb2; omega
    have mb4 : some b4 ∉ x.M b := fun hm => by have h1 := hM0.lt _ (List.mem_append_left E hm); have h2 := gb4; omega
    have mb5 : some b5 ∉ x.M b := fun hm => by have h1 := hM0.lt _ (List.mem_append_left E hm); have h2 := gb5; omega
    have mb6 : some b6 ∉ x.M b := fun hm => by have h1 := hM0.lt _ (List.mem_append_left E hm); have h2 := gb6; omega
    refine .inN (.thenN (.seq (.region (.move rfl rfl (.move rfl rfl (.set (d := 61) (u := .pointer (some ⟨bi1, 0, none⟩)) rfl pi1 (.nilCheck rfl rfl (.fieldAddr rfl fo88_1 rfl (.load rfl (Ld.ownCell ag80 (hG.ext.old mbi1 hbi1) rfl) rfl (.nilCheck rfl rfl (.fieldAddr rfl fo84_4 rfl ?_)))))))))))
    refine At.stS { x with fr := ri1 } { s with fr := yi1 } 9 rfl rfl hM sz80 hyi1.one rfl rfl rfl rfl rfl rfl (fun w15 S4 hM G1 => ?_) (fr := (hyi1.gr hG.ext lR))
    replace hG := hG.trans G1
    replace hkq := hkq.gr G1.ext lR
    obtain ⟨hb2, mb2⟩ := G1.both mb2 hb2
    obtain ⟨hb4, mb4⟩ := G1.both mb4 hb4
    obtain ⟨hb5, mb5⟩ := G1.both mb5 hb5
    obtain ⟨hb6, mb6⟩ := G1.both mb6 hb6
    replace hD := G1.old (fun hm => by cases hMd.cellsM _ hm _ hD) hD; have hMd := hM
    refine .ops0 (.thenN (.seq (.region (.move rfl rfl (.nilCheck rfl rfl (.fieldAddr rfl fo84_7 rfl (.fieldAddr rfl fo49_3 rfl (.load rfl (Ld.ownCell ag3 hM.blk (mx_at (j := 19) hM.tsz rfl rfl)) rfl (.add rfl rfl rfl (.nilCheck rfl rfl (.fieldAddr rfl fo84_7 rfl (.fieldAddr rfl fo49_3 rfl ?_))))))))))))
    refine At.stS { x with fr := ri1, kn := (IntKind.i64.wrap (x.kn + 1)) } { s with fr := yi1, kn := (IntKind.i64.wrap (s.kn + 1)) } 19 rfl rfl hM sz3 rfl rfl rfl rfl rfl rfl rfl (fun w16 S5 hM G2 => ?_) (kn := (congrArg (fun z => IntKind.i64.wrap (z + 1)) hM.kn))
    replace hG := hG.trans G2
    replace hkq := hkq.gr G2.ext lR
    obtain ⟨hb2, mb2⟩ := G2.both mb2 hb2
    obtain ⟨hb4, mb4⟩ := G2.both mb4 hb4
    obtain ⟨hb5, mb5⟩ := G2.both mb5 hb5
    obtain ⟨hb6, mb6⟩ := G2.both mb6 hb6
    replace hD := G2.old (fun hm => by cases hMd.cellsM _ hm _ hD) hD; have hMd := hM
    refine .ops0 (.thenN (.seq (.drawG (n := 17) mixed (by kernel_rfl) rfl (PanicOk.then (PanicOk.block (PanicOk.then (PanicOk.then (PanicOk.block (PanicOk.then PanicOk.np)))))) ?_)))
    replace hG := hG.drew
    replace hM := hM.drew
    replace hkq := hkq.gr (Gr.refl _ _).drew lR
    have hD : w16.drew.heap[D]? = some (.deferred (some [])) := hD
    have hMd := hM
    have hb2 : _ := (show w16.drew.heap[b2]? = _ from hb2)
    have hb4 : _ := (show w16.drew.heap[b4]? = _ from hb4)
    have hb5 : _ := (show w16.drew.heap[b5]? = _ from hb5)
    have hb6 : _ := (show w16.drew.heap[b6]? = _ from hb6)
    refine .wpcS (i := 0) (d := 76) (.pointer (some ⟨b4, 0 + 1, none⟩)) (by kernel_rfl) rfl rfl rfl (fun Lx => .fieldAddr rfl fo129_1 rfl (.ops0 fun a ha => ⟨ha, rfl⟩)) ?_
    refine .wpcS (i := 1) (d := 77) (ev) (by kernel_rfl) rfl rfl rfl (fun Lx => .load rfl (Ld.ownCell ag77 hb4 rfl) rfl (.ops0 fun a ha => ⟨ha, rfl⟩)) ?_
    refine .wpcS (i := 2) (d := 78) (.pointer (some ⟨b5, 0 + 1, none⟩)) (by kernel_rfl) rfl rfl rfl (fun Lx => .fieldAddr rfl fo40_1 rfl (.ops0 fun a ha => ⟨ha, rfl⟩)) ?_
    refine .wpcS (i := 3) (d := 79) (am.vv) (by kernel_rfl) rfl rfl rfl (fun Lx => .load rfl (Ld.ownCell ag25 hb5 hxa.one.c1) rfl (.ops0 fun a ha => ⟨ha, rfl⟩)) ?_
    obtain ⟨u1, hu1⟩ := some_of_lt (l := am.vars) (i := 0) (by omega)
    refine .wpcS (i := 4) (d := 80) (.pointer (some ⟨vBlock am.vv, vOff am.vv + 0 * 1, none⟩)) (by kernel_rfl) rfl rfl rfl (fun Lx => .indexAddr (i := 0) rfl rfl (hxa.one.varsAt).ok (lt_of_some hu1) el25 sz9 rfl (.ops0 fun a ha => ⟨ha, rfl⟩)) ?_
    refine .wpcS (i := 5) (d := 81) (.string u1) (by kernel_rfl) rfl rfl rfl (fun Lx => .load rfl (Ld.cell ag9 (cell_keep ((((hxa.gr hG.ext).one.varsAt)).get hu1) (Below.refl _ _))) rfl (.ops0 fun a ha => ⟨ha, rfl⟩)) ?_
    refine .wpcS (i := 6) (d := 82) (.agg #[.int .i64 k, .int .i64 n, .string nm, zN, kv, fp, kp]) (by kernel_rfl) rfl rfl rfl (fun Lx => .load rfl (Ld.own (C := #[.int .i64 k, .int .i64 n, .string nm, zN, kv, fp, kp]) ag82 sz82 hb2) rfl (.ops0 fun a ha => ⟨ha, rfl⟩)) ?_
    refine .wpcS (i := 8) (d := 84) (.pointer (some ⟨b5, 0 + 1, none⟩)) (by kernel_rfl) rfl rfl rfl (fun Lx => .fieldAddr rfl fo40_1 rfl (.ops0 fun a ha => ⟨ha, rfl⟩)) ?_
    refine .wpcS (i := 9) (d := 85) (am.vv) (by kernel_rfl) rfl rfl rfl (fun Lx => .load rfl (Ld.ownCell ag25 hb5 hxa.one.c1) rfl (.ops0 fun a ha => ⟨ha, rfl⟩)) ?_
    obtain ⟨u2, hu2⟩ := some_of_lt (l := am.vars) (i := 1) (by omega)
    refine .wpcS (i := 10) (d := 86) (.pointer (some ⟨vBlock am.vv, vOff am.vv + 1 * 1, none⟩)) (by kernel_rfl) rfl rfl rfl (fun Lx => .indexAddr (i := 1) rfl rfl (hxa.one.varsAt).ok (lt_of_some hu2) el25 sz9 rfl (.ops0 fun a ha => ⟨ha, rfl⟩)) ?_
    refine .wpcS (i := 11) (d := 87) (.string u2) (by kernel_rfl) rfl rfl rfl (fun Lx => .load rfl (Ld.cell ag9 (cell_keep ((((hxa.gr hG.ext).one.varsAt)).get hu2) (Below.refl _ _))) rfl (.ops0 fun a ha => ⟨ha, rfl⟩)) ?_
    refine .wpcS (i := 12) (d := 88) (.agg #[.int .i64 6, zI, zS, zN]) (by kernel_rfl) rfl rfl rfl (fun Lx => .build (C := #[.int .i64 6, zI, zS, zN]) sd45 ze45 rfl (Bld.cons fo45_0 rfl (lB rfl) (Bld.nil _)) rfl (.ops0 fun a ha => ⟨ha, rfl⟩)) ?_
    refine .wpcS (i := 13) (d := 89) (kq) (by kernel_rfl) rfl rfl rfl (fun Lx => .load rfl (Ld.ownCell ag80 hb6 rfl) rfl (.ops0 fun a ha => ⟨ha, rfl⟩)) ?_
    refine .wpcS (i := 14) (d := 90) (.agg #[.int .i64 6, zI, zS, zN, zN, .pointer none, kq]) (by kernel_rfl) rfl rfl rfl (fun Lx => .build (C := #[.int .i64 6, zI, zS, zN, zN, .pointer none, kq]) sd82 ze82 rfl (Bld.cons fo82_0 rfl (lB rfl) (Bld.one fo82_3 hkq.one (by first | decide | exact Nat.le_of_ble_eq_true rfl | simp [Value.cells]) (Bld.nil _))) rfl (.ops0 fun a ha => ⟨ha, rfl⟩)) ?_
    refine At.wpcE [7] (by kernel_rfl) (by kernel_rfl) (.cons [8, 9, 10, 11, 12, 13, 14] rfl (by kernel_rfl) ?_ .nil)
    refine At.call en46 rfl rfl (with_any u1 _ hM.lt (hee.gr hG.ext lR) (hv.gr hG.ext lR)) (fun e w17 hR => ?_)
    obtain ⟨pe1, rfl, hwe1, hbl3⟩ := hR; refine ⟨_, rfl, ?_⟩
    replace hb2 := Below.old hbl3 hb2
    replace hb4 := Below.old hbl3 hb4
    replace hb5 := Below.old hbl3 hb5
    replace hb6 := Below.old hbl3 hb6
    replace hG := hG.below hbl3
    replace hM := hM.below hbl3
    replace hkq := hkq.gr (Gr.of hbl3 _) lR
    replace hD := Below.old hbl3 hD; have hMd := hM
    refine .ops0 ?_
    refine At.wpcN (.cons rfl rfl rfl rfl (fun Lx => ?_) (.cons rfl rfl rfl rfl (fun Lx => ?_) (.cons rfl rfl rfl rfl (fun Lx => ?_) (.cons rfl rfl rfl rfl (fun Lx => ?_) (.cons rfl rfl rfl rfl (fun Lx => ?_) (.cons rfl rfl rfl rfl (fun Lx => ?_) (.cons rfl rfl rfl rfl (fun Lx => ?_) .nil))))))) ?_
    ·skip
     exact .fieldAddr rfl fo40_1 rfl (.ops0 fun a ha => ⟨ha, rfl⟩)
    ·skip
     exact .load rfl (Ld.ownCell ag25 hb5 hxa.one.c1) rfl (.ops0 fun a ha => ⟨ha, rfl⟩)
    ·skip
     exact .indexAddr (i := 1) rfl rfl (hxa.one.varsAt).ok (lt_of_some hu2) el25 sz9 rfl (.ops0 fun a ha => ⟨ha, rfl⟩)
    ·skip
     exact .load rfl (Ld.cell ag9 (cell_keep ((((hxa.gr hG.ext).one.varsAt)).get hu2) (Below.refl _ _))) rfl (.ops0 fun a ha => ⟨ha, rfl⟩)
    ·skip
     exact .build (C := #[.int .i64 6, zI, zS, zN]) sd45 ze45 rfl (Bld.cons fo45_0 rfl (lB rfl) (Bld.nil _)) rfl (.ops0 fun a ha => ⟨ha, rfl⟩)
    ·skip
     exact .load rfl (Ld.ownCell ag80 hb6 rfl) rfl (.ops0 fun a ha => ⟨ha, rfl⟩)
    ·skip
     exact .build (C := #[.int .i64 6, zI, zS, zN, zN, .pointer none, kq]) sd82 ze82 rfl (Bld.cons fo82_0 rfl (lB rfl) (Bld.one fo82_3 hkq.one (by first | decide | exact Nat.le_of_ble_eq_true rfl | simp [Value.cells]) (Bld.nil _))) rfl (.ops0 fun a ha => ⟨ha, rfl⟩)
    refine At.wpcE [15] (by kernel_rfl) (by kernel_rfl) (.cons [] rfl (by kernel_rfl) ?_ .nil)
    refine At.call en46 rfl rfl (with_any u2 _ hM.lt hwe1 (XAt.mk (Vs.nil _ _ _) (.nil (by simp)) hkq (fun e => absurd e (by decide)) (fun e => absurd e (by decide)))) (fun e w18 hR => ?_)
    obtain ⟨pe2, rfl, hwe2, hbl4⟩ := hR; refine ⟨_, rfl, ?_⟩
    replace hb2 := Below.old hbl4 hb2
    replace hb4 := Below.old hbl4 hb4
    replace hb5 := Below.old hbl4 hb5
    replace hb6 := Below.old hbl4 hb6
    replace hG := hG.below hbl4
    replace hM := hM.below hbl4
    replace hD := Below.old hbl4 hD; have hMd := hM
    refine .ops0 (.wpcN .nil ?_)
    refine At.wpcE [16] (by kernel_rfl) (by kernel_rfl) (.cons [] rfl (by kernel_rfl) ?_ .nil)
    refine .assign rfl rfl (.ops0 (.wpcN .nil (.wpcZ (.thenN (.seq (.region (.move rfl rfl (.fieldAddr rfl fo40_2 rfl (.load rfl (Ld.ownPart ag31 (sz31.trans (congrArg some hxa.body.one.size.symm)) hb5 hxa.one.bodyCs) rfl (.move rfl rfl ?_))))))))))
    refine At.callM en45 rfl rfl (goes_any  _ hM (hxa.body.gr hG.ext) hwe2) (fun x1 w19 hM G3 => ?_)
    replace hD := G3.old (fun hm => by cases hMd.cellsM _ hm _ hD) hD
    replace hG := hG.trans G3
    obtain ⟨hb2, mb2⟩ := G3.both mb2 hb2
    obtain ⟨hb4, mb4⟩ := G3.both mb4 hb4
    obtain ⟨hb5, mb5⟩ := G3.both mb5 hb5
    obtain ⟨hb6, mb6⟩ := G3.both mb6 hb6
    have hMd := hM
    refine .assign rfl rfl (.ops0 (.thenN (.retc (.inR (.thenR (.thenR (.inR (.thenR ?_))))))))
    have hmk : Mk w19 (w19.putObj D (.deferred none)) := ⟨some D, grownBy_putObj' w19 D (.deferred none), fun r e => by cases e; exact ⟨_, hD, rfl⟩⟩
    replace hM := hM.mk' hmk
    replace hG := hG.mk' hmk (fun _ _ => trivial) (fun r o hr hc hne => by by_cases e : some r = some D; cases e; exact Nat.le_trans hsz0 hDge; exact absurd (by rw [(grownBy_putObj' w19 D (.deferred none)).block r (lt_of_obj hr) e]; exact hr) hne)
    refine .doneMR (D := D) (ResV.tmp rfl ResV.nil) hD ?_
    exact Pst.fin (by simp only [getsF]; rw [hask, ei1, hfx, ask_y (by rw [clA_eq, hca]; rfl)]; rw [List.map_append]; simp only [shAm, SA.vars, List.getD_eq_getElem?_getD, hu1, hu2, Option.getD_some]; rfl) hM hG
   refine .move rfl rfl (.extract rfl rfl rfl (.extract rfl rfl rfl ?_))
   refine At.alloc ze40 rfl (fun b8 w20 F8 => ?_)
   have n_b1_b8 := F8.ne' hb1
   have n_b2_b8 := F8.ne' hb2
   replace hb1 := F8.old hb1
   replace hb2 := F8.old hb2
   have hb8 : w20.heap[b8]? = some (.cells #[zS, zN, zI, zI, zS, zS, zI, zN, zN, zI, zS, zI, zN, zN, zI, zN, zI, zI, zS, zI, zN, zN, zI] 40) := F8.new
   refine At.storeAll rfl rfl hb8 sz40 rfl (by first | (simp [Value.oneCell', ((SlOk.nil)).one]; done) | (simp only [List.all_toArray, List.all_cons, List.all_nil, ((SlOk.nil)).one, Bool.and_true, Bool.true_and] <;> rfl)) (fun w21 S6 => ?_)
   replace hb1 := S6.other hb1 n_b1_b8
   replace hb2 := S6.other hb2 n_b2_b8
   replace hG := hG.below (F8.bel2 S6)
   replace hO := Own.below hO (F8.bel2 S6)
   refine .assign rfl rfl (.ops0 (.thenN (.seq (.region (.move rfl rfl (.ops0 (.thenN (.condF rfl (.skip (.inN (.thenN (.region (.move rfl rfl (.set (d := 23) (u := .pointer (some ⟨bi1, 0, none⟩)) rfl pi1 (.nilCheck rfl rfl (.fieldAddr rfl fo88_1 rfl (.load rfl (Ld.ownCell ag80 (hG.any.old mbi1 hbi1) rfl) rfl (.assign rfl rfl (.ops0 (.thenN ?_))))))))))))))))))))
   exact fun act_ hact_ => ⟨(va1, (rws ++ [((ti1, xi1) : Value × X)]), ri1, yi1), hact_.sub (sC rfl (sC rfl (sC rfl (sC rfl (sC rfl sN))))), ⟨hG, hb1, hb2, hO, (hge2), (fun p hp => (List.mem_append.1 hp).elim (hxr p) (fun e => by rw [List.mem_singleton.1 e]; exact hxi1)), (hyi1), (by rw [hask, ei1, List.map_append]; show askF name (.s xi1 yi1) _ = askF name yi1 (_ ++ [xi1]); rw [hfx]; exact ask_n (by rw [clA_eq, hca]; rfl)), (by rw [ei1, lenX] at hln; simp; omega)⟩, by first | omega | (rw [ei1]; exact Nat.lt_succ_self _)⟩
  refine .asksN rfl pl129 ze129 hne rfl (.move rfl rfl (.extract rfl rfl rfl (.extract rfl rfl rfl ?_)))
  refine At.alloc ze129 rfl (fun b9 w22 F9 => ?_)
  have n_b1_b9 := F9.ne' hb1
  have n_b2_b9 := F9.ne' hb2
  replace hb1 := F9.old hb1
  replace hb2 := F9.old hb2
  have hb9 : w22.heap[b9]? = some (.cells #[zN, .pointer none] 129) := F9.new
  refine At.storeAll rfl rfl hb9 sz129 rfl (by first | (simp [Value.oneCell', ((SlOk.nil)).one]; done) | (simp only [List.all_toArray, List.all_cons, List.all_nil, ((SlOk.nil)).one, Bool.and_true, Bool.true_and] <;> rfl)) (fun w23 S7 => ?_)
  replace hb1 := S7.other hb1 n_b1_b9
  replace hb2 := S7.other hb2 n_b2_b9
  replace hG := hG.below (F9.bel2 S7)
  replace hO := Own.below hO (F9.bel2 S7)
  refine .assign rfl rfl (.ops0 (.thenN (.seq (.seq (.region (.move rfl rfl (.not rfl rfl (.ops0 (.thenN (.condT rfl (.exit (.thenE (.inE (.thenN (.region (.move rfl rfl (.set (d := 23) (u := .pointer (some ⟨bi1, 0, none⟩)) rfl pi1 (.nilCheck rfl rfl (.fieldAddr rfl fo88_1 rfl (.load rfl (Ld.ownCell ag80 (hG.any.old mbi1 hbi1) rfl) rfl (.assign rfl rfl (.ops0 (.thenN ?_)))))))))))))))))))))))
  exact fun act_ hact_ => ⟨(va1, (rws ++ [((ti1, xi1) : Value × X)]), ri1, yi1), hact_.sub (sC rfl (sC rfl (sC rfl (sC rfl (sC rfl sN))))), ⟨hG, hb1, hb2, hO, (hge2), (fun p hp => (List.mem_append.1 hp).elim (hxr p) (fun e => by rw [List.mem_singleton.1 e]; exact hxi1)), (hyi1), (by rw [hask, ei1, List.map_append]; show askF name (.s xi1 yi1) _ = askF name yi1 (_ ++ [xi1]); exact ask_o hfx), (by rw [ei1, lenX] at hln; simp; omega)⟩, by first | omega | (rw [ei1]; exact Nat.lt_succ_self _)⟩
 refine .exit (.thenE (.thenE (.inE (.thenN (.seq (.region (.assign rfl rfl (.ops0 (.thenN (.retc (.doneM0 (ResV.tmp rfl ResV.nil) ?_)))))))))))
 exact Pst.fin (by have e1 := nilX_eq (y := kx) (by simpa using hc1); simp only [getsF]; rw [hask, e1]; rfl) (hM0.below hG.base) (Gr.of hG.base _)
def frOk : X → Prop
  | .gat _ done _ => done.length ≤ 1000000000
  | .fn (.v _ _ _ _ _ st) => lenX st ≤ 1000000000000
  | _ => True
def topOk : X → Prop
  | .s f _ => frOk f
  | _ => True
def Sm (s : SS) : Prop := s.tr.length ≤ 1000000000000 ∧ s.cells.length ≤ 1000000000000 ∧ lenX s.fr ≤ 1000000000000 ∧ (s.at_ = false → topOk s.fr)
theorem not_ended {s : SS} (h : endedF s = false) (ha : s.at_ = false) : nilX s.fr = false := by
  have q := h
  simp only [endedF, ha, Bool.not_false, Bool.true_and, Bool.or_eq_false_iff] at q
  exact q.2
theorem stepF_end {s : SS} (h : endedF s = true) : stepF s = none := by rw [stepF, h]; rfl
theorem stepF_at {s : SS} (h : endedF s = false) (ha : s.at_ = true) : stepF s = some (bif (looksF { s with st := IntKind.i64.wrap (s.st + 1) }).2 then (looksF { s with st := IntKind.i64.wrap (s.st + 1) }).1 else (looksF { s with st := IntKind.i64.wrap (s.st + 1) }).1.ends 4) := by
  simp only [stepF, h, ha, cond_true, cond_false]
theorem stepF_fr {s : SS} {f r : X} (h : endedF s = false) (ha : s.at_ = false) (hf : s.fr = .s f r) :
    stepF s = some (bif (getsF f { s with st := IntKind.i64.wrap (s.st + 1), fr := r } s.v).2 then (getsF f { s with st := IntKind.i64.wrap (s.st + 1), fr := r } s.v).1 else (getsF f { s with st := IntKind.i64.wrap (s.st + 1), fr := r } s.v).1.ends 4) := by
  simp only [stepF, h, ha, hf, cond_false]
theorem en134 : entB Tryz.prog 134 = true := by kernel_rfl
theorem en135 : entB Tryz.prog 135 = true := by kernel_rfl
theorem en136 : entB Tryz.prog 136 = true := by kernel_rfl
theorem en137 : entB Tryz.prog 137 = true := by kernel_rfl
theorem en150 : entB Tryz.prog 150 = true := by kernel_rfl
theorem en153 : entB Tryz.prog 153 = true := by kernel_rfl
theorem en157 : entB Tryz.prog 157 = true := by kernel_rfl
theorem en159 : entB Tryz.prog 159 = true := by kernel_rfl
theorem en32 : entB Tryz.prog 32 = true := by kernel_rfl
theorem fo49_2 : fieldB Tryz.prog 49 2 = some (6, 1) := by kernel_rfl
theorem na115 (p : Value) (w : World) : (nilAhead (Tryz.prog.types.size + Made.depth) 115 p "brocade/source.gets").run Tryz.prog w = .ok (some false) w := by kernel_rfl
theorem me115 (p : Value) (w : World) : (Go.method (Tryz.prog.types.size + Made.depth) 115 p "brocade/source.gets").run Tryz.prog w = .ok (134, p) w := by kernel_rfl
theorem na117 (p : Value) (w : World) : (nilAhead (Tryz.prog.types.size + Made.depth) 117 p "brocade/source.gets").run Tryz.prog w = .ok (some false) w := by kernel_rfl
theorem me117 (p : Value) (w : World) : (Go.method (Tryz.prog.types.size + Made.depth) 117 p "brocade/source.gets").run Tryz.prog w = .ok (135, p) w := by kernel_rfl
theorem na121 (p : Value) (w : World) : (nilAhead (Tryz.prog.types.size + Made.depth) 121 p "brocade/source.gets").run Tryz.prog w = .ok (some false) w := by kernel_rfl
theorem me121 (p : Value) (w : World) : (Go.method (Tryz.prog.types.size + Made.depth) 121 p "brocade/source.gets").run Tryz.prog w = .ok (136, p) w := by kernel_rfl
theorem na124 (p : Value) (w : World) : (nilAhead (Tryz.prog.types.size + Made.depth) 124 p "brocade/source.gets").run Tryz.prog w = .ok (some false) w := by kernel_rfl
theorem me124 (p : Value) (w : World) : (Go.method (Tryz.prog.types.size + Made.depth) 124 p "brocade/source.gets").run Tryz.prog w = .ok (137, p) w := by kernel_rfl
theorem na126 (p : Value) (w : World) : (nilAhead (Tryz.prog.types.size + Made.depth) 126 p "brocade/source.gets").run Tryz.prog w = .ok (some false) w := by kernel_rfl
theorem me126 (p : Value) (w : World) : (Go.method (Tryz.prog.types.size + Made.depth) 126 p "brocade/source.gets").run Tryz.prog w = .ok (150, p) w := by kernel_rfl
theorem na128 (p : Value) (w : World) : (nilAhead (Tryz.prog.types.size + Made.depth) 128 p "brocade/source.gets").run Tryz.prog w = .ok (some false) w := by kernel_rfl
theorem me128 (p : Value) (w : World) : (Go.method (Tryz.prog.types.size + Made.depth) 128 p "brocade/source.gets").run Tryz.prog w = .ok (153, p) w := by kernel_rfl
theorem na129 (p : Value) (w : World) : (nilAhead (Tryz.prog.types.size + Made.depth) 129 p "brocade/source.gets").run Tryz.prog w = .ok (some false) w := by kernel_rfl
theorem me129 (p : Value) (w : World) : (Go.method (Tryz.prog.types.size + Made.depth) 129 p "brocade/source.gets").run Tryz.prog w = .ok (157, p) w := by kernel_rfl
theorem na207 (p : Value) (w : World) : (nilAhead (Tryz.prog.types.size + Made.depth) 207 p "brocade/source.gets").run Tryz.prog w = .ok (some false) w := by kernel_rfl
theorem me207 (p : Value) (w : World) : (Go.method (Tryz.prog.types.size + Made.depth) 207 p "brocade/source.gets").run Tryz.prog w = .ok (159, p) w := by kernel_rfl
theorem na_any {M : List (Option Nat)} {nc t : Nat} {w : World} {p : Value} {y : X} (h : XAt M nc w .f [.iface t p] y) (w' : World) : (nilAhead (Tryz.prog.types.size + Made.depth) t p "brocade/source.gets").run Tryz.prog w' = .ok (some false) w' := by
 cases h with
 | arg => exact na115 _ _
 | fn => exact na207 _ _
 | bnd => exact na117 _ _
 | frk => exact na121 _ _
 | gat => exact na124 _ _
 | way => exact na126 _ _
 | ask => exact na128 _ _
 | hnd => exact na129 _ _
theorem gets_any {E : List (Option Nat)} {b : Nat} {x : Sx} {s : SS} {t : Nat} {p : Value} {y : X} {k n : Int} {nm : ByteArray} {kv fp kp : Value} {vx : X} (w : World) (hM : StA E b x w s) (hf : XAt (x.M b ++ E) s.cells.length w .f [.iface t p] y) (hv : XAt (x.M b ++ E) s.cells.length w .v (V7 k n nm kv fp kp) vx) (ok : frOk y) (h1 : s.tr.length ≤ 1000000000000) (h2 : s.cells.length ≤ 1000000000000) (h3 : lenX s.fr ≤ 1000000000000) :
  ∃ f, (Go.method (Tryz.prog.types.size + Made.depth) t p "brocade/source.gets").run Tryz.prog w = .ok (f, p) w ∧ entB Tryz.prog f = true ∧ Calls Tryz.prog f ([p, .pointer (some ⟨b, 0, none⟩), .agg #[.int .i64 k, .int .i64 n, .string nm, .slice none 0 0, kv, fp, kp]] : List Value).toArray w (Pst E b x w (getsF y s vx)) := by
 cases hf with
 | arg ht he => exact ⟨134, me115 _ _, en134, gArg_any w hM ht he hv⟩
 | fn hl hx =>
  obtain ⟨k', n', nm', kv', fp', kp', rows, f, st, rfl, rfl, hv2, hf2, hs2, _⟩ := hx.vinv
  exact ⟨159, me207 _ _, en159, gFn_any w hM hx rfl hf2 hs2 ok hv⟩
 | bnd ht he => exact ⟨135, me117 _ _, en135, gBnd_any w hM ht he hv⟩
 | frk hl hr hm ht he => exact ⟨136, me121 _ _, en136, gFrk_any w hM hl hr hm ht he hv⟩
 | gat ht rows hr hm hk he => exact ⟨137, me124 _ _, en137, gGat_any w hM ht ⟨hr, hm, hk⟩ he hv (by simpa [frOk] using ok) h1 h2⟩
 | way hr hm ht he => exact ⟨150, me126 _ _, en150, gWay_any w hM hr hm ht he hv⟩
 | ask => exact ⟨153, me128 _ _, en153, gAsk_any _ w hM h3 hv⟩
 | @hnd av ev l e hr hm ht he =>
  cases l with
  | nil => exact ⟨157, me129 _ _, en157, gHnd0_any w hM hr hm ht he hv⟩
  | cons a r => exact ⟨157, me129 _ _, en157, gHnd1_any w hM hr hm ht he hv⟩
theorem step_any {E : List (Option Nat)} {b : Nat} {x : Sx} {s : SS}  (w : World) (hM : StA E b x w s) (hSm : Sm s) :
    Calls Tryz.prog 25 ([.pointer (some ⟨b, 0, none⟩)] : List Value).toArray w (Pst E b x w ((stepF s).getD s, (stepF s).isSome)) := by
  have hfr0 := hM.fr
  have hG := Gr.refl (x.M b) w
  refine At.enter (N := 53) Tryz.func25 rfl rfl (by simp) [(0, .pointer (some ⟨b, 0, none⟩))] (by simp) ?_
  refine .seq (.region (.assign rfl rfl (.ops0 (.thenN (.seq (.seq (.region (.move rfl rfl ?_))))))))
  refine At.call en31 rfl rfl (ended_any _ hM) (fun e w1 hR => ?_)
  obtain ⟨rfl, hbl1⟩ := hR
  refine ⟨_, rfl, ?_⟩
  replace hG := hG.below hbl1
  replace hM := hM.below hbl1
  refine .ops0 (.thenN ?_)
  refine At.cond (b := (endedF s)) rfl (fun hc1 => ?_) (fun hc1 => ?_)
  · skip
    refine .seq (.region (.assign rfl rfl (.ops0 (.thenN (.retc (.thenR (.doneR (ResV.tmp rfl ResV.nil) ?_)))))))
    exact Pst.fin (by rw [stepF_end hc1]; rfl) hM hG
  · skip
    refine .skip (.thenN (.seq (.region (.move rfl rfl (.nilCheck rfl rfl (.fieldAddr rfl fo84_7 rfl (.fieldAddr rfl fo49_2 rfl (.load rfl (Ld.ownCell ag3 hM.blk (mx_at (j := 18) hM.tsz rfl rfl)) rfl (.add rfl rfl rfl (.nilCheck rfl rfl (.fieldAddr rfl fo84_7 rfl (.fieldAddr rfl fo49_2 rfl ?_))))))))))))
    refine At.stS { x with st := (IntKind.i64.wrap (x.st + 1)) } { s with st := (IntKind.i64.wrap (s.st + 1)) } 18 rfl rfl hM sz3 rfl rfl rfl rfl rfl rfl rfl (fun w2 S1 hM G1 => ?_) (n := (congrArg (fun z => IntKind.i64.wrap (z + 1)) hM.n))
    replace hG := hG.trans G1
    refine .ops0 (.thenN (.seq (.region (.assign rfl rfl (.ops0 (.thenN (.seq (.seq (.region (.move rfl rfl (.nilCheck rfl rfl (.fieldAddr rfl fo84_2 rfl (.load rfl (Ld.ownCell ag4 hM.blk (mx_at (j := 1) hM.tsz rfl rfl)) rfl (.ops0 (.thenN ?_)))))))))))))))
    refine At.cond (b := x.at_) rfl (fun hc2 => ?_) (fun hc2 => ?_)
    · skip
      have hat : s.at_ = true := hM.at_.symm.trans hc2
      refine .region (.move rfl rfl ?_)
      refine At.callM en32 rfl rfl (looks_any  _ hM ) (fun x1 w3 hM G2 => ?_)
      replace hG := hG.trans G2
      refine .assign rfl rfl (.ops0 (.thenN (.seq (.seq (.region (.move rfl rfl (.not rfl rfl (.ops0 (.thenN ?_)))))))))
      refine At.cond (b := (!(looksF { s with st := (IntKind.i64.wrap (s.st + 1)) }).2)) rfl (fun hc3 => ?_) (fun hc3 => ?_)
      · skip
        refine .region (.move rfl rfl ?_)
        refine At.callM en33 rfl rfl (ends_any 4 _ hM ) (fun x2 w4 hM G3 => ?_)
        replace hG := hG.trans G3
        refine .ops0 (.thenN (.seq (.region (.assign rfl rfl (.ops0 (.thenN (.retc (.doneR (ResV.tmp rfl ResV.nil) ?_))))))))
        exact Pst.fin (by rw [stepF_at hc1 hat]; have e3 := bnot_t hc3; exact congrArg (fun q => (q, true)) (by rw [Option.getD_some, e3]; rfl)) hM hG
      · skip
        refine .skip (.thenN (.seq (.region (.assign rfl rfl (.ops0 (.thenN (.retc (.doneR (ResV.tmp rfl ResV.nil) ?_))))))))
        exact Pst.fin (by rw [stepF_at hc1 hat]; have e3 := bnot_f hc3; exact congrArg (fun q => (q, true)) (by rw [Option.getD_some, e3]; rfl)) hM hG
    · skip
      have hat : s.at_ = false := hM.at_.symm.trans hc2
      refine .seq (.region (.move rfl rfl (.nilCheck rfl rfl (.fieldAddr rfl fo84_4 rfl (.load rfl (Ld.ownCell ag80 hM.blk (mx_at (j := 9) hM.tsz rfl rfl)) rfl ?_)))))
      obtain ⟨bi1, ti1, ri1, xi1, yi1, pi1, ei1, hbi1, mbi1, hxi1, hyi1⟩ := hfr0.sinv' (not_ended hc1 hat)
      refine .set (d := 25) (u := .pointer (some ⟨bi1, 0, none⟩)) rfl pi1 (.nilCheck rfl rfl (.fieldAddr rfl fo88_0 rfl (.load rfl (Ld.ownCell ag86 (hG.ext.old mbi1 hbi1) rfl) rfl (.assign rfl rfl ?_))))
      obtain ⟨fT, fp, hft, _⟩ := hxi1.frm; rw [hft] at hxi1
      refine .set (d := 28) (u := .iface fT fp) rfl hft (.set (d := 4) (u := .iface fT fp) rfl hft (.ops0 (.thenN (.seq (.region (.move rfl rfl (.move rfl rfl (.nilCheck rfl rfl (.fieldAddr rfl fo84_4 rfl (.load rfl (Ld.ownCell ag80 hM.blk (mx_at (j := 9) hM.tsz rfl rfl)) rfl (.set (d := 33) (u := .pointer (some ⟨bi1, 0, none⟩)) rfl pi1 (.nilCheck rfl rfl (.fieldAddr rfl fo88_1 rfl (.load rfl (Ld.ownCell ag80 (hG.ext.old mbi1 hbi1) rfl) rfl (.nilCheck rfl rfl (.fieldAddr rfl fo84_4 rfl ?_))))))))))))))))
      refine At.stS { x with st := (IntKind.i64.wrap (x.st + 1)), fr := ri1 } { s with st := (IntKind.i64.wrap (s.st + 1)), fr := yi1 } 9 rfl rfl hM sz80 hyi1.one rfl rfl rfl rfl rfl rfl (fun w5 S2 hM G4 => ?_) (fr := (hyi1.gr hG.ext lR))
      replace hG := hG.trans G4
      refine .ops0 (.thenN (.drawG (n := 11) mixed (by kernel_rfl) rfl (PanicOk.then PanicOk.body) ?_))
      replace hG := hG.drew
      replace hM := hM.drew
      refine At.wpcS (i := 0) (d := 39) ((.iface fT fp)) (by kernel_rfl) rfl rfl rfl (fun Lx => ?_) ?_
      · skip
        exact .move rfl rfl (.ops0 fun a ha => ⟨ha, rfl⟩)
      refine At.wpcS (i := 1) (d := 40) (.pointer (some ⟨b, 0, none⟩)) (by kernel_rfl) rfl rfl rfl (fun Lx => ?_) ?_
      · skip
        exact .move rfl rfl (.ops0 fun a ha => ⟨ha, rfl⟩)
      refine At.wpcS (i := 2) (d := 41) (.pointer (some ⟨b, 0, none⟩)) (by kernel_rfl) rfl rfl rfl (fun Lx => ?_) ?_
      · skip
        exact .move rfl rfl (.ops0 fun a ha => ⟨ha, rfl⟩)
      refine At.wpcS (i := 3) (d := 42) (.pointer (some ⟨b, 0, none⟩)) (by kernel_rfl) rfl rfl rfl (fun Lx => ?_) ?_
      · skip
        exact .nilCheck rfl rfl (.ops0 fun a ha => ⟨ha, rfl⟩)
      refine At.wpcS (i := 4) (d := 43) (.pointer (some ⟨b, 0 + 23, none⟩)) (by kernel_rfl) rfl rfl rfl (fun Lx => ?_) ?_
      · skip
        exact .fieldAddr rfl fo84_3 rfl (.ops0 fun a ha => ⟨ha, rfl⟩)
      refine At.wpcS (i := 5) (d := 44) (.agg #[.int .i64 x.k, .int .i64 x.n, .string x.nm, zN, x.kv, x.fp, x.kp]) (by kernel_rfl) rfl rfl rfl (fun Lx => ?_) ?_
      · skip
        exact .load rfl (Ld.ownPart (n := 7) (cs := (V7 x.k x.n x.nm x.kv x.fp x.kp).toArray) ag82 sz82 hM.blk (mx_sub hM.tsz 2 rfl rfl)) rfl (.ops0 fun a ha => ⟨ha, rfl⟩)
      refine At.wpcS (i := 6) (d := 45) (.func (.method "brocade/source.gets") #[(.iface fT fp)] #[]) (by kernel_rfl) rfl rfl rfl (fun Lx => ?_) ?_
      · skip
        exact .method rfl rfl (.ops0 fun a ha => ⟨ha, rfl⟩)
      refine At.wpcS (i := 7) (d := 46) (.func (.method "brocade/source.gets") #[(.iface fT fp)] #[]) (by kernel_rfl) rfl rfl rfl (fun Lx => ?_) ?_
      · skip
        exact .methodC rfl (na_any hxi1 _) rfl (.ops0 fun a ha => ⟨ha, rfl⟩)
      refine At.wpcS (i := 8) (d := 47) ((.iface fT fp)) (by kernel_rfl) rfl rfl rfl (fun Lx => ?_) ?_
      · skip
        exact .move rfl rfl (.ops0 fun a ha => ⟨ha, rfl⟩)
      refine At.wpcE [9] (by kernel_rfl) (by kernel_rfl) (.cons [] rfl (by kernel_rfl) ?_ .nil)
      obtain ⟨f9, hq1, hq2, hq3⟩ := gets_any _ hM (hxi1.gr hG.ext lR) hM.v (by have q := hSm.2.2.2 hat; rw [ei1] at q; exact q) hSm.1 hSm.2.1 (by show lenX yi1 ≤ _; have q := hSm.2.2.1; rw [ei1, lenX] at q; omega)
      refine At.invoke rfl hq1 hq2 rfl rfl hq3 (fun e9 w6 hR => ?_)
      obtain ⟨x3, rfl, hM, G5⟩ := hR; refine ⟨_, rfl, ?_⟩
      replace hG := hG.trans G5
      refine .ops0 (.wpcN .nil ?_)
      refine At.wpcE [10] (by kernel_rfl) (by kernel_rfl) (.cons [] rfl (by kernel_rfl) ?_ .nil)
      refine .assign rfl rfl (.ops0 (.wpcN .nil (.wpcZ (.thenN (.seq (.seq (.region (.move rfl rfl (.not rfl rfl (.ops0 (.thenN ?_)))))))))))
      refine At.cond (b := (!(getsF xi1 { s with st := (IntKind.i64.wrap (s.st + 1)), fr := yi1 } s.v).2)) rfl (fun hc4 => ?_) (fun hc4 => ?_)
      · skip
        refine .region (.move rfl rfl ?_)
        refine At.callM en33 rfl rfl (ends_any 4 _ hM ) (fun x4 w7 hM G6 => ?_)
        replace hG := hG.trans G6
        refine .ops0 (.thenN (.seq (.region (.assign rfl rfl (.ops0 (.thenN (.retc (.doneR (ResV.tmp rfl ResV.nil) ?_))))))))
        exact Pst.fin (by rw [stepF_fr hc1 hat ei1]; have e3 := bnot_t hc4; exact congrArg (fun q => (q, true)) (by rw [Option.getD_some, e3]; rfl)) hM hG
      · skip
        refine .skip (.thenN (.seq (.region (.assign rfl rfl (.ops0 (.thenN (.retc (.doneR (ResV.tmp rfl ResV.nil) ?_))))))))
        exact Pst.fin (by rw [stepF_fr hc1 hat ei1]; have e3 := bnot_f hc4; exact congrArg (fun q => (q, true)) (by rw [Option.getD_some, e3]; rfl)) hM hG
theorem runF_succ (i : Nat) (s : SS) : runF (i + 1) s = (stepF (runF i s)).getD (runF i s) := by
  induction i generalizing s with
  | zero => rw [runF, runF]; cases h : stepF s <;> rfl
  | succ i ih =>
    rw [runF]
    cases h : stepF s with
    | none => simp [runF, h]
    | some s' => simp only []; rw [ih, runF, h]
theorem runF_stop {i n : Nat} {s : SS} (h : stepF (runF i s) = none) (hn : i ≤ n) : runF n s = runF i s := by
  obtain ⟨k, rfl⟩ : ∃ k, n = i + k := ⟨n - i, by omega⟩
  clear hn
  induction k with
  | zero => rfl
  | succ k ih => rw [← Nat.add_assoc, runF_succ, ih, h]; rfl
theorem RAt.weak {M M' : List (Option Nat)} {w : World} {cs : List Value} {r : SR} (h : RAt M w cs r) (hM : ∀ q ∈ M', q ∈ M) : RAt M' w cs r := by
  obtain ⟨k, n, nm, kv, tv, e, ho, ht, hm⟩ := h
  exact ⟨k, n, nm, kv, tv, e, ho.weak hM, ht, fun hn he => hm hn (hM _ he)⟩
theorem Gr.newM {M M' : List (Option Nat)} {w w1 w2 : World} (hG : Gr [] w [] w1) (G : Gr M w1 M' w2) (hl : ∀ g, some g ∈ M → w.heap.size ≤ g) (g : Nat) (hg : some g ∈ M') : w.heap.size ≤ g := by
  apply Classical.byContradiction
  intro hn
  exact G.out (Nat.lt_of_lt_of_le (Nat.lt_of_not_le hn) hG.size) (fun hm => hn (hl g hm)) hg
theorem runR_end {i : Nat} {n : Int} {t : ST} {l : List Int} (h : n.toNat ≤ i ∨ stepF (runF i (startF t l)) = none) (hi : i ≤ n.toNat) : nowF (runF i (startF t l)) = runR t l n := by
  rcases h with h | h
  · rw [runR, Nat.le_antisymm h hi]
  · rw [runR, runF_stop h hi]
theorem en24 : entB Tryz.prog 24 = true := by kernel_rfl
theorem en25 : entB Tryz.prog 25 = true := by kernel_rfl
theorem en26 : entB Tryz.prog 26 = true := by kernel_rfl
theorem run_any {E : List (Option Nat)} {t : Tm} {v1 v2 vl : Value} {l : List Int} (fuel : Int) (w : World)  (h1 : v1.oneCell' = true) (h2 : v2.oneCell' = true) (ht : Xs kTm E w [t]) (hE : MLt w.heap.size E) (hi : IntsAt w vl l) (hl : l.length ≤ 1000000000000) (hf : fuel ≤ 1000000000) (hSm : ∀ i, i ≤ fuel.toNat → Sm (runF i (startF (shT t) l))) :
  Calls Tryz.prog 14 ([.agg (mx [v1, v2] t.cs []), vl, .int .i64 fuel] : List Value).toArray w fun r w' => ∃ cs : List Value, r = .returned (.agg cs.toArray) ∧ RAt E w' cs (runR (shT t) l fuel) ∧ Below w.heap.size w w' := by
 have hG := Gr.refl [] w
 refine At.enter (N := 23) Tryz.func14 rfl rfl (by simp) [(0, .agg (mx [v1, v2] t.cs [])), (1, vl), (2, .int .i64 fuel)] (by simp) ?_
 refine .seq (.region ?_)
 refine At.box rfl rfl (fun b1 w1 F1 => ?_)
 have hb1 : w1.heap[b1]? = some (.cells (mx [v1, v2] t.cs []) 38) := F1.new
 replace hG := hG.below F1.bel
 refine At.alloc ze49 rfl (fun b2 w2 F2 => ?_)
 have gb2 := F2.gq hG.size
 replace hb1 := F2.old hb1
 have hb2 : w2.heap[b2]? = some (.cells #[zI, zI, zI, zS, zN, zN, zI, zI] 49) := F2.new
 replace hG := hG.below F2.bel
 refine .ops0 (.thenN (.seq (.region (.load rfl (Ld.own ag38 (sz38.trans (congrArg some (mx_size (pre := [v1, v2]) (post := []) ht.one.size).symm)) hb1) rfl (.move rfl rfl ?_)))))
 have hG0 := hG
 have lb1 := lt_of_obj hb1
 have lb2 := lt_of_obj hb2
 refine At.call en24 rfl rfl (start_any (E := E) _ h1 h2 (ht.gr hG.any) (fun q hq => Nat.lt_of_lt_of_le (hE q hq) hG.size) (IntsAt.keep hi hG.base) hl) (fun e w3 hR => ?_)
 obtain ⟨b, x0, rfl, hS, hbl1, hgl⟩ := hR; refine ⟨_, rfl, ?_⟩
 replace hb1 := Below.old hbl1 hb1
 replace hb2 := Below.old hbl1 hb2
 replace hG := hG.below hbl1
 have hG1 := (Gr.refl [] w2).below hbl1
 refine .assign rfl rfl (.ops0 (.thenN (.seq (.seq (.region (.assign rfl rfl (.ops0 (.thenN (.block ?_)))))))))
 refine At.loop (Nat × Sx) (fun (i, x1) => [(2, .int .i64 fuel), (6, .pointer (some ⟨b2, 0, none⟩)), (7, .pointer (some ⟨b, 0, none⟩)), (8, .int .i64 (i : Int))]) (fun (i, x1) w4 => Gr [] w [] w4 ∧ w4.heap[b1]? = some (.cells (mx [v1, v2] t.cs []) 38) ∧ w4.heap[b2]? = some (.cells #[zI, zI, zI, zS, zN, zN, zI, zI] 49) ∧ StA E b x1 w4 (runF i (startF (shT t) l)) ∧ Gr [] w2 [] w4 ∧ (∀ g, some g ∈ x1.M b → w2.heap.size ≤ g) ∧ (i ≤ fuel.toNat)) (fun (i, x1) => fuel.toNat - i) (0, x0) (sC rfl (sC rfl (sC rfl (sC rfl sN)))) ⟨hG, hb1, hb2, (hS), (hG1), (hgl), (Nat.zero_le _)⟩ (fun gh w4 hI => ?_)
 obtain ⟨i, x1⟩ := gh
 obtain ⟨hG, hb1, hb2, hS, hG1, hgl, hib⟩ := hI
 show At _ _ [(2, .int .i64 fuel), (6, .pointer (some ⟨b2, 0, none⟩)), (7, .pointer (some ⟨b, 0, none⟩)), (8, .int .i64 (i : Int))] _ _
 refine .seq (.seq (.region (.move rfl rfl (.move rfl rfl (.lss rfl rfl rfl (.move rfl rfl ?_))))))
 refine At.cases (decide ((i : Int) < fuel)) (fun hg1 => ?_) (fun hg1 => ?_)
 ·skip
  refine .set (d := 15) (u := .bool true) rfl (congrArg Value.bool hg1) ?_
  have hg1' := of_decide_eq_true hg1
  refine .yes rfl rfl rfl rfl (.move rfl rfl (.yes rfl rfl rfl rfl ?_))
  refine At.call en25 rfl rfl (step_any _ hS (hSm i hib)) (fun e w5 hR => ?_)
  obtain ⟨x2, rfl, hS2, G1⟩ := hR; refine ⟨_, rfl, ?_⟩
  replace hG := hG.low G1 (fun g hg => Nat.le_trans hG0.size (hgl g hg)); have hgl2 := Gr.newM hG1 G1 hgl; replace hG1 := hG1.low G1 hgl; rw [← runF_succ] at hS2
  replace hb1 := G1.old (fun hm => absurd (hgl _ hm) (Nat.not_le.2 lb1)) hb1
  replace hb2 := G1.old (fun hm => absurd (hgl _ hm) (Nat.not_le.2 lb2)) hb2
  refine .pickT rfl rfl rfl (.ops0 (.thenN ?_))
  refine At.cond (b := (stepF (runF i (startF (shT t) l))).isSome) rfl (fun hc1 => ?_) (fun hc1 => ?_)
  ·skip
   refine .skip (.thenN (.seq (.block (.skip (.inN (.thenN (.region (.move rfl rfl (.addI rfl rfl rfl (by omega) (.assign rfl rfl (.ops0 (.thenN ?_))))))))))))
   exact fun act_ hact_ => ⟨((i + 1), x2), hact_.sub (sC rfl (sC rfl (sC rfl (sC rfl sN)))), ⟨hG, hb1, hb2, hS2, hG1, (hgl2), (by have := of_decide_eq_true hg1; omega)⟩, by first | (have := of_decide_eq_true hg1; dsimp only; omega) | (have := of_decide_eq_true hc2; dsimp only; omega)⟩
  refine .exit (.thenE (.thenE (.inE (.thenN (.seq (.region (.move rfl rfl ?_)))))))
  have hno : stepF (runF i (startF (shT t) l)) = none := by cases hq : stepF (runF i (startF (shT t) l)) with | none => rfl | some z => rw [hq] at hc1; cases hc1
  rw [runF_succ, hno] at hS2; replace hS2 : StA E b x2 _ (runF i (startF (shT t) l)) := hS2
  refine At.call en26 rfl rfl (now_any (some b2 :: E) _ hS2 (fun q hq => by rcases List.mem_cons.1 hq with e | e; cases e; exact lt_of_obj hb2; exact Nat.lt_of_lt_of_le (hE q e) hG.size) (hSm i hib).1) (fun e w6 hR => ?_)
  obtain ⟨cs, rfl, hra, hbl2⟩ := hR; refine ⟨_, rfl, ?_⟩
  replace hb2 := Below.old hbl2 hb2
  replace hG := hG.below hbl2
  rw [runR_end (n := fuel) (.inr hno) hib] at hra; obtain ⟨rk, rn, rnm, rkv, rtv, rfl, ho, htv, htm⟩ := hra
  refine At.storeAll rfl rfl hb2 sz49 rfl (by first | (simp [Value.oneCell', ho.one, htv.ok.one]; done) | (simp only [List.all_toArray, List.all_cons, List.all_nil, ho.one, htv.ok.one, Bool.and_true, Bool.true_and] <;> rfl)) (fun w7 S1 => ?_)
  replace hb2 : w7.heap[b2]? = some (.cells #[.int .i64 ((runR (shT t) l fuel).ok), .int .i64 rk, .int .i64 rn, .string rnm, rkv, rtv, .int .i64 ((runR (shT t) l fuel).st), .int .i64 ((runR (shT t) l fuel).kn)] 49) := S1.new
  replace hG := hG.set S1 (.inr gb2)
  refine .ops0 (.thenN (.retc (.doneR (ResV.cell rfl (Ld.own (C := #[.int .i64 ((runR (shT t) l fuel).ok), .int .i64 rk, .int .i64 rn, .string rnm, rkv, rtv, .int .i64 ((runR (shT t) l fuel).st), .int .i64 ((runR (shT t) l fuel).kn)]) ag49 sz49 hb2) ResV.nil) ?_)))
  exact ⟨_, rfl, RAt.weak (M := some b2 :: E) (RAt.gr (w := w6) ⟨rk, rn, rnm, rkv, rtv, rfl, ho, htv, htm⟩ ((Gr.refl _ _).set S1 (.inl (by simp)))) (fun q hq => List.mem_cons_of_mem _ hq), hG.base⟩
 refine .set (d := 15) (u := .bool false) rfl (congrArg Value.bool hg1) ?_
 have hg1' := of_decide_eq_false hg1
 refine .no rfl rfl rfl rfl rfl rfl rfl (.no rfl rfl rfl rfl rfl rfl rfl (.pickF rfl rfl rfl (.ops0 (.thenN (.condF rfl (.exit (.thenE (.thenE (.inE (.thenN (.seq (.region (.move rfl rfl ?_)))))))))))))
 refine At.call en26 rfl rfl (now_any (some b2 :: E) _ hS (fun q hq => by rcases List.mem_cons.1 hq with e | e; cases e; exact lt_of_obj hb2; exact Nat.lt_of_lt_of_le (hE q e) hG.size) (hSm i hib).1) (fun e w8 hR => ?_)
 obtain ⟨cs, rfl, hra, hbl3⟩ := hR; refine ⟨_, rfl, ?_⟩
 replace hb2 := Below.old hbl3 hb2
 replace hG := hG.below hbl3
 rw [runR_end (n := fuel) (.inl (by have := of_decide_eq_false hg1; omega)) hib] at hra; obtain ⟨rk, rn, rnm, rkv, rtv, rfl, ho, htv, htm⟩ := hra
 refine At.storeAll rfl rfl hb2 sz49 rfl (by first | (simp [Value.oneCell', ho.one, htv.ok.one]; done) | (simp only [List.all_toArray, List.all_cons, List.all_nil, ho.one, htv.ok.one, Bool.and_true, Bool.true_and] <;> rfl)) (fun w9 S2 => ?_)
 replace hb2 : w9.heap[b2]? = some (.cells #[.int .i64 ((runR (shT t) l fuel).ok), .int .i64 rk, .int .i64 rn, .string rnm, rkv, rtv, .int .i64 ((runR (shT t) l fuel).st), .int .i64 ((runR (shT t) l fuel).kn)] 49) := S2.new
 replace hG := hG.set S2 (.inr gb2)
 refine .ops0 (.thenN (.retc (.doneR (ResV.cell rfl (Ld.own (C := #[.int .i64 ((runR (shT t) l fuel).ok), .int .i64 rk, .int .i64 rn, .string rnm, rkv, rtv, .int .i64 ((runR (shT t) l fuel).st), .int .i64 ((runR (shT t) l fuel).kn)]) ag49 sz49 hb2) ResV.nil) ?_)))
 exact ⟨_, rfl, RAt.weak (M := some b2 :: E) (RAt.gr (w := w8) ⟨rk, rn, rnm, rkv, rtv, rfl, ho, htv, htm⟩ ((Gr.refl _ _).set S2 (.inl (by simp)))) (fun q hq => List.mem_cons_of_mem _ hq), hG.base⟩
def smF : Nat → SS → Prop
  | 0, s => Sm s
  | n + 1, s => Sm s ∧ ∀ s', stepF s = some s' → smF n s'
theorem smF_all {n : Nat} {s : SS} (h : smF n s) {i : Nat} (hi : i ≤ n) : Sm (runF i s) := by
  induction n generalizing s i with
  | zero => rw [Nat.le_zero.1 hi]; exact h
  | succ n ih =>
    cases i with
    | zero => exact h.1
    | succ i =>
      rw [runF]
      cases hs : stepF s with
      | none => exact h.1
      | some s' => exact ih (h.2 s' hs) (by omega)
structure Me where
  cells : List X
  inp : List Int
  tr : List Int
  kn : Int
def sT (t : ST) (e fr : X) (m : Me) (v : X) (c : Int) : SS := ⟨t, e, true, v, fr, m.cells, m.inp, 0, m.tr, c, m.kn⟩
def sV (v fr : X) (m : Me) (t : ST) (e : X) (c : Int) : SS := ⟨t, e, false, v, fr, m.cells, m.inp, 0, m.tr, c, m.kn⟩
def Q (P : SR → Prop) (n : Nat) (s : SS) : Prop := smF n s ∧ P (nowF (runF n s))
def QT (P : SR → Prop) (n : Nat) (t : ST) (e fr : X) (m : Me) : Prop := ∀ v c, Q P n (sT t e fr m v c)
def QV (P : SR → Prop) (n : Nat) (v fr : X) (m : Me) : Prop := ∀ t e c, Q P n (sV v fr m t e c)
def Bd (fr : X) (m : Me) : Prop := m.tr.length ≤ 1000000000000 ∧ m.cells.length ≤ 1000000000000 ∧ lenX fr ≤ 1000000000000
section
variable {P : SR → Prop} {n : Nat} {s s' : SS} {t : ST} {e fr v : X} {m : Me}
theorem Q.step (h : Sm s) (hs : stepF s = some s') (k : Q P n s') : Q P (n + 1) s :=
  ⟨⟨h, fun s2 h2 => by rw [hs] at h2; cases h2; exact k.1⟩, by rw [runF, hs]; exact k.2⟩
theorem Q.stop (h : Sm s) (hs : stepF s = none) (k : P (nowF s)) : Q P n s := by
  have e : runF n s = s := runF_stop (i := 0) hs (Nat.zero_le n)
  refine ⟨?_, by rw [e]; exact k⟩
  cases n with
  | zero => exact h
  | succ n => exact ⟨h, fun s2 h2 => by rw [hs] at h2; cases h2⟩
theorem Bd.tt (h : Bd fr m) {c : Int} : Sm (sT t e fr m v c) := ⟨h.1, h.2.1, h.2.2, fun h => by cases h⟩
theorem Bd.vv (h : Bd fr m) (ht : topOk fr) {c : Int} : Sm (sV v fr m t e c) := ⟨h.1, h.2.1, h.2.2, fun _ => ht⟩
end
abbrev wc (c : Int) : Int := IntKind.i64.wrap (c + 1)
abbrev tI (j : Int) : ST := .mk 2 0 eB eB j [] []
abbrev tU : ST := .mk 4 0 eB eB 0 [] []
abbrev tVar (nm : ByteArray) : ST := .mk 1 0 nm eB 0 [] []
abbrev tOp (nm : ByteArray) (ks : List ST) : ST := .mk 10 0 nm eB 0 ks []
abbrev tDo (nm : ByteArray) (a : ST) : ST := .mk 13 0 nm eB 0 [a] []
abbrev tApp (f a : ST) : ST := .mk 6 0 eB eB 0 [f, a] []
abbrev tHan (nm : ByteArray) (a : ST) (arms : List SA) : ST := .mk 14 0 nm eB 0 [a] arms
section
variable {P : SR → Prop} {n : Nat} {j j2 : Int} {nm : ByteArray} {a b f : ST} {e fr v u : X} {m : Me} {arms : List SA}
theorem QT.int (hb : Bd fr m) (k : QV P n (vI j) fr m) : QT P (n + 1) (tI j) e fr m := fun v c => .step hb.tt (by kernel_rfl) (k (tI j) e (wc c))
theorem QT.unit (hb : Bd fr m) (k : QV P n vU fr m) : QT P (n + 1) tU e fr m := fun v c => .step hb.tt (by kernel_rfl) (k tU e (wc c))
theorem QT.var (h : findX nm e = some u) (hb : Bd fr m) (k : QV P n u fr m) : QT P (n + 1) (tVar nm) e fr m := fun v c =>
  .step (s' := sV u fr m (tVar nm) e (IntKind.i64.wrap (c + 1))) hb.tt (by
    rw [stepF_at rfl rfl]
    have e1 : looksF { sT (tVar nm) e fr m v c with st := IntKind.i64.wrap (c + 1) } = (sV u fr m (tVar nm) e (IntKind.i64.wrap (c + 1)), true) := by
      show (match findX nm e with | some v' => _ | none => _ : R) = _
      rw [h]; rfl
    exact congrArg (fun q : R => some (bif q.2 then q.1 else q.1.ends 4)) e1) (k _ _ _)
theorem QT.app (hb : Bd fr m) (k : QT P n f e (.s (.arg a e) fr) m) : QT P (n + 1) (tApp f a) e fr m := fun v c => .step hb.tt (by kernel_rfl) (k v (wc c))
theorem QT.do_ (hb : Bd fr m) (k : QT P n a e (.s (.ask nm) fr) m) : QT P (n + 1) (tDo nm a) e fr m := fun v c => .step hb.tt (by kernel_rfl) (k v (wc c))
theorem QT.han (hb : Bd fr m) (k : QT P n a e (.s (.hnd arms e) fr) m) : QT P (n + 1) (tHan nm a arms) e fr m := fun v c => .step hb.tt (by kernel_rfl) (k v (wc c))
theorem QT.op2 (hb : Bd fr m) (k : QT P n a e (.s (.gat (tOp nm [a, b]) [] e) fr) m) : QT P (n + 1) (tOp nm [a, b]) e fr m := fun v c => .step hb.tt (by kernel_rfl) (k v (wc c))
abbrev nmGet : ByteArray := ⟨#[33]⟩
abbrev nmSet : ByteArray := ⟨#[58, 61]⟩
abbrev nmAdd : ByteArray := ⟨#[43]⟩
theorem QV.bnd (hb : Bd (.s (.bnd nm b e) fr) m) (k : QT P n b (.e nm v e) fr m) : QV P (n + 1) v (.s (.bnd nm b e) fr) m := fun t e9 c => .step (hb.vv trivial) (by kernel_rfl) (k v (wc c))
theorem QV.arg (hb : Bd (.s (.arg a e) fr) m) (k : QT P n a e (.s (.fn v) fr) m) : QV P (n + 1) v (.s (.arg a e) fr) m := fun t e9 c => .step (hb.vv trivial) (by kernel_rfl) (k v (wc c))
theorem QV.fnK {top r : X} (hb : Bd (.s (.fn (vK (.s top r))) fr) m) (hl : lenX (.s top r) ≤ 1000000000000) (k : QV P n v (appX (.s top r) fr) m) : QV P (n + 1) v (.s (.fn (vK (.s top r))) fr) m := fun t e9 c => .step (hb.vv hl) (by kernel_rfl) (k t e9 (wc c))
theorem QV.next (hb : Bd (.s (.gat (tOp nm [a, b]) [] e) fr) m) (k : QT P n b e (.s (.gat (tOp nm [a, b]) [v] e) fr) m) : QV P (n + 1) v (.s (.gat (tOp nm [a, b]) [] e) fr) m := fun t e9 c => .step (hb.vv (Nat.zero_le _)) (by kernel_rfl) (k v (wc c))
theorem QV.add (hb : Bd (.s (.gat (tOp nmAdd [a, b]) [vI j] e) fr) m) (k : QV P n (vI (IntKind.i64.wrap (j + j2))) fr m) : QV P (n + 1) (vI j2) (.s (.gat (tOp nmAdd [a, b]) [vI j] e) fr) m := fun t e9 c => .step (hb.vv (by simp [topOk, frOk])) (by kernel_rfl) (k t e9 (wc c))
theorem QV.get {cells : List X} {inp tr : List Int} {kn : Int} (hb : Bd (.s (.gat (tOp nmGet [a]) [] e) fr) ⟨cells, inp, tr, kn⟩) (k : QV P n (cells.getD j.toNat .nil) fr ⟨cells, inp, tr, kn⟩) : QV P (n + 1) (vR j) (.s (.gat (tOp nmGet [a]) [] e) fr) ⟨cells, inp, tr, kn⟩ := fun t e9 c => .step (hb.vv (Nat.zero_le _)) (by kernel_rfl) (k t e9 (wc c))
theorem QV.set {cells : List X} {inp tr : List Int} {kn : Int} (hb : Bd (.s (.gat (tOp nmSet [a, b]) [vR j] e) fr) ⟨cells, inp, tr, kn⟩) (k : QV P n vU fr ⟨cells.set j.toNat v, inp, tr, kn⟩) : QV P (n + 1) v (.s (.gat (tOp nmSet [a, b]) [vR j] e) fr) ⟨cells, inp, tr, kn⟩ := fun t e9 c => .step (hb.vv (by simp [topOk, frOk])) (by kernel_rfl) (k t e9 (wc c))
theorem QV.hnd {x : ByteArray} {xs : List ByteArray} {nm2 : ByteArray} (hb : Bd (.s (.hnd (.mk nm2 (x :: xs) b :: arms) e) fr) m) (k : QT P n b (.e x v e) fr m) : QV P (n + 1) v (.s (.hnd (.mk nm2 (x :: xs) b :: arms) e) fr) m := fun t e9 c => .step (hb.vv trivial) (by kernel_rfl) (k v (wc c))
theorem QV.ask {l : List X} {x1 x2 nm2 : ByteArray} {e2 r : X} {cells : List X} {inp tr : List Int} {kn : Int} (h : askF nm fr [] = some (l, .mk nm2 [x1, x2] b, e2, r)) (hb : Bd (.s (.ask nm) fr) ⟨cells, inp, tr, kn⟩) (k : QT P n b (.e x2 (vK (stk l .nil)) (.e x1 v e2)) r ⟨cells, inp, tr, IntKind.i64.wrap (kn + 1)⟩) :
    QV P (n + 1) v (.s (.ask nm) fr) ⟨cells, inp, tr, kn⟩ := fun t e c =>
  .step (s' := sT b (.e x2 (vK (stk l .nil)) (.e x1 v e2)) r ⟨cells, inp, tr, IntKind.i64.wrap (kn + 1)⟩ v (IntKind.i64.wrap (c + 1))) (hb.vv trivial) (by
    rw [stepF_fr (f := .ask nm) (r := fr) rfl rfl rfl]
    have e1 : getsF (.ask nm) { sV v (.s (.ask nm) fr) ⟨cells, inp, tr, kn⟩ t e c with st := IntKind.i64.wrap (c + 1), fr := fr } v = (sT b (.e x2 (vK (stk l .nil)) (.e x1 v e2)) r ⟨cells, inp, tr, IntKind.i64.wrap (kn + 1)⟩ v (IntKind.i64.wrap (c + 1)), true) := by
      simp only [getsF]; rw [show askF nm fr [] = _ from h]; rfl
    exact congrArg (fun q : R => some (bif q.2 then q.1 else q.1.ends 4)) e1) (k _ _)
theorem QV.end_ (hb : Bd .nil m) (k : ∀ c, P ⟨1, shwX v, m.tr, c, m.kn⟩) : QV P n v .nil m := fun _ _ _ => .stop (hb.vv trivial) (by kernel_rfl) (k _)
end
theorem Bd.of {fr : X} {m : Me} (h1 : m.tr.length ≤ 1000000) (h2 : m.cells.length ≤ 1000000) (h3 : lenX fr ≤ 1000000) : Bd fr m := ⟨by omega, by omega, by omega⟩
theorem QT.start {P : SR → Prop} {N : Nat} {t : ST} {inp : List Int} (h : QT P N t .nil .nil ⟨[], inp, [], 0⟩) {n : Int} (hn : n.toNat = N) : (∀ i, i ≤ n.toNat → Sm (runF i (startF t inp))) ∧ P (runR t inp n) := by
  subst hn
  exact ⟨fun i hi => smF_all (h (.v 0 0 eB [] .nil .nil) 0).1 hi, (h (.v 0 0 eB [] .nil .nil) 0).2⟩
def smC (s : SS) : Bool := decide (s.tr.length ≤ 1000) && decide (s.cells.length ≤ 1000) && decide (lenX s.fr ≤ 1000) && (s.at_ || (match s.fr with | .s (.gat _ done _) _ => decide (done.length ≤ 1000) | .s (.fn (.v _ _ _ _ _ st)) _ => decide (lenX st ≤ 1000) | _ => true))
def smR : Nat → SS → Bool
  | 0, s => smC s
  | n + 1, s => smC s && (match stepF s with | some s => smR n s | none => true)
theorem smC_ok {s : SS} (h : smC s = true) : Sm s := by
  simp only [smC, Bool.and_eq_true, decide_eq_true_eq] at h
  obtain ⟨⟨⟨h1, h2⟩, h3⟩, h4⟩ := h
  refine ⟨by omega, by omega, by omega, fun ha => ?_⟩
  rw [ha, Bool.false_or] at h4
  unfold topOk
  split
  · next f r e =>
    rw [e] at h4
    cases f <;> first | trivial | skip
    case gat t d e2 => have := of_decide_eq_true h4; show d.length ≤ _; omega
    case fn g => cases g <;> first | trivial | (have := of_decide_eq_true h4; show lenX _ ≤ _; omega)
  · trivial
theorem smR_ok {n : Nat} {s : SS} (h : smR n s = true) : smF n s := by
  induction n generalizing s with
  | zero => exact smC_ok h
  | succ n ih =>
    have h' := Bool.and_eq_true_iff.mp h
    refine ⟨smC_ok h'.1, fun s2 h2 => ih ?_⟩
    have q := h'.2
    rw [h2] at q; exact q
def shB1 : List UInt8 := [104, 97, 110, 100, 108, 101, 32, 69, 32, 40, 103, 101, 116, 33, 40, 41, 41, 32, 123, 32, 114, 101, 116, 117, 114, 110, 32, 120, 32, 45, 62, 32, 120, 59, 32, 103, 101, 116, 32, 97, 32, 107, 32, 45, 62, 32, 107, 32, 49, 32, 43, 32, 107, 32, 50, 32, 125]
def shB2 : List UInt8 := [108, 101, 116, 32, 95, 32, 61, 32, 112, 114, 105, 110, 116, 32, 55, 32, 105, 110, 32, 49, 32, 47, 32, 48]
def shB3 : List UInt8 := [114, 101, 97, 100, 32, 40, 41]
def shB4 : List UInt8 := [103, 101, 116, 33, 40, 41]
def shT' (l : List UInt8) : ST := ((parseR l).1.getD zP).body
def shQ (l : List UInt8) (q : SR → Bool) : Prop := (∀ i, i ≤ (100 : Int).toNat → Sm (runF i (startF (shT' l) []))) ∧ q (runR (shT' l) [] 100) = true
theorem shQ_of {l : List UInt8} {q : SR → Bool} (h : (smR 100 (startF (shT' l) []) && q (runR (shT' l) [] 100)) = true) : shQ l q :=
  have h' := Bool.and_eq_true_iff.mp h
  ⟨fun _ hi => smF_all (smR_ok h'.1) hi, h'.2⟩
def ovN : OV → Int | .mk _ n _ _ => n
theorem sh1 : shQ shB1 fun r => decide (r.ok = 1) && decide (ovN r.v = 3) && decide (r.kn = 1) := shQ_of (by kernel_rfl)
theorem sh2 : shQ shB2 fun r => decide (r.ok = 2) && decide (r.tr = [7]) := shQ_of (by kernel_rfl)
theorem sh3 : shQ shB3 fun r => decide (r.ok = 3) && decide (r.st = 1) := shQ_of (by kernel_rfl)
theorem sh4 : shQ shB4 fun r => decide (r.ok = 4) := shQ_of (by kernel_rfl)
def TT (M : List (Option Nat)) (w : World) (t : Tm) (x : ST) : Prop := Xs kTm M w [t] ∧ shT t = x
def TL (M : List (Option Nat)) (w : World) (v : Value) (xs : List ST) : Prop := ∃ ks : List Tm, RowsAt w v 21 (ks.map Tm.cs) ∧ Xs kTm M w ks ∧ (ks ≠ [] → some (vBlock v) ∉ M) ∧ ks.map shT = xs
def TS (M : List (Option Nat)) (w : World) (v : Value) (l : List ByteArray) : Prop := StrsAt w v l ∧ (l ≠ [] → some (vBlock v) ∉ M)
def TA (M : List (Option Nat)) (w : World) (a : Am) (y : SA) : Prop := Xs kAm M w [a] ∧ shAm a = y
def TAL (M : List (Option Nat)) (w : World) (v : Value) (ys : List SA) : Prop := ∃ ms : List Am, RowsAt w v 23 (ms.map Am.cs) ∧ Xs kAm M w ms ∧ (ms ≠ [] → some (vBlock v) ∉ M) ∧ ms.map shAm = ys
def TI (M : List (Option Nat)) (w : World) (v : Value) (l : List Int) : Prop := IntsAt w v l ∧ (l ≠ [] → some (vBlock v) ∉ M)
def TO (M : List (Option Nat)) (w : World) (k n : Int) (nm : ByteArray) (kv : Value) (y : OV) : Prop := OAt M w (V4 k n nm kv) y
section
variable {M M' : List (Option Nat)} {w w' : World} {t : Tm} {a : Am} {v : Value}
theorem TT.gr {x : ST} (h : TT M w t x) (hG : Gr M w M' w') (_ : 0 ≤ 0) : TT M' w' t x := ⟨h.1.gr hG, h.2⟩
theorem TL.gr {xs : List ST} (h : TL M w v xs) (hG : Gr M w M' w') (_ : 0 ≤ 0) : TL M' w' v xs := by
  obtain ⟨ks, h1, h2, h3, h4⟩ := h
  exact ⟨ks, h1.gr hG (fun q => h3 (map_ne q)), h2.gr hG, fun q => hG.out (h1.blkLt (by decide) q) (h3 q), h4⟩
theorem TS.gr {l : List ByteArray} (h : TS M w v l) (hG : Gr M w M' w') (_ : 0 ≤ 0) : TS M' w' v l :=
  ⟨h.1.gr hG (fun q => h.2 (map_ne q)), fun q => hG.out (h.1.blkLt (by decide) q) (h.2 q)⟩
theorem TAL.gr {ys : List SA} (h : TAL M w v ys) (hG : Gr M w M' w') (_ : 0 ≤ 0) : TAL M' w' v ys := by
  obtain ⟨ks, h1, h2, h3, h4⟩ := h
  exact ⟨ks, h1.gr hG (fun q => h3 (map_ne q)), h2.gr hG, fun q => hG.out (h1.blkLt (by decide) q) (h3 q), h4⟩
theorem TA.gr {y : SA} (h : TA M w a y) (hG : Gr M w M' w') (_ : 0 ≤ 0) : TA M' w' a y := ⟨h.1.gr hG, h.2⟩
theorem TI.gr {l : List Int} (h : TI M w v l) (hG : Gr M w M' w') (_ : 0 ≤ 0) : TI M' w' v l := ⟨RowsAt.gr h.1 hG fun hn => h.2 (map_ne hn), fun hn => hG.out (RowsAt.blkLt h.1 (by decide) hn) (h.2 hn)⟩
theorem TO.gr {k n : Int} {nm : ByteArray} {kv : Value} {y : OV} (h : TO M w k n nm kv y) (hG : Gr M w M' w') (_ : 0 ≤ 0) : TO M' w' k n nm kv y := OAt.gr h hG
theorem TT.weak {x : ST} (h : TT M w t x) (hM : ∀ q ∈ M', q ∈ M) : TT M' w t x := ⟨h.1.weaken hM, h.2⟩
theorem TL.nil : TL M w (.slice none 0 0) [] := ⟨[], RowsAt.nil _ _, Xs.nil _ _ _, fun h => absurd rfl h, rfl⟩
theorem TAL.nil : TAL M w (.slice none 0 0) [] := ⟨[], RowsAt.nil _ _, Xs.nil _ _ _, fun h => absurd rfl h, rfl⟩
theorem shT_made {k a' n : Int} {nm pm : ByteArray} {kv av : Value} {ks : List Tm} {ms : List Am} : shT (tmA k a' nm pm n kv ks av ms) = .mk k a' nm pm n (ks.map shT) (ms.map shAm) := by
  rw [tmA, shT, shL_map]; congr 1
  induction ms with
  | nil => rfl
  | cons a r ih => cases a; rw [shA, ih]; rfl
theorem TT.made (k a' : Int) (nm pm : ByteArray) (n : Int) {kv av : Value} {xs : List ST} {ys : List SA} (hk : TL M w kv xs) (ha : TAL M w av ys) : ∃ t : Tm, tmC k a' nm pm n kv av = t.cs ∧ TT M w t (.mk k a' nm pm n xs ys) := by
  obtain ⟨ks, h1, h2, h3, h4⟩ := hk
  obtain ⟨ms, g1, g2, g3, g4⟩ := ha
  exact ⟨tmA k a' nm pm n kv ks av ms, rfl, Xs.mkT h2 g2 h1 g1 h3 g3, by rw [shT_made, h4, g4]⟩
theorem TA.made (nm : ByteArray) {vv : Value} {l : List ByteArray} {x : ST} (ht : TT M w t x) (hs : TS M w vv l) : ∃ a : Am, mx [.string nm, vv] t.cs [] = a.cs ∧ TA M w a (.mk nm l x) :=
  ⟨amA nm vv l t, by simp [mx, amA, Am.cs], Xs.mkA ht.1 hs.1 hs.2, by rw [← ht.2]; rfl⟩
theorem MLt.out {b : Nat} {o : Obj} (h : MLt w.heap.size M) (F : Fresh w w' b o) : some b ∉ M := fun e => by have := h b e; have := F.eq; omega
theorem TL.one {b : Nat} {T : TypeId} {fr : Nat × Nat} {x : ST} (ht : TT M w t x) (F : Fresh w w' b (.cells (([.agg t.cs] : List Value).flatMap fun v => v.cells.toList).toArray T fr)) (hM : MLt w.heap.size M) : TL M w' (.slice (some ⟨b, 0, none⟩) 1 1) [x] := by
  have h := ht.gr (Gr.of F.bel M) lR
  exact ⟨[t], rows_tm (ks := [t]) F.new (fun u hu => by rw [List.mem_singleton.1 hu]; exact h.1.one) rfl (by decide), h.1, fun _ => hM.out F, by rw [← ht.2]; rfl⟩
theorem TL.two {b : Nat} {T : TypeId} {fr : Nat × Nat} {t2 : Tm} {x y : ST} (ht : TT M w t x) (hu : TT M w t2 y) (F : Fresh w w' b (.cells (([.agg t.cs, .agg t2.cs] : List Value).flatMap fun v => v.cells.toList).toArray T fr)) (hM : MLt w.heap.size M) : TL M w' (.slice (some ⟨b, 0, none⟩) 2 2) [x, y] := by
  have h := ht.gr (Gr.of F.bel M) lR
  have k := hu.gr (Gr.of F.bel M) lR
  exact ⟨[t, t2], rows_tm (ks := [t, t2]) F.new (mem2 h.1.one k.1.one) rfl (by decide), Xs.cons h.1 k.1, fun _ => hM.out F, by rw [← ht.2, ← hu.2]; rfl⟩
theorem TAL.two {b : Nat} {T : TypeId} {fr : Nat × Nat} {a2 : Am} {x y : SA} (ht : TA M w a x) (hu : TA M w a2 y) (F : Fresh w w' b (.cells (([.agg a.cs, .agg a2.cs] : List Value).flatMap fun v => v.cells.toList).toArray T fr)) (hM : MLt w.heap.size M) : TAL M w' (.slice (some ⟨b, 0, none⟩) 2 2) [x, y] := by
  have h := ht.gr (Gr.of F.bel M) lR
  have k := hu.gr (Gr.of F.bel M) lR
  exact ⟨[a, a2], RowsAt.own (rows := [a, a2].map Am.cs) F.new (by intro r hr; obtain ⟨u, hu, rfl⟩ := List.mem_map.1 hr; exact (mem2 (Q := fun u : Am => u.cs.size = 23) h.1.one.c.size k.1.one.c.size) u hu) rfl lR (by decide), Xs.cons h.1 k.1, fun _ => hM.out F, by rw [← ht.2, ← hu.2]; rfl⟩
end
def sr1 : SR := runR (shT' shB1) [] 100
def sr2 : SR := runR (shT' shB2) [] 100
def sr3 : SR := runR (shT' shB3) [] 100
def sr4 : SR := runR (shT' shB4) [] 100
theorem sr1_is : sr1.ok = 1 ∧ ovN sr1.v = 3 ∧ sr1.kn = 1 := by have h := sh1.2; simp only [Bool.and_eq_true, decide_eq_true_eq] at h; exact ⟨h.1.1, h.1.2, h.2⟩
theorem sr2_is : sr2.ok = 2 ∧ sr2.tr = [7] := by have h := sh2.2; simp only [Bool.and_eq_true, decide_eq_true_eq] at h; exact h
theorem sr3_is : sr3.ok = 3 ∧ sr3.st = 1 := by have h := sh3.2; simp only [Bool.and_eq_true, decide_eq_true_eq] at h; exact h
theorem sr4_is : sr4.ok = 4 := of_decide_eq_true sh4.2
theorem OAt.n {M : List (Option Nat)} {w : World} {k n : Int} {nm : ByteArray} {kv : Value} {y : OV} (h : OAt M w (V4 k n nm kv) y) : ovN y = n := by
  cases h with
  | mk rows hr hm hk => rfl
theorem PrOk.mx {w : World} {p : Pr} (h : PrOk w p) : p.cs = Go.Proofs.YtfoolfecjjngpaaGreat.mx [p.ev, p.dv] p.body.cs [] := by
  apply Array.ext
  · rw [h.size, mx_size h.bodyOk.size]; rfl
  · intro i h1 h2
    apply Option.some.inj
    rw [← Array.getElem?_eq_getElem h1, ← Array.getElem?_eq_getElem h2]
    match i, h1 with
    | 0, _ => rw [h.c0]; exact (mx_pre rfl).symm
    | 1, _ => rw [h.c1]; exact (mx_pre rfl).symm
    | i + 2, h1 =>
      have hi : i < 21 := by have := h.size; omega
      have e : p.body.cs[i]? = p.cs[i + 2]? := by rw [← h.bodyCs, Array.getElem?_extract]; simp [hi, Nat.add_comm]; intro hh; omega
      rw [← e, Array.getElem?_eq_getElem (by rw [h.bodyOk.size]; exact hi)]
      exact (mx_in (j := i) (by simp; omega) (Array.getElem?_eq_getElem _)).symm
theorem PrOk.ones {w : World} {p : Pr} (h : PrOk w p) : p.ev.oneCell' = true ∧ p.dv.oneCell' = true := ⟨h.effsAt.ok.one, h.datsAt.ok.one⟩
theorem TI.ofOwn {w : World} {v : Value} {l : List Int} {M : List (Option Nat)} (h : Own w 3 1 v l.length (l.map (Value.int .i64))) (hb : ∀ g, v.ownBlock = some g → some g ∉ M) : TI M w v l := ⟨IntsAt.ofOwn h, IntsAt.out h hb⟩
theorem TI.take {w : World} {v : Value} {l : List Int} {n : Nat} (h : IntsAt w v l) (hn : n ≤ l.length) : IntsAt w (takeV v n) (l.take n) := rows_take h hn
theorem TO.is {M : List (Option Nat)} {w : World} {k n k' n' : Int} {nm nm' : ByteArray} {kv : Value} {l : List OV} (h : TO M w k n nm kv (.mk k' n' nm' l)) :
    k = k' ∧ n = n' ∧ nm = nm' ∧ ∃ rows : List (List Value × OV), RowsAt w kv 4 (rows.map fun p => p.1.toArray) ∧ rows.map Prod.snd = l ∧ ∀ p ∈ rows, ∃ k2 n2 nm2 kv2, p.1 = V4 k2 n2 nm2 kv2 ∧ TO M w k2 n2 nm2 kv2 p.2 := by
  cases h with
  | mk rows hr hm hk => exact ⟨rfl, rfl, rfl, rows, hr, rfl, fun p hp => by
      have h2 := hk p hp
      obtain ⟨cs, y⟩ := p
      cases h2 with
      | mk rows' hr' hm' hk' => exact ⟨_, _, _, _, rfl, .mk rows' hr' hm' hk'⟩⟩
theorem numL_any {M : List (Option Nat)} {nc : Nat} (n : Int) (w : World) (hMl : MLt w.heap.size M)  :
  Calls Tryz.prog 20 ([.int .i64 n] : List Value).toArray w fun r w' => ∃ t : Tm, r = .returned (.agg t.cs) ∧ TT M w' t (tI n) ∧ Below w.heap.size w w' := by
 have hG := Gr.refl [] w
 refine At.enter (N := 5) Tryz.func20 rfl rfl (by simp) [(0, .int .i64 n)] (by simp) ?_
 refine .seq (.region ?_)
 refine At.alloc ze31 rfl (fun b1 w1 F1 => ?_)
 have gb1 := F1.gq hG.size
 have hb1 : w1.heap[b1]? = some (.cells #[zI, zI, zS, zS, zI, zN, zN, zI, zS, zI, zN, zN, zI, zN, zI, zI, zS, zI, zN, zN, zI] 31) := F1.new
 replace hG := hG.below F1.bel
 refine .ops0 (.thenN (.seq (.region (.move rfl rfl (.build (C := #[.int .i64 2, zI, zS, zS, .int .i64 n, zN, zN, zI, zS, zI, zN, zN, zI, zN, zI, zI, zS, zI, zN, zN, zI]) sd31 ze31 rfl (Bld.cons fo31_0 rfl (lB rfl) (Bld.cons fo31_4 rfl (lB rfl) (Bld.nil _))) rfl ?_)))))
 obtain ⟨q1, et1, hT1⟩ := TT.made (M := (some b1 :: M)) (w := w1) 2 0 eB eB n TL.nil TAL.nil
 refine .set (d := 4) (u := .agg q1.cs) rfl (congrArg Value.agg et1) ?_
 refine At.storeAll rfl rfl hb1 (sz31.trans (congrArg some hT1.1.one.size.symm)) hT1.1.one.size.symm hT1.1.one.one (fun w2 S1 => ?_)
 replace hb1 : w2.heap[b1]? = some (.cells q1.cs 31) := S1.new
 replace hG := hG.set S1 (.inr gb1)
 replace hT1 := hT1.gr ((Gr.refl _ _).set S1 (.inl (by simp))) lR
 refine .ops0 (.thenN (.retc (.doneR (ResV.cell rfl (Ld.own ag31 (sz31.trans (congrArg some hT1.1.one.size.symm)) hb1) ResV.nil) ?_)))
 exact ⟨q1, rfl, hT1.weak (fun q hq => by simp [hq]), hG.base⟩
theorem varL_any {M : List (Option Nat)} {nc : Nat} (nm : ByteArray) (w : World) (hMl : MLt w.heap.size M)  :
  Calls Tryz.prog 19 ([.string nm] : List Value).toArray w fun r w' => ∃ t : Tm, r = .returned (.agg t.cs) ∧ TT M w' t (tVar nm) ∧ Below w.heap.size w w' := by
 have hG := Gr.refl [] w
 refine At.enter (N := 5) Tryz.func19 rfl rfl (by simp) [(0, .string nm)] (by simp) ?_
 refine .seq (.region ?_)
 refine At.alloc ze31 rfl (fun b1 w1 F1 => ?_)
 have gb1 := F1.gq hG.size
 have hb1 : w1.heap[b1]? = some (.cells #[zI, zI, zS, zS, zI, zN, zN, zI, zS, zI, zN, zN, zI, zN, zI, zI, zS, zI, zN, zN, zI] 31) := F1.new
 replace hG := hG.below F1.bel
 refine .ops0 (.thenN (.seq (.region (.move rfl rfl (.build (C := #[.int .i64 1, zI, .string nm, zS, zI, zN, zN, zI, zS, zI, zN, zN, zI, zN, zI, zI, zS, zI, zN, zN, zI]) sd31 ze31 rfl (Bld.cons fo31_0 rfl (lB rfl) (Bld.cons fo31_2 rfl (lB rfl) (Bld.nil _))) rfl ?_)))))
 obtain ⟨q1, et1, hT1⟩ := TT.made (M := (some b1 :: M)) (w := w1) 1 0 nm eB 0 TL.nil TAL.nil
 refine .set (d := 4) (u := .agg q1.cs) rfl (congrArg Value.agg et1) ?_
 refine At.storeAll rfl rfl hb1 (sz31.trans (congrArg some hT1.1.one.size.symm)) hT1.1.one.size.symm hT1.1.one.one (fun w2 S1 => ?_)
 replace hb1 : w2.heap[b1]? = some (.cells q1.cs 31) := S1.new
 replace hG := hG.set S1 (.inr gb1)
 replace hT1 := hT1.gr ((Gr.refl _ _).set S1 (.inl (by simp))) lR
 refine .ops0 (.thenN (.retc (.doneR (ResV.cell rfl (Ld.own ag31 (sz31.trans (congrArg some hT1.1.one.size.symm)) hb1) ResV.nil) ?_)))
 exact ⟨q1, rfl, hT1.weak (fun q hq => by simp [hq]), hG.base⟩
theorem opL_any {M : List (Option Nat)} {nc : Nat} (nm : ByteArray) {lv : Value} {xs : List ST} (w : World) (hMl : MLt w.heap.size M) (hk : TL M w lv xs) (hk1 : lv.oneCell' = true) :
  Calls Tryz.prog 18 ([.string nm, lv] : List Value).toArray w fun r w' => ∃ t : Tm, r = .returned (.agg t.cs) ∧ TT M w' t (tOp nm xs) ∧ Below w.heap.size w w' := by
 have hG := Gr.refl [] w
 refine At.enter (N := 8) Tryz.func18 rfl rfl (by simp) [(0, .string nm), (1, lv)] (by simp) ?_
 refine .seq (.region ?_)
 refine At.alloc ze31 rfl (fun b1 w1 F1 => ?_)
 have gb1 := F1.gq hG.size
 have hb1 : w1.heap[b1]? = some (.cells #[zI, zI, zS, zS, zI, zN, zN, zI, zS, zI, zN, zN, zI, zN, zI, zI, zS, zI, zN, zN, zI] 31) := F1.new
 replace hG := hG.below F1.bel
 refine .ops0 (.thenN (.seq (.region (.move rfl rfl (.move rfl rfl (.build (C := #[.int .i64 10, zI, .string nm, zS, zI, lv, zN, zI, zS, zI, zN, zN, zI, zN, zI, zI, zS, zI, zN, zN, zI]) sd31 ze31 rfl (Bld.cons fo31_0 rfl (lB rfl) (Bld.cons fo31_2 rfl (lB rfl) (Bld.one fo31_5 hk1 (by first | decide | exact Nat.le_of_ble_eq_true rfl | simp [Value.cells]) (Bld.nil _)))) rfl ?_))))))
 obtain ⟨q1, et1, hT1⟩ := TT.made (M := (some b1 :: M)) (w := w1) 10 0 nm eB 0 (hk.gr ((Gr.of hG.base _).to (nw_add gb1)) lR) TAL.nil
 refine .set (d := 7) (u := .agg q1.cs) rfl (congrArg Value.agg et1) ?_
 refine At.storeAll rfl rfl hb1 (sz31.trans (congrArg some hT1.1.one.size.symm)) hT1.1.one.size.symm hT1.1.one.one (fun w2 S1 => ?_)
 replace hb1 : w2.heap[b1]? = some (.cells q1.cs 31) := S1.new
 replace hG := hG.set S1 (.inr gb1)
 replace hT1 := hT1.gr ((Gr.refl _ _).set S1 (.inl (by simp))) lR
 refine .ops0 (.thenN (.retc (.doneR (ResV.cell rfl (Ld.own ag31 (sz31.trans (congrArg some hT1.1.one.size.symm)) hb1) ResV.nil) ?_)))
 exact ⟨q1, rfl, hT1.weak (fun q hq => by simp [hq]), hG.base⟩
theorem en14 : entB Tryz.prog 14 = true := by kernel_rfl
theorem en21 : entB Tryz.prog 21 = true := by kernel_rfl
theorem en28 : entB Tryz.prog 28 = true := by kernel_rfl
theorem read_any {M : List (Option Nat)} {nc : Nat} {m : Int} (l : List UInt8) (w : World) (hMl : MLt w.heap.size M) (hll : l.length ≤ 1000) (hm : w.cell? ⟨0, 0, none⟩ = some (.int .i64 m)) (hps : (parseR l).1.isSome = true) :
  Calls Tryz.prog 21 ([.string (bs l)] : List Value).toArray w fun r w' => ∃ v1 v2 t, r = .returned (.agg (mx [v1, v2] t.cs [])) ∧ v1.oneCell' = true ∧ v2.oneCell' = true ∧ TT M w' t (shT' l) ∧ Below w.heap.size w w' := by
 have hG := Gr.refl [] w
 refine At.enter (N := 14) Tryz.func21 rfl rfl (by simp) [(0, .string (bs l))] (by simp) ?_
 refine .seq (.region ?_)
 refine At.alloc ze38 rfl (fun b1 w1 F1 => ?_)
 have gb1 := F1.gq hG.size
 have hb1 : w1.heap[b1]? = some (.cells #[zN, zN, zI, zI, zS, zS, zI, zN, zN, zI, zS, zI, zN, zN, zI, zN, zI, zI, zS, zI, zN, zN, zI] 38) := F1.new
 replace hG := hG.below F1.bel
 refine .ops0 (.thenN (.seq (.region (.move rfl rfl ?_))))
 refine At.toBytes (l := l) rfl st9 el74 ik5 (by omega) rfl (fun b2 cap1 w2 hgbb1 hbl1 hby1 => ?_)
 replace hb1 := Below.old hbl1 hb1
 replace hG := hG.below hbl1
 have hml := (MLt.blk hb1 (fun q hq => Nat.lt_of_lt_of_le (hMl q hq) hG.size))
 refine At.call en28 rfl rfl (parse_any (.slice (some ⟨b2, 0, none⟩) l.length cap1) l m _ hby1 (cell_keep hm hG.base) (parseR_good hps)) (fun e w3 hR => ?_)
 obtain ⟨p, rfl, hbl2, hp, hsh, _, hpb⟩ := hR; refine ⟨_, rfl, ?_⟩
 replace hb1 := Below.old hbl2 hb1
 replace hG := hG.below hbl2
 have hT : TT (some b1 :: M) w3 p.body (shT' l) := ⟨fun u hu => by cases List.mem_singleton.1 hu; exact ⟨hp.bodyOk, fun b hb hm => absurd (hml b hm) (Nat.not_lt.2 (hpb b (.inr (.inr (.inr (.inr hb))))))⟩, by show shT p.body = _; unfold shT'; rw [← hsh]; rfl⟩; have h12 := hp.ones
 refine .set (d := 9) (u := .tuple #[.agg (mx [p.ev, p.dv] p.body.cs []), .int .i64 ((parseR l).2.1), .int .i64 ((parseR l).2.2)]) rfl (by rw [hp.mx]) (.move rfl rfl (.extract rfl rfl rfl (.extract rfl rfl rfl (.extract rfl rfl rfl ?_))))
 refine At.alloc ze38 rfl (fun b3 w4 F2 => ?_)
 have n_b1_b3 := F2.ne' hb1
 replace hb1 := F2.old hb1
 have hb3 : w4.heap[b3]? = some (.cells #[zN, zN, zI, zI, zS, zS, zI, zN, zN, zI, zS, zI, zN, zN, zI, zN, zI, zI, zS, zI, zN, zN, zI] 38) := F2.new
 refine At.storeAll rfl rfl hb3 (sz38.trans (congrArg some (mx_size (pre := [p.ev, p.dv]) (post := []) hT.1.one.size).symm)) (mx_size (pre := [p.ev, p.dv]) (post := []) hT.1.one.size).symm (mx_all (by simp only [List.all_cons, List.all_nil, h12.1, h12.2, Bool.and_true] <;> rfl) hT.1.one.one rfl) (fun w5 S1 => ?_)
 replace hb1 := S1.other hb1 n_b1_b3
 replace hb3 : w5.heap[b3]? = some (.cells (mx [p.ev, p.dv] p.body.cs []) 38) := S1.new
 replace hG := hG.below (F2.bel2 S1)
 replace hT := hT.gr (Gr.of (F2.bel2 S1) _) lR
 refine .assign rfl rfl (.assign rfl rfl (.ops0 (.thenN (.seq (.region (.load rfl (Ld.own ag38 (sz38.trans (congrArg some (mx_size (pre := [p.ev, p.dv]) (post := []) hT.1.one.size).symm)) hb3) rfl ?_))))))
 refine At.storeAll rfl rfl hb1 (sz38.trans (congrArg some (mx_size (pre := [p.ev, p.dv]) (post := []) hT.1.one.size).symm)) (mx_size (pre := [p.ev, p.dv]) (post := []) hT.1.one.size).symm (mx_all (by simp only [List.all_cons, List.all_nil, h12.1, h12.2, Bool.and_true] <;> rfl) hT.1.one.one rfl) (fun w6 S2 => ?_)
 replace hb1 : w6.heap[b1]? = some (.cells (mx [p.ev, p.dv] p.body.cs []) 38) := S2.new
 replace hG := hG.set S2 (.inr gb1)
 replace hT := hT.gr ((Gr.refl _ _).set S2 (.inl (by simp))) lR
 refine .ops0 (.thenN (.retc (.doneR (ResV.cell rfl (Ld.own ag38 (sz38.trans (congrArg some (mx_size (pre := [p.ev, p.dv]) (post := []) hT.1.one.size).symm)) hb1) ResV.nil) ?_)))
 exact ⟨p.ev, p.dv, p.body, rfl, h12.1, h12.2, hT.weak (fun q hq => by simp [hq]), hG.base⟩
theorem shown_any {m : Int} (w : World)  (hm : w.cell? ⟨0, 0, none⟩ = some (.int .i64 m)) :
  Calls Tryz.prog 11 ([] : List Value).toArray w fun r w' => r = .returned (.bool true) ∧ Below w.heap.size w w' := by
 have hG := Gr.refl [] w
 refine At.enter (N := 65) Tryz.func11 rfl rfl (by simp) [] (by simp) ?_
 refine .seq (.region (.assign rfl rfl (.ops0 (.thenN (.seq (.region ?_))))))
 refine At.call en21 rfl rfl (read_any (M := []) (nc := 0) shB1 _ (MLt.nil _) (by decide) (cell_keep hm hG.base) (by kernel_rfl)) (fun e w1 hR => ?_)
 obtain ⟨va1, vb1, tm1, rfl, oa1, ob1, hT1, hbl1⟩ := hR; refine ⟨_, rfl, ?_⟩
 replace hG := hG.below hbl1
 refine At.call en14 rfl rfl (run_any (E := []) (l := []) 100 _ oa1 ob1 hT1.1 (MLt.nil _) (RowsAt.nil _ 1) (by decide) (by decide) (by rw [hT1.2]; exact sh1.1)) (fun e w2 hR => ?_)
 obtain ⟨cs, rfl, hra, hbl2⟩ := hR; refine ⟨_, rfl, ?_⟩; rw [hT1.2] at hra; replace hra : RAt [] w2 cs sr1 := hra
 replace hG := hG.below hbl2
 obtain ⟨rk1, rn1, rm1, rv1, rt1, rfl, ho1, hi1, hz1⟩ := hra; replace ho1 : TO [] w2 rk1 rn1 rm1 rv1 sr1.v := ho1; replace hi1 : TI [] w2 rt1 sr1.tr := ⟨hi1, hz1⟩
 have hn1 : rn1 = 3 := by have h := OAt.n ho1; rw [sr1_is.2.1] at h; exact h.symm
 refine At.alloc ze49 rfl (fun b1 w3 F1 => ?_)
 have hb1 : w3.heap[b1]? = some (.cells #[zI, zI, zI, zS, zN, zN, zI, zI] 49) := F1.new
 refine At.storeAll rfl rfl hb1 sz49 rfl (by first | (simp [Value.oneCell', (OAt.one ho1), hi1.1.ok.one]; done) | (simp only [List.all_toArray, List.all_cons, List.all_nil, (OAt.one ho1), hi1.1.ok.one, Bool.and_true, Bool.true_and] <;> rfl)) (fun w4 S1 => ?_)
 replace hb1 : w4.heap[b1]? = some (.cells #[.int .i64 sr1.ok, .int .i64 rk1, .int .i64 rn1, .string rm1, rv1, rt1, .int .i64 sr1.st, .int .i64 sr1.kn] 49) := S1.new
 replace hG := hG.below (F1.bel2 S1)
 refine .ops0 (.thenN (.seq (.region ?_)))
 refine At.call en21 rfl rfl (read_any (M := []) (nc := 0) shB2 _ (MLt.nil _) (by decide) (cell_keep hm hG.base) (by kernel_rfl)) (fun e w5 hR => ?_)
 obtain ⟨va2, vb2, tm2, rfl, oa2, ob2, hT2, hbl3⟩ := hR; refine ⟨_, rfl, ?_⟩
 replace hb1 := Below.old hbl3 hb1
 replace hG := hG.below hbl3
 refine At.call en14 rfl rfl (run_any (E := []) (l := []) 100 _ oa2 ob2 hT2.1 (MLt.nil _) (RowsAt.nil _ 1) (by decide) (by decide) (by rw [hT2.2]; exact sh2.1)) (fun e w6 hR => ?_)
 obtain ⟨cs, rfl, hra, hbl4⟩ := hR; refine ⟨_, rfl, ?_⟩; rw [hT2.2] at hra; replace hra : RAt [] w6 cs sr2 := hra
 replace hb1 := Below.old hbl4 hb1
 replace hG := hG.below hbl4
 obtain ⟨rk2, rn2, rm2, rv2, rt2, rfl, ho2, hi2, hz2⟩ := hra; replace ho2 : TO [] w6 rk2 rn2 rm2 rv2 sr2.v := ho2; replace hi2 : TI [] w6 rt2 sr2.tr := ⟨hi2, hz2⟩
 rw [sr2_is.2] at hi2
 refine At.alloc ze49 rfl (fun b2 w7 F2 => ?_)
 have n_b1_b2 := F2.ne' hb1
 replace hb1 := F2.old hb1
 have hb2 : w7.heap[b2]? = some (.cells #[zI, zI, zI, zS, zN, zN, zI, zI] 49) := F2.new
 refine At.storeAll rfl rfl hb2 sz49 rfl (by first | (simp [Value.oneCell', (OAt.one ho2), hi2.1.ok.one]; done) | (simp only [List.all_toArray, List.all_cons, List.all_nil, (OAt.one ho2), hi2.1.ok.one, Bool.and_true, Bool.true_and] <;> rfl)) (fun w8 S2 => ?_)
 replace hb1 := S2.other hb1 n_b1_b2
 replace hb2 : w8.heap[b2]? = some (.cells #[.int .i64 sr2.ok, .int .i64 rk2, .int .i64 rn2, .string rm2, rv2, rt2, .int .i64 sr2.st, .int .i64 sr2.kn] 49) := S2.new
 replace hG := hG.below (F2.bel2 S2)
 replace hi2 := hi2.gr (Gr.of (F2.bel2 S2) _) lR
 refine .ops0 (.thenN (.seq (.region ?_)))
 refine At.call en21 rfl rfl (read_any (M := []) (nc := 0) shB3 _ (MLt.nil _) (by decide) (cell_keep hm hG.base) (by kernel_rfl)) (fun e w9 hR => ?_)
 obtain ⟨va3, vb3, tm3, rfl, oa3, ob3, hT3, hbl5⟩ := hR; refine ⟨_, rfl, ?_⟩
 replace hb1 := Below.old hbl5 hb1
 replace hb2 := Below.old hbl5 hb2
 replace hG := hG.below hbl5
 replace hi2 := hi2.gr (Gr.of hbl5 _) lR
 refine At.call en14 rfl rfl (run_any (E := []) (l := []) 100 _ oa3 ob3 hT3.1 (MLt.nil _) (RowsAt.nil _ 1) (by decide) (by decide) (by rw [hT3.2]; exact sh3.1)) (fun e w10 hR => ?_)
 obtain ⟨cs, rfl, hra, hbl6⟩ := hR; refine ⟨_, rfl, ?_⟩; rw [hT3.2] at hra; replace hra : RAt [] w10 cs sr3 := hra
 replace hb1 := Below.old hbl6 hb1
 replace hb2 := Below.old hbl6 hb2
 replace hG := hG.below hbl6
 replace hi2 := hi2.gr (Gr.of hbl6 _) lR
 obtain ⟨rk3, rn3, rm3, rv3, rt3, rfl, ho3, hi3, hz3⟩ := hra; replace ho3 : TO [] w10 rk3 rn3 rm3 rv3 sr3.v := ho3; replace hi3 : TI [] w10 rt3 sr3.tr := ⟨hi3, hz3⟩
 refine At.alloc ze49 rfl (fun b3 w11 F3 => ?_)
 have n_b1_b3 := F3.ne' hb1
 have n_b2_b3 := F3.ne' hb2
 replace hb1 := F3.old hb1
 replace hb2 := F3.old hb2
 have hb3 : w11.heap[b3]? = some (.cells #[zI, zI, zI, zS, zN, zN, zI, zI] 49) := F3.new
 refine At.storeAll rfl rfl hb3 sz49 rfl (by first | (simp [Value.oneCell', (OAt.one ho3), hi3.1.ok.one]; done) | (simp only [List.all_toArray, List.all_cons, List.all_nil, (OAt.one ho3), hi3.1.ok.one, Bool.and_true, Bool.true_and] <;> rfl)) (fun w12 S3 => ?_)
 replace hb1 := S3.other hb1 n_b1_b3
 replace hb2 := S3.other hb2 n_b2_b3
 replace hb3 : w12.heap[b3]? = some (.cells #[.int .i64 sr3.ok, .int .i64 rk3, .int .i64 rn3, .string rm3, rv3, rt3, .int .i64 sr3.st, .int .i64 sr3.kn] 49) := S3.new
 replace hG := hG.below (F3.bel2 S3)
 replace hi2 := hi2.gr (Gr.of (F3.bel2 S3) _) lR
 refine .ops0 (.thenN (.seq (.region ?_)))
 refine At.call en21 rfl rfl (read_any (M := []) (nc := 0) shB4 _ (MLt.nil _) (by decide) (cell_keep hm hG.base) (by kernel_rfl)) (fun e w13 hR => ?_)
 obtain ⟨va4, vb4, tm4, rfl, oa4, ob4, hT4, hbl7⟩ := hR; refine ⟨_, rfl, ?_⟩
 replace hb1 := Below.old hbl7 hb1
 replace hb2 := Below.old hbl7 hb2
 replace hb3 := Below.old hbl7 hb3
 replace hG := hG.below hbl7
 replace hi2 := hi2.gr (Gr.of hbl7 _) lR
 refine At.call en14 rfl rfl (run_any (E := []) (l := []) 100 _ oa4 ob4 hT4.1 (MLt.nil _) (RowsAt.nil _ 1) (by decide) (by decide) (by rw [hT4.2]; exact sh4.1)) (fun e w14 hR => ?_)
 obtain ⟨cs, rfl, hra, hbl8⟩ := hR; refine ⟨_, rfl, ?_⟩; rw [hT4.2] at hra; replace hra : RAt [] w14 cs sr4 := hra
 replace hb1 := Below.old hbl8 hb1
 replace hb2 := Below.old hbl8 hb2
 replace hb3 := Below.old hbl8 hb3
 replace hG := hG.below hbl8
 replace hi2 := hi2.gr (Gr.of hbl8 _) lR
 obtain ⟨rk4, rn4, rm4, rv4, rt4, rfl, ho4, hi4, hz4⟩ := hra; replace ho4 : TO [] w14 rk4 rn4 rm4 rv4 sr4.v := ho4; replace hi4 : TI [] w14 rt4 sr4.tr := ⟨hi4, hz4⟩
 refine At.alloc ze49 rfl (fun b4 w15 F4 => ?_)
 have n_b1_b4 := F4.ne' hb1
 have n_b2_b4 := F4.ne' hb2
 have n_b3_b4 := F4.ne' hb3
 replace hb1 := F4.old hb1
 replace hb2 := F4.old hb2
 replace hb3 := F4.old hb3
 have hb4 : w15.heap[b4]? = some (.cells #[zI, zI, zI, zS, zN, zN, zI, zI] 49) := F4.new
 refine At.storeAll rfl rfl hb4 sz49 rfl (by first | (simp [Value.oneCell', (OAt.one ho4), hi4.1.ok.one]; done) | (simp only [List.all_toArray, List.all_cons, List.all_nil, (OAt.one ho4), hi4.1.ok.one, Bool.and_true, Bool.true_and] <;> rfl)) (fun w16 S4 => ?_)
 replace hb1 := S4.other hb1 n_b1_b4
 replace hb2 := S4.other hb2 n_b2_b4
 replace hb3 := S4.other hb3 n_b3_b4
 replace hb4 : w16.heap[b4]? = some (.cells #[.int .i64 sr4.ok, .int .i64 rk4, .int .i64 rn4, .string rm4, rv4, rt4, .int .i64 sr4.st, .int .i64 sr4.kn] 49) := S4.new
 replace hG := hG.below (F4.bel2 S4)
 replace hi2 := hi2.gr (Gr.of (F4.bel2 S4) _) lR
 refine .ops0 (.thenN (.seq (.region ?_)))
 refine At.join [(0, .bool (decide ((([7] : List Int).length : Int) = 1)))] (fun w' => w16 = w') ?_ (fun w17 hS => ?_)
 ·skip
  refine .fieldAddr rfl fo49_0 rfl (.fieldAddr rfl fo47_0 rfl (.load rfl (Ld.ownCell ag3 hb1 rfl) rfl (.eqI rfl rfl rfl (.set (d := 16) (u := .bool true) rfl (congrArg Value.bool (decide_eq_true sr1_is.1)) (.move rfl rfl (.yes rfl rfl rfl rfl (.fieldAddr rfl fo49_0 rfl (.yes rfl rfl rfl rfl (.fieldAddr rfl fo47_1 rfl (.yes rfl rfl rfl rfl (.fieldAddr rfl fo45_1 rfl (.yes rfl rfl rfl rfl (.load rfl (Ld.ownCell ag3 hb1 rfl) rfl (.yes rfl rfl rfl rfl (.eqI rfl rfl rfl (.set (d := 22) (u := .bool true) rfl (congrArg Value.bool (decide_eq_true hn1)) (.pickT rfl rfl rfl (.move rfl rfl (.yes rfl rfl rfl rfl (.fieldAddr rfl fo49_3 rfl (.yes rfl rfl rfl rfl (.load rfl (Ld.ownCell ag3 hb1 rfl) rfl (.yes rfl rfl rfl rfl (.eqI rfl rfl rfl (.set (d := 27) (u := .bool true) rfl (congrArg Value.bool (decide_eq_true sr1_is.2.2)) (.pickT rfl rfl rfl (.move rfl rfl (.yes rfl rfl rfl rfl (.fieldAddr rfl fo49_0 rfl (.yes rfl rfl rfl rfl (.fieldAddr rfl fo47_0 rfl (.yes rfl rfl rfl rfl (.load rfl (Ld.ownCell ag3 hb2 rfl) rfl (.yes rfl rfl rfl rfl (.eqI rfl rfl rfl (.set (d := 33) (u := .bool true) rfl (congrArg Value.bool (decide_eq_true sr2_is.1)) (.pickT rfl rfl rfl (.move rfl rfl (.yes rfl rfl rfl rfl ?_)))))))))))))))))))))))))))))))))))))))
  refine .fieldAddr rfl fo49_1 rfl (.yes rfl rfl rfl rfl (.load rfl (Ld.ownCell ag32 hb2 rfl) rfl (.yes rfl rfl rfl rfl (.lenSl rfl hi2.1.ok el32 rfl (.yes rfl rfl rfl rfl (.eqI rfl rfl rfl (.pickT rfl rfl rfl (.move rfl rfl ?_))))))))
  refine At.cases (decide ((([7] : List Int).length : Int) = 1)) (fun hg1 => ?_) (fun hg1 => ?_)
  ·skip
   refine .set (d := 41) (u := .bool true) rfl (congrArg Value.bool hg1) ?_
   have hg1' := of_decide_eq_true hg1
   refine .yes rfl rfl rfl rfl (.fieldAddr rfl fo49_1 rfl (.yes rfl rfl rfl rfl (.load rfl (Ld.ownCell ag32 hb2 rfl) rfl (.yes rfl rfl rfl rfl (.indexAddr (i := 0) rfl rfl hi2.1.ok (lt_of_some (rfl : ([7] : List Int)[0]? = some 7)) el32 sz3 rfl (.yes rfl rfl rfl rfl (.load rfl (Ld.cell ag3 (cell_keep ((hi2.1).get (rfl : ([7] : List Int)[0]? = some 7)) (Below.refl _ _))) rfl (.yes rfl rfl rfl rfl (.eqI rfl rfl rfl (.set (d := 46) (u := .bool true) rfl (congrArg Value.bool (decide_eq_true rfl)) (.pickT rfl rfl rfl (.move rfl rfl (.yes rfl rfl rfl rfl (.fieldAddr rfl fo49_0 rfl (.yes rfl rfl rfl rfl (.fieldAddr rfl fo47_0 rfl (.yes rfl rfl rfl rfl (.load rfl (Ld.ownCell ag3 hb3 rfl) rfl (.yes rfl rfl rfl rfl (.eqI rfl rfl rfl (.set (d := 52) (u := .bool true) rfl (congrArg Value.bool (decide_eq_true sr3_is.1)) (.pickT rfl rfl rfl (.move rfl rfl (.yes rfl rfl rfl rfl (.fieldAddr rfl fo49_2 rfl (.yes rfl rfl rfl rfl (.load rfl (Ld.ownCell ag3 hb3 rfl) rfl (.yes rfl rfl rfl rfl (.eqI rfl rfl rfl (.set (d := 57) (u := .bool true) rfl (congrArg Value.bool (decide_eq_true sr3_is.2)) (.pickT rfl rfl rfl (.move rfl rfl (.yes rfl rfl rfl rfl (.fieldAddr rfl fo49_0 rfl (.yes rfl rfl rfl rfl (.fieldAddr rfl fo47_0 rfl (.yes rfl rfl rfl rfl (.load rfl (Ld.ownCell ag3 hb4 rfl) rfl (.yes rfl rfl rfl rfl ?_)))))))))))))))))))))))))))))))))))))))
   refine .eqI rfl rfl rfl (.set (d := 63) (u := .bool true) rfl (congrArg Value.bool (decide_eq_true sr4_is)) (.pickT rfl rfl rfl (.assign rfl rfl ?_)))
   exact At.joined (Sub.cons (by show some (Value.bool true) = some (Value.bool (decide ((([7] : List Int).length : Int) = 1))); rw [hg1] <;> rfl) sN) rfl
  refine .set (d := 41) (u := .bool false) rfl (congrArg Value.bool hg1) ?_
  have hg1' := of_decide_eq_false hg1
  refine .no rfl rfl rfl rfl rfl rfl rfl (.no rfl rfl rfl rfl rfl rfl rfl (.no rfl rfl rfl rfl rfl rfl rfl (.no rfl rfl rfl rfl rfl rfl rfl (.no rfl rfl rfl rfl rfl rfl rfl (.pickF rfl rfl rfl (.move rfl rfl (.no rfl rfl rfl rfl rfl rfl rfl (.no rfl rfl rfl rfl rfl rfl rfl (.no rfl rfl rfl rfl rfl rfl rfl (.no rfl rfl rfl rfl rfl rfl rfl (.pickF rfl rfl rfl (.move rfl rfl (.no rfl rfl rfl rfl rfl rfl rfl (.no rfl rfl rfl rfl rfl rfl rfl (.no rfl rfl rfl rfl rfl rfl rfl (.pickF rfl rfl rfl (.move rfl rfl (.no rfl rfl rfl rfl rfl rfl rfl (.no rfl rfl rfl rfl rfl rfl rfl (.no rfl rfl rfl rfl rfl rfl rfl (.no rfl rfl rfl rfl rfl rfl rfl (.pickF rfl rfl rfl (.assign rfl rfl ?_)))))))))))))))))))))))
  exact At.joined (Sub.cons (by show some (Value.bool false) = some (Value.bool (decide ((([7] : List Int).length : Int) = 1))); rw [hg1] <;> rfl) sN) rfl
 subst hS
 refine .thenN (.retc (.doneR (ResV.tmp rfl ResV.nil) ?_))
 exact ⟨rfl, hG.base⟩
abbrev nmX : ByteArray := ⟨#[120]⟩
theorem findX_hd {nm : ByteArray} {v e : X} : findX nm (.e nm v e) = some v := by simp [findX]
theorem ask_acc (nm : ByteArray) : ∀ (fr : X) (acc : List X), askF nm fr acc = (askF nm fr []).map fun q => (acc ++ q.1, q.2)
  | .s f r, acc => by
    have ih := ask_acc nm r
    have h : ∀ y : X, (∀ arms e, y ≠ .hnd arms e) → askF nm (.s y r) acc = (askF nm (.s y r) []).map fun q => (acc ++ q.1, q.2) := fun y hy => by
      rw [ask_o hy, ask_o hy, ih, ih ([] ++ [y])]
      cases askF nm r [] <;> simp
    cases f with
    | hnd arms e =>
      cases hc : clF nm arms with
      | none =>
        rw [ask_n hc, ask_n hc, ih, ih ([] ++ [X.hnd arms e])]
        cases askF nm r [] <;> simp
      | some a => rw [ask_y hc, ask_y hc]; simp
    | _ => exact h _ nofun
  | .v .., _ | .nil, _ | .c .., _ | .e .., _ | .arg .., _ | .fn .., _ | .bnd .., _ | .frk .., _ | .gat .., _ | .way .., _ | .ask .., _ | .hnd .., _ => rfl
theorem ask_push {nm : ByteArray} {y fr e r : X} {l : List X} {a : SA} (hy : ∀ arms e, y ≠ .hnd arms e) (h : askF nm fr [] = some (l, a, e, r)) : askF nm (.s y fr) [] = some (y :: l, a, e, r) := by
  rw [ask_o hy, ask_acc, h]; rfl
abbrev nmK : ByteArray := ⟨#[107]⟩
abbrev nmG : ByteArray := ⟨#[103, 101, 116]⟩
abbrev nmR : ByteArray := ⟨#[114, 101, 116, 117, 114, 110]⟩
abbrev nmE : ByteArray := ⟨#[69]⟩
def AO (a : SA) (fr : X) : Prop := ∃ l, askF nmG fr [] = some (l, a, .nil, .nil) ∧ stk l .nil = fr
theorem AO.gat {a : SA} {fr e : X} {t : ST} {d : List X} (h : AO a fr) : AO a (.s (.gat t d e) fr) := by
  obtain ⟨l, h1, h2⟩ := h
  exact ⟨_, ask_push nofun h1, by rw [stk, h2]⟩
theorem AO.top {a : SA} {fr : X} (h : AO a fr) : ∃ t r, fr = .s t r := by
  obtain ⟨l, h1, _⟩ := h
  cases fr with
  | s t r => exact ⟨_, _, rfl⟩
  | _ => cases h1
section
variable {P : SR → Prop}
end
theorem shw_vI (j : Int) : shwX (vI j) = .mk 1 j eB [] := rfl
end Go.Proofs.YtfoolfecjjngpaaGreat
