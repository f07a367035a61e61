/-
 The walks of Same and of bare. Written by a program of ours.
-/
import Derived.Test.YtkjmjnddanhapaaN32
import Derived.Test.YtkjmjnddanhapaaU20
set_option linter.unusedVariables false
set_option linter.unusedSimpArgs false
namespace Go.Proofs.Ytkjmjnddanhapaa
open Go.RowKit
theorem en22 : entB Try.prog 22 = true := by kernel_rfl
theorem en41 : entB Try.prog 41 = true := by kernel_rfl
theorem en42 : entB Try.prog 42 = true := by kernel_rfl
theorem en62 : entB Try.prog 62 = true := by kernel_rfl
theorem fo31_0 : fieldB Try.prog 31 0 = some (0, 1) := by kernel_rfl
theorem fo31_1 : fieldB Try.prog 31 1 = some (1, 1) := by kernel_rfl
theorem fo33_2 : fieldB Try.prog 33 2 = some (2, 1) := by kernel_rfl
theorem fo33_3 : fieldB Try.prog 33 3 = some (3, 1) := by kernel_rfl
theorem fo33_4 : fieldB Try.prog 33 4 = some (4, 2) := by kernel_rfl
theorem fo35_7 : fieldB Try.prog 35 7 = some (7, 6) := by kernel_rfl
theorem fo35_8 : fieldB Try.prog 35 8 = some (13, 2) := by kernel_rfl
theorem sameType_any (a b : Ty) (w : World) (hta : TyOk a) (htb : TyOk b) (hs : TyF a b) :
  Calls Try.prog 62 ([.agg a.cs, .agg b.cs] : List Value).toArray w fun e w' => e = .returned (.bool true) ∧ Below w.heap.size w w' := by
 have hB := Below.refl w.heap.size w
 refine At.enter (N := 76) Try.func62 rfl rfl (by simp) [(0, .agg a.cs), (1, .agg b.cs)] (by simp) ?_
 refine .seq (.region ?_)
 refine At.box rfl rfl (fun b1 w1 F1 => ?_)
 have gb1 := F1.ge hB
 have hb1 : w1.heap[b1]? = some (.cells a.cs 33) := F1.new
 replace hB := F1.below' hB
 refine At.box rfl rfl (fun b2 w2 F2 => ?_)
 have n_b1_b2 : b1 ≠ b2 := Nat.ne_of_lt (F2.lt hb1)
 have gb2 := F2.ge hB
 replace hb1 := F2.old hb1
 have hb2 : w2.heap[b2]? = some (.cells b.cs 33) := F2.new
 replace hB := F2.below' hB
 refine .assign rfl rfl (.ops0 (.thenN (.seq (.region (.fieldAddr rfl fo33_4 rfl (.fieldAddr rfl fo31_0 rfl (.load rfl (Ld.ownCell ag29 hb1 (hta).c4) rfl (.fieldAddr rfl fo33_4 rfl (.fieldAddr rfl fo31_0 rfl (.load rfl (Ld.ownCell ag29 hb2 (htb).c4) rfl ?_))))))))))
 refine At.call en25 rfl rfl (texts_any a.lv b.lv [] _ (StrsAt.none' (by have q := hta.labelsOk; rw [hs.l1] at q; exact q)) (StrsAt.none' (by have q := htb.labelsOk; rw [hs.l2] at q; exact q))) (fun e w3 hR => ?_)
 obtain ⟨rfl, hbl1⟩ := hR
 refine ⟨_, rfl, ?_⟩
 replace hb1 := Below.old hbl1 hb1
 replace hb2 := Below.old hbl1 hb2
 replace hB := Below.andThen hB hbl1
 refine .assign rfl rfl (.ops0 (.thenN (.seq (.seq (.region (.fieldAddr rfl fo33_0 rfl (.load rfl (Ld.ownCell ag3 hb1 (hta).c0) rfl (.fieldAddr rfl fo33_0 rfl (.load rfl (Ld.ownCell ag3 hb2 (htb).c0) rfl (.neI rfl rfl rfl (.move rfl rfl ?_)))))))))))
 have hbb1 : ((!decide (a.k = b.k))) = false := by simp [hs.k, hs.nm, hs.v1, hs.v2, hs.a1, hs.a2, hs.r1, hs.r2]
 refine .set (d := 20) (u := .bool false) rfl (congrArg Value.bool hbb1) (.yes rfl rfl rfl rfl (.fieldAddr rfl fo33_1 rfl (.yes rfl rfl rfl rfl (.load rfl (Ld.ownCell ag9 hb1 (hta).c1) rfl (.yes rfl rfl rfl rfl (.fieldAddr rfl fo33_1 rfl (.yes rfl rfl rfl rfl (.load rfl (Ld.ownCell ag9 hb2 (htb).c1) rfl (.yes rfl rfl rfl rfl (.neS rfl rfl rfl (.pickF rfl rfl rfl (.move rfl rfl ?_))))))))))))
 have hbb2 : ((!decide (a.nm = b.nm))) = false := by simp [hs.k, hs.nm, hs.v1, hs.v2, hs.a1, hs.a2, hs.r1, hs.r2]
 refine .set (d := 27) (u := .bool false) rfl (congrArg Value.bool hbb2) (.yes rfl rfl rfl rfl (.fieldAddr rfl fo33_2 rfl (.yes rfl rfl rfl rfl (.load rfl (Ld.ownCell ag3 hb1 (hta).c2) rfl (.yes rfl rfl rfl rfl (.fieldAddr rfl fo33_2 rfl (.yes rfl rfl rfl rfl (.load rfl (Ld.ownCell ag3 hb2 (htb).c2) rfl (.yes rfl rfl rfl rfl (.neI rfl rfl rfl (.pickF rfl rfl rfl (.move rfl rfl ?_))))))))))))
 have hbb3 : ((!decide (a.var = b.var))) = false := by simp [hs.k, hs.nm, hs.v1, hs.v2, hs.a1, hs.a2, hs.r1, hs.r2]
 refine .set (d := 34) (u := .bool false) rfl (congrArg Value.bool hbb3) (.yes rfl rfl rfl rfl (.fieldAddr rfl fo33_4 rfl (.yes rfl rfl rfl rfl (.fieldAddr rfl fo31_1 rfl (.yes rfl rfl rfl rfl (.load rfl (Ld.ownCell ag3 hb1 (hta).c5) rfl (.yes rfl rfl rfl rfl (.fieldAddr rfl fo33_4 rfl (.yes rfl rfl rfl rfl (.fieldAddr rfl fo31_1 rfl (.yes rfl rfl rfl rfl (.load rfl (Ld.ownCell ag3 hb2 (htb).c5) rfl (.yes rfl rfl rfl rfl (.neI rfl rfl rfl (.pickF rfl rfl rfl (.move rfl rfl ?_))))))))))))))))
 have hbb4 : ((!decide (a.rvar = b.rvar))) = false := by simp [hs.k, hs.nm, hs.v1, hs.v2, hs.a1, hs.a2, hs.r1, hs.r2]
 refine .set (d := 43) (u := .bool false) rfl (congrArg Value.bool hbb4) (.yes rfl rfl rfl rfl (.move rfl rfl (.yes rfl rfl rfl rfl (.not rfl rfl (.pickF rfl rfl rfl (.move rfl rfl (.yes rfl rfl rfl rfl (.fieldAddr rfl fo33_3 rfl (.yes rfl rfl rfl rfl (.load rfl (Ld.ownCell ag28 hb1 (hta).c3) rfl (.yes rfl rfl rfl rfl (.lenSl rfl (hta).argsOk el28 rfl (.yes rfl rfl rfl rfl (.fieldAddr rfl fo33_3 rfl (.yes rfl rfl rfl rfl (.load rfl (Ld.ownCell ag28 hb2 (htb).c3) rfl (.yes rfl rfl rfl rfl (.lenSl rfl (htb).argsOk el28 rfl (.yes rfl rfl rfl rfl (.neI rfl rfl rfl (.pickF rfl rfl rfl (.ops0 (.thenN ?_)))))))))))))))))))))))
 have hb : ((!decide ((a.args : Int) = (b.args : Int)))) = false := by simp [hs.k, hs.nm, hs.v1, hs.v2, hs.a1, hs.a2, hs.r1, hs.r2]
 refine .set (d := 55) (u := .bool false) rfl (congrArg Value.bool hb) (.condF rfl (.skip (.thenN (.seq (.seq (.region (.assign rfl rfl (.ops0 (.thenN (.block ?_))))))))))
 refine At.loop (Nat) (fun k => [(2, .pointer (some ⟨b1, 0, none⟩)), (3, .pointer (some ⟨b2, 0, none⟩)), (6, .int .i64 (k : Int))]) (fun k w4 => Below w.heap.size w w4 ∧ w4.heap[b1]? = some (.cells a.cs 33) ∧ w4.heap[b2]? = some (.cells b.cs 33) ∧ (0 ≤ k)) (fun k => a.args - k) (0 : Nat) (Sub.cons rfl (Sub.cons rfl (Sub.cons rfl Sub.nil))) ⟨hB, hb1, hb2, (Nat.zero_le _)⟩ (fun k w4 hI => ?_)
 clear hB hb1 hb2
 obtain ⟨hB, hb1, hb2, hkb⟩ := hI
 show At _ _ [(2, .pointer (some ⟨b1, 0, none⟩)), (3, .pointer (some ⟨b2, 0, none⟩)), (6, .int .i64 (k : Int))] _ _
 refine .seq (.seq (.region (.move rfl rfl (.fieldAddr rfl fo33_3 rfl (.load rfl (Ld.ownCell ag28 hb1 (hta).c3) rfl (.lenSl rfl (hta).argsOk el28 rfl (.lss rfl rfl rfl (.ops0 (.thenN ?_)))))))))
 have hb : (decide ((k : Int) < (a.args : Int))) = false := by simp [hs.a1]
 refine .set (d := 60) (u := .bool false) rfl (congrArg Value.bool hb) (.condF rfl (.exit (.thenE (.thenE (.inE (.thenN (.seq (.region (.assign rfl rfl (.ops0 (.thenN (.retc (.doneR (ResV.tmp rfl ResV.nil) ?_)))))))))))))
 exact ⟨rfl, hB⟩
theorem sameEffect_any (a b : Eff) (w : World) (hta : EffOk w a) (htb : EffOk w b) (hs : EffF a b) :
  Calls Try.prog 41 ([.agg a.cs, .agg b.cs] : List Value).toArray w fun e w' => e = .returned (.bool true) ∧ Below w.heap.size w w' := by
 have hl_ := hs.len
 have hB := Below.refl w.heap.size w
 refine At.enter (N := 76) Try.func41 rfl rfl (by simp) [(0, .agg a.cs), (1, .agg b.cs)] (by simp) ?_
 refine .seq (.region ?_)
 refine At.box rfl rfl (fun b1 w1 F1 => ?_)
 have gb1 := F1.ge hB
 have hb1 : w1.heap[b1]? = some (.cells a.cs 55) := F1.new
 replace hB := F1.below' hB
 refine At.box rfl rfl (fun b2 w2 F2 => ?_)
 have n_b1_b2 : b1 ≠ b2 := Nat.ne_of_lt (F2.lt hb1)
 have gb2 := F2.ge hB
 replace hb1 := F2.old hb1
 have hb2 : w2.heap[b2]? = some (.cells b.cs 55) := F2.new
 replace hB := F2.below' hB
 refine .assign rfl rfl (.ops0 (.thenN (.seq (.seq (.region (.fieldAddr rfl fo55_0 rfl (.load rfl (Ld.ownCell ag9 hb1 (hta).c0) rfl (.fieldAddr rfl fo55_0 rfl (.load rfl (Ld.ownCell ag9 hb2 (htb).c0) rfl (.neS rfl rfl rfl (.move rfl rfl ?_)))))))))))
 have hbb1 : ((!decide (a.nm = b.nm))) = false := by simp [hs.nm, hs.len]
 refine .set (d := 13) (u := .bool false) rfl (congrArg Value.bool hbb1) (.yes rfl rfl rfl rfl (.fieldAddr rfl fo55_1 rfl (.yes rfl rfl rfl rfl (.load rfl (Ld.ownCell ag53 hb1 (hta).c1) rfl (.yes rfl rfl rfl rfl (.lenSl rfl ((hta).opsAt).okL el53 rfl (.yes rfl rfl rfl rfl (.fieldAddr rfl fo55_1 rfl (.yes rfl rfl rfl rfl (.load rfl (Ld.ownCell ag53 hb2 (htb).c1) rfl (.yes rfl rfl rfl rfl (.lenSl rfl ((htb).opsAt).okL el53 rfl (.yes rfl rfl rfl rfl (.neI rfl rfl rfl (.pickF rfl rfl rfl (.ops0 (.thenN ?_)))))))))))))))))
 have hb : ((!decide ((a.ops.length : Int) = (b.ops.length : Int)))) = false := by simp [hs.nm, hs.len]
 refine .set (d := 21) (u := .bool false) rfl (congrArg Value.bool hb) (.condF rfl (.skip (.thenN (.seq (.seq (.region (.assign rfl rfl (.ops0 (.thenN (.block ?_))))))))))
 refine At.loop (Nat) (fun k => [(2, .pointer (some ⟨b1, 0, none⟩)), (3, .pointer (some ⟨b2, 0, none⟩)), (5, .int .i64 (k : Int))]) (fun k w3 => Below w.heap.size w w3 ∧ w3.heap[b1]? = some (.cells a.cs 55) ∧ w3.heap[b2]? = some (.cells b.cs 55) ∧ (k ≤ a.ops.length)) (fun k => a.ops.length - k) (0 : Nat) (Sub.cons rfl (Sub.cons rfl (Sub.cons rfl Sub.nil))) ⟨hB, hb1, hb2, (Nat.zero_le _)⟩ (fun k w3 hI => ?_)
 clear hB hb1 hb2
 obtain ⟨hB, hb1, hb2, hkb⟩ := hI
 show At _ _ [(2, .pointer (some ⟨b1, 0, none⟩)), (3, .pointer (some ⟨b2, 0, none⟩)), (5, .int .i64 (k : Int))] _ _
 have hol := hta.opsAt.lenL
 refine .seq (.seq (.region (.move rfl rfl (.fieldAddr rfl fo55_1 rfl (.load rfl (Ld.ownCell ag53 hb1 (hta).c1) rfl (.lenSl rfl ((hta).opsAt).okL el53 rfl (.lss rfl rfl rfl (.ops0 (.thenN ?_)))))))))
 refine At.cond (b := decide ((k : Int) < (a.ops.length : Int))) rfl (fun hc1 => ?_) (fun hc1 => ?_)
 ·skip
  have hc1' := of_decide_eq_true hc1
  refine .skip (.thenN (.seq (.block (.seq ?_))))
  obtain ⟨u, hu⟩ := some_of_lt (l := a.ops) (i := k) (by omega)
  obtain ⟨x, hx⟩ := some_of_lt (l := b.ops) (i := k) (by omega)
  have hF := hs.op hu hx
  refine .drawG (n := 14) mixed (by kernel_rfl) rfl (PanicOk.then (PanicOk.block (PanicOk.then (PanicOk.then (PanicOk.block (PanicOk.then PanicOk.body)))))) ?_
  have hB := Below.drewB hB
  have hb1 : _ := (show w3.drew.heap[b1]? = _ from hb1)
  have hb2 : _ := (show w3.drew.heap[b2]? = _ from hb2)
  refine At.wpcS (i := 0) (d := 29) (.pointer (some ⟨b1, 0 + 1, none⟩)) (by kernel_rfl) rfl rfl rfl (fun Lx => ?_) ?_
  ·skip
   refine .fieldAddr rfl fo55_1 rfl (.ops0 ?_)
   exact fun a ha => ⟨ha, rfl⟩
  refine At.wpcS (i := 1) (d := 30) (a.ov) (by kernel_rfl) rfl rfl rfl (fun Lx => ?_) ?_
  ·skip
   refine .load rfl (Ld.ownCell ag53 hb1 (hta).c1) rfl (.ops0 ?_)
   exact fun a ha => ⟨ha, rfl⟩
  refine At.wpcS (i := 2) (d := 31) (.int .i64 (k : Int)) (by kernel_rfl) rfl rfl rfl (fun Lx => ?_) ?_
  ·skip
   refine .move rfl rfl (.ops0 ?_)
   exact fun a ha => ⟨ha, rfl⟩
  refine At.wpcS (i := 3) (d := 32) (.pointer (some ⟨vBlock a.ov, vOff a.ov + k * 13, none⟩)) (by kernel_rfl) rfl rfl rfl (fun Lx => ?_) ?_
  ·skip
   refine .indexAddr (i := k) rfl rfl ((hta).opsAt).okL (lt_of_some hu) el53 sz57 rfl (.ops0 ?_)
   exact fun a ha => ⟨ha, rfl⟩
  refine At.wpcS (i := 4) (d := 33) (.pointer (some ⟨vBlock a.ov, vOff a.ov + k * 13 + 1, none⟩)) (by kernel_rfl) rfl rfl rfl (fun Lx => ?_) ?_
  ·skip
   refine .fieldAddr rfl fo57_1 rfl (.ops0 ?_)
   exact fun a ha => ⟨ha, rfl⟩
  refine At.wpcS (i := 5) (d := 34) (.agg u.arg.cs) (by kernel_rfl) rfl rfl rfl (fun Lx => ?_) ?_
  ·skip
   refine .load rfl (Ld.row ag33 (sz33.trans (congrArg some ((((hta).op hu)).argOk).size.symm)) (((((hta).opsAt).row hu).part 1 (((hta).op hu)).argCs).keep hB)) rfl (.ops0 ?_)
   exact fun a ha => ⟨ha, rfl⟩
  refine At.wpcS (i := 6) (d := 35) (.pointer (some ⟨b2, 0 + 1, none⟩)) (by kernel_rfl) rfl rfl rfl (fun Lx => ?_) ?_
  ·skip
   refine .fieldAddr rfl fo55_1 rfl (.ops0 ?_)
   exact fun a ha => ⟨ha, rfl⟩
  refine At.wpcS (i := 7) (d := 36) (b.ov) (by kernel_rfl) rfl rfl rfl (fun Lx => ?_) ?_
  ·skip
   refine .load rfl (Ld.ownCell ag53 hb2 (htb).c1) rfl (.ops0 ?_)
   exact fun a ha => ⟨ha, rfl⟩
  refine At.wpcS (i := 8) (d := 37) (.int .i64 (k : Int)) (by kernel_rfl) rfl rfl rfl (fun Lx => ?_) ?_
  ·skip
   refine .move rfl rfl (.ops0 ?_)
   exact fun a ha => ⟨ha, rfl⟩
  refine At.wpcS (i := 9) (d := 38) (.pointer (some ⟨vBlock b.ov, vOff b.ov + k * 13, none⟩)) (by kernel_rfl) rfl rfl rfl (fun Lx => ?_) ?_
  ·skip
   refine .indexAddr (i := k) rfl rfl ((htb).opsAt).okL (lt_of_some hx) el53 sz57 rfl (.ops0 ?_)
   exact fun a ha => ⟨ha, rfl⟩
  refine At.wpcS (i := 10) (d := 39) (.pointer (some ⟨vBlock b.ov, vOff b.ov + k * 13 + 1, none⟩)) (by kernel_rfl) rfl rfl rfl (fun Lx => ?_) ?_
  ·skip
   refine .fieldAddr rfl fo57_1 rfl (.ops0 ?_)
   exact fun a ha => ⟨ha, rfl⟩
  refine At.wpcS (i := 11) (d := 40) (.agg x.arg.cs) (by kernel_rfl) rfl rfl rfl (fun Lx => ?_) ?_
  ·skip
   refine .load rfl (Ld.row ag33 (sz33.trans (congrArg some ((((htb).op hx)).argOk).size.symm)) (((((htb).opsAt).row hx).part 1 (((htb).op hx)).argCs).keep hB)) rfl (.ops0 ?_)
   exact fun a ha => ⟨ha, rfl⟩
  refine At.wpcE [12] (by kernel_rfl) (by kernel_rfl) (.cons [] rfl (by kernel_rfl) ?_ .nil)
  refine At.call en62 rfl rfl (sameType_any u.arg x.arg _ (((hta).op hu)).argOk (((htb).op hx)).argOk hF.arg) (fun e w4 hR => ?_)
  obtain ⟨rfl, hbl1⟩ := hR
  refine ⟨_, rfl, ?_⟩
  replace hb1 := Below.old hbl1 hb1
  replace hb2 := Below.old hbl1 hb2
  replace hB := Below.andThen hB hbl1
  refine .ops0 (.wpcN .nil ?_)
  refine At.wpcE [13] (by kernel_rfl) (by kernel_rfl) (.cons [] rfl (by kernel_rfl) ?_ .nil)
  refine .assign rfl rfl (.ops0 (.wpcN .nil (.wpcZ (.thenN (.seq (.drawG (n := 14) mixed (by kernel_rfl) rfl (PanicOk.then (PanicOk.block (PanicOk.then (PanicOk.then (PanicOk.block (PanicOk.then PanicOk.body)))))) ?_))))))
  have hB := Below.drewB hB
  have hb1 : _ := (show w4.drew.heap[b1]? = _ from hb1)
  have hb2 : _ := (show w4.drew.heap[b2]? = _ from hb2)
  refine At.wpcS (i := 0) (d := 42) (.pointer (some ⟨b1, 0 + 1, none⟩)) (by kernel_rfl) rfl rfl rfl (fun Lx => ?_) ?_
  ·skip
   refine .fieldAddr rfl fo55_1 rfl (.ops0 ?_)
   exact fun a ha => ⟨ha, rfl⟩
  refine At.wpcS (i := 1) (d := 43) (a.ov) (by kernel_rfl) rfl rfl rfl (fun Lx => ?_) ?_
  ·skip
   refine .load rfl (Ld.ownCell ag53 hb1 (hta).c1) rfl (.ops0 ?_)
   exact fun a ha => ⟨ha, rfl⟩
  refine At.wpcS (i := 2) (d := 44) (.int .i64 (k : Int)) (by kernel_rfl) rfl rfl rfl (fun Lx => ?_) ?_
  ·skip
   refine .move rfl rfl (.ops0 ?_)
   exact fun a ha => ⟨ha, rfl⟩
  refine At.wpcS (i := 3) (d := 45) (.pointer (some ⟨vBlock a.ov, vOff a.ov + k * 13, none⟩)) (by kernel_rfl) rfl rfl rfl (fun Lx => ?_) ?_
  ·skip
   refine .indexAddr (i := k) rfl rfl ((hta).opsAt).okL (lt_of_some hu) el53 sz57 rfl (.ops0 ?_)
   exact fun a ha => ⟨ha, rfl⟩
  refine At.wpcS (i := 4) (d := 46) (.pointer (some ⟨vBlock a.ov, vOff a.ov + k * 13 + 7, none⟩)) (by kernel_rfl) rfl rfl rfl (fun Lx => ?_) ?_
  ·skip
   refine .fieldAddr rfl fo57_2 rfl (.ops0 ?_)
   exact fun a ha => ⟨ha, rfl⟩
  refine At.wpcS (i := 5) (d := 47) (.agg u.res.cs) (by kernel_rfl) rfl rfl rfl (fun Lx => ?_) ?_
  ·skip
   refine .load rfl (Ld.row ag33 (sz33.trans (congrArg some ((((hta).op hu)).resOk).size.symm)) (((((hta).opsAt).row hu).part 7 (((hta).op hu)).resCs).keep hB)) rfl (.ops0 ?_)
   exact fun a ha => ⟨ha, rfl⟩
  refine At.wpcS (i := 6) (d := 48) (.pointer (some ⟨b2, 0 + 1, none⟩)) (by kernel_rfl) rfl rfl rfl (fun Lx => ?_) ?_
  ·skip
   refine .fieldAddr rfl fo55_1 rfl (.ops0 ?_)
   exact fun a ha => ⟨ha, rfl⟩
  refine At.wpcS (i := 7) (d := 49) (b.ov) (by kernel_rfl) rfl rfl rfl (fun Lx => ?_) ?_
  ·skip
   refine .load rfl (Ld.ownCell ag53 hb2 (htb).c1) rfl (.ops0 ?_)
   exact fun a ha => ⟨ha, rfl⟩
  refine At.wpcS (i := 8) (d := 50) (.int .i64 (k : Int)) (by kernel_rfl) rfl rfl rfl (fun Lx => ?_) ?_
  ·skip
   refine .move rfl rfl (.ops0 ?_)
   exact fun a ha => ⟨ha, rfl⟩
  refine At.wpcS (i := 9) (d := 51) (.pointer (some ⟨vBlock b.ov, vOff b.ov + k * 13, none⟩)) (by kernel_rfl) rfl rfl rfl (fun Lx => ?_) ?_
  ·skip
   refine .indexAddr (i := k) rfl rfl ((htb).opsAt).okL (lt_of_some hx) el53 sz57 rfl (.ops0 ?_)
   exact fun a ha => ⟨ha, rfl⟩
  refine At.wpcS (i := 10) (d := 52) (.pointer (some ⟨vBlock b.ov, vOff b.ov + k * 13 + 7, none⟩)) (by kernel_rfl) rfl rfl rfl (fun Lx => ?_) ?_
  ·skip
   refine .fieldAddr rfl fo57_2 rfl (.ops0 ?_)
   exact fun a ha => ⟨ha, rfl⟩
  refine At.wpcS (i := 11) (d := 53) (.agg x.res.cs) (by kernel_rfl) rfl rfl rfl (fun Lx => ?_) ?_
  ·skip
   refine .load rfl (Ld.row ag33 (sz33.trans (congrArg some ((((htb).op hx)).resOk).size.symm)) (((((htb).opsAt).row hx).part 7 (((htb).op hx)).resCs).keep hB)) rfl (.ops0 ?_)
   exact fun a ha => ⟨ha, rfl⟩
  refine At.wpcE [12] (by kernel_rfl) (by kernel_rfl) (.cons [] rfl (by kernel_rfl) ?_ .nil)
  refine At.call en62 rfl rfl (sameType_any u.res x.res _ (((hta).op hu)).resOk (((htb).op hx)).resOk hF.res) (fun e w5 hR => ?_)
  obtain ⟨rfl, hbl2⟩ := hR
  refine ⟨_, rfl, ?_⟩
  replace hb1 := Below.old hbl2 hb1
  replace hb2 := Below.old hbl2 hb2
  replace hB := Below.andThen hB hbl2
  refine .ops0 (.wpcN .nil ?_)
  refine At.wpcE [13] (by kernel_rfl) (by kernel_rfl) (.cons [] rfl (by kernel_rfl) ?_ .nil)
  refine .assign rfl rfl (.ops0 (.wpcN .nil (.wpcZ (.thenN (.seq ?_)))))
  have hbb2 : ((!decide (u.nm = x.nm))) = false := by simp [hF.nm]
  refine .drawG (n := 21) mixed (by kernel_rfl) rfl (PanicOk.then (PanicOk.block (PanicOk.then (PanicOk.then (PanicOk.block (PanicOk.then PanicOk.body)))))) ?_
  have hB := Below.drewB hB
  have hb1 : _ := (show w5.drew.heap[b1]? = _ from hb1)
  have hb2 : _ := (show w5.drew.heap[b2]? = _ from hb2)
  refine At.wpcS (i := 0) (d := 55) (.pointer (some ⟨b1, 0 + 1, none⟩)) (by kernel_rfl) rfl rfl rfl (fun Lx => ?_) ?_
  ·skip
   refine .fieldAddr rfl fo55_1 rfl (.ops0 ?_)
   exact fun a ha => ⟨ha, rfl⟩
  refine At.wpcS (i := 1) (d := 56) (a.ov) (by kernel_rfl) rfl rfl rfl (fun Lx => ?_) ?_
  ·skip
   refine .load rfl (Ld.ownCell ag53 hb1 (hta).c1) rfl (.ops0 ?_)
   exact fun a ha => ⟨ha, rfl⟩
  refine At.wpcS (i := 2) (d := 57) (.int .i64 (k : Int)) (by kernel_rfl) rfl rfl rfl (fun Lx => ?_) ?_
  ·skip
   refine .move rfl rfl (.ops0 ?_)
   exact fun a ha => ⟨ha, rfl⟩
  refine At.wpcS (i := 3) (d := 58) (.pointer (some ⟨vBlock a.ov, vOff a.ov + k * 13, none⟩)) (by kernel_rfl) rfl rfl rfl (fun Lx => ?_) ?_
  ·skip
   refine .indexAddr (i := k) rfl rfl ((hta).opsAt).okL (lt_of_some hu) el53 sz57 rfl (.ops0 ?_)
   exact fun a ha => ⟨ha, rfl⟩
  refine At.wpcS (i := 4) (d := 59) (.pointer (some ⟨vBlock a.ov, vOff a.ov + k * 13 + 0, none⟩)) (by kernel_rfl) rfl rfl rfl (fun Lx => ?_) ?_
  ·skip
   refine .fieldAddr rfl fo57_0 rfl (.ops0 ?_)
   exact fun a ha => ⟨ha, rfl⟩
  refine At.wpcS (i := 5) (d := 60) (.string u.nm) (by kernel_rfl) rfl rfl rfl (fun Lx => ?_) ?_
  ·skip
   refine .load rfl (Ld.cell ag9 (cell_keep ((((hta).opsAt).row hu).get (((hta).op hu)).c0) hB)) rfl (.ops0 ?_)
   exact fun a ha => ⟨ha, rfl⟩
  refine At.wpcS (i := 6) (d := 61) (.pointer (some ⟨b2, 0 + 1, none⟩)) (by kernel_rfl) rfl rfl rfl (fun Lx => ?_) ?_
  ·skip
   refine .fieldAddr rfl fo55_1 rfl (.ops0 ?_)
   exact fun a ha => ⟨ha, rfl⟩
  refine At.wpcS (i := 7) (d := 62) (b.ov) (by kernel_rfl) rfl rfl rfl (fun Lx => ?_) ?_
  ·skip
   refine .load rfl (Ld.ownCell ag53 hb2 (htb).c1) rfl (.ops0 ?_)
   exact fun a ha => ⟨ha, rfl⟩
  refine At.wpcS (i := 8) (d := 63) (.int .i64 (k : Int)) (by kernel_rfl) rfl rfl rfl (fun Lx => ?_) ?_
  ·skip
   refine .move rfl rfl (.ops0 ?_)
   exact fun a ha => ⟨ha, rfl⟩
  refine At.wpcS (i := 9) (d := 64) (.pointer (some ⟨vBlock b.ov, vOff b.ov + k * 13, none⟩)) (by kernel_rfl) rfl rfl rfl (fun Lx => ?_) ?_
  ·skip
   refine .indexAddr (i := k) rfl rfl ((htb).opsAt).okL (lt_of_some hx) el53 sz57 rfl (.ops0 ?_)
   exact fun a ha => ⟨ha, rfl⟩
  refine At.wpcS (i := 10) (d := 65) (.pointer (some ⟨vBlock b.ov, vOff b.ov + k * 13 + 0, none⟩)) (by kernel_rfl) rfl rfl rfl (fun Lx => ?_) ?_
  ·skip
   refine .fieldAddr rfl fo57_0 rfl (.ops0 ?_)
   exact fun a ha => ⟨ha, rfl⟩
  refine At.wpcS (i := 11) (d := 66) (.string x.nm) (by kernel_rfl) rfl rfl rfl (fun Lx => ?_) ?_
  ·skip
   refine .load rfl (Ld.cell ag9 (cell_keep ((((htb).opsAt).row hx).get (((htb).op hx)).c0) hB)) rfl (.ops0 ?_)
   exact fun a ha => ⟨ha, rfl⟩
  refine At.wpcS (i := 12) (d := 67) (.bool (!decide (u.nm = x.nm))) (by kernel_rfl) rfl rfl rfl (fun Lx => ?_) ?_
  ·skip
   refine .neS rfl rfl rfl (.ops0 ?_)
   exact fun a ha => ⟨ha, rfl⟩
  refine .set (d := 67) (u := .bool false) rfl (congrArg Value.bool hbb2) ?_
  refine At.wpcS (i := 13) (d := 68) (.bool false) (by kernel_rfl) rfl rfl rfl (fun Lx => ?_) ?_
  ·skip
   refine .move rfl rfl (.ops0 ?_)
   exact fun a ha => ⟨ha, rfl⟩
  refine At.wpcS (i := 14) (d := 69) (.bool true) (by kernel_rfl) rfl rfl rfl (fun Lx => ?_) ?_
  ·skip
   refine .yes rfl rfl rfl rfl (.move rfl rfl (.ops0 ?_))
   exact fun a ha => ⟨ha, rfl⟩
  refine At.wpcS (i := 15) (d := 70) (.bool false) (by kernel_rfl) rfl rfl rfl (fun Lx => ?_) ?_
  ·skip
   refine .yes rfl rfl rfl rfl (.not rfl rfl (.ops0 ?_))
   exact fun a ha => ⟨ha, rfl⟩
  refine At.wpcS (i := 16) (d := 71) (.bool false) (by kernel_rfl) rfl rfl rfl (fun Lx => ?_) ?_
  ·skip
   refine .pickF rfl rfl rfl (.ops0 ?_)
   exact fun a ha => ⟨ha, rfl⟩
  refine At.wpcS (i := 17) (d := 72) (.bool false) (by kernel_rfl) rfl rfl rfl (fun Lx => ?_) ?_
  ·skip
   refine .move rfl rfl (.ops0 ?_)
   exact fun a ha => ⟨ha, rfl⟩
  refine At.wpcS (i := 18) (d := 73) (.bool true) (by kernel_rfl) rfl rfl rfl (fun Lx => ?_) ?_
  ·skip
   refine .yes rfl rfl rfl rfl (.move rfl rfl (.ops0 ?_))
   exact fun a ha => ⟨ha, rfl⟩
  refine At.wpcS (i := 19) (d := 74) (.bool false) (by kernel_rfl) rfl rfl rfl (fun Lx => ?_) ?_
  ·skip
   refine .yes rfl rfl rfl rfl (.not rfl rfl (.ops0 ?_))
   exact fun a ha => ⟨ha, rfl⟩
  refine At.wpcS (i := 20) (d := 75) (.bool false) (by kernel_rfl) rfl rfl rfl (fun Lx => ?_) ?_
  ·skip
   refine .pickF rfl rfl rfl (.ops0 ?_)
   exact fun a ha => ⟨ha, rfl⟩
  refine .wpcZ (.thenN (.condF rfl (.skip (.inN (.thenN (.region (.move rfl rfl (.addI rfl rfl rfl (by omega) (.assign rfl rfl (.ops0 (.thenN ?_)))))))))))
  exact fun act_ hact_ => ⟨(k + 1), hact_.sub (Sub.cons rfl (Sub.cons rfl (Sub.cons rfl Sub.nil))), ⟨hB, hb1, hb2, (by omega)⟩, by first | omega | (dsimp only; omega)⟩
 ·skip
  have hc1' := of_decide_eq_false hc1
  refine .exit (.thenE (.thenE (.inE (.thenN (.seq (.region (.assign rfl rfl (.ops0 (.thenN (.retc (.doneR (ResV.tmp rfl ResV.nil) ?_)))))))))))
  exact ⟨rfl, hB⟩
theorem sameData_any (a b : Dat) (w : World) (hta : DatOk w a) (htb : DatOk w b) (hs : DatF a b) :
  Calls Try.prog 42 ([.agg a.cs, .agg b.cs] : List Value).toArray w fun e w' => e = .returned (.bool true) ∧ Below w.heap.size w w' := by
 have hl_ := hs.len
 have hB := Below.refl w.heap.size w
 refine At.enter (N := 91) Try.func42 rfl rfl (by simp) [(0, .agg a.cs), (1, .agg b.cs)] (by simp) ?_
 refine .seq (.region ?_)
 refine At.box rfl rfl (fun b1 w1 F1 => ?_)
 have gb1 := F1.ge hB
 have hb1 : w1.heap[b1]? = some (.cells a.cs 66) := F1.new
 replace hB := F1.below' hB
 refine At.box rfl rfl (fun b2 w2 F2 => ?_)
 have n_b1_b2 : b1 ≠ b2 := Nat.ne_of_lt (F2.lt hb1)
 have gb2 := F2.ge hB
 replace hb1 := F2.old hb1
 have hb2 : w2.heap[b2]? = some (.cells b.cs 66) := F2.new
 replace hB := F2.below' hB
 refine .assign rfl rfl (.ops0 (.thenN (.seq (.seq (.region (.fieldAddr rfl fo66_0 rfl (.load rfl (Ld.ownCell ag9 hb1 (hta).c0) rfl (.fieldAddr rfl fo66_0 rfl (.load rfl (Ld.ownCell ag9 hb2 (htb).c0) rfl (.neS rfl rfl rfl (.move rfl rfl ?_)))))))))))
 have hbb1 : ((!decide (a.nm = b.nm))) = false := by simp [hs.nm, hs.len]
 refine .set (d := 13) (u := .bool false) rfl (congrArg Value.bool hbb1) (.yes rfl rfl rfl rfl (.fieldAddr rfl fo66_1 rfl (.yes rfl rfl rfl rfl (.load rfl (Ld.ownCell ag64 hb1 (hta).c1) rfl (.yes rfl rfl rfl rfl (.lenSl rfl ((hta).consAt).okL el64 rfl (.yes rfl rfl rfl rfl (.fieldAddr rfl fo66_1 rfl (.yes rfl rfl rfl rfl (.load rfl (Ld.ownCell ag64 hb2 (htb).c1) rfl (.yes rfl rfl rfl rfl (.lenSl rfl ((htb).consAt).okL el64 rfl (.yes rfl rfl rfl rfl (.neI rfl rfl rfl (.pickF rfl rfl rfl (.ops0 (.thenN ?_)))))))))))))))))
 have hb : ((!decide ((a.cons.length : Int) = (b.cons.length : Int)))) = false := by simp [hs.nm, hs.len]
 refine .set (d := 21) (u := .bool false) rfl (congrArg Value.bool hb) (.condF rfl (.skip (.thenN (.seq (.seq (.region (.assign rfl rfl (.ops0 (.thenN (.block ?_))))))))))
 refine At.loop (Nat) (fun k => [(2, .pointer (some ⟨b1, 0, none⟩)), (3, .pointer (some ⟨b2, 0, none⟩)), (5, .int .i64 (k : Int))]) (fun k w3 => Below w.heap.size w w3 ∧ w3.heap[b1]? = some (.cells a.cs 66) ∧ w3.heap[b2]? = some (.cells b.cs 66) ∧ (k ≤ a.cons.length)) (fun k => a.cons.length - k) (0 : Nat) (Sub.cons rfl (Sub.cons rfl (Sub.cons rfl Sub.nil))) ⟨hB, hb1, hb2, (Nat.zero_le _)⟩ (fun k w3 hI => ?_)
 clear hB hb1 hb2
 obtain ⟨hB, hb1, hb2, hkb⟩ := hI
 show At _ _ [(2, .pointer (some ⟨b1, 0, none⟩)), (3, .pointer (some ⟨b2, 0, none⟩)), (5, .int .i64 (k : Int))] _ _
 have hol := hta.consAt.lenL
 refine .seq (.seq (.region (.move rfl rfl (.fieldAddr rfl fo66_1 rfl (.load rfl (Ld.ownCell ag64 hb1 (hta).c1) rfl (.lenSl rfl ((hta).consAt).okL el64 rfl (.lss rfl rfl rfl (.ops0 (.thenN ?_)))))))))
 refine At.cond (b := decide ((k : Int) < (a.cons.length : Int))) rfl (fun hc1 => ?_) (fun hc1 => ?_)
 ·skip
  have hc1' := of_decide_eq_true hc1
  refine .skip (.thenN (.seq (.block (.seq (.seq ?_)))))
  obtain ⟨u, hu⟩ := some_of_lt (l := a.cons) (i := k) (by omega)
  obtain ⟨x, hx⟩ := some_of_lt (l := b.cons) (i := k) (by omega)
  have hF := hs.con hu hx
  have hfl := (hta.con hu).fieldsAt.lenL; have hfe := hF.len
  have hbb2 : ((!decide (u.nm = x.nm))) = false := by simp [hF.nm, hF.len]
  refine .drawG (n := 30) mixed (by kernel_rfl) rfl (PanicOk.then (PanicOk.then (PanicOk.block (PanicOk.then (PanicOk.then (PanicOk.block (PanicOk.then PanicOk.body))))))) ?_
  have hB := Below.drewB hB
  have hb1 : _ := (show w3.drew.heap[b1]? = _ from hb1)
  have hb2 : _ := (show w3.drew.heap[b2]? = _ from hb2)
  refine At.wpcS (i := 0) (d := 29) (.pointer (some ⟨b1, 0 + 1, none⟩)) (by kernel_rfl) rfl rfl rfl (fun Lx => ?_) ?_
  ·skip
   refine .fieldAddr rfl fo66_1 rfl (.ops0 ?_)
   exact fun a ha => ⟨ha, rfl⟩
  refine At.wpcS (i := 1) (d := 30) (a.cv) (by kernel_rfl) rfl rfl rfl (fun Lx => ?_) ?_
  ·skip
   refine .load rfl (Ld.ownCell ag64 hb1 (hta).c1) rfl (.ops0 ?_)
   exact fun a ha => ⟨ha, rfl⟩
  refine At.wpcS (i := 2) (d := 31) (.int .i64 (k : Int)) (by kernel_rfl) rfl rfl rfl (fun Lx => ?_) ?_
  ·skip
   refine .move rfl rfl (.ops0 ?_)
   exact fun a ha => ⟨ha, rfl⟩
  refine At.wpcS (i := 3) (d := 32) (.pointer (some ⟨vBlock a.cv, vOff a.cv + k * 2, none⟩)) (by kernel_rfl) rfl rfl rfl (fun Lx => ?_) ?_
  ·skip
   refine .indexAddr (i := k) rfl rfl ((hta).consAt).okL (lt_of_some hu) el64 sz68 rfl (.ops0 ?_)
   exact fun a ha => ⟨ha, rfl⟩
  refine At.wpcS (i := 4) (d := 33) (.pointer (some ⟨vBlock a.cv, vOff a.cv + k * 2 + 0, none⟩)) (by kernel_rfl) rfl rfl rfl (fun Lx => ?_) ?_
  ·skip
   refine .fieldAddr rfl fo68_0 rfl (.ops0 ?_)
   exact fun a ha => ⟨ha, rfl⟩
  refine At.wpcS (i := 5) (d := 34) (.string u.nm) (by kernel_rfl) rfl rfl rfl (fun Lx => ?_) ?_
  ·skip
   refine .load rfl (Ld.cell ag9 (cell_keep ((((hta).consAt).row hu).get (((hta).con hu)).c0) hB)) rfl (.ops0 ?_)
   exact fun a ha => ⟨ha, rfl⟩
  refine At.wpcS (i := 6) (d := 35) (.pointer (some ⟨b2, 0 + 1, none⟩)) (by kernel_rfl) rfl rfl rfl (fun Lx => ?_) ?_
  ·skip
   refine .fieldAddr rfl fo66_1 rfl (.ops0 ?_)
   exact fun a ha => ⟨ha, rfl⟩
  refine At.wpcS (i := 7) (d := 36) (b.cv) (by kernel_rfl) rfl rfl rfl (fun Lx => ?_) ?_
  ·skip
   refine .load rfl (Ld.ownCell ag64 hb2 (htb).c1) rfl (.ops0 ?_)
   exact fun a ha => ⟨ha, rfl⟩
  refine At.wpcS (i := 8) (d := 37) (.int .i64 (k : Int)) (by kernel_rfl) rfl rfl rfl (fun Lx => ?_) ?_
  ·skip
   refine .move rfl rfl (.ops0 ?_)
   exact fun a ha => ⟨ha, rfl⟩
  refine At.wpcS (i := 9) (d := 38) (.pointer (some ⟨vBlock b.cv, vOff b.cv + k * 2, none⟩)) (by kernel_rfl) rfl rfl rfl (fun Lx => ?_) ?_
  ·skip
   refine .indexAddr (i := k) rfl rfl ((htb).consAt).okL (lt_of_some hx) el64 sz68 rfl (.ops0 ?_)
   exact fun a ha => ⟨ha, rfl⟩
  refine At.wpcS (i := 10) (d := 39) (.pointer (some ⟨vBlock b.cv, vOff b.cv + k * 2 + 0, none⟩)) (by kernel_rfl) rfl rfl rfl (fun Lx => ?_) ?_
  ·skip
   refine .fieldAddr rfl fo68_0 rfl (.ops0 ?_)
   exact fun a ha => ⟨ha, rfl⟩
  refine At.wpcS (i := 11) (d := 40) (.string x.nm) (by kernel_rfl) rfl rfl rfl (fun Lx => ?_) ?_
  ·skip
   refine .load rfl (Ld.cell ag9 (cell_keep ((((htb).consAt).row hx).get (((htb).con hx)).c0) hB)) rfl (.ops0 ?_)
   exact fun a ha => ⟨ha, rfl⟩
  refine At.wpcS (i := 12) (d := 41) (.bool (!decide (u.nm = x.nm))) (by kernel_rfl) rfl rfl rfl (fun Lx => ?_) ?_
  ·skip
   refine .neS rfl rfl rfl (.ops0 ?_)
   exact fun a ha => ⟨ha, rfl⟩
  refine .set (d := 41) (u := .bool false) rfl (congrArg Value.bool hbb2) ?_
  refine At.wpcS (i := 13) (d := 42) (.bool false) (by kernel_rfl) rfl rfl rfl (fun Lx => ?_) ?_
  ·skip
   refine .move rfl rfl (.ops0 ?_)
   exact fun a ha => ⟨ha, rfl⟩
  refine At.wpcS (i := 14) (d := 43) (.pointer (some ⟨b1, 0 + 1, none⟩)) (by kernel_rfl) rfl rfl rfl (fun Lx => ?_) ?_
  ·skip
   refine .yes rfl rfl rfl rfl (.fieldAddr rfl fo66_1 rfl (.ops0 ?_))
   exact fun a ha => ⟨ha, rfl⟩
  refine At.wpcS (i := 15) (d := 44) (a.cv) (by kernel_rfl) rfl rfl rfl (fun Lx => ?_) ?_
  ·skip
   refine .yes rfl rfl rfl rfl (.load rfl (Ld.ownCell ag64 hb1 (hta).c1) rfl (.ops0 ?_))
   exact fun a ha => ⟨ha, rfl⟩
  refine At.wpcS (i := 16) (d := 45) (.int .i64 (k : Int)) (by kernel_rfl) rfl rfl rfl (fun Lx => ?_) ?_
  ·skip
   refine .yes rfl rfl rfl rfl (.move rfl rfl (.ops0 ?_))
   exact fun a ha => ⟨ha, rfl⟩
  refine At.wpcS (i := 17) (d := 46) (.pointer (some ⟨vBlock a.cv, vOff a.cv + k * 2, none⟩)) (by kernel_rfl) rfl rfl rfl (fun Lx => ?_) ?_
  ·skip
   refine .yes rfl rfl rfl rfl (.indexAddr (i := k) rfl rfl ((hta).consAt).okL (lt_of_some hu) el64 sz68 rfl (.ops0 ?_))
   exact fun a ha => ⟨ha, rfl⟩
  refine At.wpcS (i := 18) (d := 47) (.pointer (some ⟨vBlock a.cv, vOff a.cv + k * 2 + 1, none⟩)) (by kernel_rfl) rfl rfl rfl (fun Lx => ?_) ?_
  ·skip
   refine .yes rfl rfl rfl rfl (.fieldAddr rfl fo68_1 rfl (.ops0 ?_))
   exact fun a ha => ⟨ha, rfl⟩
  refine At.wpcS (i := 19) (d := 48) (u.fv) (by kernel_rfl) rfl rfl rfl (fun Lx => ?_) ?_
  ·skip
   refine .yes rfl rfl rfl rfl (.load rfl (Ld.cell ag28 (cell_keep ((((hta).consAt).row hu).get (((hta).con hu)).c1) hB)) rfl (.ops0 ?_))
   exact fun a ha => ⟨ha, rfl⟩
  refine At.wpcS (i := 20) (d := 49) (.int .i64 (u.fields.length : Int)) (by kernel_rfl) rfl rfl rfl (fun Lx => ?_) ?_
  ·skip
   refine .yes rfl rfl rfl rfl (.lenSl rfl ((((hta).con hu)).fieldsAt).okL el28 rfl (.ops0 ?_))
   exact fun a ha => ⟨ha, rfl⟩
  refine At.wpcS (i := 21) (d := 50) (.pointer (some ⟨b2, 0 + 1, none⟩)) (by kernel_rfl) rfl rfl rfl (fun Lx => ?_) ?_
  ·skip
   refine .yes rfl rfl rfl rfl (.fieldAddr rfl fo66_1 rfl (.ops0 ?_))
   exact fun a ha => ⟨ha, rfl⟩
  refine At.wpcS (i := 22) (d := 51) (b.cv) (by kernel_rfl) rfl rfl rfl (fun Lx => ?_) ?_
  ·skip
   refine .yes rfl rfl rfl rfl (.load rfl (Ld.ownCell ag64 hb2 (htb).c1) rfl (.ops0 ?_))
   exact fun a ha => ⟨ha, rfl⟩
  refine At.wpcS (i := 23) (d := 52) (.int .i64 (k : Int)) (by kernel_rfl) rfl rfl rfl (fun Lx => ?_) ?_
  ·skip
   refine .yes rfl rfl rfl rfl (.move rfl rfl (.ops0 ?_))
   exact fun a ha => ⟨ha, rfl⟩
  refine At.wpcS (i := 24) (d := 53) (.pointer (some ⟨vBlock b.cv, vOff b.cv + k * 2, none⟩)) (by kernel_rfl) rfl rfl rfl (fun Lx => ?_) ?_
  ·skip
   refine .yes rfl rfl rfl rfl (.indexAddr (i := k) rfl rfl ((htb).consAt).okL (lt_of_some hx) el64 sz68 rfl (.ops0 ?_))
   exact fun a ha => ⟨ha, rfl⟩
  refine At.wpcS (i := 25) (d := 54) (.pointer (some ⟨vBlock b.cv, vOff b.cv + k * 2 + 1, none⟩)) (by kernel_rfl) rfl rfl rfl (fun Lx => ?_) ?_
  ·skip
   refine .yes rfl rfl rfl rfl (.fieldAddr rfl fo68_1 rfl (.ops0 ?_))
   exact fun a ha => ⟨ha, rfl⟩
  refine At.wpcS (i := 26) (d := 55) (x.fv) (by kernel_rfl) rfl rfl rfl (fun Lx => ?_) ?_
  ·skip
   refine .yes rfl rfl rfl rfl (.load rfl (Ld.cell ag28 (cell_keep ((((htb).consAt).row hx).get (((htb).con hx)).c1) hB)) rfl (.ops0 ?_))
   exact fun a ha => ⟨ha, rfl⟩
  refine At.wpcS (i := 27) (d := 56) (.int .i64 (x.fields.length : Int)) (by kernel_rfl) rfl rfl rfl (fun Lx => ?_) ?_
  ·skip
   refine .yes rfl rfl rfl rfl (.lenSl rfl ((((htb).con hx)).fieldsAt).okL el28 rfl (.ops0 ?_))
   exact fun a ha => ⟨ha, rfl⟩
  refine At.wpcS (i := 28) (d := 57) (.bool (!decide ((u.fields.length : Int) = (x.fields.length : Int)))) (by kernel_rfl) rfl rfl rfl (fun Lx => ?_) ?_
  ·skip
   refine .yes rfl rfl rfl rfl (.neI rfl rfl rfl (.ops0 ?_))
   exact fun a ha => ⟨ha, rfl⟩
  refine At.wpcS (i := 29) (d := 58) (.bool (!decide ((u.fields.length : Int) = (x.fields.length : Int)))) (by kernel_rfl) rfl rfl rfl (fun Lx => ?_) ?_
  ·skip
   refine .pickF rfl rfl rfl (.ops0 ?_)
   exact fun a ha => ⟨ha, rfl⟩
  refine .wpcZ (.thenN ?_)
  have hb : ((!decide ((u.fields.length : Int) = (x.fields.length : Int)))) = false := by simp [hF.nm, hF.len]
  refine .set (d := 58) (u := .bool false) rfl (congrArg Value.bool hb) (.condF rfl (.skip (.thenN (.seq (.region (.assign rfl rfl (.ops0 (.thenN (.block ?_)))))))))
  refine At.loop (Nat) (fun j => [(2, .pointer (some ⟨b1, 0, none⟩)), (3, .pointer (some ⟨b2, 0, none⟩)), (5, .int .i64 (k : Int)), (6, .int .i64 (j : Int))]) (fun j w4 => Below w.heap.size w w4 ∧ w4.heap[b1]? = some (.cells a.cs 66) ∧ w4.heap[b2]? = some (.cells b.cs 66) ∧ (j ≤ u.fields.length)) (fun j => u.fields.length - j) (0 : Nat) (Sub.cons rfl (Sub.cons rfl (Sub.cons rfl (Sub.cons rfl Sub.nil)))) ⟨hB, hb1, hb2, (Nat.zero_le _)⟩ (fun j w4 hI => ?_)
  clear hB hb1 hb2
  obtain ⟨hB, hb1, hb2, hjb⟩ := hI
  show At _ _ [(2, .pointer (some ⟨b1, 0, none⟩)), (3, .pointer (some ⟨b2, 0, none⟩)), (5, .int .i64 (k : Int)), (6, .int .i64 (j : Int))] _ _
  refine .seq (.seq (.region (.move rfl rfl (.fieldAddr rfl fo66_1 rfl (.load rfl (Ld.ownCell ag64 hb1 (hta).c1) rfl (.move rfl rfl (.indexAddr (i := k) rfl rfl ((hta).consAt).okL (lt_of_some hu) el64 sz68 rfl (.fieldAddr rfl fo68_1 rfl (.load rfl (Ld.cell ag28 (cell_keep ((((hta).consAt).row hu).get (((hta).con hu)).c1) hB)) rfl (.lenSl rfl ((((hta).con hu)).fieldsAt).okL el28 rfl (.lss rfl rfl rfl (.ops0 (.thenN ?_)))))))))))))
  refine At.cond (b := decide ((j : Int) < (u.fields.length : Int))) rfl (fun hc2 => ?_) (fun hc2 => ?_)
  ·skip
   have hc2' := of_decide_eq_true hc2
   refine .skip (.thenN (.seq (.block (.seq ?_))))
   obtain ⟨y, hy⟩ := some_of_lt (l := u.fields) (i := j) (by omega)
   obtain ⟨z, hz⟩ := some_of_lt (l := x.fields) (i := j) (by omega)
   have hG := hF.fld hy hz
   refine .drawG (n := 20) mixed (by kernel_rfl) rfl (PanicOk.then (PanicOk.block (PanicOk.then (PanicOk.then (PanicOk.block (PanicOk.block (PanicOk.then (PanicOk.then (PanicOk.block (PanicOk.then PanicOk.body)))))))))) ?_
   have hB := Below.drewB hB
   have hb1 : _ := (show w4.drew.heap[b1]? = _ from hb1)
   have hb2 : _ := (show w4.drew.heap[b2]? = _ from hb2)
   refine At.wpcS (i := 0) (d := 70) (.pointer (some ⟨b1, 0 + 1, none⟩)) (by kernel_rfl) rfl rfl rfl (fun Lx => ?_) ?_
   ·skip
    refine .fieldAddr rfl fo66_1 rfl (.ops0 ?_)
    exact fun a ha => ⟨ha, rfl⟩
   refine At.wpcS (i := 1) (d := 71) (a.cv) (by kernel_rfl) rfl rfl rfl (fun Lx => ?_) ?_
   ·skip
    refine .load rfl (Ld.ownCell ag64 hb1 (hta).c1) rfl (.ops0 ?_)
    exact fun a ha => ⟨ha, rfl⟩
   refine At.wpcS (i := 2) (d := 72) (.int .i64 (k : Int)) (by kernel_rfl) rfl rfl rfl (fun Lx => ?_) ?_
   ·skip
    refine .move rfl rfl (.ops0 ?_)
    exact fun a ha => ⟨ha, rfl⟩
   refine At.wpcS (i := 3) (d := 73) (.pointer (some ⟨vBlock a.cv, vOff a.cv + k * 2, none⟩)) (by kernel_rfl) rfl rfl rfl (fun Lx => ?_) ?_
   ·skip
    refine .indexAddr (i := k) rfl rfl ((hta).consAt).okL (lt_of_some hu) el64 sz68 rfl (.ops0 ?_)
    exact fun a ha => ⟨ha, rfl⟩
   refine At.wpcS (i := 4) (d := 74) (.pointer (some ⟨vBlock a.cv, vOff a.cv + k * 2 + 1, none⟩)) (by kernel_rfl) rfl rfl rfl (fun Lx => ?_) ?_
   ·skip
    refine .fieldAddr rfl fo68_1 rfl (.ops0 ?_)
    exact fun a ha => ⟨ha, rfl⟩
   refine At.wpcS (i := 5) (d := 75) (u.fv) (by kernel_rfl) rfl rfl rfl (fun Lx => ?_) ?_
   ·skip
    refine .load rfl (Ld.cell ag28 (cell_keep ((((hta).consAt).row hu).get (((hta).con hu)).c1) hB)) rfl (.ops0 ?_)
    exact fun a ha => ⟨ha, rfl⟩
   refine At.wpcS (i := 6) (d := 76) (.int .i64 (j : Int)) (by kernel_rfl) rfl rfl rfl (fun Lx => ?_) ?_
   ·skip
    refine .move rfl rfl (.ops0 ?_)
    exact fun a ha => ⟨ha, rfl⟩
   refine At.wpcS (i := 7) (d := 77) (.pointer (some ⟨vBlock u.fv, vOff u.fv + j * 6, none⟩)) (by kernel_rfl) rfl rfl rfl (fun Lx => ?_) ?_
   ·skip
    refine .indexAddr (i := j) rfl rfl ((((hta).con hu)).fieldsAt).okL (lt_of_some hy) el28 sz33 rfl (.ops0 ?_)
    exact fun a ha => ⟨ha, rfl⟩
   refine At.wpcS (i := 8) (d := 78) (.agg y.cs) (by kernel_rfl) rfl rfl rfl (fun Lx => ?_) ?_
   ·skip
    refine .load rfl (Ld.row ag33 (sz33.trans (congrArg some (((((hta).con hu)).field hy)).size.symm)) ((((((hta).con hu)).fieldsAt).row hy).keep hB)) rfl (.ops0 ?_)
    exact fun a ha => ⟨ha, rfl⟩
   refine At.wpcS (i := 9) (d := 79) (.pointer (some ⟨b2, 0 + 1, none⟩)) (by kernel_rfl) rfl rfl rfl (fun Lx => ?_) ?_
   ·skip
    refine .fieldAddr rfl fo66_1 rfl (.ops0 ?_)
    exact fun a ha => ⟨ha, rfl⟩
   refine At.wpcS (i := 10) (d := 80) (b.cv) (by kernel_rfl) rfl rfl rfl (fun Lx => ?_) ?_
   ·skip
    refine .load rfl (Ld.ownCell ag64 hb2 (htb).c1) rfl (.ops0 ?_)
    exact fun a ha => ⟨ha, rfl⟩
   refine At.wpcS (i := 11) (d := 81) (.int .i64 (k : Int)) (by kernel_rfl) rfl rfl rfl (fun Lx => ?_) ?_
   ·skip
    refine .move rfl rfl (.ops0 ?_)
    exact fun a ha => ⟨ha, rfl⟩
   refine At.wpcS (i := 12) (d := 82) (.pointer (some ⟨vBlock b.cv, vOff b.cv + k * 2, none⟩)) (by kernel_rfl) rfl rfl rfl (fun Lx => ?_) ?_
   ·skip
    refine .indexAddr (i := k) rfl rfl ((htb).consAt).okL (lt_of_some hx) el64 sz68 rfl (.ops0 ?_)
    exact fun a ha => ⟨ha, rfl⟩
   refine At.wpcS (i := 13) (d := 83) (.pointer (some ⟨vBlock b.cv, vOff b.cv + k * 2 + 1, none⟩)) (by kernel_rfl) rfl rfl rfl (fun Lx => ?_) ?_
   ·skip
    refine .fieldAddr rfl fo68_1 rfl (.ops0 ?_)
    exact fun a ha => ⟨ha, rfl⟩
   refine At.wpcS (i := 14) (d := 84) (x.fv) (by kernel_rfl) rfl rfl rfl (fun Lx => ?_) ?_
   ·skip
    refine .load rfl (Ld.cell ag28 (cell_keep ((((htb).consAt).row hx).get (((htb).con hx)).c1) hB)) rfl (.ops0 ?_)
    exact fun a ha => ⟨ha, rfl⟩
   refine At.wpcS (i := 15) (d := 85) (.int .i64 (j : Int)) (by kernel_rfl) rfl rfl rfl (fun Lx => ?_) ?_
   ·skip
    refine .move rfl rfl (.ops0 ?_)
    exact fun a ha => ⟨ha, rfl⟩
   refine At.wpcS (i := 16) (d := 86) (.pointer (some ⟨vBlock x.fv, vOff x.fv + j * 6, none⟩)) (by kernel_rfl) rfl rfl rfl (fun Lx => ?_) ?_
   ·skip
    refine .indexAddr (i := j) rfl rfl ((((htb).con hx)).fieldsAt).okL (lt_of_some hz) el28 sz33 rfl (.ops0 ?_)
    exact fun a ha => ⟨ha, rfl⟩
   refine At.wpcS (i := 17) (d := 87) (.agg z.cs) (by kernel_rfl) rfl rfl rfl (fun Lx => ?_) ?_
   ·skip
    refine .load rfl (Ld.row ag33 (sz33.trans (congrArg some (((((htb).con hx)).field hz)).size.symm)) ((((((htb).con hx)).fieldsAt).row hz).keep hB)) rfl (.ops0 ?_)
    exact fun a ha => ⟨ha, rfl⟩
   refine At.wpcE [18] (by kernel_rfl) (by kernel_rfl) (.cons [] rfl (by kernel_rfl) ?_ .nil)
   refine At.call en62 rfl rfl (sameType_any y z _ ((((hta).con hu)).field hy) ((((htb).con hx)).field hz) hG) (fun e w5 hR => ?_)
   obtain ⟨rfl, hbl1⟩ := hR
   refine ⟨_, rfl, ?_⟩
   replace hb1 := Below.old hbl1 hb1
   replace hb2 := Below.old hbl1 hb2
   replace hB := Below.andThen hB hbl1
   refine .ops0 (.wpcN .nil ?_)
   refine At.wpcE [19] (by kernel_rfl) (by kernel_rfl) (.cons [] rfl (by kernel_rfl) ?_ .nil)
   refine .assign rfl rfl (.ops0 (.wpcN .nil (.wpcZ (.thenN (.seq (.region (.move rfl rfl (.not rfl rfl (.ops0 (.thenN (.condF rfl (.skip (.inN (.thenN (.region (.move rfl rfl (.addI rfl rfl rfl (by omega) (.assign rfl rfl (.ops0 (.thenN ?_))))))))))))))))))))
   exact fun act_ hact_ => ⟨(j + 1), hact_.sub (Sub.cons rfl (Sub.cons rfl (Sub.cons rfl (Sub.cons rfl Sub.nil)))), ⟨hB, hb1, hb2, (by omega)⟩, by first | omega | (dsimp only; omega)⟩
  ·skip
   have hc2' := of_decide_eq_false hc2
   refine .exit (.thenE (.thenE (.inE (.inN (.thenN (.region (.move rfl rfl (.addI rfl rfl rfl (by omega) (.assign rfl rfl (.ops0 (.thenN ?_)))))))))))
   exact fun act_ hact_ => ⟨(k + 1), hact_.sub (Sub.cons rfl (Sub.cons rfl (Sub.cons rfl Sub.nil))), ⟨hB, hb1, hb2, (by omega)⟩, by first | omega | (dsimp only; omega)⟩
 ·skip
  have hc1' := of_decide_eq_false hc1
  refine .exit (.thenE (.thenE (.inE (.thenN (.seq (.region (.assign rfl rfl (.ops0 (.thenN (.retc (.doneR (ResV.tmp rfl ResV.nil) ?_)))))))))))
  exact ⟨rfl, hB⟩
theorem samePr_any (a b : Pr) (w : World) (hta : PrOk w a) (htb : PrOk w b) (hs : PrF a b) :
  Calls Try.prog 21 ([.agg a.cs, .agg b.cs, .bool false] : List Value).toArray w fun e w' => e = .returned (.bool true) ∧ Below w.heap.size w w' := by
 have hel_ := hs.el; have hdl_ := hs.dl
 have hB := Below.refl w.heap.size w
 refine At.enter (N := 78) Try.func21 rfl rfl (by simp) [(0, .agg a.cs), (1, .agg b.cs), (2, .bool false)] (by simp) ?_
 refine .seq (.region ?_)
 refine At.box rfl rfl (fun b1 w1 F1 => ?_)
 have gb1 := F1.ge hB
 have hb1 : w1.heap[b1]? = some (.cells a.cs 37) := F1.new
 replace hB := F1.below' hB
 refine At.box rfl rfl (fun b2 w2 F2 => ?_)
 have n_b1_b2 : b1 ≠ b2 := Nat.ne_of_lt (F2.lt hb1)
 have gb2 := F2.ge hB
 replace hb1 := F2.old hb1
 have hb2 : w2.heap[b2]? = some (.cells b.cs 37) := F2.new
 replace hB := F2.below' hB
 refine .assign rfl rfl (.ops0 (.thenN (.seq (.region (.fieldAddr rfl fo37_2 rfl (.load rfl (Ld.ownPart ag35 (sz35.trans (congrArg some ((hta).bodyOk).size.symm)) hb1 (hta).bodyCs) rfl (.fieldAddr rfl fo37_2 rfl (.load rfl (Ld.ownPart ag35 (sz35.trans (congrArg some ((htb).bodyOk).size.symm)) hb2 (htb).bodyCs) rfl (.move rfl rfl ?_)))))))))
 refine At.call en14 rfl rfl (same_any _ a.body b.body (Nat.le_refl _) hs.body _ (((hta).bodyOk).keep hB) (((htb).bodyOk).keep hB)) (fun e w3 hR => ?_)
 obtain ⟨rfl, hbl1⟩ := hR
 refine ⟨_, rfl, ?_⟩
 replace hb1 := Below.old hbl1 hb1
 replace hb2 := Below.old hbl1 hb2
 replace hB := Below.andThen hB hbl1
 refine .assign rfl rfl (.ops0 (.thenN (.seq (.seq (.region (.move rfl rfl (.not rfl rfl (.move rfl rfl (.yes rfl rfl rfl rfl (.fieldAddr rfl fo37_0 rfl (.yes rfl rfl rfl rfl (.load rfl (Ld.ownCell ag24 hb1 (hta).c0) rfl (.yes rfl rfl rfl rfl (.lenSl rfl ((hta).effsAt).okL el24 rfl (.yes rfl rfl rfl rfl (.fieldAddr rfl fo37_0 rfl (.yes rfl rfl rfl rfl (.load rfl (Ld.ownCell ag24 hb2 (htb).c0) rfl (.yes rfl rfl rfl rfl (.lenSl rfl ((htb).effsAt).okL el24 rfl (.yes rfl rfl rfl rfl (.neI rfl rfl rfl (.pickF rfl rfl rfl (.move rfl rfl ?_))))))))))))))))))))))))
 have hbb1 : ((!decide ((a.effs.length : Int) = (b.effs.length : Int)))) = false := by simp [hs.el, hs.dl]
 refine .set (d := 29) (u := .bool false) rfl (congrArg Value.bool hbb1) (.yes rfl rfl rfl rfl (.fieldAddr rfl fo37_1 rfl (.yes rfl rfl rfl rfl (.load rfl (Ld.ownCell ag25 hb1 (hta).c1) rfl (.yes rfl rfl rfl rfl (.lenSl rfl ((hta).datsAt).okL el25 rfl (.yes rfl rfl rfl rfl (.fieldAddr rfl fo37_1 rfl (.yes rfl rfl rfl rfl (.load rfl (Ld.ownCell ag25 hb2 (htb).c1) rfl (.yes rfl rfl rfl rfl (.lenSl rfl ((htb).datsAt).okL el25 rfl (.yes rfl rfl rfl rfl (.neI rfl rfl rfl (.pickF rfl rfl rfl (.ops0 (.thenN ?_)))))))))))))))))
 have hb : ((!decide ((a.dats.length : Int) = (b.dats.length : Int)))) = false := by simp [hs.el, hs.dl]
 refine .set (d := 37) (u := .bool false) rfl (congrArg Value.bool hb) (.condF rfl (.skip (.thenN (.seq (.seq (.region (.assign rfl rfl (.ops0 (.thenN (.block ?_))))))))))
 refine At.loop (Nat) (fun k => [(3, .pointer (some ⟨b1, 0, none⟩)), (4, .pointer (some ⟨b2, 0, none⟩)), (8, .int .i64 (k : Int))]) (fun k w4 => Below w.heap.size w w4 ∧ w4.heap[b1]? = some (.cells a.cs 37) ∧ w4.heap[b2]? = some (.cells b.cs 37) ∧ (k ≤ a.effs.length)) (fun k => a.effs.length - k) (0 : Nat) (Sub.cons rfl (Sub.cons rfl (Sub.cons rfl Sub.nil))) ⟨hB, hb1, hb2, (Nat.zero_le _)⟩ (fun k w4 hI => ?_)
 clear hB hb1 hb2
 obtain ⟨hB, hb1, hb2, hkb⟩ := hI
 show At _ _ [(3, .pointer (some ⟨b1, 0, none⟩)), (4, .pointer (some ⟨b2, 0, none⟩)), (8, .int .i64 (k : Int))] _ _
 have hel := hta.effsAt.lenL; have hdl := hta.datsAt.lenL
 refine .seq (.seq (.region (.move rfl rfl (.fieldAddr rfl fo37_0 rfl (.load rfl (Ld.ownCell ag24 hb1 (hta).c0) rfl (.lenSl rfl ((hta).effsAt).okL el24 rfl (.lss rfl rfl rfl (.ops0 (.thenN ?_)))))))))
 refine At.cond (b := decide ((k : Int) < (a.effs.length : Int))) rfl (fun hc1 => ?_) (fun hc1 => ?_)
 ·skip
  have hc1' := of_decide_eq_true hc1
  refine .skip (.thenN (.seq (.block (.seq ?_))))
  obtain ⟨u, hu⟩ := some_of_lt (l := a.effs) (i := k) (by omega)
  obtain ⟨x, hx⟩ := some_of_lt (l := b.effs) (i := k) (by omega)
  have hF := hs.eff hu hx
  refine .drawG (n := 12) mixed (by kernel_rfl) rfl (PanicOk.then (PanicOk.block (PanicOk.then (PanicOk.then (PanicOk.block (PanicOk.then PanicOk.body)))))) ?_
  have hB := Below.drewB hB
  have hb1 : _ := (show w4.drew.heap[b1]? = _ from hb1)
  have hb2 : _ := (show w4.drew.heap[b2]? = _ from hb2)
  refine At.wpcS (i := 0) (d := 45) (.pointer (some ⟨b1, 0 + 0, none⟩)) (by kernel_rfl) rfl rfl rfl (fun Lx => ?_) ?_
  ·skip
   refine .fieldAddr rfl fo37_0 rfl (.ops0 ?_)
   exact fun a ha => ⟨ha, rfl⟩
  refine At.wpcS (i := 1) (d := 46) (a.ev) (by kernel_rfl) rfl rfl rfl (fun Lx => ?_) ?_
  ·skip
   refine .load rfl (Ld.ownCell ag24 hb1 (hta).c0) rfl (.ops0 ?_)
   exact fun a ha => ⟨ha, rfl⟩
  refine At.wpcS (i := 2) (d := 47) (.int .i64 (k : Int)) (by kernel_rfl) rfl rfl rfl (fun Lx => ?_) ?_
  ·skip
   refine .move rfl rfl (.ops0 ?_)
   exact fun a ha => ⟨ha, rfl⟩
  refine At.wpcS (i := 3) (d := 48) (.pointer (some ⟨vBlock a.ev, vOff a.ev + k * 2, none⟩)) (by kernel_rfl) rfl rfl rfl (fun Lx => ?_) ?_
  ·skip
   refine .indexAddr (i := k) rfl rfl ((hta).effsAt).okL (lt_of_some hu) el24 sz55 rfl (.ops0 ?_)
   exact fun a ha => ⟨ha, rfl⟩
  refine At.wpcS (i := 4) (d := 49) (.agg u.cs) (by kernel_rfl) rfl rfl rfl (fun Lx => ?_) ?_
  ·skip
   refine .load rfl (Ld.row ag55 (sz55.trans (congrArg some (((hta).eff hu)).size.symm)) ((((hta).effsAt).row hu).keep hB)) rfl (.ops0 ?_)
   exact fun a ha => ⟨ha, rfl⟩
  refine At.wpcS (i := 5) (d := 50) (.pointer (some ⟨b2, 0 + 0, none⟩)) (by kernel_rfl) rfl rfl rfl (fun Lx => ?_) ?_
  ·skip
   refine .fieldAddr rfl fo37_0 rfl (.ops0 ?_)
   exact fun a ha => ⟨ha, rfl⟩
  refine At.wpcS (i := 6) (d := 51) (b.ev) (by kernel_rfl) rfl rfl rfl (fun Lx => ?_) ?_
  ·skip
   refine .load rfl (Ld.ownCell ag24 hb2 (htb).c0) rfl (.ops0 ?_)
   exact fun a ha => ⟨ha, rfl⟩
  refine At.wpcS (i := 7) (d := 52) (.int .i64 (k : Int)) (by kernel_rfl) rfl rfl rfl (fun Lx => ?_) ?_
  ·skip
   refine .move rfl rfl (.ops0 ?_)
   exact fun a ha => ⟨ha, rfl⟩
  refine At.wpcS (i := 8) (d := 53) (.pointer (some ⟨vBlock b.ev, vOff b.ev + k * 2, none⟩)) (by kernel_rfl) rfl rfl rfl (fun Lx => ?_) ?_
  ·skip
   refine .indexAddr (i := k) rfl rfl ((htb).effsAt).okL (lt_of_some hx) el24 sz55 rfl (.ops0 ?_)
   exact fun a ha => ⟨ha, rfl⟩
  refine At.wpcS (i := 9) (d := 54) (.agg x.cs) (by kernel_rfl) rfl rfl rfl (fun Lx => ?_) ?_
  ·skip
   refine .load rfl (Ld.row ag55 (sz55.trans (congrArg some (((htb).eff hx)).size.symm)) ((((htb).effsAt).row hx).keep hB)) rfl (.ops0 ?_)
   exact fun a ha => ⟨ha, rfl⟩
  refine At.wpcE [10] (by kernel_rfl) (by kernel_rfl) (.cons [] rfl (by kernel_rfl) ?_ .nil)
  refine At.call en41 rfl rfl (sameEffect_any u x _ ((((hta).eff hu)).keep hB) ((((htb).eff hx)).keep hB) hF) (fun e w5 hR => ?_)
  obtain ⟨rfl, hbl2⟩ := hR
  refine ⟨_, rfl, ?_⟩
  replace hb1 := Below.old hbl2 hb1
  replace hb2 := Below.old hbl2 hb2
  replace hB := Below.andThen hB hbl2
  refine .ops0 (.wpcN .nil ?_)
  refine At.wpcE [11] (by kernel_rfl) (by kernel_rfl) (.cons [] rfl (by kernel_rfl) ?_ .nil)
  refine .assign rfl rfl (.ops0 (.wpcN .nil (.wpcZ (.thenN (.seq (.region (.move rfl rfl (.not rfl rfl (.ops0 (.thenN (.condF rfl (.skip (.inN (.thenN (.region (.move rfl rfl (.addI rfl rfl rfl (by omega) (.assign rfl rfl (.ops0 (.thenN ?_))))))))))))))))))))
  exact fun act_ hact_ => ⟨(k + 1), hact_.sub (Sub.cons rfl (Sub.cons rfl (Sub.cons rfl Sub.nil))), ⟨hB, hb1, hb2, (by omega)⟩, by first | omega | (dsimp only; omega)⟩
 ·skip
  have hc1' := of_decide_eq_false hc1
  refine .exit (.thenE (.thenE (.inE (.thenN (.seq (.seq (.region (.assign rfl rfl (.ops0 (.thenN (.block ?_)))))))))))
  refine At.loop (Nat) (fun j => [(3, .pointer (some ⟨b1, 0, none⟩)), (4, .pointer (some ⟨b2, 0, none⟩)), (10, .int .i64 (j : Int))]) (fun j w6 => Below w.heap.size w w6 ∧ w6.heap[b1]? = some (.cells a.cs 37) ∧ w6.heap[b2]? = some (.cells b.cs 37) ∧ (j ≤ a.dats.length)) (fun j => a.dats.length - j) (0 : Nat) (Sub.cons rfl (Sub.cons rfl (Sub.cons rfl Sub.nil))) ⟨hB, hb1, hb2, (Nat.zero_le _)⟩ (fun j w6 hI => ?_)
  clear hB hb1 hb2
  obtain ⟨hB, hb1, hb2, hjb⟩ := hI
  show At _ _ [(3, .pointer (some ⟨b1, 0, none⟩)), (4, .pointer (some ⟨b2, 0, none⟩)), (10, .int .i64 (j : Int))] _ _
  refine .seq (.seq (.region (.move rfl rfl (.fieldAddr rfl fo37_1 rfl (.load rfl (Ld.ownCell ag25 hb1 (hta).c1) rfl (.lenSl rfl ((hta).datsAt).okL el25 rfl (.lss rfl rfl rfl (.ops0 (.thenN ?_)))))))))
  refine At.cond (b := decide ((j : Int) < (a.dats.length : Int))) rfl (fun hc2 => ?_) (fun hc2 => ?_)
  ·skip
   have hc2' := of_decide_eq_true hc2
   refine .skip (.thenN (.seq (.block (.seq ?_))))
   obtain ⟨y, hy⟩ := some_of_lt (l := a.dats) (i := j) (by omega)
   obtain ⟨z, hz⟩ := some_of_lt (l := b.dats) (i := j) (by omega)
   have hF := hs.dat hy hz
   refine .drawG (n := 12) mixed (by kernel_rfl) rfl (PanicOk.then (PanicOk.block (PanicOk.then (PanicOk.then (PanicOk.block (PanicOk.then PanicOk.body)))))) ?_
   have hB := Below.drewB hB
   have hb1 : _ := (show w6.drew.heap[b1]? = _ from hb1)
   have hb2 : _ := (show w6.drew.heap[b2]? = _ from hb2)
   refine At.wpcS (i := 0) (d := 65) (.pointer (some ⟨b1, 0 + 1, none⟩)) (by kernel_rfl) rfl rfl rfl (fun Lx => ?_) ?_
   ·skip
    refine .fieldAddr rfl fo37_1 rfl (.ops0 ?_)
    exact fun a ha => ⟨ha, rfl⟩
   refine At.wpcS (i := 1) (d := 66) (a.dv) (by kernel_rfl) rfl rfl rfl (fun Lx => ?_) ?_
   ·skip
    refine .load rfl (Ld.ownCell ag25 hb1 (hta).c1) rfl (.ops0 ?_)
    exact fun a ha => ⟨ha, rfl⟩
   refine At.wpcS (i := 2) (d := 67) (.int .i64 (j : Int)) (by kernel_rfl) rfl rfl rfl (fun Lx => ?_) ?_
   ·skip
    refine .move rfl rfl (.ops0 ?_)
    exact fun a ha => ⟨ha, rfl⟩
   refine At.wpcS (i := 3) (d := 68) (.pointer (some ⟨vBlock a.dv, vOff a.dv + j * 2, none⟩)) (by kernel_rfl) rfl rfl rfl (fun Lx => ?_) ?_
   ·skip
    refine .indexAddr (i := j) rfl rfl ((hta).datsAt).okL (lt_of_some hy) el25 sz66 rfl (.ops0 ?_)
    exact fun a ha => ⟨ha, rfl⟩
   refine At.wpcS (i := 4) (d := 69) (.agg y.cs) (by kernel_rfl) rfl rfl rfl (fun Lx => ?_) ?_
   ·skip
    refine .load rfl (Ld.row ag66 (sz66.trans (congrArg some (((hta).dat hy)).size.symm)) ((((hta).datsAt).row hy).keep hB)) rfl (.ops0 ?_)
    exact fun a ha => ⟨ha, rfl⟩
   refine At.wpcS (i := 5) (d := 70) (.pointer (some ⟨b2, 0 + 1, none⟩)) (by kernel_rfl) rfl rfl rfl (fun Lx => ?_) ?_
   ·skip
    refine .fieldAddr rfl fo37_1 rfl (.ops0 ?_)
    exact fun a ha => ⟨ha, rfl⟩
   refine At.wpcS (i := 6) (d := 71) (b.dv) (by kernel_rfl) rfl rfl rfl (fun Lx => ?_) ?_
   ·skip
    refine .load rfl (Ld.ownCell ag25 hb2 (htb).c1) rfl (.ops0 ?_)
    exact fun a ha => ⟨ha, rfl⟩
   refine At.wpcS (i := 7) (d := 72) (.int .i64 (j : Int)) (by kernel_rfl) rfl rfl rfl (fun Lx => ?_) ?_
   ·skip
    refine .move rfl rfl (.ops0 ?_)
    exact fun a ha => ⟨ha, rfl⟩
   refine At.wpcS (i := 8) (d := 73) (.pointer (some ⟨vBlock b.dv, vOff b.dv + j * 2, none⟩)) (by kernel_rfl) rfl rfl rfl (fun Lx => ?_) ?_
   ·skip
    refine .indexAddr (i := j) rfl rfl ((htb).datsAt).okL (lt_of_some hz) el25 sz66 rfl (.ops0 ?_)
    exact fun a ha => ⟨ha, rfl⟩
   refine At.wpcS (i := 9) (d := 74) (.agg z.cs) (by kernel_rfl) rfl rfl rfl (fun Lx => ?_) ?_
   ·skip
    refine .load rfl (Ld.row ag66 (sz66.trans (congrArg some (((htb).dat hz)).size.symm)) ((((htb).datsAt).row hz).keep hB)) rfl (.ops0 ?_)
    exact fun a ha => ⟨ha, rfl⟩
   refine At.wpcE [10] (by kernel_rfl) (by kernel_rfl) (.cons [] rfl (by kernel_rfl) ?_ .nil)
   refine At.call en42 rfl rfl (sameData_any y z _ ((((hta).dat hy)).keep hB) ((((htb).dat hz)).keep hB) hF) (fun e w7 hR => ?_)
   obtain ⟨rfl, hbl3⟩ := hR
   refine ⟨_, rfl, ?_⟩
   replace hb1 := Below.old hbl3 hb1
   replace hb2 := Below.old hbl3 hb2
   replace hB := Below.andThen hB hbl3
   refine .ops0 (.wpcN .nil ?_)
   refine At.wpcE [11] (by kernel_rfl) (by kernel_rfl) (.cons [] rfl (by kernel_rfl) ?_ .nil)
   refine .assign rfl rfl (.ops0 (.wpcN .nil (.wpcZ (.thenN (.seq (.region (.move rfl rfl (.not rfl rfl (.ops0 (.thenN (.condF rfl (.skip (.inN (.thenN (.region (.move rfl rfl (.addI rfl rfl rfl (by omega) (.assign rfl rfl (.ops0 (.thenN ?_))))))))))))))))))))
   exact fun act_ hact_ => ⟨(j + 1), hact_.sub (Sub.cons rfl (Sub.cons rfl (Sub.cons rfl Sub.nil))), ⟨hB, hb1, hb2, (by omega)⟩, by first | omega | (dsimp only; omega)⟩
  ·skip
   have hc2' := of_decide_eq_false hc2
   refine .exit (.thenE (.thenE (.inE (.thenN (.seq (.region (.assign rfl rfl (.ops0 (.thenN (.retc (.doneR (ResV.tmp rfl ResV.nil) ?_)))))))))))
   exact ⟨rfl, hB⟩
theorem bare_step (t : Tm) (lo en : Int) (w : World) (ht : TmOk w t) (hpl : plT t) (hs : BtF en lo t)
  (ih : ∀ u : Tm, dS (shT u) < dS (shT t) → ∀ lo, btT en lo (shT u) → plT u → ∀ w, TmOk w u → Calls Try.prog 22 ([.agg u.cs, .int .i64 lo, .int .i64 en] : List Value).toArray w fun e w' => e = .returned (.bool true) ∧ Below w.heap.size w w') :
  Calls Try.prog 22 ([.agg t.cs, .int .i64 lo, .int .i64 en] : List Value).toArray w fun e w' => e = .returned (.bool true) ∧ Below w.heap.size w w' := by
 have hB := Below.refl w.heap.size w
 refine At.enter (N := 77) Try.func22 rfl rfl (by simp) [(0, .agg t.cs), (1, .int .i64 lo), (2, .int .i64 en)] (by simp) ?_
 refine .seq (.region ?_)
 refine At.box rfl rfl (fun b1 w1 F1 => ?_)
 have gb1 := F1.ge hB
 have hb1 : w1.heap[b1]? = some (.cells t.cs 35) := F1.new
 replace hB := F1.below' hB
 refine .assign rfl rfl (.ops0 (.thenN (.seq (.seq (.region (.fieldAddr rfl fo35_1 rfl (.load rfl (Ld.ownCell ag3 hb1 (ht).c1) rfl (.move rfl rfl (.lss rfl rfl rfl (.move rfl rfl ?_))))))))))
 have hbb1 : (decide (t.at_ < lo)) = false := decide_eq_false (Int.not_lt.2 hs.lo)
 refine .set (d := 15) (u := .bool false) rfl (congrArg Value.bool hbb1) (.yes rfl rfl rfl rfl (.fieldAddr rfl fo35_1 rfl (.yes rfl rfl rfl rfl (.load rfl (Ld.ownCell ag3 hb1 (ht).c1) rfl (.yes rfl rfl rfl rfl (.move rfl rfl (.yes rfl rfl rfl rfl (.geq rfl rfl rfl (.pickF rfl rfl rfl (.move rfl rfl ?_))))))))))
 have hbb2 : (decide (en ≤ t.at_)) = false := by have := hs.hi; simp; omega
 refine .set (d := 21) (u := .bool false) rfl (congrArg Value.bool hbb2) (.yes rfl rfl rfl rfl (.fieldAddr rfl fo35_7 rfl (.yes rfl rfl rfl rfl (.fieldAddr rfl fo33_0 rfl (.yes rfl rfl rfl rfl (.load rfl (Ld.ownCell ag3 hb1 (plC7 hpl)) rfl (.yes rfl rfl rfl rfl (.neI rfl rfl rfl (.set (d := 25) (u := .bool false) rfl (congrArg Value.bool (by simp)) (.pickF rfl rfl rfl (.move rfl rfl (.yes rfl rfl rfl rfl (.fieldAddr rfl fo35_8 rfl (.yes rfl rfl rfl rfl (.fieldAddr rfl fo31_0 rfl (.yes rfl rfl rfl rfl (.load rfl (Ld.ownCell ag29 hb1 (plC13 hpl)) rfl (.yes rfl rfl rfl rfl (.lenSl rfl SlOk.nil el29 rfl (.yes rfl rfl rfl rfl (.gtr rfl rfl rfl (.pickF rfl rfl rfl (.move rfl rfl ?_)))))))))))))))))))))))
 have hbb3 : (decide (0 < (([] : List ByteArray).length : Int))) = false := by simp
 refine .set (d := 34) (u := .bool false) rfl (congrArg Value.bool hbb3) (.yes rfl rfl rfl rfl (.fieldAddr rfl fo35_8 rfl (.yes rfl rfl rfl rfl (.fieldAddr rfl fo31_1 rfl (.yes rfl rfl rfl rfl (.load rfl (Ld.ownCell ag3 hb1 (plC14 hpl)) rfl (.yes rfl rfl rfl rfl (.neI rfl rfl rfl (.set (d := 38) (u := .bool false) rfl (congrArg Value.bool (by simp)) (.pickF rfl rfl rfl (.ops0 (.thenN (.condF rfl (.skip (.thenN (.seq (.seq (.region (.assign rfl rfl (.ops0 (.thenN (.block ?_))))))))))))))))))))))
 refine At.loop (Nat) (fun k => [(2, .int .i64 en), (3, .pointer (some ⟨b1, 0, none⟩)), (7, .int .i64 (k : Int))]) (fun k w2 => Below w.heap.size w w2 ∧ w2.heap[b1]? = some (.cells t.cs 35) ∧ (k ≤ t.kids.length)) (fun k => t.kids.length - k) (0 : Nat) (Sub.cons rfl (Sub.cons rfl (Sub.cons rfl Sub.nil))) ⟨hB, hb1, (Nat.zero_le _)⟩ (fun k w2 hI => ?_)
 clear hB hb1
 obtain ⟨hB, hb1, hkb⟩ := hI
 show At _ _ [(2, .int .i64 en), (3, .pointer (some ⟨b1, 0, none⟩)), (7, .int .i64 (k : Int))] _ _
 have hkl := ht.kidsAt.lenL; have hal := ht.armsAt.lenL
 refine .seq (.seq (.region (.move rfl rfl (.fieldAddr rfl fo35_5 rfl (.load rfl (Ld.ownCell ag26 hb1 (ht).c5) rfl (.lenSl rfl ((ht).kidsAt).okL el26 rfl (.lss rfl rfl rfl (.ops0 (.thenN ?_)))))))))
 refine At.cond (b := decide ((k : Int) < (t.kids.length : Int))) rfl (fun hc1 => ?_) (fun hc1 => ?_)
 ·skip
  have hc1' := of_decide_eq_true hc1
  refine .skip (.thenN (.seq (.block (.seq ?_))))
  obtain ⟨u1, hu1⟩ := some_of_lt (l := t.kids) (i := k) (by omega)
  have hF := hs.kid hu1
  refine .drawG (n := 10) mixed (by kernel_rfl) rfl (PanicOk.then (PanicOk.block (PanicOk.then (PanicOk.then (PanicOk.block (PanicOk.then PanicOk.body)))))) ?_
  have hB := Below.drewB hB
  have hb1 : _ := (show w2.drew.heap[b1]? = _ from hb1)
  refine At.wpcS (i := 0) (d := 47) (.pointer (some ⟨b1, 0 + 5, none⟩)) (by kernel_rfl) rfl rfl rfl (fun Lx => ?_) ?_
  ·skip
   refine .fieldAddr rfl fo35_5 rfl (.ops0 ?_)
   exact fun a ha => ⟨ha, rfl⟩
  refine At.wpcS (i := 1) (d := 48) (t.kv) (by kernel_rfl) rfl rfl rfl (fun Lx => ?_) ?_
  ·skip
   refine .load rfl (Ld.ownCell ag26 hb1 (ht).c5) rfl (.ops0 ?_)
   exact fun a ha => ⟨ha, rfl⟩
  refine At.wpcS (i := 2) (d := 49) (.int .i64 (k : Int)) (by kernel_rfl) rfl rfl rfl (fun Lx => ?_) ?_
  ·skip
   refine .move rfl rfl (.ops0 ?_)
   exact fun a ha => ⟨ha, rfl⟩
  refine At.wpcS (i := 3) (d := 50) (.pointer (some ⟨vBlock t.kv, vOff t.kv + k * 21, none⟩)) (by kernel_rfl) rfl rfl rfl (fun Lx => ?_) ?_
  ·skip
   refine .indexAddr (i := k) rfl rfl ((ht).kidsAt).okL (lt_of_some hu1) el26 sz35 rfl (.ops0 ?_)
   exact fun a ha => ⟨ha, rfl⟩
  refine At.wpcS (i := 4) (d := 51) (.agg u1.cs) (by kernel_rfl) rfl rfl rfl (fun Lx => ?_) ?_
  ·skip
   refine .load rfl (Ld.row ag35 (sz35.trans (congrArg some (((ht).kid hu1)).size.symm)) ((((ht).kidsAt).row hu1).keep hB)) rfl (.ops0 ?_)
   exact fun a ha => ⟨ha, rfl⟩
  refine At.wpcS (i := 5) (d := 52) (.pointer (some ⟨b1, 0 + 1, none⟩)) (by kernel_rfl) rfl rfl rfl (fun Lx => ?_) ?_
  ·skip
   refine .fieldAddr rfl fo35_1 rfl (.ops0 ?_)
   exact fun a ha => ⟨ha, rfl⟩
  refine At.wpcS (i := 6) (d := 53) (.int .i64 t.at_) (by kernel_rfl) rfl rfl rfl (fun Lx => ?_) ?_
  ·skip
   refine .load rfl (Ld.ownCell ag3 hb1 (ht).c1) rfl (.ops0 ?_)
   exact fun a ha => ⟨ha, rfl⟩
  refine At.wpcS (i := 7) (d := 54) (.int .i64 en) (by kernel_rfl) rfl rfl rfl (fun Lx => ?_) ?_
  ·skip
   refine .move rfl rfl (.ops0 ?_)
   exact fun a ha => ⟨ha, rfl⟩
  refine At.wpcE [8] (by kernel_rfl) (by kernel_rfl) (.cons [] rfl (by kernel_rfl) ?_ .nil)
  refine At.call en22 rfl rfl (ih u1 hF.1 _ hF.2.1 hF.2.2 _ ((((ht).kid hu1)).keep hB)) (fun e w3 hR => ?_)
  obtain ⟨rfl, hbl1⟩ := hR
  refine ⟨_, rfl, ?_⟩
  replace hb1 := Below.old hbl1 hb1
  replace hB := Below.andThen hB hbl1
  refine .ops0 (.wpcN .nil ?_)
  refine At.wpcE [9] (by kernel_rfl) (by kernel_rfl) (.cons [] rfl (by kernel_rfl) ?_ .nil)
  refine .assign rfl rfl (.ops0 (.wpcN .nil (.wpcZ (.thenN (.seq (.region (.move rfl rfl (.not rfl rfl (.ops0 (.thenN (.condF rfl (.skip (.inN (.thenN (.region (.move rfl rfl (.addI rfl rfl rfl (by omega) (.assign rfl rfl (.ops0 (.thenN ?_))))))))))))))))))))
  exact fun act_ hact_ => ⟨(k + 1), hact_.sub (Sub.cons rfl (Sub.cons rfl (Sub.cons rfl Sub.nil))), ⟨hB, hb1, (by omega)⟩, by first | omega | (dsimp only; omega)⟩
 ·skip
  have hc1' := of_decide_eq_false hc1
  refine .exit (.thenE (.thenE (.inE (.thenN (.seq (.seq (.region (.assign rfl rfl (.ops0 (.thenN (.block ?_)))))))))))
  refine At.loop (Nat) (fun j => [(2, .int .i64 en), (3, .pointer (some ⟨b1, 0, none⟩)), (9, .int .i64 (j : Int))]) (fun j w4 => Below w.heap.size w w4 ∧ w4.heap[b1]? = some (.cells t.cs 35) ∧ (j ≤ t.arms.length)) (fun j => t.arms.length - j) (0 : Nat) (Sub.cons rfl (Sub.cons rfl (Sub.cons rfl Sub.nil))) ⟨hB, hb1, (Nat.zero_le _)⟩ (fun j w4 hI => ?_)
  clear hB hb1
  obtain ⟨hB, hb1, hjb⟩ := hI
  show At _ _ [(2, .int .i64 en), (3, .pointer (some ⟨b1, 0, none⟩)), (9, .int .i64 (j : Int))] _ _
  refine .seq (.seq (.region (.move rfl rfl (.fieldAddr rfl fo35_6 rfl (.load rfl (Ld.ownCell ag27 hb1 (ht).c6) rfl (.lenSl rfl ((ht).armsAt).okL el27 rfl (.lss rfl rfl rfl (.ops0 (.thenN ?_)))))))))
  refine At.cond (b := decide ((j : Int) < (t.arms.length : Int))) rfl (fun hc2 => ?_) (fun hc2 => ?_)
  ·skip
   have hc2' := of_decide_eq_true hc2
   refine .skip (.thenN (.seq (.block (.seq ?_))))
   obtain ⟨u2, hu2⟩ := some_of_lt (l := t.arms) (i := j) (by omega)
   have hF := hs.arm hu2
   refine .drawG (n := 11) mixed (by kernel_rfl) rfl (PanicOk.then (PanicOk.block (PanicOk.then (PanicOk.then (PanicOk.block (PanicOk.then PanicOk.body)))))) ?_
   have hB := Below.drewB hB
   have hb1 : _ := (show w4.drew.heap[b1]? = _ from hb1)
   refine At.wpcS (i := 0) (d := 65) (.pointer (some ⟨b1, 0 + 6, none⟩)) (by kernel_rfl) rfl rfl rfl (fun Lx => ?_) ?_
   ·skip
    refine .fieldAddr rfl fo35_6 rfl (.ops0 ?_)
    exact fun a ha => ⟨ha, rfl⟩
   refine At.wpcS (i := 1) (d := 66) (t.av) (by kernel_rfl) rfl rfl rfl (fun Lx => ?_) ?_
   ·skip
    refine .load rfl (Ld.ownCell ag27 hb1 (ht).c6) rfl (.ops0 ?_)
    exact fun a ha => ⟨ha, rfl⟩
   refine At.wpcS (i := 2) (d := 67) (.int .i64 (j : Int)) (by kernel_rfl) rfl rfl rfl (fun Lx => ?_) ?_
   ·skip
    refine .move rfl rfl (.ops0 ?_)
    exact fun a ha => ⟨ha, rfl⟩
   refine At.wpcS (i := 3) (d := 68) (.pointer (some ⟨vBlock t.av, vOff t.av + j * 23, none⟩)) (by kernel_rfl) rfl rfl rfl (fun Lx => ?_) ?_
   ·skip
    refine .indexAddr (i := j) rfl rfl ((ht).armsAt).okL (lt_of_some hu2) el27 sz61 rfl (.ops0 ?_)
    exact fun a ha => ⟨ha, rfl⟩
   refine At.wpcS (i := 4) (d := 69) (.pointer (some ⟨vBlock t.av, vOff t.av + j * 23 + 2, none⟩)) (by kernel_rfl) rfl rfl rfl (fun Lx => ?_) ?_
   ·skip
    refine .fieldAddr rfl fo61_2 rfl (.ops0 ?_)
    exact fun a ha => ⟨ha, rfl⟩
   refine At.wpcS (i := 5) (d := 70) (.agg u2.body.cs) (by kernel_rfl) rfl rfl rfl (fun Lx => ?_) ?_
   ·skip
    refine .load rfl (Ld.row ag35 (sz35.trans (congrArg some ((((ht).arm hu2)).body).size.symm)) (((((ht).armsAt).row hu2).part 2 (((ht).arm hu2)).bodyCs).keep hB)) rfl (.ops0 ?_)
    exact fun a ha => ⟨ha, rfl⟩
   refine At.wpcS (i := 6) (d := 71) (.pointer (some ⟨b1, 0 + 1, none⟩)) (by kernel_rfl) rfl rfl rfl (fun Lx => ?_) ?_
   ·skip
    refine .fieldAddr rfl fo35_1 rfl (.ops0 ?_)
    exact fun a ha => ⟨ha, rfl⟩
   refine At.wpcS (i := 7) (d := 72) (.int .i64 t.at_) (by kernel_rfl) rfl rfl rfl (fun Lx => ?_) ?_
   ·skip
    refine .load rfl (Ld.ownCell ag3 hb1 (ht).c1) rfl (.ops0 ?_)
    exact fun a ha => ⟨ha, rfl⟩
   refine At.wpcS (i := 8) (d := 73) (.int .i64 en) (by kernel_rfl) rfl rfl rfl (fun Lx => ?_) ?_
   ·skip
    refine .move rfl rfl (.ops0 ?_)
    exact fun a ha => ⟨ha, rfl⟩
   refine At.wpcE [9] (by kernel_rfl) (by kernel_rfl) (.cons [] rfl (by kernel_rfl) ?_ .nil)
   refine At.call en22 rfl rfl (ih u2.body hF.1 _ hF.2.1 hF.2.2 _ (((((ht).arm hu2)).body).keep hB)) (fun e w5 hR => ?_)
   obtain ⟨rfl, hbl2⟩ := hR
   refine ⟨_, rfl, ?_⟩
   replace hb1 := Below.old hbl2 hb1
   replace hB := Below.andThen hB hbl2
   refine .ops0 (.wpcN .nil ?_)
   refine At.wpcE [10] (by kernel_rfl) (by kernel_rfl) (.cons [] rfl (by kernel_rfl) ?_ .nil)
   refine .assign rfl rfl (.ops0 (.wpcN .nil (.wpcZ (.thenN (.seq (.region (.move rfl rfl (.not rfl rfl (.ops0 (.thenN (.condF rfl (.skip (.inN (.thenN (.region (.move rfl rfl (.addI rfl rfl rfl (by omega) (.assign rfl rfl (.ops0 (.thenN ?_))))))))))))))))))))
   exact fun act_ hact_ => ⟨(j + 1), hact_.sub (Sub.cons rfl (Sub.cons rfl (Sub.cons rfl Sub.nil))), ⟨hB, hb1, (by omega)⟩, by first | omega | (dsimp only; omega)⟩
  ·skip
   have hc2' := of_decide_eq_false hc2
   refine .exit (.thenE (.thenE (.inE (.thenN (.seq (.region (.assign rfl rfl (.ops0 (.thenN (.retc (.doneR (ResV.tmp rfl ResV.nil) ?_)))))))))))
   exact ⟨rfl, hB⟩
theorem bare_any (en : Int) : ∀ (n : Nat) (t : Tm), dS (shT t) ≤ n → ∀ lo, btT en lo (shT t) → plT t → ∀ w, TmOk w t → Calls Try.prog 22 ([.agg t.cs, .int .i64 lo, .int .i64 en] : List Value).toArray w fun e w' => e = .returned (.bool true) ∧ Below w.heap.size w w' := by
 intro n
 induction n with
 | zero => intro t h; have := dS_pos (shT t); omega
 | succ n ih => intro t h lo hb hp w ht; exact bare_step t lo en w ht hp (BtF.of hb hp) (fun u h1 lo h2 h3 w hu => ih u (by omega) lo h2 h3 w hu)
end Go.Proofs.Ytkjmjnddanhapaa
