/-
 The walks of texts and SameTerm, of terms that are the same but for where they stand. Written by a program of ours.
-/
import Derived.Test.YtkjmjnddanhapaaN22
import Derived.Test.YtkjmjnddanhapaaU10
set_option linter.unusedVariables false
set_option linter.unusedSimpArgs false
namespace Go.Proofs.Ytkjmjnddanhapaa
open Go.RowKit
theorem en14 : entB Try.prog 14 = true := by kernel_rfl
theorem en25 : entB Try.prog 25 = true := by kernel_rfl
theorem texts_any (v v2 : Value) (l : List ByteArray) (w : World) (hv : StrsAt w v l) (hv2 : StrsAt w v2 l) :
  Calls Try.prog 25 ([v, v2] : List Value).toArray w fun e w' => e = .returned (.bool true) ∧ Below w.heap.size w w' := by
 have hl := hv.len
 have hB := Below.refl w.heap.size w
 refine At.enter (N := 26) Try.func25 rfl rfl (by simp) [(0, v), (1, v2)] (by simp) ?_
 refine .seq (.region (.assign rfl rfl (.ops0 (.thenN (.seq (.seq (.region (.move rfl rfl (.lenSl rfl hv.ok el29 rfl (.move rfl rfl (.lenSl rfl hv2.ok el29 rfl (.neI rfl rfl rfl (.ops0 (.thenN ?_))))))))))))))
 have hb : ((!decide ((l.length : Int) = (l.length : Int)))) = false := by simp
 refine .set (d := 10) (u := .bool false) rfl (congrArg Value.bool hb) (.condF rfl (.skip (.thenN (.seq (.seq (.region (.assign rfl rfl (.ops0 (.thenN (.block ?_))))))))))
 refine At.loop (Nat) (fun k => [(0, v), (1, v2), (5, .int .i64 (k : Int))]) (fun k w1 => Below w.heap.size w w1 ∧ (k ≤ l.length)) (fun k => l.length - k) (0 : Nat) (Sub.cons rfl (Sub.cons rfl (Sub.cons rfl Sub.nil))) ⟨hB, (Nat.zero_le _)⟩ (fun k w1 hI => ?_)
 clear hB
 obtain ⟨hB, hk⟩ := hI
 show At _ _ [(0, v), (1, v2), (5, .int .i64 (k : Int))] _ _
 refine .seq (.seq (.region (.move rfl rfl (.move rfl rfl (.lenSl rfl hv.ok el29 rfl (.lss rfl rfl rfl (.ops0 (.thenN ?_))))))))
 refine At.cond (b := decide ((k : Int) < (l.length : Int))) rfl (fun hc1 => ?_) (fun hc1 => ?_)
 ·skip
  have hc1' := of_decide_eq_true hc1
  refine .skip (.thenN (.seq (.block (.seq ?_))))
  obtain ⟨u, hu⟩ := some_of_lt (l := l) (i := k) (by omega)
  refine At.draw mixed [(0, v), (1, v2), (5, .int .i64 (k : Int))] (Sub.cons rfl (Sub.cons rfl (Sub.cons rfl Sub.nil))) rfl (RS ([] : List (Nat × Obj))) (dF [.c (v), .c (.int .i64 (k : Int)), .c (.pointer (some ⟨vBlock v, vOff v + k * 1, none⟩)), .c (.string u), .c (v2), .c (.int .i64 (k : Int)), .c (.pointer (some ⟨vBlock v2, vOff v2 + k * 1, none⟩)), .c (.string u), .c (.bool (!decide (u = u)))]) (RS.drew _ _) RS.trans (dF.stab (by simp)) ⟨?_, ?_, ?_, ?_, ?_, ?_, ?_, ?_, ?_, trivial⟩ (fun vals w' hRS hf => ?_)
  ·intro vals Lx w1 hRS hpre
   have hB := RS.below hRS hB (by simp)
   refine .move rfl rfl (.ops0 ?_)
   exact fun a ha => ⟨_, ha, RS.refl _ _, rfl⟩
  ·intro vals Lx w1 hRS hpre
   have hB := RS.below hRS hB (by simp)
   refine .move rfl rfl (.ops0 ?_)
   exact fun a ha => ⟨_, ha, RS.refl _ _, rfl⟩
  ·intro vals Lx w1 hRS hpre
   have hB := RS.below hRS hB (by simp)
   have p0 : vals 0 = v := hpre 0 (by decide)
   refine .set (d := 17) (v := vals 0) rfl p0 ?_
   have p1 : vals 1 = .int .i64 (k : Int) := hpre 1 (by decide)
   refine .set (d := 18) (v := vals 1) rfl p1 (.indexAddr (i := k) rfl rfl hv.ok (lt_of_some hu) el29 sz9 rfl (.ops0 ?_))
   exact fun a ha => ⟨_, ((ha).drop2 (congrArg some p1)).drop2 (congrArg some p0), RS.refl _ _, rfl⟩
  ·intro vals Lx w1 hRS hpre
   have hB := RS.below hRS hB (by simp)
   have p2 : vals 2 = .pointer (some ⟨vBlock v, vOff v + k * 1, none⟩) := hpre 2 (by decide)
   refine .set (d := 19) (v := vals 2) rfl p2 (.load rfl (Ld.cell ag9 (cell_keep ((hv).get hu) hB)) rfl (.ops0 ?_))
   exact fun a ha => ⟨_, (ha).drop2 (congrArg some p2), RS.refl _ _, rfl⟩
  ·intro vals Lx w1 hRS hpre
   have hB := RS.below hRS hB (by simp)
   refine .move rfl rfl (.ops0 ?_)
   exact fun a ha => ⟨_, ha, RS.refl _ _, rfl⟩
  ·intro vals Lx w1 hRS hpre
   have hB := RS.below hRS hB (by simp)
   refine .move rfl rfl (.ops0 ?_)
   exact fun a ha => ⟨_, ha, RS.refl _ _, rfl⟩
  ·intro vals Lx w1 hRS hpre
   have hB := RS.below hRS hB (by simp)
   have p4 : vals 4 = v2 := hpre 4 (by decide)
   refine .set (d := 21) (v := vals 4) rfl p4 ?_
   have p5 : vals 5 = .int .i64 (k : Int) := hpre 5 (by decide)
   refine .set (d := 22) (v := vals 5) rfl p5 (.indexAddr (i := k) rfl rfl hv2.ok (lt_of_some hu) el29 sz9 rfl (.ops0 ?_))
   exact fun a ha => ⟨_, ((ha).drop2 (congrArg some p5)).drop2 (congrArg some p4), RS.refl _ _, rfl⟩
  ·intro vals Lx w1 hRS hpre
   have hB := RS.below hRS hB (by simp)
   have p6 : vals 6 = .pointer (some ⟨vBlock v2, vOff v2 + k * 1, none⟩) := hpre 6 (by decide)
   refine .set (d := 23) (v := vals 6) rfl p6 (.load rfl (Ld.cell ag9 (cell_keep ((hv2).get hu) hB)) rfl (.ops0 ?_))
   exact fun a ha => ⟨_, (ha).drop2 (congrArg some p6), RS.refl _ _, rfl⟩
  ·intro vals Lx w1 hRS hpre
   have hB := RS.below hRS hB (by simp)
   have p3 : vals 3 = .string u := hpre 3 (by decide)
   refine .set (d := 20) (v := vals 3) rfl p3 ?_
   have p7 : vals 7 = .string u := hpre 7 (by decide)
   refine .set (d := 24) (v := vals 7) rfl p7 (.neS rfl rfl rfl (.ops0 ?_))
   exact fun a ha => ⟨_, ((ha).drop2 (congrArg some p7)).drop2 (congrArg some p3), RS.refl _ _, rfl⟩
  ·skip
   have hB := RS.below hRS hB (by simp)
   have p8 : vals 8 = .bool (!decide (u = u)) := hf 8 (by decide)
   refine .sub (L' := [(0, v), (1, v2), (5, .int .i64 (k : Int)), (25, .bool (!decide (u = u)))]) (Sub.cons rfl (Sub.cons rfl (Sub.cons rfl (Sub.cons (congrArg some p8) Sub.nil)))) (.thenN ?_)
   have hb : ((!decide (u = u))) = false := by simp
   refine .set (d := 25) (u := .bool false) rfl (congrArg Value.bool hb) (.condF rfl (.skip (.inN (.thenN (.region (.move rfl rfl (.addI rfl rfl rfl (by omega) (.assign rfl rfl (.ops0 (.thenN ?_))))))))))
   exact fun act_ hact_ => ⟨(k + 1), hact_.sub (Sub.cons rfl (Sub.cons rfl (Sub.cons rfl Sub.nil))), ⟨hB, (by omega)⟩, by first | omega | (dsimp only; omega)⟩
 ·skip
  have hc1' := of_decide_eq_false hc1
  refine .exit (.thenE (.thenE (.inE (.thenN (.seq (.region (.assign rfl rfl (.ops0 (.thenN (.retc (.doneR (ResV.tmp rfl ResV.nil) ?_)))))))))))
  exact ⟨rfl, hB⟩
theorem same_step (a b : Tm) (w : World) (hta : TmOk w a) (htb : TmOk w b) (hs : SmF a b)
  (ih : ∀ u x : Tm, dS (shT u) < dS (shT a) → VT (shT u) (shT x) → ∀ w, TmOk w u → TmOk w x → Calls Try.prog 14 ([.agg u.cs, .agg x.cs, .bool false] : List Value).toArray w fun e w' => e = .returned (.bool true) ∧ Below w.heap.size w w') :
  Calls Try.prog 14 ([.agg a.cs, .agg b.cs, .bool false] : List Value).toArray w fun e w' => e = .returned (.bool true) ∧ Below w.heap.size w w' := by
 have hkl_ := hs.kl; have hal_ := hs.al
 have hB := Below.refl w.heap.size w
 refine At.enter (N := 142) Try.func14 rfl rfl (by simp) [(0, .agg a.cs), (1, .agg b.cs), (2, .bool false)] (by simp) ?_
 refine .seq (.region ?_)
 refine At.box rfl rfl (fun b1 w1 F1 => ?_)
 have gb1 := F1.ge hB
 have hb1 : w1.heap[b1]? = some (.cells a.cs 35) := F1.new
 replace hB := F1.below' hB
 refine At.box rfl rfl (fun b2 w2 F2 => ?_)
 have n_b1_b2 : b1 ≠ b2 := Nat.ne_of_lt (F2.lt hb1)
 have gb2 := F2.ge hB
 replace hb1 := F2.old hb1
 have hb2 : w2.heap[b2]? = some (.cells b.cs 35) := F2.new
 replace hB := F2.below' hB
 refine .assign rfl rfl (.ops0 (.thenN (.seq (.seq (.region (.fieldAddr rfl fo35_0 rfl (.load rfl (Ld.ownCell ag3 hb1 (hta).c0) rfl (.fieldAddr rfl fo35_0 rfl (.load rfl (Ld.ownCell ag3 hb2 (htb).c0) rfl (.neI rfl rfl rfl (.move rfl rfl ?_)))))))))))
 have hbb1 : ((!decide (a.k = b.k))) = false := by simp [hs.k, hs.nm, hs.pm, hs.n, hs.kl, hs.al]
 refine .set (d := 17) (u := .bool false) rfl (congrArg Value.bool hbb1) (.yes rfl rfl rfl rfl (.move rfl rfl (.yes rfl rfl rfl rfl (.move rfl rfl (.no rfl rfl rfl rfl rfl rfl rfl (.no rfl rfl rfl rfl rfl rfl rfl (.no rfl rfl rfl rfl rfl rfl rfl (.no rfl rfl rfl rfl rfl rfl rfl (.no rfl rfl rfl rfl rfl rfl rfl (.yes rfl rfl rfl rfl (.pickF rfl rfl rfl (.pickF rfl rfl rfl (.move rfl rfl (.yes rfl rfl rfl rfl (.fieldAddr rfl fo35_2 rfl (.yes rfl rfl rfl rfl (.load rfl (Ld.ownCell ag9 hb1 (hta).c2) rfl (.yes rfl rfl rfl rfl (.fieldAddr rfl fo35_2 rfl (.yes rfl rfl rfl rfl (.load rfl (Ld.ownCell ag9 hb2 (htb).c2) rfl (.yes rfl rfl rfl rfl (.neS rfl rfl rfl (.pickF rfl rfl rfl (.move rfl rfl ?_)))))))))))))))))))))))))
 have hbb2 : ((!decide (a.nm = b.nm))) = false := by simp [hs.k, hs.nm, hs.pm, hs.n, hs.kl, hs.al]
 refine .set (d := 34) (u := .bool false) rfl (congrArg Value.bool hbb2) (.yes rfl rfl rfl rfl (.fieldAddr rfl fo35_3 rfl (.yes rfl rfl rfl rfl (.load rfl (Ld.ownCell ag9 hb1 (hta).c3) rfl (.yes rfl rfl rfl rfl (.fieldAddr rfl fo35_3 rfl (.yes rfl rfl rfl rfl (.load rfl (Ld.ownCell ag9 hb2 (htb).c3) rfl (.yes rfl rfl rfl rfl (.neS rfl rfl rfl (.pickF rfl rfl rfl (.move rfl rfl ?_))))))))))))
 have hbb3 : ((!decide (a.pm = b.pm))) = false := by simp [hs.k, hs.nm, hs.pm, hs.n, hs.kl, hs.al]
 refine .set (d := 41) (u := .bool false) rfl (congrArg Value.bool hbb3) (.yes rfl rfl rfl rfl (.fieldAddr rfl fo35_4 rfl (.yes rfl rfl rfl rfl (.load rfl (Ld.ownCell ag3 hb1 (hta).c4) rfl (.yes rfl rfl rfl rfl (.fieldAddr rfl fo35_4 rfl (.yes rfl rfl rfl rfl (.load rfl (Ld.ownCell ag3 hb2 (htb).c4) rfl (.yes rfl rfl rfl rfl (.neI rfl rfl rfl (.pickF rfl rfl rfl (.move rfl rfl ?_))))))))))))
 have hbb4 : ((!decide (a.n = b.n))) = false := by simp [hs.k, hs.nm, hs.pm, hs.n, hs.kl, hs.al]
 refine .set (d := 48) (u := .bool false) rfl (congrArg Value.bool hbb4) (.yes rfl rfl rfl rfl (.fieldAddr rfl fo35_5 rfl (.yes rfl rfl rfl rfl (.load rfl (Ld.ownCell ag26 hb1 (hta).c5) rfl (.yes rfl rfl rfl rfl (.lenSl rfl ((hta).kidsAt).okL el26 rfl (.yes rfl rfl rfl rfl (.fieldAddr rfl fo35_5 rfl (.yes rfl rfl rfl rfl (.load rfl (Ld.ownCell ag26 hb2 (htb).c5) rfl (.yes rfl rfl rfl rfl (.lenSl rfl ((htb).kidsAt).okL el26 rfl (.yes rfl rfl rfl rfl (.neI rfl rfl rfl (.pickF rfl rfl rfl (.move rfl rfl ?_))))))))))))))))
 have hbb5 : ((!decide ((a.kids.length : Int) = (b.kids.length : Int)))) = false := by simp [hs.k, hs.nm, hs.pm, hs.n, hs.kl, hs.al]
 refine .set (d := 57) (u := .bool false) rfl (congrArg Value.bool hbb5) (.yes rfl rfl rfl rfl (.fieldAddr rfl fo35_6 rfl (.yes rfl rfl rfl rfl (.load rfl (Ld.ownCell ag27 hb1 (hta).c6) rfl (.yes rfl rfl rfl rfl (.lenSl rfl ((hta).armsAt).okL el27 rfl (.yes rfl rfl rfl rfl (.fieldAddr rfl fo35_6 rfl (.yes rfl rfl rfl rfl (.load rfl (Ld.ownCell ag27 hb2 (htb).c6) rfl (.yes rfl rfl rfl rfl (.lenSl rfl ((htb).armsAt).okL el27 rfl (.yes rfl rfl rfl rfl (.neI rfl rfl rfl (.pickF rfl rfl rfl (.ops0 (.thenN ?_)))))))))))))))))
 have hb : ((!decide ((a.arms.length : Int) = (b.arms.length : Int)))) = false := by simp [hs.k, hs.nm, hs.pm, hs.n, hs.kl, hs.al]
 refine .set (d := 65) (u := .bool false) rfl (congrArg Value.bool hb) (.condF rfl (.skip (.thenN (.seq (.seq (.region (.assign rfl rfl (.ops0 (.thenN (.block ?_))))))))))
 refine At.loop (Nat) (fun k => [(2, .bool false), (3, .pointer (some ⟨b1, 0, none⟩)), (4, .pointer (some ⟨b2, 0, none⟩)), (7, .int .i64 (k : Int))]) (fun k w3 => Below w.heap.size w w3 ∧ w3.heap[b1]? = some (.cells a.cs 35) ∧ w3.heap[b2]? = some (.cells b.cs 35) ∧ (k ≤ a.kids.length)) (fun k => a.kids.length - k) (0 : Nat) (Sub.cons rfl (Sub.cons rfl (Sub.cons rfl (Sub.cons rfl Sub.nil)))) ⟨hB, hb1, hb2, (Nat.zero_le _)⟩ (fun k w3 hI => ?_)
 clear hB hb1 hb2
 obtain ⟨hB, hb1, hb2, hkb⟩ := hI
 show At _ _ [(2, .bool false), (3, .pointer (some ⟨b1, 0, none⟩)), (4, .pointer (some ⟨b2, 0, none⟩)), (7, .int .i64 (k : Int))] _ _
 have hkl := hta.kidsAt.lenL; have hal := hta.armsAt.lenL
 refine .seq (.seq (.region (.move rfl rfl (.fieldAddr rfl fo35_5 rfl (.load rfl (Ld.ownCell ag26 hb1 (hta).c5) rfl (.lenSl rfl ((hta).kidsAt).okL el26 rfl (.lss rfl rfl rfl (.ops0 (.thenN ?_)))))))))
 refine At.cond (b := decide ((k : Int) < (a.kids.length : Int))) rfl (fun hc1 => ?_) (fun hc1 => ?_)
 ·skip
  have hc1' := of_decide_eq_true hc1
  refine .skip (.thenN (.seq (.block (.seq ?_))))
  obtain ⟨u1, hu1⟩ := some_of_lt (l := a.kids) (i := k) (by omega)
  obtain ⟨x1, hx1⟩ := some_of_lt (l := b.kids) (i := k) (by omega)
  have hF := hs.kid hu1 hx1
  refine .drawG (n := 13) mixed (by kernel_rfl) rfl (PanicOk.then (PanicOk.block (PanicOk.then (PanicOk.then (PanicOk.block (PanicOk.then PanicOk.body)))))) ?_
  have hB := Below.drewB hB
  have hb1 : _ := (show w3.drew.heap[b1]? = _ from hb1)
  have hb2 : _ := (show w3.drew.heap[b2]? = _ from hb2)
  refine At.wpcS (i := 0) (d := 73) (.pointer (some ⟨b1, 0 + 5, none⟩)) (by kernel_rfl) rfl rfl rfl (fun Lx => ?_) ?_
  ·skip
   refine .fieldAddr rfl fo35_5 rfl (.ops0 ?_)
   exact fun a ha => ⟨ha, rfl⟩
  refine At.wpcS (i := 1) (d := 74) (a.kv) (by kernel_rfl) rfl rfl rfl (fun Lx => ?_) ?_
  ·skip
   refine .load rfl (Ld.ownCell ag26 hb1 (hta).c5) rfl (.ops0 ?_)
   exact fun a ha => ⟨ha, rfl⟩
  refine At.wpcS (i := 2) (d := 75) (.int .i64 (k : Int)) (by kernel_rfl) rfl rfl rfl (fun Lx => ?_) ?_
  ·skip
   refine .move rfl rfl (.ops0 ?_)
   exact fun a ha => ⟨ha, rfl⟩
  refine At.wpcS (i := 3) (d := 76) (.pointer (some ⟨vBlock a.kv, vOff a.kv + k * 21, none⟩)) (by kernel_rfl) rfl rfl rfl (fun Lx => ?_) ?_
  ·skip
   refine .indexAddr (i := k) rfl rfl ((hta).kidsAt).okL (lt_of_some hu1) el26 sz35 rfl (.ops0 ?_)
   exact fun a ha => ⟨ha, rfl⟩
  refine At.wpcS (i := 4) (d := 77) (.agg u1.cs) (by kernel_rfl) rfl rfl rfl (fun Lx => ?_) ?_
  ·skip
   refine .load rfl (Ld.row ag35 (sz35.trans (congrArg some (((hta).kid hu1)).size.symm)) ((((hta).kidsAt).row hu1).keep hB)) rfl (.ops0 ?_)
   exact fun a ha => ⟨ha, rfl⟩
  refine At.wpcS (i := 5) (d := 78) (.pointer (some ⟨b2, 0 + 5, none⟩)) (by kernel_rfl) rfl rfl rfl (fun Lx => ?_) ?_
  ·skip
   refine .fieldAddr rfl fo35_5 rfl (.ops0 ?_)
   exact fun a ha => ⟨ha, rfl⟩
  refine At.wpcS (i := 6) (d := 79) (b.kv) (by kernel_rfl) rfl rfl rfl (fun Lx => ?_) ?_
  ·skip
   refine .load rfl (Ld.ownCell ag26 hb2 (htb).c5) rfl (.ops0 ?_)
   exact fun a ha => ⟨ha, rfl⟩
  refine At.wpcS (i := 7) (d := 80) (.int .i64 (k : Int)) (by kernel_rfl) rfl rfl rfl (fun Lx => ?_) ?_
  ·skip
   refine .move rfl rfl (.ops0 ?_)
   exact fun a ha => ⟨ha, rfl⟩
  refine At.wpcS (i := 8) (d := 81) (.pointer (some ⟨vBlock b.kv, vOff b.kv + k * 21, none⟩)) (by kernel_rfl) rfl rfl rfl (fun Lx => ?_) ?_
  ·skip
   refine .indexAddr (i := k) rfl rfl ((htb).kidsAt).okL (lt_of_some hx1) el26 sz35 rfl (.ops0 ?_)
   exact fun a ha => ⟨ha, rfl⟩
  refine At.wpcS (i := 9) (d := 82) (.agg x1.cs) (by kernel_rfl) rfl rfl rfl (fun Lx => ?_) ?_
  ·skip
   refine .load rfl (Ld.row ag35 (sz35.trans (congrArg some (((htb).kid hx1)).size.symm)) ((((htb).kidsAt).row hx1).keep hB)) rfl (.ops0 ?_)
   exact fun a ha => ⟨ha, rfl⟩
  refine At.wpcS (i := 10) (d := 83) (.bool false) (by kernel_rfl) rfl rfl rfl (fun Lx => ?_) ?_
  ·skip
   refine .move rfl rfl (.ops0 ?_)
   exact fun a ha => ⟨ha, rfl⟩
  refine At.wpcE [11] (by kernel_rfl) (by kernel_rfl) (.cons [] rfl (by kernel_rfl) ?_ .nil)
  refine At.call en14 rfl rfl (ih u1 x1 hF.1 hF.2 _ ((((hta).kid hu1)).keep hB) ((((htb).kid hx1)).keep hB)) (fun e w4 hR => ?_)
  obtain ⟨rfl, hbl1⟩ := hR
  refine ⟨_, rfl, ?_⟩
  replace hb1 := Below.old hbl1 hb1
  replace hb2 := Below.old hbl1 hb2
  replace hB := Below.andThen hB hbl1
  refine .ops0 (.wpcN .nil ?_)
  refine At.wpcE [12] (by kernel_rfl) (by kernel_rfl) (.cons [] rfl (by kernel_rfl) ?_ .nil)
  refine .assign rfl rfl (.ops0 (.wpcN .nil (.wpcZ (.thenN (.seq (.region (.move rfl rfl (.not rfl rfl (.ops0 (.thenN (.condF rfl (.skip (.inN (.thenN (.region (.move rfl rfl (.addI rfl rfl rfl (by omega) (.assign rfl rfl (.ops0 (.thenN ?_))))))))))))))))))))
  exact fun act_ hact_ => ⟨(k + 1), hact_.sub (Sub.cons rfl (Sub.cons rfl (Sub.cons rfl (Sub.cons rfl Sub.nil)))), ⟨hB, hb1, hb2, (by omega)⟩, by first | omega | (dsimp only; omega)⟩
 ·skip
  have hc1' := of_decide_eq_false hc1
  refine .exit (.thenE (.thenE (.inE (.thenN (.seq (.seq (.region (.assign rfl rfl (.ops0 (.thenN (.block ?_)))))))))))
  refine At.loop (Nat) (fun j => [(2, .bool false), (3, .pointer (some ⟨b1, 0, none⟩)), (4, .pointer (some ⟨b2, 0, none⟩)), (9, .int .i64 (j : Int))]) (fun j w5 => Below w.heap.size w w5 ∧ w5.heap[b1]? = some (.cells a.cs 35) ∧ w5.heap[b2]? = some (.cells b.cs 35) ∧ (j ≤ a.arms.length)) (fun j => a.arms.length - j) (0 : Nat) (Sub.cons rfl (Sub.cons rfl (Sub.cons rfl (Sub.cons rfl Sub.nil)))) ⟨hB, hb1, hb2, (Nat.zero_le _)⟩ (fun j w5 hI => ?_)
  clear hB hb1 hb2
  obtain ⟨hB, hb1, hb2, hjb⟩ := hI
  show At _ _ [(2, .bool false), (3, .pointer (some ⟨b1, 0, none⟩)), (4, .pointer (some ⟨b2, 0, none⟩)), (9, .int .i64 (j : Int))] _ _
  refine .seq (.seq (.region (.move rfl rfl (.fieldAddr rfl fo35_6 rfl (.load rfl (Ld.ownCell ag27 hb1 (hta).c6) rfl (.lenSl rfl ((hta).armsAt).okL el27 rfl (.lss rfl rfl rfl (.ops0 (.thenN ?_)))))))))
  refine At.cond (b := decide ((j : Int) < (a.arms.length : Int))) rfl (fun hc2 => ?_) (fun hc2 => ?_)
  ·skip
   have hc2' := of_decide_eq_true hc2
   refine .skip (.thenN (.seq (.block (.seq ?_))))
   obtain ⟨u2, hu2⟩ := some_of_lt (l := a.arms) (i := j) (by omega)
   obtain ⟨x2, hx2⟩ := some_of_lt (l := b.arms) (i := j) (by omega)
   have hF := hs.arm hu2 hx2
   refine .drawG (n := 15) mixed (by kernel_rfl) rfl (PanicOk.then (PanicOk.block (PanicOk.then (PanicOk.then (PanicOk.block (PanicOk.then PanicOk.body)))))) ?_
   have hB := Below.drewB hB
   have hb1 : _ := (show w5.drew.heap[b1]? = _ from hb1)
   have hb2 : _ := (show w5.drew.heap[b2]? = _ from hb2)
   refine At.wpcS (i := 0) (d := 94) (.pointer (some ⟨b1, 0 + 6, none⟩)) (by kernel_rfl) rfl rfl rfl (fun Lx => ?_) ?_
   ·skip
    refine .fieldAddr rfl fo35_6 rfl (.ops0 ?_)
    exact fun a ha => ⟨ha, rfl⟩
   refine At.wpcS (i := 1) (d := 95) (a.av) (by kernel_rfl) rfl rfl rfl (fun Lx => ?_) ?_
   ·skip
    refine .load rfl (Ld.ownCell ag27 hb1 (hta).c6) rfl (.ops0 ?_)
    exact fun a ha => ⟨ha, rfl⟩
   refine At.wpcS (i := 2) (d := 96) (.int .i64 (j : Int)) (by kernel_rfl) rfl rfl rfl (fun Lx => ?_) ?_
   ·skip
    refine .move rfl rfl (.ops0 ?_)
    exact fun a ha => ⟨ha, rfl⟩
   refine At.wpcS (i := 3) (d := 97) (.pointer (some ⟨vBlock a.av, vOff a.av + j * 23, none⟩)) (by kernel_rfl) rfl rfl rfl (fun Lx => ?_) ?_
   ·skip
    refine .indexAddr (i := j) rfl rfl ((hta).armsAt).okL (lt_of_some hu2) el27 sz61 rfl (.ops0 ?_)
    exact fun a ha => ⟨ha, rfl⟩
   refine At.wpcS (i := 4) (d := 98) (.pointer (some ⟨vBlock a.av, vOff a.av + j * 23 + 2, none⟩)) (by kernel_rfl) rfl rfl rfl (fun Lx => ?_) ?_
   ·skip
    refine .fieldAddr rfl fo61_2 rfl (.ops0 ?_)
    exact fun a ha => ⟨ha, rfl⟩
   refine At.wpcS (i := 5) (d := 99) (.agg u2.body.cs) (by kernel_rfl) rfl rfl rfl (fun Lx => ?_) ?_
   ·skip
    refine .load rfl (Ld.row ag35 (sz35.trans (congrArg some ((((hta).arm hu2)).body).size.symm)) (((((hta).armsAt).row hu2).part 2 (((hta).arm hu2)).bodyCs).keep hB)) rfl (.ops0 ?_)
    exact fun a ha => ⟨ha, rfl⟩
   refine At.wpcS (i := 6) (d := 100) (.pointer (some ⟨b2, 0 + 6, none⟩)) (by kernel_rfl) rfl rfl rfl (fun Lx => ?_) ?_
   ·skip
    refine .fieldAddr rfl fo35_6 rfl (.ops0 ?_)
    exact fun a ha => ⟨ha, rfl⟩
   refine At.wpcS (i := 7) (d := 101) (b.av) (by kernel_rfl) rfl rfl rfl (fun Lx => ?_) ?_
   ·skip
    refine .load rfl (Ld.ownCell ag27 hb2 (htb).c6) rfl (.ops0 ?_)
    exact fun a ha => ⟨ha, rfl⟩
   refine At.wpcS (i := 8) (d := 102) (.int .i64 (j : Int)) (by kernel_rfl) rfl rfl rfl (fun Lx => ?_) ?_
   ·skip
    refine .move rfl rfl (.ops0 ?_)
    exact fun a ha => ⟨ha, rfl⟩
   refine At.wpcS (i := 9) (d := 103) (.pointer (some ⟨vBlock b.av, vOff b.av + j * 23, none⟩)) (by kernel_rfl) rfl rfl rfl (fun Lx => ?_) ?_
   ·skip
    refine .indexAddr (i := j) rfl rfl ((htb).armsAt).okL (lt_of_some hx2) el27 sz61 rfl (.ops0 ?_)
    exact fun a ha => ⟨ha, rfl⟩
   refine At.wpcS (i := 10) (d := 104) (.pointer (some ⟨vBlock b.av, vOff b.av + j * 23 + 2, none⟩)) (by kernel_rfl) rfl rfl rfl (fun Lx => ?_) ?_
   ·skip
    refine .fieldAddr rfl fo61_2 rfl (.ops0 ?_)
    exact fun a ha => ⟨ha, rfl⟩
   refine At.wpcS (i := 11) (d := 105) (.agg x2.body.cs) (by kernel_rfl) rfl rfl rfl (fun Lx => ?_) ?_
   ·skip
    refine .load rfl (Ld.row ag35 (sz35.trans (congrArg some ((((htb).arm hx2)).body).size.symm)) (((((htb).armsAt).row hx2).part 2 (((htb).arm hx2)).bodyCs).keep hB)) rfl (.ops0 ?_)
    exact fun a ha => ⟨ha, rfl⟩
   refine At.wpcS (i := 12) (d := 106) (.bool false) (by kernel_rfl) rfl rfl rfl (fun Lx => ?_) ?_
   ·skip
    refine .move rfl rfl (.ops0 ?_)
    exact fun a ha => ⟨ha, rfl⟩
   refine At.wpcE [13] (by kernel_rfl) (by kernel_rfl) (.cons [] rfl (by kernel_rfl) ?_ .nil)
   refine At.call en14 rfl rfl (ih u2.body x2.body hF.2.2.1 hF.2.2.2 _ (((((hta).arm hu2)).body).keep hB) (((((htb).arm hx2)).body).keep hB)) (fun e w6 hR => ?_)
   obtain ⟨rfl, hbl2⟩ := hR
   refine ⟨_, rfl, ?_⟩
   replace hb1 := Below.old hbl2 hb1
   replace hb2 := Below.old hbl2 hb2
   replace hB := Below.andThen hB hbl2
   refine .ops0 (.wpcN .nil ?_)
   refine At.wpcE [14] (by kernel_rfl) (by kernel_rfl) (.cons [] rfl (by kernel_rfl) ?_ .nil)
   refine .assign rfl rfl (.ops0 (.wpcN .nil (.wpcZ (.thenN (.seq (.drawG (n := 14) mixed (by kernel_rfl) rfl (PanicOk.then (PanicOk.block (PanicOk.then (PanicOk.then (PanicOk.block (PanicOk.then PanicOk.body)))))) ?_))))))
   have hB := Below.drewB hB
   have hb1 : _ := (show w6.drew.heap[b1]? = _ from hb1)
   have hb2 : _ := (show w6.drew.heap[b2]? = _ from hb2)
   refine At.wpcS (i := 0) (d := 108) (.pointer (some ⟨b1, 0 + 6, none⟩)) (by kernel_rfl) rfl rfl rfl (fun Lx => ?_) ?_
   ·skip
    refine .fieldAddr rfl fo35_6 rfl (.ops0 ?_)
    exact fun a ha => ⟨ha, rfl⟩
   refine At.wpcS (i := 1) (d := 109) (a.av) (by kernel_rfl) rfl rfl rfl (fun Lx => ?_) ?_
   ·skip
    refine .load rfl (Ld.ownCell ag27 hb1 (hta).c6) rfl (.ops0 ?_)
    exact fun a ha => ⟨ha, rfl⟩
   refine At.wpcS (i := 2) (d := 110) (.int .i64 (j : Int)) (by kernel_rfl) rfl rfl rfl (fun Lx => ?_) ?_
   ·skip
    refine .move rfl rfl (.ops0 ?_)
    exact fun a ha => ⟨ha, rfl⟩
   refine At.wpcS (i := 3) (d := 111) (.pointer (some ⟨vBlock a.av, vOff a.av + j * 23, none⟩)) (by kernel_rfl) rfl rfl rfl (fun Lx => ?_) ?_
   ·skip
    refine .indexAddr (i := j) rfl rfl ((hta).armsAt).okL (lt_of_some hu2) el27 sz61 rfl (.ops0 ?_)
    exact fun a ha => ⟨ha, rfl⟩
   refine At.wpcS (i := 4) (d := 112) (.pointer (some ⟨vBlock a.av, vOff a.av + j * 23 + 1, none⟩)) (by kernel_rfl) rfl rfl rfl (fun Lx => ?_) ?_
   ·skip
    refine .fieldAddr rfl fo61_1 rfl (.ops0 ?_)
    exact fun a ha => ⟨ha, rfl⟩
   refine At.wpcS (i := 5) (d := 113) (u2.vv) (by kernel_rfl) rfl rfl rfl (fun Lx => ?_) ?_
   ·skip
    refine .load rfl (Ld.cell ag29 (cell_keep ((((hta).armsAt).row hu2).get (((hta).arm hu2)).c1) hB)) rfl (.ops0 ?_)
    exact fun a ha => ⟨ha, rfl⟩
   refine At.wpcS (i := 6) (d := 114) (.pointer (some ⟨b2, 0 + 6, none⟩)) (by kernel_rfl) rfl rfl rfl (fun Lx => ?_) ?_
   ·skip
    refine .fieldAddr rfl fo35_6 rfl (.ops0 ?_)
    exact fun a ha => ⟨ha, rfl⟩
   refine At.wpcS (i := 7) (d := 115) (b.av) (by kernel_rfl) rfl rfl rfl (fun Lx => ?_) ?_
   ·skip
    refine .load rfl (Ld.ownCell ag27 hb2 (htb).c6) rfl (.ops0 ?_)
    exact fun a ha => ⟨ha, rfl⟩
   refine At.wpcS (i := 8) (d := 116) (.int .i64 (j : Int)) (by kernel_rfl) rfl rfl rfl (fun Lx => ?_) ?_
   ·skip
    refine .move rfl rfl (.ops0 ?_)
    exact fun a ha => ⟨ha, rfl⟩
   refine At.wpcS (i := 9) (d := 117) (.pointer (some ⟨vBlock b.av, vOff b.av + j * 23, none⟩)) (by kernel_rfl) rfl rfl rfl (fun Lx => ?_) ?_
   ·skip
    refine .indexAddr (i := j) rfl rfl ((htb).armsAt).okL (lt_of_some hx2) el27 sz61 rfl (.ops0 ?_)
    exact fun a ha => ⟨ha, rfl⟩
   refine At.wpcS (i := 10) (d := 118) (.pointer (some ⟨vBlock b.av, vOff b.av + j * 23 + 1, none⟩)) (by kernel_rfl) rfl rfl rfl (fun Lx => ?_) ?_
   ·skip
    refine .fieldAddr rfl fo61_1 rfl (.ops0 ?_)
    exact fun a ha => ⟨ha, rfl⟩
   refine At.wpcS (i := 11) (d := 119) (x2.vv) (by kernel_rfl) rfl rfl rfl (fun Lx => ?_) ?_
   ·skip
    refine .load rfl (Ld.cell ag29 (cell_keep ((((htb).armsAt).row hx2).get (((htb).arm hx2)).c1) hB)) rfl (.ops0 ?_)
    exact fun a ha => ⟨ha, rfl⟩
   refine At.wpcE [12] (by kernel_rfl) (by kernel_rfl) (.cons [] rfl (by kernel_rfl) ?_ .nil)
   refine At.call en25 rfl rfl (texts_any u2.vv x2.vv u2.vars _ (StrsAt.keep (((hta).arm hu2)).varsAt hB) (hF.2.1.symm ▸ StrsAt.keep (((htb).arm hx2)).varsAt hB)) (fun e w7 hR => ?_)
   obtain ⟨rfl, hbl3⟩ := hR
   refine ⟨_, rfl, ?_⟩
   replace hb1 := Below.old hbl3 hb1
   replace hb2 := Below.old hbl3 hb2
   replace hB := Below.andThen hB hbl3
   refine .ops0 (.wpcN .nil ?_)
   refine At.wpcE [13] (by kernel_rfl) (by kernel_rfl) (.cons [] rfl (by kernel_rfl) ?_ .nil)
   refine .assign rfl rfl (.ops0 (.wpcN .nil (.wpcZ (.thenN (.seq (.drawG (n := 21) mixed (by kernel_rfl) rfl (PanicOk.then (PanicOk.block (PanicOk.then (PanicOk.then (PanicOk.block (PanicOk.then PanicOk.body)))))) ?_))))))
   have hB := Below.drewB hB
   have hb1 : _ := (show w7.drew.heap[b1]? = _ from hb1)
   have hb2 : _ := (show w7.drew.heap[b2]? = _ from hb2)
   refine At.wpcS (i := 0) (d := 121) (.bool true) (by kernel_rfl) rfl rfl rfl (fun Lx => ?_) ?_
   ·skip
    refine .move rfl rfl (.ops0 ?_)
    exact fun a ha => ⟨ha, rfl⟩
   refine At.wpcS (i := 1) (d := 122) (.bool false) (by kernel_rfl) rfl rfl rfl (fun Lx => ?_) ?_
   ·skip
    refine .not rfl rfl (.ops0 ?_)
    exact fun a ha => ⟨ha, rfl⟩
   refine At.wpcS (i := 2) (d := 123) (.bool false) (by kernel_rfl) rfl rfl rfl (fun Lx => ?_) ?_
   ·skip
    refine .move rfl rfl (.ops0 ?_)
    exact fun a ha => ⟨ha, rfl⟩
   refine At.wpcS (i := 3) (d := 124) (.bool true) (by kernel_rfl) rfl rfl rfl (fun Lx => ?_) ?_
   ·skip
    refine .yes rfl rfl rfl rfl (.move rfl rfl (.ops0 ?_))
    exact fun a ha => ⟨ha, rfl⟩
   refine At.wpcS (i := 4) (d := 125) (.bool false) (by kernel_rfl) rfl rfl rfl (fun Lx => ?_) ?_
   ·skip
    refine .yes rfl rfl rfl rfl (.not rfl rfl (.ops0 ?_))
    exact fun a ha => ⟨ha, rfl⟩
   refine At.wpcS (i := 5) (d := 126) (.bool false) (by kernel_rfl) rfl rfl rfl (fun Lx => ?_) ?_
   ·skip
    refine .pickF rfl rfl rfl (.ops0 ?_)
    exact fun a ha => ⟨ha, rfl⟩
   refine At.wpcS (i := 6) (d := 127) (.bool false) (by kernel_rfl) rfl rfl rfl (fun Lx => ?_) ?_
   ·skip
    refine .move rfl rfl (.ops0 ?_)
    exact fun a ha => ⟨ha, rfl⟩
   refine At.wpcS (i := 7) (d := 128) (.pointer (some ⟨b1, 0 + 6, none⟩)) (by kernel_rfl) rfl rfl rfl (fun Lx => ?_) ?_
   ·skip
    refine .yes rfl rfl rfl rfl (.fieldAddr rfl fo35_6 rfl (.ops0 ?_))
    exact fun a ha => ⟨ha, rfl⟩
   refine At.wpcS (i := 8) (d := 129) (a.av) (by kernel_rfl) rfl rfl rfl (fun Lx => ?_) ?_
   ·skip
    refine .yes rfl rfl rfl rfl (.load rfl (Ld.ownCell ag27 hb1 (hta).c6) rfl (.ops0 ?_))
    exact fun a ha => ⟨ha, rfl⟩
   refine At.wpcS (i := 9) (d := 130) (.int .i64 (j : Int)) (by kernel_rfl) rfl rfl rfl (fun Lx => ?_) ?_
   ·skip
    refine .yes rfl rfl rfl rfl (.move rfl rfl (.ops0 ?_))
    exact fun a ha => ⟨ha, rfl⟩
   refine At.wpcS (i := 10) (d := 131) (.pointer (some ⟨vBlock a.av, vOff a.av + j * 23, none⟩)) (by kernel_rfl) rfl rfl rfl (fun Lx => ?_) ?_
   ·skip
    refine .yes rfl rfl rfl rfl (.indexAddr (i := j) rfl rfl ((hta).armsAt).okL (lt_of_some hu2) el27 sz61 rfl (.ops0 ?_))
    exact fun a ha => ⟨ha, rfl⟩
   refine At.wpcS (i := 11) (d := 132) (.pointer (some ⟨vBlock a.av, vOff a.av + j * 23 + 0, none⟩)) (by kernel_rfl) rfl rfl rfl (fun Lx => ?_) ?_
   ·skip
    refine .yes rfl rfl rfl rfl (.fieldAddr rfl fo61_0 rfl (.ops0 ?_))
    exact fun a ha => ⟨ha, rfl⟩
   refine At.wpcS (i := 12) (d := 133) (.string u2.nm) (by kernel_rfl) rfl rfl rfl (fun Lx => ?_) ?_
   ·skip
    refine .yes rfl rfl rfl rfl (.load rfl (Ld.cell ag9 (cell_keep ((((hta).armsAt).row hu2).get (((hta).arm hu2)).c0) hB)) rfl (.ops0 ?_))
    exact fun a ha => ⟨ha, rfl⟩
   refine At.wpcS (i := 13) (d := 134) (.pointer (some ⟨b2, 0 + 6, none⟩)) (by kernel_rfl) rfl rfl rfl (fun Lx => ?_) ?_
   ·skip
    refine .yes rfl rfl rfl rfl (.fieldAddr rfl fo35_6 rfl (.ops0 ?_))
    exact fun a ha => ⟨ha, rfl⟩
   refine At.wpcS (i := 14) (d := 135) (b.av) (by kernel_rfl) rfl rfl rfl (fun Lx => ?_) ?_
   ·skip
    refine .yes rfl rfl rfl rfl (.load rfl (Ld.ownCell ag27 hb2 (htb).c6) rfl (.ops0 ?_))
    exact fun a ha => ⟨ha, rfl⟩
   refine At.wpcS (i := 15) (d := 136) (.int .i64 (j : Int)) (by kernel_rfl) rfl rfl rfl (fun Lx => ?_) ?_
   ·skip
    refine .yes rfl rfl rfl rfl (.move rfl rfl (.ops0 ?_))
    exact fun a ha => ⟨ha, rfl⟩
   refine At.wpcS (i := 16) (d := 137) (.pointer (some ⟨vBlock b.av, vOff b.av + j * 23, none⟩)) (by kernel_rfl) rfl rfl rfl (fun Lx => ?_) ?_
   ·skip
    refine .yes rfl rfl rfl rfl (.indexAddr (i := j) rfl rfl ((htb).armsAt).okL (lt_of_some hx2) el27 sz61 rfl (.ops0 ?_))
    exact fun a ha => ⟨ha, rfl⟩
   refine At.wpcS (i := 17) (d := 138) (.pointer (some ⟨vBlock b.av, vOff b.av + j * 23 + 0, none⟩)) (by kernel_rfl) rfl rfl rfl (fun Lx => ?_) ?_
   ·skip
    refine .yes rfl rfl rfl rfl (.fieldAddr rfl fo61_0 rfl (.ops0 ?_))
    exact fun a ha => ⟨ha, rfl⟩
   refine At.wpcS (i := 18) (d := 139) (.string x2.nm) (by kernel_rfl) rfl rfl rfl (fun Lx => ?_) ?_
   ·skip
    refine .yes rfl rfl rfl rfl (.load rfl (Ld.cell ag9 (cell_keep ((((htb).armsAt).row hx2).get (((htb).arm hx2)).c0) hB)) rfl (.ops0 ?_))
    exact fun a ha => ⟨ha, rfl⟩
   refine At.wpcS (i := 19) (d := 140) (.bool (!decide (u2.nm = x2.nm))) (by kernel_rfl) rfl rfl rfl (fun Lx => ?_) ?_
   ·skip
    refine .yes rfl rfl rfl rfl (.neS rfl rfl rfl (.ops0 ?_))
    exact fun a ha => ⟨ha, rfl⟩
   refine At.wpcS (i := 20) (d := 141) (.bool (!decide (u2.nm = x2.nm))) (by kernel_rfl) rfl rfl rfl (fun Lx => ?_) ?_
   ·skip
    refine .pickF rfl rfl rfl (.ops0 ?_)
    exact fun a ha => ⟨ha, rfl⟩
   refine .wpcZ (.thenN ?_)
   have hb : ((!decide (u2.nm = x2.nm))) = false := by simp [hF.1]
   refine .set (d := 141) (u := .bool false) rfl (congrArg Value.bool hb) (.condF rfl (.skip (.inN (.thenN (.region (.move rfl rfl (.addI rfl rfl rfl (by omega) (.assign rfl rfl (.ops0 (.thenN ?_))))))))))
   exact fun act_ hact_ => ⟨(j + 1), hact_.sub (Sub.cons rfl (Sub.cons rfl (Sub.cons rfl (Sub.cons rfl Sub.nil)))), ⟨hB, hb1, hb2, (by omega)⟩, by first | omega | (dsimp only; omega)⟩
  ·skip
   have hc2' := of_decide_eq_false hc2
   refine .exit (.thenE (.thenE (.inE (.thenN (.seq (.region (.assign rfl rfl (.ops0 (.thenN (.retc (.doneR (ResV.tmp rfl ResV.nil) ?_)))))))))))
   exact ⟨rfl, hB⟩
theorem same_any : ∀ (n : Nat) (a b : Tm), dS (shT a) ≤ n → VT (shT a) (shT b) → ∀ w, TmOk w a → TmOk w b → Calls Try.prog 14 ([.agg a.cs, .agg b.cs, .bool false] : List Value).toArray w fun e w' => e = .returned (.bool true) ∧ Below w.heap.size w w' := by
 intro n
 induction n with
 | zero => intro a b h; have := dS_pos (shT a); omega
 | succ n ih => intro a b h hv w ha hb; exact same_step a b w ha hb (SmF.of hv) (fun u x h1 h2 w hu hx => ih u x (by omega) h2 w hu hx)
end Go.Proofs.Ytkjmjnddanhapaa
