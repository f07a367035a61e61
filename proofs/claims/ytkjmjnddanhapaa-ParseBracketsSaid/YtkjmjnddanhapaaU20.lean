/-
 The walks of texts and SameTerm, of terms that are the same but for where they stand. Written by a program of ours.
-/
import Derived.Test.YtkjmjnddanhapaaN22
import Derived.Test.YtkjmjnddanhapaaU10
set_option linter.unusedVariables false
set_option linter.unusedSimpArgs false
namespace Go.Proofs.Ytkjmjnddanhapaa
open Go.RowKit
theorem en14 : entB Try.prog 14 = true := by kernel_rfl
theorem en25 : entB Try.prog 25 = true := by kernel_rfl
theorem texts_any (v v2 : Value) (l : List ByteArray) (w : World) (hv : StrsAt w v l) (hv2 : StrsAt w v2 l) :
  Calls Try.prog 25 ([v, v2] : List Value).toArray w fun e w' => e = .returned (.bool true) ∧ Below w.heap.size w w' := by
 have hl := hv.len
 have hB := Below.refl w.heap.size w
 refine At.enter (N := 26) Try.func25 rfl rfl (by simp) [(0, v), (1, v2)] (by simp) ?_
 refine At.seq ?_
 refine At.region ?_
 refine At.assign rfl rfl ?_
 refine At.ops0 ?_
 refine At.thenN ?_
 refine At.seq ?_
 refine At.seq ?_
 refine At.region ?_
 refine At.move rfl rfl ?_
 refine At.lenSl rfl hv.ok el29 rfl ?_
 refine At.move rfl rfl ?_
 refine At.lenSl rfl hv2.ok el29 rfl ?_
 refine At.neI rfl rfl rfl ?_
 refine At.ops0 ?_
 refine At.thenN ?_
 have hb : ((!decide ((l.length : Int) = (l.length : Int)))) = false := by simp
 refine At.set (d := 10) (u := .bool false) rfl (congrArg Value.bool hb) ?_
 refine At.condF rfl ?_
 refine At.skip ?_
 refine At.thenN ?_
 refine At.seq ?_
 refine At.seq ?_
 refine At.region ?_
 refine At.assign rfl rfl ?_
 refine At.ops0 ?_
 refine At.thenN ?_
 refine At.block ?_
 refine At.loop (Nat) (fun k => [(0, v), (1, v2), (5, .int .i64 (k : Int))]) (fun k w1 => Below w.heap.size w w1 ∧ (k ≤ l.length)) (fun k => l.length - k) (0 : Nat) (Sub.cons rfl (Sub.cons rfl (Sub.cons rfl Sub.nil))) ⟨hB, (Nat.zero_le _)⟩ (fun k w1 hI => ?_)
 clear hB
 obtain ⟨hB, hk⟩ := hI
 show At _ _ [(0, v), (1, v2), (5, .int .i64 (k : Int))] _ _
 refine At.seq ?_
 refine At.seq ?_
 refine At.region ?_
 refine At.move rfl rfl ?_
 refine At.move rfl rfl ?_
 refine At.lenSl rfl hv.ok el29 rfl ?_
 refine At.lss rfl rfl rfl ?_
 refine At.ops0 ?_
 refine At.thenN ?_
 refine At.cond (b := decide ((k : Int) < (l.length : Int))) rfl (fun hc1 => ?_) (fun hc1 => ?_)
 ·skip
  have hc1' := of_decide_eq_true hc1
  refine At.skip ?_
  refine At.thenN ?_
  refine At.seq ?_
  refine At.block ?_
  refine At.seq ?_
  obtain ⟨u, hu⟩ := some_of_lt (l := l) (i := k) (by omega)
  refine At.draw mixed [(0, v), (1, v2), (5, .int .i64 (k : Int))] (Sub.cons rfl (Sub.cons rfl (Sub.cons rfl Sub.nil))) rfl (RS ([] : List (Nat × Obj))) (dF [.c (v), .c (.int .i64 (k : Int)), .c (.pointer (some ⟨vBlock v, vOff v + k * 1, none⟩)), .c (.string u), .c (v2), .c (.int .i64 (k : Int)), .c (.pointer (some ⟨vBlock v2, vOff v2 + k * 1, none⟩)), .c (.string u), .c (.bool (!decide (u = u)))]) (RS.drew _ _) RS.trans (dF.stab (by simp)) ⟨?_, ?_, ?_, ?_, ?_, ?_, ?_, ?_, ?_, trivial⟩ (fun vals w' hRS hf => ?_)
  ·intro vals Lx w1 hRS hpre
   have hB := RS.below hRS hB (by simp)
   refine At.move rfl rfl ?_
   refine At.ops0 ?_
   exact fun a ha => ⟨_, ha, RS.refl _ _, rfl⟩
  ·intro vals Lx w1 hRS hpre
   have hB := RS.below hRS hB (by simp)
   refine At.move rfl rfl ?_
   refine At.ops0 ?_
   exact fun a ha => ⟨_, ha, RS.refl _ _, rfl⟩
  ·intro vals Lx w1 hRS hpre
   have hB := RS.below hRS hB (by simp)
   have p0 : vals 0 = v := hpre 0 (by decide)
   refine At.set (d := 17) (v := vals 0) rfl p0 ?_
   have p1 : vals 1 = .int .i64 (k : Int) := hpre 1 (by decide)
   refine At.set (d := 18) (v := vals 1) rfl p1 ?_
   refine At.indexAddr (i := k) rfl rfl hv.ok (lt_of_some hu) el29 sz9 rfl ?_
   refine At.ops0 ?_
   exact fun a ha => ⟨_, ((ha).drop2 (congrArg some p1)).drop2 (congrArg some p0), RS.refl _ _, rfl⟩
  ·intro vals Lx w1 hRS hpre
   have hB := RS.below hRS hB (by simp)
   have p2 : vals 2 = .pointer (some ⟨vBlock v, vOff v + k * 1, none⟩) := hpre 2 (by decide)
   refine At.set (d := 19) (v := vals 2) rfl p2 ?_
   refine At.load rfl (Ld.cell ag9 (cell_keep ((hv).get hu) hB)) rfl ?_
   refine At.ops0 ?_
   exact fun a ha => ⟨_, (ha).drop2 (congrArg some p2), RS.refl _ _, rfl⟩
  ·intro vals Lx w1 hRS hpre
   have hB := RS.below hRS hB (by simp)
   refine At.move rfl rfl ?_
   refine At.ops0 ?_
   exact fun a ha => ⟨_, ha, RS.refl _ _, rfl⟩
  ·intro vals Lx w1 hRS hpre
   have hB := RS.below hRS hB (by simp)
   refine At.move rfl rfl ?_
   refine At.ops0 ?_
   exact fun a ha => ⟨_, ha, RS.refl _ _, rfl⟩
  ·intro vals Lx w1 hRS hpre
   have hB := RS.below hRS hB (by simp)
   have p4 : vals 4 = v2 := hpre 4 (by decide)
   refine At.set (d := 21) (v := vals 4) rfl p4 ?_
   have p5 : vals 5 = .int .i64 (k : Int) := hpre 5 (by decide)
   refine At.set (d := 22) (v := vals 5) rfl p5 ?_
   refine At.indexAddr (i := k) rfl rfl hv2.ok (lt_of_some hu) el29 sz9 rfl ?_
   refine At.ops0 ?_
   exact fun a ha => ⟨_, ((ha).drop2 (congrArg some p5)).drop2 (congrArg some p4), RS.refl _ _, rfl⟩
  ·intro vals Lx w1 hRS hpre
   have hB := RS.below hRS hB (by simp)
   have p6 : vals 6 = .pointer (some ⟨vBlock v2, vOff v2 + k * 1, none⟩) := hpre 6 (by decide)
   refine At.set (d := 23) (v := vals 6) rfl p6 ?_
   refine At.load rfl (Ld.cell ag9 (cell_keep ((hv2).get hu) hB)) rfl ?_
   refine At.ops0 ?_
   exact fun a ha => ⟨_, (ha).drop2 (congrArg some p6), RS.refl _ _, rfl⟩
  ·intro vals Lx w1 hRS hpre
   have hB := RS.below hRS hB (by simp)
   have p3 : vals 3 = .string u := hpre 3 (by decide)
   refine At.set (d := 20) (v := vals 3) rfl p3 ?_
   have p7 : vals 7 = .string u := hpre 7 (by decide)
   refine At.set (d := 24) (v := vals 7) rfl p7 ?_
   refine At.neS rfl rfl rfl ?_
   refine At.ops0 ?_
   exact fun a ha => ⟨_, ((ha).drop2 (congrArg some p7)).drop2 (congrArg some p3), RS.refl _ _, rfl⟩
  ·skip
   have hB := RS.below hRS hB (by simp)
   have p8 : vals 8 = .bool (!decide (u = u)) := hf 8 (by decide)
   refine At.sub (L' := [(0, v), (1, v2), (5, .int .i64 (k : Int)), (25, .bool (!decide (u = u)))]) (Sub.cons rfl (Sub.cons rfl (Sub.cons rfl (Sub.cons (congrArg some p8) Sub.nil)))) ?_
   refine At.thenN ?_
   have hb : ((!decide (u = u))) = false := by simp
   refine At.set (d := 25) (u := .bool false) rfl (congrArg Value.bool hb) ?_
   refine At.condF rfl ?_
   refine At.skip ?_
   refine At.inN ?_
   refine At.thenN ?_
   refine At.region ?_
   refine At.move rfl rfl ?_
   refine At.addI rfl rfl rfl (by omega) ?_
   refine At.assign rfl rfl ?_
   refine At.ops0 ?_
   refine At.thenN ?_
   exact fun act_ hact_ => ⟨(k + 1), hact_.sub (Sub.cons rfl (Sub.cons rfl (Sub.cons rfl Sub.nil))), ⟨hB, (by omega)⟩, by first | omega | (dsimp only; omega)⟩
 ·skip
  have hc1' := of_decide_eq_false hc1
  refine At.exit ?_
  refine At.thenE ?_
  refine At.thenE ?_
  refine At.inE ?_
  refine At.thenN ?_
  refine At.seq ?_
  refine At.region ?_
  refine At.assign rfl rfl ?_
  refine At.ops0 ?_
  refine At.thenN ?_
  refine At.retc ?_
  refine At.doneR (ResV.tmp rfl ResV.nil) ?_
  exact ⟨rfl, hB⟩
theorem same_step (a b : Tm) (w : World) (hta : TmOk w a) (htb : TmOk w b) (hs : SmF a b)
  (ih : ∀ u x : Tm, dS (shT u) < dS (shT a) → VT (shT u) (shT x) → ∀ w, TmOk w u → TmOk w x → Calls Try.prog 14 ([.agg u.cs, .agg x.cs, .bool false] : List Value).toArray w fun e w' => e = .returned (.bool true) ∧ Below w.heap.size w w') :
  Calls Try.prog 14 ([.agg a.cs, .agg b.cs, .bool false] : List Value).toArray w fun e w' => e = .returned (.bool true) ∧ Below w.heap.size w w' := by
 have hkl_ := hs.kl; have hal_ := hs.al
 have hB := Below.refl w.heap.size w
 refine At.enter (N := 142) Try.func14 rfl rfl (by simp) [(0, .agg a.cs), (1, .agg b.cs), (2, .bool false)] (by simp) ?_
 refine At.seq ?_
 refine At.region ?_
 refine At.box rfl rfl (fun b1 w1 F1 => ?_)
 have gb1 := F1.ge hB
 have hb1 : w1.heap[b1]? = some (.cells a.cs 35) := F1.new
 replace hB := F1.below' hB
 refine At.box rfl rfl (fun b2 w2 F2 => ?_)
 have n_b1_b2 : b1 ≠ b2 := Nat.ne_of_lt (F2.lt hb1)
 have gb2 := F2.ge hB
 replace hb1 := F2.old hb1
 have hb2 : w2.heap[b2]? = some (.cells b.cs 35) := F2.new
 replace hB := F2.below' hB
 refine At.assign rfl rfl ?_
 refine At.ops0 ?_
 refine At.thenN ?_
 refine At.seq ?_
 refine At.seq ?_
 refine At.region ?_
 refine At.fieldAddr rfl fo35_0 rfl ?_
 refine At.load rfl (Ld.ownCell ag3 hb1 (hta).c0) rfl ?_
 refine At.fieldAddr rfl fo35_0 rfl ?_
 refine At.load rfl (Ld.ownCell ag3 hb2 (htb).c0) rfl ?_
 refine At.neI rfl rfl rfl ?_
 refine At.move rfl rfl ?_
 have hbb1 : ((!decide (a.k = b.k))) = false := by simp [hs.k, hs.nm, hs.pm, hs.n, hs.kl, hs.al]
 refine At.set (d := 17) (u := .bool false) rfl (congrArg Value.bool hbb1) ?_
 refine At.yes rfl rfl rfl rfl ?_
 refine At.move rfl rfl ?_
 refine At.yes rfl rfl rfl rfl ?_
 refine At.move rfl rfl ?_
 refine At.no rfl rfl rfl rfl rfl rfl rfl ?_
 refine At.no rfl rfl rfl rfl rfl rfl rfl ?_
 refine At.no rfl rfl rfl rfl rfl rfl rfl ?_
 refine At.no rfl rfl rfl rfl rfl rfl rfl ?_
 refine At.no rfl rfl rfl rfl rfl rfl rfl ?_
 refine At.yes rfl rfl rfl rfl ?_
 refine At.pickF rfl rfl rfl ?_
 refine At.pickF rfl rfl rfl ?_
 refine At.move rfl rfl ?_
 refine At.yes rfl rfl rfl rfl ?_
 refine At.fieldAddr rfl fo35_2 rfl ?_
 refine At.yes rfl rfl rfl rfl ?_
 refine At.load rfl (Ld.ownCell ag9 hb1 (hta).c2) rfl ?_
 refine At.yes rfl rfl rfl rfl ?_
 refine At.fieldAddr rfl fo35_2 rfl ?_
 refine At.yes rfl rfl rfl rfl ?_
 refine At.load rfl (Ld.ownCell ag9 hb2 (htb).c2) rfl ?_
 refine At.yes rfl rfl rfl rfl ?_
 refine At.neS rfl rfl rfl ?_
 refine At.pickF rfl rfl rfl ?_
 refine At.move rfl rfl ?_
 have hbb2 : ((!decide (a.nm = b.nm))) = false := by simp [hs.k, hs.nm, hs.pm, hs.n, hs.kl, hs.al]
 refine At.set (d := 34) (u := .bool false) rfl (congrArg Value.bool hbb2) ?_
 refine At.yes rfl rfl rfl rfl ?_
 refine At.fieldAddr rfl fo35_3 rfl ?_
 refine At.yes rfl rfl rfl rfl ?_
 refine At.load rfl (Ld.ownCell ag9 hb1 (hta).c3) rfl ?_
 refine At.yes rfl rfl rfl rfl ?_
 refine At.fieldAddr rfl fo35_3 rfl ?_
 refine At.yes rfl rfl rfl rfl ?_
 refine At.load rfl (Ld.ownCell ag9 hb2 (htb).c3) rfl ?_
 refine At.yes rfl rfl rfl rfl ?_
 refine At.neS rfl rfl rfl ?_
 refine At.pickF rfl rfl rfl ?_
 refine At.move rfl rfl ?_
 have hbb3 : ((!decide (a.pm = b.pm))) = false := by simp [hs.k, hs.nm, hs.pm, hs.n, hs.kl, hs.al]
 refine At.set (d := 41) (u := .bool false) rfl (congrArg Value.bool hbb3) ?_
 refine At.yes rfl rfl rfl rfl ?_
 refine At.fieldAddr rfl fo35_4 rfl ?_
 refine At.yes rfl rfl rfl rfl ?_
 refine At.load rfl (Ld.ownCell ag3 hb1 (hta).c4) rfl ?_
 refine At.yes rfl rfl rfl rfl ?_
 refine At.fieldAddr rfl fo35_4 rfl ?_
 refine At.yes rfl rfl rfl rfl ?_
 refine At.load rfl (Ld.ownCell ag3 hb2 (htb).c4) rfl ?_
 refine At.yes rfl rfl rfl rfl ?_
 refine At.neI rfl rfl rfl ?_
 refine At.pickF rfl rfl rfl ?_
 refine At.move rfl rfl ?_
 have hbb4 : ((!decide (a.n = b.n))) = false := by simp [hs.k, hs.nm, hs.pm, hs.n, hs.kl, hs.al]
 refine At.set (d := 48) (u := .bool false) rfl (congrArg Value.bool hbb4) ?_
 refine At.yes rfl rfl rfl rfl ?_
 refine At.fieldAddr rfl fo35_5 rfl ?_
 refine At.yes rfl rfl rfl rfl ?_
 refine At.load rfl (Ld.ownCell ag26 hb1 (hta).c5) rfl ?_
 refine At.yes rfl rfl rfl rfl ?_
 refine At.lenSl rfl ((hta).kidsAt).okL el26 rfl ?_
 refine At.yes rfl rfl rfl rfl ?_
 refine At.fieldAddr rfl fo35_5 rfl ?_
 refine At.yes rfl rfl rfl rfl ?_
 refine At.load rfl (Ld.ownCell ag26 hb2 (htb).c5) rfl ?_
 refine At.yes rfl rfl rfl rfl ?_
 refine At.lenSl rfl ((htb).kidsAt).okL el26 rfl ?_
 refine At.yes rfl rfl rfl rfl ?_
 refine At.neI rfl rfl rfl ?_
 refine At.pickF rfl rfl rfl ?_
 refine At.move rfl rfl ?_
 have hbb5 : ((!decide ((a.kids.length : Int) = (b.kids.length : Int)))) = false := by simp [hs.k, hs.nm, hs.pm, hs.n, hs.kl, hs.al]
 refine At.set (d := 57) (u := .bool false) rfl (congrArg Value.bool hbb5) ?_
 refine At.yes rfl rfl rfl rfl ?_
 refine At.fieldAddr rfl fo35_6 rfl ?_
 refine At.yes rfl rfl rfl rfl ?_
 refine At.load rfl (Ld.ownCell ag27 hb1 (hta).c6) rfl ?_
 refine At.yes rfl rfl rfl rfl ?_
 refine At.lenSl rfl ((hta).armsAt).okL el27 rfl ?_
 refine At.yes rfl rfl rfl rfl ?_
 refine At.fieldAddr rfl fo35_6 rfl ?_
 refine At.yes rfl rfl rfl rfl ?_
 refine At.load rfl (Ld.ownCell ag27 hb2 (htb).c6) rfl ?_
 refine At.yes rfl rfl rfl rfl ?_
 refine At.lenSl rfl ((htb).armsAt).okL el27 rfl ?_
 refine At.yes rfl rfl rfl rfl ?_
 refine At.neI rfl rfl rfl ?_
 refine At.pickF rfl rfl rfl ?_
 refine At.ops0 ?_
 refine At.thenN ?_
 have hb : ((!decide ((a.arms.length : Int) = (b.arms.length : Int)))) = false := by simp [hs.k, hs.nm, hs.pm, hs.n, hs.kl, hs.al]
 refine At.set (d := 65) (u := .bool false) rfl (congrArg Value.bool hb) ?_
 refine At.condF rfl ?_
 refine At.skip ?_
 refine At.thenN ?_
 refine At.seq ?_
 refine At.seq ?_
 refine At.region ?_
 refine At.assign rfl rfl ?_
 refine At.ops0 ?_
 refine At.thenN ?_
 refine At.block ?_
 refine At.loop (Nat) (fun k => [(2, .bool false), (3, .pointer (some ⟨b1, 0, none⟩)), (4, .pointer (some ⟨b2, 0, none⟩)), (7, .int .i64 (k : Int))]) (fun k w3 => Below w.heap.size w w3 ∧ w3.heap[b1]? = some (.cells a.cs 35) ∧ w3.heap[b2]? = some (.cells b.cs 35) ∧ (k ≤ a.kids.length)) (fun k => a.kids.length - k) (0 : Nat) (Sub.cons rfl (Sub.cons rfl (Sub.cons rfl (Sub.cons rfl Sub.nil)))) ⟨hB, hb1, hb2, (Nat.zero_le _)⟩ (fun k w3 hI => ?_)
 clear hB hb1 hb2
 obtain ⟨hB, hb1, hb2, hkb⟩ := hI
 show At _ _ [(2, .bool false), (3, .pointer (some ⟨b1, 0, none⟩)), (4, .pointer (some ⟨b2, 0, none⟩)), (7, .int .i64 (k : Int))] _ _
 have hkl := hta.kidsAt.lenL; have hal := hta.armsAt.lenL
 refine At.seq ?_
 refine At.seq ?_
 refine At.region ?_
 refine At.move rfl rfl ?_
 refine At.fieldAddr rfl fo35_5 rfl ?_
 refine At.load rfl (Ld.ownCell ag26 hb1 (hta).c5) rfl ?_
 refine At.lenSl rfl ((hta).kidsAt).okL el26 rfl ?_
 refine At.lss rfl rfl rfl ?_
 refine At.ops0 ?_
 refine At.thenN ?_
 refine At.cond (b := decide ((k : Int) < (a.kids.length : Int))) rfl (fun hc1 => ?_) (fun hc1 => ?_)
 ·skip
  have hc1' := of_decide_eq_true hc1
  refine At.skip ?_
  refine At.thenN ?_
  refine At.seq ?_
  refine At.block ?_
  refine At.seq ?_
  obtain ⟨u1, hu1⟩ := some_of_lt (l := a.kids) (i := k) (by omega)
  obtain ⟨x1, hx1⟩ := some_of_lt (l := b.kids) (i := k) (by omega)
  have hF := hs.kid hu1 hx1
  refine At.drawG (n := 13) mixed (by kernel_rfl) rfl (PanicOk.then (PanicOk.block (PanicOk.then (PanicOk.then (PanicOk.block (PanicOk.then PanicOk.body)))))) ?_
  have hB := Below.drewB hB
  have hb1 : _ := (show w3.drew.heap[b1]? = _ from hb1)
  have hb2 : _ := (show w3.drew.heap[b2]? = _ from hb2)
  refine At.wpcS (i := 0) (d := 73) (.pointer (some ⟨b1, 0 + 5, none⟩)) (by kernel_rfl) rfl rfl rfl (fun Lx => ?_) ?_
  ·skip
   refine At.fieldAddr rfl fo35_5 rfl ?_
   refine At.ops0 ?_
   exact fun a ha => ⟨ha, rfl⟩
  refine At.wpcS (i := 1) (d := 74) (a.kv) (by kernel_rfl) rfl rfl rfl (fun Lx => ?_) ?_
  ·skip
   refine At.load rfl (Ld.ownCell ag26 hb1 (hta).c5) rfl ?_
   refine At.ops0 ?_
   exact fun a ha => ⟨ha, rfl⟩
  refine At.wpcS (i := 2) (d := 75) (.int .i64 (k : Int)) (by kernel_rfl) rfl rfl rfl (fun Lx => ?_) ?_
  ·skip
   refine At.move rfl rfl ?_
   refine At.ops0 ?_
   exact fun a ha => ⟨ha, rfl⟩
  refine At.wpcS (i := 3) (d := 76) (.pointer (some ⟨vBlock a.kv, vOff a.kv + k * 21, none⟩)) (by kernel_rfl) rfl rfl rfl (fun Lx => ?_) ?_
  ·skip
   refine At.indexAddr (i := k) rfl rfl ((hta).kidsAt).okL (lt_of_some hu1) el26 sz35 rfl ?_
   refine At.ops0 ?_
   exact fun a ha => ⟨ha, rfl⟩
  refine At.wpcS (i := 4) (d := 77) (.agg u1.cs) (by kernel_rfl) rfl rfl rfl (fun Lx => ?_) ?_
  ·skip
   refine At.load rfl (Ld.row ag35 (sz35.trans (congrArg some (((hta).kid hu1)).size.symm)) ((((hta).kidsAt).row hu1).keep hB)) rfl ?_
   refine At.ops0 ?_
   exact fun a ha => ⟨ha, rfl⟩
  refine At.wpcS (i := 5) (d := 78) (.pointer (some ⟨b2, 0 + 5, none⟩)) (by kernel_rfl) rfl rfl rfl (fun Lx => ?_) ?_
  ·skip
   refine At.fieldAddr rfl fo35_5 rfl ?_
   refine At.ops0 ?_
   exact fun a ha => ⟨ha, rfl⟩
  refine At.wpcS (i := 6) (d := 79) (b.kv) (by kernel_rfl) rfl rfl rfl (fun Lx => ?_) ?_
  ·skip
   refine At.load rfl (Ld.ownCell ag26 hb2 (htb).c5) rfl ?_
   refine At.ops0 ?_
   exact fun a ha => ⟨ha, rfl⟩
  refine At.wpcS (i := 7) (d := 80) (.int .i64 (k : Int)) (by kernel_rfl) rfl rfl rfl (fun Lx => ?_) ?_
  ·skip
   refine At.move rfl rfl ?_
   refine At.ops0 ?_
   exact fun a ha => ⟨ha, rfl⟩
  refine At.wpcS (i := 8) (d := 81) (.pointer (some ⟨vBlock b.kv, vOff b.kv + k * 21, none⟩)) (by kernel_rfl) rfl rfl rfl (fun Lx => ?_) ?_
  ·skip
   refine At.indexAddr (i := k) rfl rfl ((htb).kidsAt).okL (lt_of_some hx1) el26 sz35 rfl ?_
   refine At.ops0 ?_
   exact fun a ha => ⟨ha, rfl⟩
  refine At.wpcS (i := 9) (d := 82) (.agg x1.cs) (by kernel_rfl) rfl rfl rfl (fun Lx => ?_) ?_
  ·skip
   refine At.load rfl (Ld.row ag35 (sz35.trans (congrArg some (((htb).kid hx1)).size.symm)) ((((htb).kidsAt).row hx1).keep hB)) rfl ?_
   refine At.ops0 ?_
   exact fun a ha => ⟨ha, rfl⟩
  refine At.wpcS (i := 10) (d := 83) (.bool false) (by kernel_rfl) rfl rfl rfl (fun Lx => ?_) ?_
  ·skip
   refine At.move rfl rfl ?_
   refine At.ops0 ?_
   exact fun a ha => ⟨ha, rfl⟩
  refine At.wpcE [11] (by kernel_rfl) (by kernel_rfl) (.cons [] rfl (by kernel_rfl) ?_ .nil)
  refine At.call en14 rfl rfl (ih u1 x1 hF.1 hF.2 _ ((((hta).kid hu1)).keep hB) ((((htb).kid hx1)).keep hB)) (fun e w4 hR => ?_)
  obtain ⟨rfl, hbl1⟩ := hR
  refine ⟨_, rfl, ?_⟩
  replace hb1 := Below.old hbl1 hb1
  replace hb2 := Below.old hbl1 hb2
  replace hB := Below.andThen hB hbl1
  refine At.ops0 ?_
  refine At.wpcN .nil ?_
  refine At.wpcE [12] (by kernel_rfl) (by kernel_rfl) (.cons [] rfl (by kernel_rfl) ?_ .nil)
  refine At.assign rfl rfl ?_
  refine At.ops0 ?_
  refine At.wpcN .nil ?_
  refine At.wpcZ ?_
  refine At.thenN ?_
  refine At.seq ?_
  refine At.region ?_
  refine At.move rfl rfl ?_
  refine At.not rfl rfl ?_
  refine At.ops0 ?_
  refine At.thenN ?_
  refine At.condF rfl ?_
  refine At.skip ?_
  refine At.inN ?_
  refine At.thenN ?_
  refine At.region ?_
  refine At.move rfl rfl ?_
  refine At.addI rfl rfl rfl (by omega) ?_
  refine At.assign rfl rfl ?_
  refine At.ops0 ?_
  refine At.thenN ?_
  exact fun act_ hact_ => ⟨(k + 1), hact_.sub (Sub.cons rfl (Sub.cons rfl (Sub.cons rfl (Sub.cons rfl Sub.nil)))), ⟨hB, hb1, hb2, (by omega)⟩, by first | omega | (dsimp only; omega)⟩
 ·skip
  have hc1' := of_decide_eq_false hc1
  refine At.exit ?_
  refine At.thenE ?_
  refine At.thenE ?_
  refine At.inE ?_
  refine At.thenN ?_
  refine At.seq ?_
  refine At.seq ?_
  refine At.region ?_
  refine At.assign rfl rfl ?_
  refine At.ops0 ?_
  refine At.thenN ?_
  refine At.block ?_
  refine At.loop (Nat) (fun j => [(2, .bool false), (3, .pointer (some ⟨b1, 0, none⟩)), (4, .pointer (some ⟨b2, 0, none⟩)), (9, .int .i64 (j : Int))]) (fun j w5 => Below w.heap.size w w5 ∧ w5.heap[b1]? = some (.cells a.cs 35) ∧ w5.heap[b2]? = some (.cells b.cs 35) ∧ (j ≤ a.arms.length)) (fun j => a.arms.length - j) (0 : Nat) (Sub.cons rfl (Sub.cons rfl (Sub.cons rfl (Sub.cons rfl Sub.nil)))) ⟨hB, hb1, hb2, (Nat.zero_le _)⟩ (fun j w5 hI => ?_)
  clear hB hb1 hb2
  obtain ⟨hB, hb1, hb2, hjb⟩ := hI
  show At _ _ [(2, .bool false), (3, .pointer (some ⟨b1, 0, none⟩)), (4, .pointer (some ⟨b2, 0, none⟩)), (9, .int .i64 (j : Int))] _ _
  refine At.seq ?_
  refine At.seq ?_
  refine At.region ?_
  refine At.move rfl rfl ?_
  refine At.fieldAddr rfl fo35_6 rfl ?_
  refine At.load rfl (Ld.ownCell ag27 hb1 (hta).c6) rfl ?_
  refine At.lenSl rfl ((hta).armsAt).okL el27 rfl ?_
  refine At.lss rfl rfl rfl ?_
  refine At.ops0 ?_
  refine At.thenN ?_
  refine At.cond (b := decide ((j : Int) < (a.arms.length : Int))) rfl (fun hc2 => ?_) (fun hc2 => ?_)
  ·skip
   have hc2' := of_decide_eq_true hc2
   refine At.skip ?_
   refine At.thenN ?_
   refine At.seq ?_
   refine At.block ?_
   refine At.seq ?_
   obtain ⟨u2, hu2⟩ := some_of_lt (l := a.arms) (i := j) (by omega)
   obtain ⟨x2, hx2⟩ := some_of_lt (l := b.arms) (i := j) (by omega)
   have hF := hs.arm hu2 hx2
   refine At.drawG (n := 15) mixed (by kernel_rfl) rfl (PanicOk.then (PanicOk.block (PanicOk.then (PanicOk.then (PanicOk.block (PanicOk.then PanicOk.body)))))) ?_
   have hB := Below.drewB hB
   have hb1 : _ := (show w5.drew.heap[b1]? = _ from hb1)
   have hb2 : _ := (show w5.drew.heap[b2]? = _ from hb2)
   refine At.wpcS (i := 0) (d := 94) (.pointer (some ⟨b1, 0 + 6, none⟩)) (by kernel_rfl) rfl rfl rfl (fun Lx => ?_) ?_
   ·skip
    refine At.fieldAddr rfl fo35_6 rfl ?_
    refine At.ops0 ?_
    exact fun a ha => ⟨ha, rfl⟩
   refine At.wpcS (i := 1) (d := 95) (a.av) (by kernel_rfl) rfl rfl rfl (fun Lx => ?_) ?_
   ·skip
    refine At.load rfl (Ld.ownCell ag27 hb1 (hta).c6) rfl ?_
    refine At.ops0 ?_
    exact fun a ha => ⟨ha, rfl⟩
   refine At.wpcS (i := 2) (d := 96) (.int .i64 (j : Int)) (by kernel_rfl) rfl rfl rfl (fun Lx => ?_) ?_
   ·skip
    refine At.move rfl rfl ?_
    refine At.ops0 ?_
    exact fun a ha => ⟨ha, rfl⟩
   refine At.wpcS (i := 3) (d := 97) (.pointer (some ⟨vBlock a.av, vOff a.av + j * 23, none⟩)) (by kernel_rfl) rfl rfl rfl (fun Lx => ?_) ?_
   ·skip
    refine At.indexAddr (i := j) rfl rfl ((hta).armsAt).okL (lt_of_some hu2) el27 sz61 rfl ?_
    refine At.ops0 ?_
    exact fun a ha => ⟨ha, rfl⟩
   refine At.wpcS (i := 4) (d := 98) (.pointer (some ⟨vBlock a.av, vOff a.av + j * 23 + 2, none⟩)) (by kernel_rfl) rfl rfl rfl (fun Lx => ?_) ?_
   ·skip
    refine At.fieldAddr rfl fo61_2 rfl ?_
    refine At.ops0 ?_
    exact fun a ha => ⟨ha, rfl⟩
   refine At.wpcS (i := 5) (d := 99) (.agg u2.body.cs) (by kernel_rfl) rfl rfl rfl (fun Lx => ?_) ?_
   ·skip
    refine At.load rfl (Ld.row ag35 (sz35.trans (congrArg some ((((hta).arm hu2)).body).size.symm)) (((((hta).armsAt).row hu2).part 2 (((hta).arm hu2)).bodyCs).keep hB)) rfl ?_
    refine At.ops0 ?_
    exact fun a ha => ⟨ha, rfl⟩
   refine At.wpcS (i := 6) (d := 100) (.pointer (some ⟨b2, 0 + 6, none⟩)) (by kernel_rfl) rfl rfl rfl (fun Lx => ?_) ?_
   ·skip
    refine At.fieldAddr rfl fo35_6 rfl ?_
    refine At.ops0 ?_
    exact fun a ha => ⟨ha, rfl⟩
   refine At.wpcS (i := 7) (d := 101) (b.av) (by kernel_rfl) rfl rfl rfl (fun Lx => ?_) ?_
   ·skip
    refine At.load rfl (Ld.ownCell ag27 hb2 (htb).c6) rfl ?_
    refine At.ops0 ?_
    exact fun a ha => ⟨ha, rfl⟩
   refine At.wpcS (i := 8) (d := 102) (.int .i64 (j : Int)) (by kernel_rfl) rfl rfl rfl (fun Lx => ?_) ?_
   ·skip
    refine At.move rfl rfl ?_
    refine At.ops0 ?_
    exact fun a ha => ⟨ha, rfl⟩
   refine At.wpcS (i := 9) (d := 103) (.pointer (some ⟨vBlock b.av, vOff b.av + j * 23, none⟩)) (by kernel_rfl) rfl rfl rfl (fun Lx => ?_) ?_
   ·skip
    refine At.indexAddr (i := j) rfl rfl ((htb).armsAt).okL (lt_of_some hx2) el27 sz61 rfl ?_
    refine At.ops0 ?_
    exact fun a ha => ⟨ha, rfl⟩
   refine At.wpcS (i := 10) (d := 104) (.pointer (some ⟨vBlock b.av, vOff b.av + j * 23 + 2, none⟩)) (by kernel_rfl) rfl rfl rfl (fun Lx => ?_) ?_
   ·skip
    refine At.fieldAddr rfl fo61_2 rfl ?_
    refine At.ops0 ?_
    exact fun a ha => ⟨ha, rfl⟩
   refine At.wpcS (i := 11) (d := 105) (.agg x2.body.cs) (by kernel_rfl) rfl rfl rfl (fun Lx => ?_) ?_
   ·skip
    refine At.load rfl (Ld.row ag35 (sz35.trans (congrArg some ((((htb).arm hx2)).body).size.symm)) (((((htb).armsAt).row hx2).part 2 (((htb).arm hx2)).bodyCs).keep hB)) rfl ?_
    refine At.ops0 ?_
    exact fun a ha => ⟨ha, rfl⟩
   refine At.wpcS (i := 12) (d := 106) (.bool false) (by kernel_rfl) rfl rfl rfl (fun Lx => ?_) ?_
   ·skip
    refine At.move rfl rfl ?_
    refine At.ops0 ?_
    exact fun a ha => ⟨ha, rfl⟩
   refine At.wpcE [13] (by kernel_rfl) (by kernel_rfl) (.cons [] rfl (by kernel_rfl) ?_ .nil)
   refine At.call en14 rfl rfl (ih u2.body x2.body hF.2.2.1 hF.2.2.2 _ (((((hta).arm hu2)).body).keep hB) (((((htb).arm hx2)).body).keep hB)) (fun e w6 hR => ?_)
   obtain ⟨rfl, hbl2⟩ := hR
   refine ⟨_, rfl, ?_⟩
   replace hb1 := Below.old hbl2 hb1
   replace hb2 := Below.old hbl2 hb2
   replace hB := Below.andThen hB hbl2
   refine At.ops0 ?_
   refine At.wpcN .nil ?_
   refine At.wpcE [14] (by kernel_rfl) (by kernel_rfl) (.cons [] rfl (by kernel_rfl) ?_ .nil)
   refine At.assign rfl rfl ?_
   refine At.ops0 ?_
   refine At.wpcN .nil ?_
   refine At.wpcZ ?_
   refine At.thenN ?_
   refine At.seq ?_
   refine At.drawG (n := 14) mixed (by kernel_rfl) rfl (PanicOk.then (PanicOk.block (PanicOk.then (PanicOk.then (PanicOk.block (PanicOk.then PanicOk.body)))))) ?_
   have hB := Below.drewB hB
   have hb1 : _ := (show w6.drew.heap[b1]? = _ from hb1)
   have hb2 : _ := (show w6.drew.heap[b2]? = _ from hb2)
   refine At.wpcS (i := 0) (d := 108) (.pointer (some ⟨b1, 0 + 6, none⟩)) (by kernel_rfl) rfl rfl rfl (fun Lx => ?_) ?_
   ·skip
    refine At.fieldAddr rfl fo35_6 rfl ?_
    refine At.ops0 ?_
    exact fun a ha => ⟨ha, rfl⟩
   refine At.wpcS (i := 1) (d := 109) (a.av) (by kernel_rfl) rfl rfl rfl (fun Lx => ?_) ?_
   ·skip
    refine At.load rfl (Ld.ownCell ag27 hb1 (hta).c6) rfl ?_
    refine At.ops0 ?_
    exact fun a ha => ⟨ha, rfl⟩
   refine At.wpcS (i := 2) (d := 110) (.int .i64 (j : Int)) (by kernel_rfl) rfl rfl rfl (fun Lx => ?_) ?_
   ·skip
    refine At.move rfl rfl ?_
    refine At.ops0 ?_
    exact fun a ha => ⟨ha, rfl⟩
   refine At.wpcS (i := 3) (d := 111) (.pointer (some ⟨vBlock a.av, vOff a.av + j * 23, none⟩)) (by kernel_rfl) rfl rfl rfl (fun Lx => ?_) ?_
   ·skip
    refine At.indexAddr (i := j) rfl rfl ((hta).armsAt).okL (lt_of_some hu2) el27 sz61 rfl ?_
    refine At.ops0 ?_
    exact fun a ha => ⟨ha, rfl⟩
   refine At.wpcS (i := 4) (d := 112) (.pointer (some ⟨vBlock a.av, vOff a.av + j * 23 + 1, none⟩)) (by kernel_rfl) rfl rfl rfl (fun Lx => ?_) ?_
   ·skip
    refine At.fieldAddr rfl fo61_1 rfl ?_
    refine At.ops0 ?_
    exact fun a ha => ⟨ha, rfl⟩
   refine At.wpcS (i := 5) (d := 113) (u2.vv) (by kernel_rfl) rfl rfl rfl (fun Lx => ?_) ?_
   ·skip
    refine At.load rfl (Ld.cell ag29 (cell_keep ((((hta).armsAt).row hu2).get (((hta).arm hu2)).c1) hB)) rfl ?_
    refine At.ops0 ?_
    exact fun a ha => ⟨ha, rfl⟩
   refine At.wpcS (i := 6) (d := 114) (.pointer (some ⟨b2, 0 + 6, none⟩)) (by kernel_rfl) rfl rfl rfl (fun Lx => ?_) ?_
   ·skip
    refine At.fieldAddr rfl fo35_6 rfl ?_
    refine At.ops0 ?_
    exact fun a ha => ⟨ha, rfl⟩
   refine At.wpcS (i := 7) (d := 115) (b.av) (by kernel_rfl) rfl rfl rfl (fun Lx => ?_) ?_
   ·skip
    refine At.load rfl (Ld.ownCell ag27 hb2 (htb).c6) rfl ?_
    refine At.ops0 ?_
    exact fun a ha => ⟨ha, rfl⟩
   refine At.wpcS (i := 8) (d := 116) (.int .i64 (j : Int)) (by kernel_rfl) rfl rfl rfl (fun Lx => ?_) ?_
   ·skip
    refine At.move rfl rfl ?_
    refine At.ops0 ?_
    exact fun a ha => ⟨ha, rfl⟩
   refine At.wpcS (i := 9) (d := 117) (.pointer (some ⟨vBlock b.av, vOff b.av + j * 23, none⟩)) (by kernel_rfl) rfl rfl rfl (fun Lx => ?_) ?_
   ·skip
    refine At.indexAddr (i := j) rfl rfl ((htb).armsAt).okL (lt_of_some hx2) el27 sz61 rfl ?_
    refine At.ops0 ?_
    exact fun a ha => ⟨ha, rfl⟩
   refine At.wpcS (i := 10) (d := 118) (.pointer (some ⟨vBlock b.av, vOff b.av + j * 23 + 1, none⟩)) (by kernel_rfl) rfl rfl rfl (fun Lx => ?_) ?_
   ·skip
    refine At.fieldAddr rfl fo61_1 rfl ?_
    refine At.ops0 ?_
    exact fun a ha => ⟨ha, rfl⟩
   refine At.wpcS (i := 11) (d := 119) (x2.vv) (by kernel_rfl) rfl rfl rfl (fun Lx => ?_) ?_
   ·skip
    refine At.load rfl (Ld.cell ag29 (cell_keep ((((htb).armsAt).row hx2).get (((htb).arm hx2)).c1) hB)) rfl ?_
    refine At.ops0 ?_
    exact fun a ha => ⟨ha, rfl⟩
   refine At.wpcE [12] (by kernel_rfl) (by kernel_rfl) (.cons [] rfl (by kernel_rfl) ?_ .nil)
   refine At.call en25 rfl rfl (texts_any u2.vv x2.vv u2.vars _ (StrsAt.keep (((hta).arm hu2)).varsAt hB) (hF.2.1.symm ▸ StrsAt.keep (((htb).arm hx2)).varsAt hB)) (fun e w7 hR => ?_)
   obtain ⟨rfl, hbl3⟩ := hR
   refine ⟨_, rfl, ?_⟩
   replace hb1 := Below.old hbl3 hb1
   replace hb2 := Below.old hbl3 hb2
   replace hB := Below.andThen hB hbl3
   refine At.ops0 ?_
   refine At.wpcN .nil ?_
   refine At.wpcE [13] (by kernel_rfl) (by kernel_rfl) (.cons [] rfl (by kernel_rfl) ?_ .nil)
   refine At.assign rfl rfl ?_
   refine At.ops0 ?_
   refine At.wpcN .nil ?_
   refine At.wpcZ ?_
   refine At.thenN ?_
   refine At.seq ?_
   refine At.joinC [(2, .bool false), (3, .pointer (some ⟨b1, 0, none⟩)), (4, .pointer (some ⟨b2, 0, none⟩)), (9, .int .i64 (j : Int)), (141, .bool (!decide (u2.nm = x2.nm)))] (fun w' => Below w7.heap.size w7 w') ?_ (fun w8 hS => ?_)
   ·skip
    refine At.draw mixed [(2, .bool false), (3, .pointer (some ⟨b1, 0, none⟩)), (4, .pointer (some ⟨b2, 0, none⟩)), (9, .int .i64 (j : Int)), (87, .int .i64 (j : Int)), (88, .pointer (some ⟨b1, 0 + 6, none⟩)), (89, a.av), (90, .int .i64 (a.arms.length : Int)), (94, .pointer (some ⟨b1, 0 + 6, none⟩)), (95, a.av), (96, .int .i64 (j : Int)), (97, .pointer (some ⟨vBlock a.av, vOff a.av + j * 23, none⟩)), (98, .pointer (some ⟨vBlock a.av, vOff a.av + j * 23 + 2, none⟩)), (99, .agg u2.body.cs), (100, .pointer (some ⟨b2, 0 + 6, none⟩)), (101, b.av), (102, .int .i64 (j : Int)), (103, .pointer (some ⟨vBlock b.av, vOff b.av + j * 23, none⟩)), (104, .pointer (some ⟨vBlock b.av, vOff b.av + j * 23 + 2, none⟩)), (105, .agg x2.body.cs), (106, .bool false), (107, .bool true), (10, .bool true), (108, .pointer (some ⟨b1, 0 + 6, none⟩)), (109, a.av), (110, .int .i64 (j : Int)), (111, .pointer (some ⟨vBlock a.av, vOff a.av + j * 23, none⟩)), (112, .pointer (some ⟨vBlock a.av, vOff a.av + j * 23 + 1, none⟩)), (113, u2.vv), (114, .pointer (some ⟨b2, 0 + 6, none⟩)), (115, b.av), (116, .int .i64 (j : Int)), (117, .pointer (some ⟨vBlock b.av, vOff b.av + j * 23, none⟩)), (118, .pointer (some ⟨vBlock b.av, vOff b.av + j * 23 + 1, none⟩)), (119, x2.vv), (120, .bool true), (11, .bool true)] (Sub.cons rfl (Sub.cons rfl (Sub.cons rfl (Sub.cons rfl (Sub.cons rfl (Sub.cons rfl (Sub.cons rfl (Sub.cons rfl (Sub.cons rfl (Sub.cons rfl (Sub.cons rfl (Sub.cons rfl (Sub.cons rfl (Sub.cons rfl (Sub.cons rfl (Sub.cons rfl (Sub.cons rfl (Sub.cons rfl (Sub.cons rfl (Sub.cons rfl (Sub.cons rfl (Sub.cons rfl (Sub.cons rfl (Sub.cons rfl (Sub.cons rfl (Sub.cons rfl (Sub.cons rfl (Sub.cons rfl (Sub.cons rfl (Sub.cons rfl (Sub.cons rfl (Sub.cons rfl (Sub.cons rfl (Sub.cons rfl (Sub.cons rfl (Sub.cons rfl (Sub.cons rfl Sub.nil))))))))))))))))))))))))))))))))))))) rfl (RS ([] : List (Nat × Obj))) (dF [.c (.bool true), .c (.bool false), .c (.bool false), .c (.bool true), .c (.bool false), .c (.bool false), .c (.bool false), .c (.pointer (some ⟨b1, 0 + 6, none⟩)), .c (a.av), .c (.int .i64 (j : Int)), .c (.pointer (some ⟨vBlock a.av, vOff a.av + j * 23, none⟩)), .c (.pointer (some ⟨vBlock a.av, vOff a.av + j * 23 + 0, none⟩)), .c (.string u2.nm), .c (.pointer (some ⟨b2, 0 + 6, none⟩)), .c (b.av), .c (.int .i64 (j : Int)), .c (.pointer (some ⟨vBlock b.av, vOff b.av + j * 23, none⟩)), .c (.pointer (some ⟨vBlock b.av, vOff b.av + j * 23 + 0, none⟩)), .c (.string x2.nm), .c (.bool (!decide (u2.nm = x2.nm))), .c (.bool (!decide (u2.nm = x2.nm)))]) (RS.drew _ _) RS.trans (dF.stab (by simp)) ⟨?_, ?_, ?_, ?_, ?_, ?_, ?_, ?_, ?_, ?_, ?_, ?_, ?_, ?_, ?_, ?_, ?_, ?_, ?_, ?_, ?_, trivial⟩ (fun vals w' hRS hf => ?_)
    ·intro vals Lx w1 hRS hpre
     have hB := RS.below hRS hB (by simp)
     have hb1 := hRS.old _ _ (by simp) hb1
     have hb2 := hRS.old _ _ (by simp) hb2
     refine At.move rfl rfl ?_
     refine At.ops0 ?_
     exact fun a ha => ⟨_, ha, RS.refl _ _, rfl⟩
    ·intro vals Lx w1 hRS hpre
     have hB := RS.below hRS hB (by simp)
     have hb1 := hRS.old _ _ (by simp) hb1
     have hb2 := hRS.old _ _ (by simp) hb2
     have p0 : vals 0 = .bool true := hpre 0 (by decide)
     refine At.set (d := 121) (v := vals 0) rfl p0 ?_
     refine At.not rfl rfl ?_
     refine At.ops0 ?_
     exact fun a ha => ⟨_, (ha).drop2 (congrArg some p0), RS.refl _ _, rfl⟩
    ·intro vals Lx w1 hRS hpre
     have hB := RS.below hRS hB (by simp)
     have hb1 := hRS.old _ _ (by simp) hb1
     have hb2 := hRS.old _ _ (by simp) hb2
     have p1 : vals 1 = .bool false := hpre 1 (by decide)
     refine At.set (d := 122) (v := vals 1) rfl p1 ?_
     refine At.move rfl rfl ?_
     refine At.ops0 ?_
     exact fun a ha => ⟨_, (ha).drop2 (congrArg some p1), RS.refl _ _, rfl⟩
    ·intro vals Lx w1 hRS hpre
     have hB := RS.below hRS hB (by simp)
     have hb1 := hRS.old _ _ (by simp) hb1
     have hb2 := hRS.old _ _ (by simp) hb2
     have p2 : vals 2 = .bool false := hpre 2 (by decide)
     refine At.set (d := 123) (v := vals 2) rfl p2 ?_
     refine At.yes rfl rfl rfl rfl ?_
     refine At.move rfl rfl ?_
     refine At.ops0 ?_
     exact fun a ha => ⟨_, (ha).drop2 (congrArg some p2), RS.refl _ _, rfl⟩
    ·intro vals Lx w1 hRS hpre
     have hB := RS.below hRS hB (by simp)
     have hb1 := hRS.old _ _ (by simp) hb1
     have hb2 := hRS.old _ _ (by simp) hb2
     have p3 : vals 3 = .bool true := hpre 3 (by decide)
     refine At.set (d := 124) (v := vals 3) rfl p3 ?_
     have p2 : vals 2 = .bool false := hpre 2 (by decide)
     refine At.set (d := 123) (v := vals 2) rfl p2 ?_
     refine At.yes rfl rfl rfl rfl ?_
     refine At.not rfl rfl ?_
     refine At.ops0 ?_
     exact fun a ha => ⟨_, ((ha).drop2 (congrArg some p2)).drop2 (congrArg some p3), RS.refl _ _, rfl⟩
    ·intro vals Lx w1 hRS hpre
     have hB := RS.below hRS hB (by simp)
     have hb1 := hRS.old _ _ (by simp) hb1
     have hb2 := hRS.old _ _ (by simp) hb2
     have p2 : vals 2 = .bool false := hpre 2 (by decide)
     refine At.set (d := 123) (v := vals 2) rfl p2 ?_
     have p4 : vals 4 = .bool false := hpre 4 (by decide)
     refine At.set (d := 125) (v := vals 4) rfl p4 ?_
     refine At.pickF rfl rfl rfl ?_
     refine At.ops0 ?_
     exact fun a ha => ⟨_, ((ha).drop2 (congrArg some p4)).drop2 (congrArg some p2), RS.refl _ _, rfl⟩
    ·intro vals Lx w1 hRS hpre
     have hB := RS.below hRS hB (by simp)
     have hb1 := hRS.old _ _ (by simp) hb1
     have hb2 := hRS.old _ _ (by simp) hb2
     have p5 : vals 5 = .bool false := hpre 5 (by decide)
     refine At.set (d := 126) (v := vals 5) rfl p5 ?_
     have p2 : vals 2 = .bool false := hpre 2 (by decide)
     refine At.set (d := 123) (v := vals 2) rfl p2 ?_
     refine At.move rfl rfl ?_
     refine At.ops0 ?_
     exact fun a ha => ⟨_, ((ha).drop2 (congrArg some p2)).drop2 (congrArg some p5), RS.refl _ _, rfl⟩
    ·intro vals Lx w1 hRS hpre
     have hB := RS.below hRS hB (by simp)
     have hb1 := hRS.old _ _ (by simp) hb1
     have hb2 := hRS.old _ _ (by simp) hb2
     have p6 : vals 6 = .bool false := hpre 6 (by decide)
     refine At.set (d := 127) (v := vals 6) rfl p6 ?_
     refine At.yes rfl rfl rfl rfl ?_
     refine At.fieldAddr rfl fo35_6 rfl ?_
     refine At.ops0 ?_
     exact fun a ha => ⟨_, (ha).drop2 (congrArg some p6), RS.refl _ _, rfl⟩
    ·intro vals Lx w1 hRS hpre
     have hB := RS.below hRS hB (by simp)
     have hb1 := hRS.old _ _ (by simp) hb1
     have hb2 := hRS.old _ _ (by simp) hb2
     have p7 : vals 7 = .pointer (some ⟨b1, 0 + 6, none⟩) := hpre 7 (by decide)
     refine At.set (d := 128) (v := vals 7) rfl p7 ?_
     have p6 : vals 6 = .bool false := hpre 6 (by decide)
     refine At.set (d := 127) (v := vals 6) rfl p6 ?_
     refine At.yes rfl rfl rfl rfl ?_
     refine At.load rfl (Ld.ownCell ag27 hb1 (hta).c6) rfl ?_
     refine At.ops0 ?_
     exact fun a ha => ⟨_, ((ha).drop2 (congrArg some p6)).drop2 (congrArg some p7), RS.refl _ _, rfl⟩
    ·intro vals Lx w1 hRS hpre
     have hB := RS.below hRS hB (by simp)
     have hb1 := hRS.old _ _ (by simp) hb1
     have hb2 := hRS.old _ _ (by simp) hb2
     have p6 : vals 6 = .bool false := hpre 6 (by decide)
     refine At.set (d := 127) (v := vals 6) rfl p6 ?_
     refine At.yes rfl rfl rfl rfl ?_
     refine At.move rfl rfl ?_
     refine At.ops0 ?_
     exact fun a ha => ⟨_, (ha).drop2 (congrArg some p6), RS.refl _ _, rfl⟩
    ·intro vals Lx w1 hRS hpre
     have hB := RS.below hRS hB (by simp)
     have hb1 := hRS.old _ _ (by simp) hb1
     have hb2 := hRS.old _ _ (by simp) hb2
     have p8 : vals 8 = a.av := hpre 8 (by decide)
     refine At.set (d := 129) (v := vals 8) rfl p8 ?_
     have p9 : vals 9 = .int .i64 (j : Int) := hpre 9 (by decide)
     refine At.set (d := 130) (v := vals 9) rfl p9 ?_
     have p6 : vals 6 = .bool false := hpre 6 (by decide)
     refine At.set (d := 127) (v := vals 6) rfl p6 ?_
     refine At.yes rfl rfl rfl rfl ?_
     refine At.indexAddr (i := j) rfl rfl ((hta).armsAt).okL (lt_of_some hu2) el27 sz61 rfl ?_
     refine At.ops0 ?_
     exact fun a ha => ⟨_, (((ha).drop2 (congrArg some p6)).drop2 (congrArg some p9)).drop2 (congrArg some p8), RS.refl _ _, rfl⟩
    ·intro vals Lx w1 hRS hpre
     have hB := RS.below hRS hB (by simp)
     have hb1 := hRS.old _ _ (by simp) hb1
     have hb2 := hRS.old _ _ (by simp) hb2
     have p10 : vals 10 = .pointer (some ⟨vBlock a.av, vOff a.av + j * 23, none⟩) := hpre 10 (by decide)
     refine At.set (d := 131) (v := vals 10) rfl p10 ?_
     have p6 : vals 6 = .bool false := hpre 6 (by decide)
     refine At.set (d := 127) (v := vals 6) rfl p6 ?_
     refine At.yes rfl rfl rfl rfl ?_
     refine At.fieldAddr rfl fo61_0 rfl ?_
     refine At.ops0 ?_
     exact fun a ha => ⟨_, ((ha).drop2 (congrArg some p6)).drop2 (congrArg some p10), RS.refl _ _, rfl⟩
    ·intro vals Lx w1 hRS hpre
     have hB := RS.below hRS hB (by simp)
     have hb1 := hRS.old _ _ (by simp) hb1
     have hb2 := hRS.old _ _ (by simp) hb2
     have p11 : vals 11 = .pointer (some ⟨vBlock a.av, vOff a.av + j * 23 + 0, none⟩) := hpre 11 (by decide)
     refine At.set (d := 132) (v := vals 11) rfl p11 ?_
     have p6 : vals 6 = .bool false := hpre 6 (by decide)
     refine At.set (d := 127) (v := vals 6) rfl p6 ?_
     refine At.yes rfl rfl rfl rfl ?_
     refine At.load rfl (Ld.cell ag9 (cell_keep ((((hta).armsAt).row hu2).get (((hta).arm hu2)).c0) hB)) rfl ?_
     refine At.ops0 ?_
     exact fun a ha => ⟨_, ((ha).drop2 (congrArg some p6)).drop2 (congrArg some p11), RS.refl _ _, rfl⟩
    ·intro vals Lx w1 hRS hpre
     have hB := RS.below hRS hB (by simp)
     have hb1 := hRS.old _ _ (by simp) hb1
     have hb2 := hRS.old _ _ (by simp) hb2
     have p6 : vals 6 = .bool false := hpre 6 (by decide)
     refine At.set (d := 127) (v := vals 6) rfl p6 ?_
     refine At.yes rfl rfl rfl rfl ?_
     refine At.fieldAddr rfl fo35_6 rfl ?_
     refine At.ops0 ?_
     exact fun a ha => ⟨_, (ha).drop2 (congrArg some p6), RS.refl _ _, rfl⟩
    ·intro vals Lx w1 hRS hpre
     have hB := RS.below hRS hB (by simp)
     have hb1 := hRS.old _ _ (by simp) hb1
     have hb2 := hRS.old _ _ (by simp) hb2
     have p13 : vals 13 = .pointer (some ⟨b2, 0 + 6, none⟩) := hpre 13 (by decide)
     refine At.set (d := 134) (v := vals 13) rfl p13 ?_
     have p6 : vals 6 = .bool false := hpre 6 (by decide)
     refine At.set (d := 127) (v := vals 6) rfl p6 ?_
     refine At.yes rfl rfl rfl rfl ?_
     refine At.load rfl (Ld.ownCell ag27 hb2 (htb).c6) rfl ?_
     refine At.ops0 ?_
     exact fun a ha => ⟨_, ((ha).drop2 (congrArg some p6)).drop2 (congrArg some p13), RS.refl _ _, rfl⟩
    ·intro vals Lx w1 hRS hpre
     have hB := RS.below hRS hB (by simp)
     have hb1 := hRS.old _ _ (by simp) hb1
     have hb2 := hRS.old _ _ (by simp) hb2
     have p6 : vals 6 = .bool false := hpre 6 (by decide)
     refine At.set (d := 127) (v := vals 6) rfl p6 ?_
     refine At.yes rfl rfl rfl rfl ?_
     refine At.move rfl rfl ?_
     refine At.ops0 ?_
     exact fun a ha => ⟨_, (ha).drop2 (congrArg some p6), RS.refl _ _, rfl⟩
    ·intro vals Lx w1 hRS hpre
     have hB := RS.below hRS hB (by simp)
     have hb1 := hRS.old _ _ (by simp) hb1
     have hb2 := hRS.old _ _ (by simp) hb2
     have p14 : vals 14 = b.av := hpre 14 (by decide)
     refine At.set (d := 135) (v := vals 14) rfl p14 ?_
     have p15 : vals 15 = .int .i64 (j : Int) := hpre 15 (by decide)
     refine At.set (d := 136) (v := vals 15) rfl p15 ?_
     have p6 : vals 6 = .bool false := hpre 6 (by decide)
     refine At.set (d := 127) (v := vals 6) rfl p6 ?_
     refine At.yes rfl rfl rfl rfl ?_
     refine At.indexAddr (i := j) rfl rfl ((htb).armsAt).okL (lt_of_some hx2) el27 sz61 rfl ?_
     refine At.ops0 ?_
     exact fun a ha => ⟨_, (((ha).drop2 (congrArg some p6)).drop2 (congrArg some p15)).drop2 (congrArg some p14), RS.refl _ _, rfl⟩
    ·intro vals Lx w1 hRS hpre
     have hB := RS.below hRS hB (by simp)
     have hb1 := hRS.old _ _ (by simp) hb1
     have hb2 := hRS.old _ _ (by simp) hb2
     have p16 : vals 16 = .pointer (some ⟨vBlock b.av, vOff b.av + j * 23, none⟩) := hpre 16 (by decide)
     refine At.set (d := 137) (v := vals 16) rfl p16 ?_
     have p6 : vals 6 = .bool false := hpre 6 (by decide)
     refine At.set (d := 127) (v := vals 6) rfl p6 ?_
     refine At.yes rfl rfl rfl rfl ?_
     refine At.fieldAddr rfl fo61_0 rfl ?_
     refine At.ops0 ?_
     exact fun a ha => ⟨_, ((ha).drop2 (congrArg some p6)).drop2 (congrArg some p16), RS.refl _ _, rfl⟩
    ·intro vals Lx w1 hRS hpre
     have hB := RS.below hRS hB (by simp)
     have hb1 := hRS.old _ _ (by simp) hb1
     have hb2 := hRS.old _ _ (by simp) hb2
     have p17 : vals 17 = .pointer (some ⟨vBlock b.av, vOff b.av + j * 23 + 0, none⟩) := hpre 17 (by decide)
     refine At.set (d := 138) (v := vals 17) rfl p17 ?_
     have p6 : vals 6 = .bool false := hpre 6 (by decide)
     refine At.set (d := 127) (v := vals 6) rfl p6 ?_
     refine At.yes rfl rfl rfl rfl ?_
     refine At.load rfl (Ld.cell ag9 (cell_keep ((((htb).armsAt).row hx2).get (((htb).arm hx2)).c0) hB)) rfl ?_
     refine At.ops0 ?_
     exact fun a ha => ⟨_, ((ha).drop2 (congrArg some p6)).drop2 (congrArg some p17), RS.refl _ _, rfl⟩
    ·intro vals Lx w1 hRS hpre
     have hB := RS.below hRS hB (by simp)
     have hb1 := hRS.old _ _ (by simp) hb1
     have hb2 := hRS.old _ _ (by simp) hb2
     have p12 : vals 12 = .string u2.nm := hpre 12 (by decide)
     refine At.set (d := 133) (v := vals 12) rfl p12 ?_
     have p18 : vals 18 = .string x2.nm := hpre 18 (by decide)
     refine At.set (d := 139) (v := vals 18) rfl p18 ?_
     have p6 : vals 6 = .bool false := hpre 6 (by decide)
     refine At.set (d := 127) (v := vals 6) rfl p6 ?_
     refine At.yes rfl rfl rfl rfl ?_
     refine At.neS rfl rfl rfl ?_
     refine At.ops0 ?_
     exact fun a ha => ⟨_, (((ha).drop2 (congrArg some p6)).drop2 (congrArg some p18)).drop2 (congrArg some p12), RS.refl _ _, rfl⟩
    ·intro vals Lx w1 hRS hpre
     have hB := RS.below hRS hB (by simp)
     have hb1 := hRS.old _ _ (by simp) hb1
     have hb2 := hRS.old _ _ (by simp) hb2
     have p6 : vals 6 = .bool false := hpre 6 (by decide)
     refine At.set (d := 127) (v := vals 6) rfl p6 ?_
     have p19 : vals 19 = .bool (!decide (u2.nm = x2.nm)) := hpre 19 (by decide)
     refine At.set (d := 140) (v := vals 19) rfl p19 ?_
     refine At.pickF rfl rfl rfl ?_
     refine At.ops0 ?_
     exact fun a ha => ⟨_, ((ha).drop2 (congrArg some p19)).drop2 (congrArg some p6), RS.refl _ _, rfl⟩
    ·skip
     have hB := RS.below hRS hB (by simp)
     have hb1 := hRS.old _ _ (by simp) hb1
     have hb2 := hRS.old _ _ (by simp) hb2
     have p0 : vals 0 = .bool true := hf 0 (by decide)
     have p1 : vals 1 = .bool false := hf 1 (by decide)
     have p2 : vals 2 = .bool false := hf 2 (by decide)
     have p3 : vals 3 = .bool true := hf 3 (by decide)
     have p4 : vals 4 = .bool false := hf 4 (by decide)
     have p5 : vals 5 = .bool false := hf 5 (by decide)
     have p6 : vals 6 = .bool false := hf 6 (by decide)
     have p7 : vals 7 = .pointer (some ⟨b1, 0 + 6, none⟩) := hf 7 (by decide)
     have p8 : vals 8 = a.av := hf 8 (by decide)
     have p9 : vals 9 = .int .i64 (j : Int) := hf 9 (by decide)
     have p10 : vals 10 = .pointer (some ⟨vBlock a.av, vOff a.av + j * 23, none⟩) := hf 10 (by decide)
     have p11 : vals 11 = .pointer (some ⟨vBlock a.av, vOff a.av + j * 23 + 0, none⟩) := hf 11 (by decide)
     have p12 : vals 12 = .string u2.nm := hf 12 (by decide)
     have p13 : vals 13 = .pointer (some ⟨b2, 0 + 6, none⟩) := hf 13 (by decide)
     have p14 : vals 14 = b.av := hf 14 (by decide)
     have p15 : vals 15 = .int .i64 (j : Int) := hf 15 (by decide)
     have p16 : vals 16 = .pointer (some ⟨vBlock b.av, vOff b.av + j * 23, none⟩) := hf 16 (by decide)
     have p17 : vals 17 = .pointer (some ⟨vBlock b.av, vOff b.av + j * 23 + 0, none⟩) := hf 17 (by decide)
     have p18 : vals 18 = .string x2.nm := hf 18 (by decide)
     have p19 : vals 19 = .bool (!decide (u2.nm = x2.nm)) := hf 19 (by decide)
     have p20 : vals 20 = .bool (!decide (u2.nm = x2.nm)) := hf 20 (by decide)
     refine At.sub (L' := [(2, .bool false), (3, .pointer (some ⟨b1, 0, none⟩)), (4, .pointer (some ⟨b2, 0, none⟩)), (9, .int .i64 (j : Int)), (87, .int .i64 (j : Int)), (88, .pointer (some ⟨b1, 0 + 6, none⟩)), (89, a.av), (90, .int .i64 (a.arms.length : Int)), (94, .pointer (some ⟨b1, 0 + 6, none⟩)), (95, a.av), (96, .int .i64 (j : Int)), (97, .pointer (some ⟨vBlock a.av, vOff a.av + j * 23, none⟩)), (98, .pointer (some ⟨vBlock a.av, vOff a.av + j * 23 + 2, none⟩)), (99, .agg u2.body.cs), (100, .pointer (some ⟨b2, 0 + 6, none⟩)), (101, b.av), (102, .int .i64 (j : Int)), (103, .pointer (some ⟨vBlock b.av, vOff b.av + j * 23, none⟩)), (104, .pointer (some ⟨vBlock b.av, vOff b.av + j * 23 + 2, none⟩)), (105, .agg x2.body.cs), (106, .bool false), (107, .bool true), (10, .bool true), (108, .pointer (some ⟨b1, 0 + 6, none⟩)), (109, a.av), (110, .int .i64 (j : Int)), (111, .pointer (some ⟨vBlock a.av, vOff a.av + j * 23, none⟩)), (112, .pointer (some ⟨vBlock a.av, vOff a.av + j * 23 + 1, none⟩)), (113, u2.vv), (114, .pointer (some ⟨b2, 0 + 6, none⟩)), (115, b.av), (116, .int .i64 (j : Int)), (117, .pointer (some ⟨vBlock b.av, vOff b.av + j * 23, none⟩)), (118, .pointer (some ⟨vBlock b.av, vOff b.av + j * 23 + 1, none⟩)), (119, x2.vv), (120, .bool true), (11, .bool true), (121, .bool true), (122, .bool false), (123, .bool false), (124, .bool true), (125, .bool false), (126, .bool false), (127, .bool false), (128, .pointer (some ⟨b1, 0 + 6, none⟩)), (129, a.av), (130, .int .i64 (j : Int)), (131, .pointer (some ⟨vBlock a.av, vOff a.av + j * 23, none⟩)), (132, .pointer (some ⟨vBlock a.av, vOff a.av + j * 23 + 0, none⟩)), (133, .string u2.nm), (134, .pointer (some ⟨b2, 0 + 6, none⟩)), (135, b.av), (136, .int .i64 (j : Int)), (137, .pointer (some ⟨vBlock b.av, vOff b.av + j * 23, none⟩)), (138, .pointer (some ⟨vBlock b.av, vOff b.av + j * 23 + 0, none⟩)), (139, .string x2.nm), (140, .bool (!decide (u2.nm = x2.nm))), (141, .bool (!decide (u2.nm = x2.nm)))]) (Sub.cons rfl (Sub.cons rfl (Sub.cons rfl (Sub.cons rfl (Sub.cons rfl (Sub.cons rfl (Sub.cons rfl (Sub.cons rfl (Sub.cons rfl (Sub.cons rfl (Sub.cons rfl (Sub.cons rfl (Sub.cons rfl (Sub.cons rfl (Sub.cons rfl (Sub.cons rfl (Sub.cons rfl (Sub.cons rfl (Sub.cons rfl (Sub.cons rfl (Sub.cons rfl (Sub.cons rfl (Sub.cons rfl (Sub.cons rfl (Sub.cons rfl (Sub.cons rfl (Sub.cons rfl (Sub.cons rfl (Sub.cons rfl (Sub.cons rfl (Sub.cons rfl (Sub.cons rfl (Sub.cons rfl (Sub.cons rfl (Sub.cons rfl (Sub.cons rfl (Sub.cons rfl (Sub.cons (congrArg some p0) (Sub.cons (congrArg some p1) (Sub.cons (congrArg some p2) (Sub.cons (congrArg some p3) (Sub.cons (congrArg some p4) (Sub.cons (congrArg some p5) (Sub.cons (congrArg some p6) (Sub.cons (congrArg some p7) (Sub.cons (congrArg some p8) (Sub.cons (congrArg some p9) (Sub.cons (congrArg some p10) (Sub.cons (congrArg some p11) (Sub.cons (congrArg some p12) (Sub.cons (congrArg some p13) (Sub.cons (congrArg some p14) (Sub.cons (congrArg some p15) (Sub.cons (congrArg some p16) (Sub.cons (congrArg some p17) (Sub.cons (congrArg some p18) (Sub.cons (congrArg some p19) (Sub.cons (congrArg some p20) Sub.nil)))))))))))))))))))))))))))))))))))))))))))))))))))))))))) ?_
     exact At.joinedC (Sub.cons rfl (Sub.cons rfl (Sub.cons rfl (Sub.cons rfl (Sub.cons rfl Sub.nil))))) ((RS.below hRS (Below.refl _ _) (by simp)))
   ·skip
    replace hb1 := Below.old hS hb1
    replace hb2 := Below.old hS hb2
    replace hB := Below.andThen hB hS
    refine At.thenN ?_
    have hb : ((!decide (u2.nm = x2.nm))) = false := by simp [hF.1]
    refine At.set (d := 141) (u := .bool false) rfl (congrArg Value.bool hb) ?_
    refine At.condF rfl ?_
    refine At.skip ?_
    refine At.inN ?_
    refine At.thenN ?_
    refine At.region ?_
    refine At.move rfl rfl ?_
    refine At.addI rfl rfl rfl (by omega) ?_
    refine At.assign rfl rfl ?_
    refine At.ops0 ?_
    refine At.thenN ?_
    exact fun act_ hact_ => ⟨(j + 1), hact_.sub (Sub.cons rfl (Sub.cons rfl (Sub.cons rfl (Sub.cons rfl Sub.nil)))), ⟨hB, hb1, hb2, (by omega)⟩, by first | omega | (dsimp only; omega)⟩
  ·skip
   have hc2' := of_decide_eq_false hc2
   refine At.exit ?_
   refine At.thenE ?_
   refine At.thenE ?_
   refine At.inE ?_
   refine At.thenN ?_
   refine At.seq ?_
   refine At.region ?_
   refine At.assign rfl rfl ?_
   refine At.ops0 ?_
   refine At.thenN ?_
   refine At.retc ?_
   refine At.doneR (ResV.tmp rfl ResV.nil) ?_
   exact ⟨rfl, hB⟩
theorem same_any : ∀ (n : Nat) (a b : Tm), dS (shT a) ≤ n → VT (shT a) (shT b) → ∀ w, TmOk w a → TmOk w b → Calls Try.prog 14 ([.agg a.cs, .agg b.cs, .bool false] : List Value).toArray w fun e w' => e = .returned (.bool true) ∧ Below w.heap.size w w' := by
 intro n
 induction n with
 | zero => intro a b h; have := dS_pos (shT a); omega
 | succ n ih => intro a b h hv w ha hb; exact same_step a b w ha hb (SmF.of hv) (fun u x h1 h2 w hu hx => ih u x (by omega) h2 w hu hx)
end Go.Proofs.Ytkjmjnddanhapaa
