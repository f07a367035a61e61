/-
 What large tells; the walk of the statement PrintWords. Written by a program of ours.
-/
import Derived.Test.YtkclecfbjfdfkaaGreatDoorQ6
import Derived.Test.YtkclecfbjfdfkaaGreatDoorV4
import Derived.Test.YtkclecfbjfdfkaaGreatDoorP12
set_option linter.unusedVariables false
set_option linter.unusedSimpArgs false
namespace Go.Proofs.YtkclecfbjfdfkaaGreatDoor
open Go.RowKit
theorem en16 : entB Tryz.prog 16 = true := by kernel_rfl
theorem en7 : entB Tryz.prog 7 = true := by kernel_rfl
theorem en8 : entB Tryz.prog 8 = true := by kernel_rfl
theorem countT_step (t : Tm) (w : World) (ht : TmOk w t)
  (ih : ∀ (t' : Tm), wtT t' < wtT t → ∀ (w : World), TmOk w t' → Calls Tryz.prog 19 ([.agg t'.cs] : List Value).toArray w fun e w' => ∃ n : Nat, e = .returned (.int .i64 (n : Int)) ∧ Below w.heap.size w w' ∧ 1 ≤ n ∧ n ≤ 2001 ∧ (n ≤ 2000 → cntT t' ≤ n)) :
  Calls Tryz.prog 19 ([.agg t.cs] : List Value).toArray w fun e w' => ∃ n : Nat, e = .returned (.int .i64 (n : Int)) ∧ Below w.heap.size w w' ∧ 1 ≤ n ∧ n ≤ 2001 ∧ (n ≤ 2000 → cntT t ≤ n) := by
 have hB := Below.refl w.heap.size w
 refine At.enter (N := 56) Tryz.func19 rfl rfl (by simp) [(0, .agg t.cs)] (by simp) ?_
 refine At.seq ?_
 refine At.region ?_
 refine At.box rfl rfl (fun b1 w1 F1 => ?_)
 have gb1 := F1.ge hB
 have hb1 : w1.heap[b1]? = some (.cells t.cs 33) := F1.new
 replace hB := F1.below' hB
 refine At.assign rfl rfl ?_
 refine At.ops0 ?_
 refine At.thenN ?_
 refine At.seq ?_
 refine At.region ?_
 refine At.assign rfl rfl ?_
 refine At.ops0 ?_
 refine At.thenN ?_
 refine At.seq ?_
 refine At.seq ?_
 refine At.region ?_
 refine At.assign rfl rfl ?_
 refine At.ops0 ?_
 refine At.thenN ?_
 refine At.block ?_
 refine At.loop (Nat × Nat) (fun (k, n) => [(1, .pointer (some ⟨b1, 0, none⟩)), (3, .int .i64 (n : Int)), (4, .int .i64 (k : Int))]) (fun (k, n) w2 => Below w.heap.size w w2 ∧ w2.heap[b1]? = some (.cells t.cs 33) ∧ (k ≤ t.kids.length) ∧ (1 ≤ n) ∧ (n ≤ 6002) ∧ (n ≤ 2000 → 1 + cntL (t.kids.take k) ≤ n)) (fun (k, n) => t.kids.length - k) (0, 1) (Sub.cons rfl (Sub.cons rfl (Sub.cons rfl Sub.nil))) ⟨hB, hb1, (Nat.zero_le _), (by omega), (by omega), (by intro _; simp [cntL])⟩ (fun gh w2 hI => ?_)
 obtain ⟨k, n⟩ := gh
 clear hB hb1
 obtain ⟨hB, hb1, hkb, hn1, hn2, hc⟩ := hI
 show At _ _ [(1, .pointer (some ⟨b1, 0, none⟩)), (3, .int .i64 (n : Int)), (4, .int .i64 (k : Int))] _ _
 have hkl := ht.kidsAt.lenL
 refine At.seq ?_
 refine At.seq ?_
 refine At.region ?_
 refine At.move rfl rfl ?_
 refine At.fieldAddr rfl fo33_5 rfl ?_
 refine At.load rfl (Ld.ownCell ag24 hb1 (ht).c5) rfl ?_
 refine At.lenSl rfl ((ht).kidsAt).okL el24 rfl ?_
 refine At.lss rfl rfl rfl ?_
 refine At.move rfl rfl ?_
 refine At.cases (decide ((k : Int) < (t.kids.length : Int))) (fun hg1 => ?_) (fun hg1 => ?_)
 ·skip
  refine At.set (d := 11) (u := .bool true) rfl (congrArg Value.bool hg1) ?_
  have hg1' := of_decide_eq_true hg1
  refine At.yes rfl rfl rfl rfl ?_
  refine At.move rfl rfl ?_
  refine At.yes rfl rfl rfl rfl ?_
  refine At.leq rfl rfl rfl ?_
  refine At.pickT rfl rfl rfl ?_
  refine At.ops0 ?_
  refine At.thenN ?_
  refine At.cond (b := decide ((n : Int) ≤ 2000)) rfl (fun hc1 => ?_) (fun hc1 => ?_)
  ·skip
   have hc1' := of_decide_eq_true hc1
   refine At.skip ?_
   refine At.thenN ?_
   refine At.seq ?_
   refine At.block ?_
   obtain ⟨u1, hu1⟩ := some_of_lt (l := t.kids) (i := k) (by omega)
   have hcn := cntL_next hu1
   refine At.region ?_
   refine At.move rfl rfl ?_
   refine At.fieldAddr rfl fo33_5 rfl ?_
   refine At.load rfl (Ld.ownCell ag24 hb1 (ht).c5) rfl ?_
   refine At.move rfl rfl ?_
   refine At.indexAddr (i := k) rfl rfl ((ht).kidsAt).okL (lt_of_some hu1) el24 sz33 rfl ?_
   refine At.load rfl (Ld.row ag33 (sz33.trans (congrArg some (((ht).kid hu1)).size.symm)) ((((ht).kidsAt).row hu1).keep hB)) rfl ?_
   refine At.call en19 rfl rfl (ih u1 (by have := wt_kid (List.mem_of_getElem? hu1); omega) _ ((((ht).kid hu1)).keep hB)) (fun e w3 hR => ?_)
   obtain ⟨nc1, rfl, hbl1, hna1, hnb1, hnc1⟩ := hR
   refine ⟨_, rfl, ?_⟩
   replace hb1 := Below.old hbl1 hb1
   replace hB := Below.andThen hB hbl1
   refine At.addI rfl rfl rfl (by omega) ?_
   refine At.assign rfl rfl ?_
   refine At.ops0 ?_
   refine At.inN ?_
   refine At.thenN ?_
   refine At.region ?_
   refine At.move rfl rfl ?_
   refine At.addI rfl rfl rfl (by omega) ?_
   refine At.assign rfl rfl ?_
   refine At.ops0 ?_
   refine At.thenN ?_
   exact fun act_ hact_ => ⟨((k + 1), (n + nc1)), hact_.sub (Sub.cons rfl (Sub.cons rfl (Sub.cons rfl Sub.nil))), ⟨hB, hb1, (by omega), (by omega), (by omega), (by omega)⟩, by first | omega | (dsimp only; omega)⟩
  ·skip
   have hc1' := of_decide_eq_false hc1
   refine At.exit ?_
   refine At.thenE ?_
   refine At.thenE ?_
   refine At.inE ?_
   refine At.thenN ?_
   refine At.seq ?_
   refine At.seq ?_
   refine At.region ?_
   refine At.assign rfl rfl ?_
   refine At.ops0 ?_
   refine At.thenN ?_
   refine At.block ?_
   refine At.loop (Nat × Nat) (fun (j, q) => [(1, .pointer (some ⟨b1, 0, none⟩)), (3, .int .i64 (q : Int)), (5, .int .i64 (j : Int))]) (fun (j, q) w4 => Below w.heap.size w w4 ∧ w4.heap[b1]? = some (.cells t.cs 33) ∧ (j ≤ t.arms.length) ∧ (1 ≤ q) ∧ (q ≤ 6002) ∧ (q ≤ 2000 → 1 + cntL t.kids + cntA (t.arms.take j) ≤ q)) (fun (j, q) => t.arms.length - j) (0, n) (Sub.cons rfl (Sub.cons rfl (Sub.cons rfl Sub.nil))) ⟨hB, hb1, (Nat.zero_le _), (by omega), (by omega), (by
     intro hq
     have h := hc hq
     rw [List.take_of_length_le (by omega)] at h
     simp [cntA]; omega)⟩ (fun gh w4 hI => ?_)
   obtain ⟨j, q⟩ := gh
   clear hB hb1
   obtain ⟨hB, hb1, hjb, hq1, hq2, hd⟩ := hI
   show At _ _ [(1, .pointer (some ⟨b1, 0, none⟩)), (3, .int .i64 (q : Int)), (5, .int .i64 (j : Int))] _ _
   have hal := ht.armsAt.lenL
   refine At.seq ?_
   refine At.seq ?_
   refine At.region ?_
   refine At.move rfl rfl ?_
   refine At.fieldAddr rfl fo33_6 rfl ?_
   refine At.load rfl (Ld.ownCell ag25 hb1 (ht).c6) rfl ?_
   refine At.lenSl rfl ((ht).armsAt).okL el25 rfl ?_
   refine At.lss rfl rfl rfl ?_
   refine At.move rfl rfl ?_
   refine At.cases (decide ((j : Int) < (t.arms.length : Int))) (fun hg2 => ?_) (fun hg2 => ?_)
   ·skip
    refine At.set (d := 30) (u := .bool true) rfl (congrArg Value.bool hg2) ?_
    have hg2' := of_decide_eq_true hg2
    refine At.yes rfl rfl rfl rfl ?_
    refine At.move rfl rfl ?_
    refine At.yes rfl rfl rfl rfl ?_
    refine At.leq rfl rfl rfl ?_
    refine At.pickT rfl rfl rfl ?_
    refine At.ops0 ?_
    refine At.thenN ?_
    refine At.cond (b := decide ((q : Int) ≤ 2000)) rfl (fun hc2 => ?_) (fun hc2 => ?_)
    ·skip
     have hc2' := of_decide_eq_true hc2
     refine At.skip ?_
     refine At.thenN ?_
     refine At.seq ?_
     refine At.block ?_
     obtain ⟨u2, hu2⟩ := some_of_lt (l := t.arms) (i := j) (by omega)
     have hcn := cntA_next hu2
     refine At.drawG (n := 19) mixed (by kernel_rfl) rfl (PanicOk.block (PanicOk.then (PanicOk.then (PanicOk.block (PanicOk.then PanicOk.body))))) ?_
     have hB := Below.drewB hB
     have hb1 : _ := (show w4.drew.heap[b1]? = _ from hb1)
     refine At.wpcS (i := 0) (d := 36) (.int .i64 (q : Int)) (by kernel_rfl) rfl rfl rfl (fun Lx => ?_) ?_
     ·skip
      refine At.move rfl rfl ?_
      refine At.ops0 ?_
      exact fun a ha => ⟨ha, rfl⟩
     refine At.wpcS (i := 1) (d := 37) (.pointer (some ⟨b1, 0 + 6, none⟩)) (by kernel_rfl) rfl rfl rfl (fun Lx => ?_) ?_
     ·skip
      refine At.fieldAddr rfl fo33_6 rfl ?_
      refine At.ops0 ?_
      exact fun a ha => ⟨ha, rfl⟩
     refine At.wpcS (i := 2) (d := 38) (t.av) (by kernel_rfl) rfl rfl rfl (fun Lx => ?_) ?_
     ·skip
      refine At.load rfl (Ld.ownCell ag25 hb1 (ht).c6) rfl ?_
      refine At.ops0 ?_
      exact fun a ha => ⟨ha, rfl⟩
     refine At.wpcS (i := 3) (d := 39) (.int .i64 (j : Int)) (by kernel_rfl) rfl rfl rfl (fun Lx => ?_) ?_
     ·skip
      refine At.move rfl rfl ?_
      refine At.ops0 ?_
      exact fun a ha => ⟨ha, rfl⟩
     refine At.wpcS (i := 4) (d := 40) (.pointer (some ⟨vBlock t.av, vOff t.av + j * 23, none⟩)) (by kernel_rfl) rfl rfl rfl (fun Lx => ?_) ?_
     ·skip
      refine At.indexAddr (i := j) rfl rfl ((ht).armsAt).okL (lt_of_some hu2) el25 sz48 rfl ?_
      refine At.ops0 ?_
      exact fun a ha => ⟨ha, rfl⟩
     refine At.wpcS (i := 5) (d := 41) (.pointer (some ⟨vBlock t.av, vOff t.av + j * 23 + 1, none⟩)) (by kernel_rfl) rfl rfl rfl (fun Lx => ?_) ?_
     ·skip
      refine At.fieldAddr rfl fo48_1 rfl ?_
      refine At.ops0 ?_
      exact fun a ha => ⟨ha, rfl⟩
     refine At.wpcS (i := 6) (d := 42) (u2.vv) (by kernel_rfl) rfl rfl rfl (fun Lx => ?_) ?_
     ·skip
      refine At.load rfl (Ld.cell ag27 (cell_keep ((((ht).armsAt).row hu2).get (((ht).arm hu2)).c1) hB)) rfl ?_
      refine At.ops0 ?_
      exact fun a ha => ⟨ha, rfl⟩
     refine At.wpcS (i := 7) (d := 43) (.int .i64 (u2.vars.length : Int)) (by kernel_rfl) rfl rfl rfl (fun Lx => ?_) ?_
     ·skip
      refine At.lenSl rfl ((((ht).arm hu2)).varsAt).ok el27 rfl ?_
      refine At.ops0 ?_
      exact fun a ha => ⟨ha, rfl⟩
     refine At.wpcS (i := 8) (d := 44) (.int .i64 (((min u2.vars.length 2000) : Nat) : Int)) (by kernel_rfl) rfl rfl rfl (fun Lx => ?_) ?_
     ·skip
      refine At.minI rfl rfl rfl ?_
      refine At.set (d := 44) (u := .int .i64 (((min u2.vars.length 2000) : Nat) : Int)) rfl (congrArg (Value.int .i64) (min_lit' _ _)) ?_
      refine At.ops0 ?_
      exact fun a ha => ⟨Is.dup ha, rfl⟩
     refine At.wpcS (i := 9) (d := 45) (.int .i64 ((q : Int) + (((min u2.vars.length 2000) : Nat) : Int))) (by kernel_rfl) rfl rfl rfl (fun Lx => ?_) ?_
     ·skip
      refine At.addI rfl rfl rfl (by omega) ?_
      refine At.ops0 ?_
      exact fun a ha => ⟨ha, rfl⟩
     refine At.wpcS (i := 10) (d := 46) (.pointer (some ⟨b1, 0 + 6, none⟩)) (by kernel_rfl) rfl rfl rfl (fun Lx => ?_) ?_
     ·skip
      refine At.fieldAddr rfl fo33_6 rfl ?_
      refine At.ops0 ?_
      exact fun a ha => ⟨ha, rfl⟩
     refine At.wpcS (i := 11) (d := 47) (t.av) (by kernel_rfl) rfl rfl rfl (fun Lx => ?_) ?_
     ·skip
      refine At.load rfl (Ld.ownCell ag25 hb1 (ht).c6) rfl ?_
      refine At.ops0 ?_
      exact fun a ha => ⟨ha, rfl⟩
     refine At.wpcS (i := 12) (d := 48) (.int .i64 (j : Int)) (by kernel_rfl) rfl rfl rfl (fun Lx => ?_) ?_
     ·skip
      refine At.move rfl rfl ?_
      refine At.ops0 ?_
      exact fun a ha => ⟨ha, rfl⟩
     refine At.wpcS (i := 13) (d := 49) (.pointer (some ⟨vBlock t.av, vOff t.av + j * 23, none⟩)) (by kernel_rfl) rfl rfl rfl (fun Lx => ?_) ?_
     ·skip
      refine At.indexAddr (i := j) rfl rfl ((ht).armsAt).okL (lt_of_some hu2) el25 sz48 rfl ?_
      refine At.ops0 ?_
      exact fun a ha => ⟨ha, rfl⟩
     refine At.wpcS (i := 14) (d := 50) (.pointer (some ⟨vBlock t.av, vOff t.av + j * 23 + 2, none⟩)) (by kernel_rfl) rfl rfl rfl (fun Lx => ?_) ?_
     ·skip
      refine At.fieldAddr rfl fo48_2 rfl ?_
      refine At.ops0 ?_
      exact fun a ha => ⟨ha, rfl⟩
     refine At.wpcS (i := 15) (d := 51) (.agg u2.body.cs) (by kernel_rfl) rfl rfl rfl (fun Lx => ?_) ?_
     ·skip
      refine At.load rfl (Ld.row ag33 (sz33.trans (congrArg some ((((ht).arm hu2)).body).size.symm)) (((((ht).armsAt).row hu2).part 2 (((ht).arm hu2)).bodyCs).keep hB)) rfl ?_
      refine At.ops0 ?_
      exact fun a ha => ⟨ha, rfl⟩
     refine At.wpcE [16] (by kernel_rfl) (by kernel_rfl) (.cons [0, 1, 2, 3, 4, 5, 6, 7, 8, 9] rfl (by kernel_rfl) ?_ .nil)
     refine At.call en19 rfl rfl (ih u2.body (by have := wt_arm (List.mem_of_getElem? hu2); omega) _ (((((ht).arm hu2)).body).keep hB)) (fun e w5 hR => ?_)
     obtain ⟨nc2, rfl, hbl2, hna2, hnb2, hnc2⟩ := hR
     refine ⟨_, rfl, ?_⟩
     replace hb1 := Below.old hbl2 hb1
     replace hB := Below.andThen hB hbl2
     refine At.ops0 ?_
     refine At.wpcN (.cons rfl rfl rfl rfl (fun Lx => ?_) (.cons rfl rfl rfl rfl (fun Lx => ?_) (.cons rfl rfl rfl rfl (fun Lx => ?_) (.cons rfl rfl rfl rfl (fun Lx => ?_) (.cons rfl rfl rfl rfl (fun Lx => ?_) (.cons rfl rfl rfl rfl (fun Lx => ?_) (.cons rfl rfl rfl rfl (fun Lx => ?_) (.cons rfl rfl rfl rfl (fun Lx => ?_) (.cons rfl rfl rfl rfl (fun Lx => ?_) (.cons rfl rfl rfl rfl (fun Lx => ?_) .nil)))))))))) ?_
     ·skip
      refine At.move rfl rfl ?_
      refine At.ops0 ?_
      exact fun a ha => ⟨ha, rfl⟩
     ·skip
      refine At.fieldAddr rfl fo33_6 rfl ?_
      refine At.ops0 ?_
      exact fun a ha => ⟨ha, rfl⟩
     ·skip
      refine At.load rfl (Ld.ownCell ag25 hb1 (ht).c6) rfl ?_
      refine At.ops0 ?_
      exact fun a ha => ⟨ha, rfl⟩
     ·skip
      refine At.move rfl rfl ?_
      refine At.ops0 ?_
      exact fun a ha => ⟨ha, rfl⟩
     ·skip
      refine At.indexAddr (i := j) rfl rfl ((ht).armsAt).okL (lt_of_some hu2) el25 sz48 rfl ?_
      refine At.ops0 ?_
      exact fun a ha => ⟨ha, rfl⟩
     ·skip
      refine At.fieldAddr rfl fo48_1 rfl ?_
      refine At.ops0 ?_
      exact fun a ha => ⟨ha, rfl⟩
     ·skip
      refine At.load rfl (Ld.cell ag27 (cell_keep ((((ht).armsAt).row hu2).get (((ht).arm hu2)).c1) hB)) rfl ?_
      refine At.ops0 ?_
      exact fun a ha => ⟨ha, rfl⟩
     ·skip
      refine At.lenSl rfl ((((ht).arm hu2)).varsAt).ok el27 rfl ?_
      refine At.ops0 ?_
      exact fun a ha => ⟨ha, rfl⟩
     ·skip
      refine At.minI rfl rfl rfl ?_
      refine At.set (d := 44) (u := .int .i64 (((min u2.vars.length 2000) : Nat) : Int)) rfl (congrArg (Value.int .i64) (min_lit' _ _)) ?_
      refine At.ops0 ?_
      exact fun a ha => ⟨Is.dup ha, rfl⟩
     ·skip
      refine At.addI rfl rfl rfl (by omega) ?_
      refine At.ops0 ?_
      exact fun a ha => ⟨ha, rfl⟩
     refine At.wpcS (i := 17) (d := 53) (.int .i64 (((q : Int) + (((min u2.vars.length 2000) : Nat) : Int)) + (nc2 : Int))) (by kernel_rfl) rfl rfl rfl (fun Lx => ?_) ?_
     ·skip
      refine At.addI rfl rfl rfl (by omega) ?_
      refine At.ops0 ?_
      exact fun a ha => ⟨ha, rfl⟩
     refine At.wpcE [18] (by kernel_rfl) (by kernel_rfl) (.cons [] rfl (by kernel_rfl) ?_ .nil)
     refine At.assign rfl rfl ?_
     refine At.ops0 ?_
     refine At.wpcN .nil ?_
     refine At.wpcZ ?_
     refine At.inN ?_
     refine At.thenN ?_
     refine At.region ?_
     refine At.move rfl rfl ?_
     refine At.addI rfl rfl rfl (by omega) ?_
     refine At.assign rfl rfl ?_
     refine At.ops0 ?_
     refine At.thenN ?_
     exact fun act_ hact_ => ⟨((j + 1), ((q + (min u2.vars.length 2000)) + nc2)), hact_.sub (Sub.cons rfl (Sub.cons rfl (Sub.cons rfl Sub.nil))), ⟨hB, hb1, (by omega), (by omega), (by omega), (by omega)⟩, by first | omega | (dsimp only; omega)⟩
    ·skip
     have hc2' := of_decide_eq_false hc2
     refine At.exit ?_
     refine At.thenE ?_
     refine At.thenE ?_
     refine At.inE ?_
     refine At.thenN ?_
     refine At.seq ?_
     refine At.region ?_
     refine At.move rfl rfl ?_
     refine At.minI rfl rfl rfl ?_
     refine At.set (d := 55) (u := .int .i64 (((min q 2001) : Nat) : Int)) rfl (congrArg (Value.int .i64) (min_lit' _ _)) ?_
     refine At.assign rfl rfl ?_
     refine At.ops0 ?_
     refine At.thenN ?_
     refine At.retc ?_
     refine At.doneR (ResV.tmp rfl ResV.nil) ?_
     exact ⟨_, rfl, hB, by omega, by omega, fun hz => by
      have h := hd (by omega)
      rw [List.take_of_length_le (by omega)] at h
      rw [cntT_eq]; omega⟩
   ·skip
    refine At.set (d := 30) (u := .bool false) rfl (congrArg Value.bool hg2) ?_
    have hg2' := of_decide_eq_false hg2
    refine At.no rfl rfl rfl rfl rfl rfl rfl ?_
    refine At.no rfl rfl rfl rfl rfl rfl rfl ?_
    refine At.pickF rfl rfl rfl ?_
    refine At.ops0 ?_
    refine At.thenN ?_
    refine At.condF rfl ?_
    refine At.exit ?_
    refine At.thenE ?_
    refine At.thenE ?_
    refine At.inE ?_
    refine At.thenN ?_
    refine At.seq ?_
    refine At.region ?_
    refine At.move rfl rfl ?_
    refine At.minI rfl rfl rfl ?_
    refine At.set (d := 55) (u := .int .i64 (((min q 2001) : Nat) : Int)) rfl (congrArg (Value.int .i64) (min_lit' _ _)) ?_
    refine At.assign rfl rfl ?_
    refine At.ops0 ?_
    refine At.thenN ?_
    refine At.retc ?_
    refine At.doneR (ResV.tmp rfl ResV.nil) ?_
    exact ⟨_, rfl, hB, by omega, by omega, fun hz => by
     have h := hd (by omega)
     rw [List.take_of_length_le (by omega)] at h
     rw [cntT_eq]; omega⟩
 ·skip
  refine At.set (d := 11) (u := .bool false) rfl (congrArg Value.bool hg1) ?_
  have hg1' := of_decide_eq_false hg1
  refine At.no rfl rfl rfl rfl rfl rfl rfl ?_
  refine At.no rfl rfl rfl rfl rfl rfl rfl ?_
  refine At.pickF rfl rfl rfl ?_
  refine At.ops0 ?_
  refine At.thenN ?_
  refine At.condF rfl ?_
  refine At.exit ?_
  refine At.thenE ?_
  refine At.thenE ?_
  refine At.inE ?_
  refine At.thenN ?_
  refine At.seq ?_
  refine At.seq ?_
  refine At.region ?_
  refine At.assign rfl rfl ?_
  refine At.ops0 ?_
  refine At.thenN ?_
  refine At.block ?_
  refine At.loop (Nat × Nat) (fun (j, q) => [(1, .pointer (some ⟨b1, 0, none⟩)), (3, .int .i64 (q : Int)), (5, .int .i64 (j : Int))]) (fun (j, q) w6 => Below w.heap.size w w6 ∧ w6.heap[b1]? = some (.cells t.cs 33) ∧ (j ≤ t.arms.length) ∧ (1 ≤ q) ∧ (q ≤ 6002) ∧ (q ≤ 2000 → 1 + cntL t.kids + cntA (t.arms.take j) ≤ q)) (fun (j, q) => t.arms.length - j) (0, n) (Sub.cons rfl (Sub.cons rfl (Sub.cons rfl Sub.nil))) ⟨hB, hb1, (Nat.zero_le _), (by omega), (by omega), (by
    intro hq
    have h := hc hq
    rw [List.take_of_length_le (by omega)] at h
    simp [cntA]; omega)⟩ (fun gh w6 hI => ?_)
  obtain ⟨j, q⟩ := gh
  clear hB hb1
  obtain ⟨hB, hb1, hjb, hq1, hq2, hd⟩ := hI
  show At _ _ [(1, .pointer (some ⟨b1, 0, none⟩)), (3, .int .i64 (q : Int)), (5, .int .i64 (j : Int))] _ _
  have hal := ht.armsAt.lenL
  refine At.seq ?_
  refine At.seq ?_
  refine At.region ?_
  refine At.move rfl rfl ?_
  refine At.fieldAddr rfl fo33_6 rfl ?_
  refine At.load rfl (Ld.ownCell ag25 hb1 (ht).c6) rfl ?_
  refine At.lenSl rfl ((ht).armsAt).okL el25 rfl ?_
  refine At.lss rfl rfl rfl ?_
  refine At.move rfl rfl ?_
  refine At.cases (decide ((j : Int) < (t.arms.length : Int))) (fun hg3 => ?_) (fun hg3 => ?_)
  ·skip
   refine At.set (d := 30) (u := .bool true) rfl (congrArg Value.bool hg3) ?_
   have hg3' := of_decide_eq_true hg3
   refine At.yes rfl rfl rfl rfl ?_
   refine At.move rfl rfl ?_
   refine At.yes rfl rfl rfl rfl ?_
   refine At.leq rfl rfl rfl ?_
   refine At.pickT rfl rfl rfl ?_
   refine At.ops0 ?_
   refine At.thenN ?_
   refine At.cond (b := decide ((q : Int) ≤ 2000)) rfl (fun hc3 => ?_) (fun hc3 => ?_)
   ·skip
    have hc3' := of_decide_eq_true hc3
    refine At.skip ?_
    refine At.thenN ?_
    refine At.seq ?_
    refine At.block ?_
    obtain ⟨u2, hu2⟩ := some_of_lt (l := t.arms) (i := j) (by omega)
    have hcn := cntA_next hu2
    refine At.drawG (n := 19) mixed (by kernel_rfl) rfl (PanicOk.block (PanicOk.then (PanicOk.then (PanicOk.block (PanicOk.then PanicOk.body))))) ?_
    have hB := Below.drewB hB
    have hb1 : _ := (show w6.drew.heap[b1]? = _ from hb1)
    refine At.wpcS (i := 0) (d := 36) (.int .i64 (q : Int)) (by kernel_rfl) rfl rfl rfl (fun Lx => ?_) ?_
    ·skip
     refine At.move rfl rfl ?_
     refine At.ops0 ?_
     exact fun a ha => ⟨ha, rfl⟩
    refine At.wpcS (i := 1) (d := 37) (.pointer (some ⟨b1, 0 + 6, none⟩)) (by kernel_rfl) rfl rfl rfl (fun Lx => ?_) ?_
    ·skip
     refine At.fieldAddr rfl fo33_6 rfl ?_
     refine At.ops0 ?_
     exact fun a ha => ⟨ha, rfl⟩
    refine At.wpcS (i := 2) (d := 38) (t.av) (by kernel_rfl) rfl rfl rfl (fun Lx => ?_) ?_
    ·skip
     refine At.load rfl (Ld.ownCell ag25 hb1 (ht).c6) rfl ?_
     refine At.ops0 ?_
     exact fun a ha => ⟨ha, rfl⟩
    refine At.wpcS (i := 3) (d := 39) (.int .i64 (j : Int)) (by kernel_rfl) rfl rfl rfl (fun Lx => ?_) ?_
    ·skip
     refine At.move rfl rfl ?_
     refine At.ops0 ?_
     exact fun a ha => ⟨ha, rfl⟩
    refine At.wpcS (i := 4) (d := 40) (.pointer (some ⟨vBlock t.av, vOff t.av + j * 23, none⟩)) (by kernel_rfl) rfl rfl rfl (fun Lx => ?_) ?_
    ·skip
     refine At.indexAddr (i := j) rfl rfl ((ht).armsAt).okL (lt_of_some hu2) el25 sz48 rfl ?_
     refine At.ops0 ?_
     exact fun a ha => ⟨ha, rfl⟩
    refine At.wpcS (i := 5) (d := 41) (.pointer (some ⟨vBlock t.av, vOff t.av + j * 23 + 1, none⟩)) (by kernel_rfl) rfl rfl rfl (fun Lx => ?_) ?_
    ·skip
     refine At.fieldAddr rfl fo48_1 rfl ?_
     refine At.ops0 ?_
     exact fun a ha => ⟨ha, rfl⟩
    refine At.wpcS (i := 6) (d := 42) (u2.vv) (by kernel_rfl) rfl rfl rfl (fun Lx => ?_) ?_
    ·skip
     refine At.load rfl (Ld.cell ag27 (cell_keep ((((ht).armsAt).row hu2).get (((ht).arm hu2)).c1) hB)) rfl ?_
     refine At.ops0 ?_
     exact fun a ha => ⟨ha, rfl⟩
    refine At.wpcS (i := 7) (d := 43) (.int .i64 (u2.vars.length : Int)) (by kernel_rfl) rfl rfl rfl (fun Lx => ?_) ?_
    ·skip
     refine At.lenSl rfl ((((ht).arm hu2)).varsAt).ok el27 rfl ?_
     refine At.ops0 ?_
     exact fun a ha => ⟨ha, rfl⟩
    refine At.wpcS (i := 8) (d := 44) (.int .i64 (((min u2.vars.length 2000) : Nat) : Int)) (by kernel_rfl) rfl rfl rfl (fun Lx => ?_) ?_
    ·skip
     refine At.minI rfl rfl rfl ?_
     refine At.set (d := 44) (u := .int .i64 (((min u2.vars.length 2000) : Nat) : Int)) rfl (congrArg (Value.int .i64) (min_lit' _ _)) ?_
     refine At.ops0 ?_
     exact fun a ha => ⟨Is.dup ha, rfl⟩
    refine At.wpcS (i := 9) (d := 45) (.int .i64 ((q : Int) + (((min u2.vars.length 2000) : Nat) : Int))) (by kernel_rfl) rfl rfl rfl (fun Lx => ?_) ?_
    ·skip
     refine At.addI rfl rfl rfl (by omega) ?_
     refine At.ops0 ?_
     exact fun a ha => ⟨ha, rfl⟩
    refine At.wpcS (i := 10) (d := 46) (.pointer (some ⟨b1, 0 + 6, none⟩)) (by kernel_rfl) rfl rfl rfl (fun Lx => ?_) ?_
    ·skip
     refine At.fieldAddr rfl fo33_6 rfl ?_
     refine At.ops0 ?_
     exact fun a ha => ⟨ha, rfl⟩
    refine At.wpcS (i := 11) (d := 47) (t.av) (by kernel_rfl) rfl rfl rfl (fun Lx => ?_) ?_
    ·skip
     refine At.load rfl (Ld.ownCell ag25 hb1 (ht).c6) rfl ?_
     refine At.ops0 ?_
     exact fun a ha => ⟨ha, rfl⟩
    refine At.wpcS (i := 12) (d := 48) (.int .i64 (j : Int)) (by kernel_rfl) rfl rfl rfl (fun Lx => ?_) ?_
    ·skip
     refine At.move rfl rfl ?_
     refine At.ops0 ?_
     exact fun a ha => ⟨ha, rfl⟩
    refine At.wpcS (i := 13) (d := 49) (.pointer (some ⟨vBlock t.av, vOff t.av + j * 23, none⟩)) (by kernel_rfl) rfl rfl rfl (fun Lx => ?_) ?_
    ·skip
     refine At.indexAddr (i := j) rfl rfl ((ht).armsAt).okL (lt_of_some hu2) el25 sz48 rfl ?_
     refine At.ops0 ?_
     exact fun a ha => ⟨ha, rfl⟩
    refine At.wpcS (i := 14) (d := 50) (.pointer (some ⟨vBlock t.av, vOff t.av + j * 23 + 2, none⟩)) (by kernel_rfl) rfl rfl rfl (fun Lx => ?_) ?_
    ·skip
     refine At.fieldAddr rfl fo48_2 rfl ?_
     refine At.ops0 ?_
     exact fun a ha => ⟨ha, rfl⟩
    refine At.wpcS (i := 15) (d := 51) (.agg u2.body.cs) (by kernel_rfl) rfl rfl rfl (fun Lx => ?_) ?_
    ·skip
     refine At.load rfl (Ld.row ag33 (sz33.trans (congrArg some ((((ht).arm hu2)).body).size.symm)) (((((ht).armsAt).row hu2).part 2 (((ht).arm hu2)).bodyCs).keep hB)) rfl ?_
     refine At.ops0 ?_
     exact fun a ha => ⟨ha, rfl⟩
    refine At.wpcE [16] (by kernel_rfl) (by kernel_rfl) (.cons [0, 1, 2, 3, 4, 5, 6, 7, 8, 9] rfl (by kernel_rfl) ?_ .nil)
    refine At.call en19 rfl rfl (ih u2.body (by have := wt_arm (List.mem_of_getElem? hu2); omega) _ (((((ht).arm hu2)).body).keep hB)) (fun e w7 hR => ?_)
    obtain ⟨nc3, rfl, hbl3, hna3, hnb3, hnc3⟩ := hR
    refine ⟨_, rfl, ?_⟩
    replace hb1 := Below.old hbl3 hb1
    replace hB := Below.andThen hB hbl3
    refine At.ops0 ?_
    refine At.wpcN (.cons rfl rfl rfl rfl (fun Lx => ?_) (.cons rfl rfl rfl rfl (fun Lx => ?_) (.cons rfl rfl rfl rfl (fun Lx => ?_) (.cons rfl rfl rfl rfl (fun Lx => ?_) (.cons rfl rfl rfl rfl (fun Lx => ?_) (.cons rfl rfl rfl rfl (fun Lx => ?_) (.cons rfl rfl rfl rfl (fun Lx => ?_) (.cons rfl rfl rfl rfl (fun Lx => ?_) (.cons rfl rfl rfl rfl (fun Lx => ?_) (.cons rfl rfl rfl rfl (fun Lx => ?_) .nil)))))))))) ?_
    ·skip
     refine At.move rfl rfl ?_
     refine At.ops0 ?_
     exact fun a ha => ⟨ha, rfl⟩
    ·skip
     refine At.fieldAddr rfl fo33_6 rfl ?_
     refine At.ops0 ?_
     exact fun a ha => ⟨ha, rfl⟩
    ·skip
     refine At.load rfl (Ld.ownCell ag25 hb1 (ht).c6) rfl ?_
     refine At.ops0 ?_
     exact fun a ha => ⟨ha, rfl⟩
    ·skip
     refine At.move rfl rfl ?_
     refine At.ops0 ?_
     exact fun a ha => ⟨ha, rfl⟩
    ·skip
     refine At.indexAddr (i := j) rfl rfl ((ht).armsAt).okL (lt_of_some hu2) el25 sz48 rfl ?_
     refine At.ops0 ?_
     exact fun a ha => ⟨ha, rfl⟩
    ·skip
     refine At.fieldAddr rfl fo48_1 rfl ?_
     refine At.ops0 ?_
     exact fun a ha => ⟨ha, rfl⟩
    ·skip
     refine At.load rfl (Ld.cell ag27 (cell_keep ((((ht).armsAt).row hu2).get (((ht).arm hu2)).c1) hB)) rfl ?_
     refine At.ops0 ?_
     exact fun a ha => ⟨ha, rfl⟩
    ·skip
     refine At.lenSl rfl ((((ht).arm hu2)).varsAt).ok el27 rfl ?_
     refine At.ops0 ?_
     exact fun a ha => ⟨ha, rfl⟩
    ·skip
     refine At.minI rfl rfl rfl ?_
     refine At.set (d := 44) (u := .int .i64 (((min u2.vars.length 2000) : Nat) : Int)) rfl (congrArg (Value.int .i64) (min_lit' _ _)) ?_
     refine At.ops0 ?_
     exact fun a ha => ⟨Is.dup ha, rfl⟩
    ·skip
     refine At.addI rfl rfl rfl (by omega) ?_
     refine At.ops0 ?_
     exact fun a ha => ⟨ha, rfl⟩
    refine At.wpcS (i := 17) (d := 53) (.int .i64 (((q : Int) + (((min u2.vars.length 2000) : Nat) : Int)) + (nc3 : Int))) (by kernel_rfl) rfl rfl rfl (fun Lx => ?_) ?_
    ·skip
     refine At.addI rfl rfl rfl (by omega) ?_
     refine At.ops0 ?_
     exact fun a ha => ⟨ha, rfl⟩
    refine At.wpcE [18] (by kernel_rfl) (by kernel_rfl) (.cons [] rfl (by kernel_rfl) ?_ .nil)
    refine At.assign rfl rfl ?_
    refine At.ops0 ?_
    refine At.wpcN .nil ?_
    refine At.wpcZ ?_
    refine At.inN ?_
    refine At.thenN ?_
    refine At.region ?_
    refine At.move rfl rfl ?_
    refine At.addI rfl rfl rfl (by omega) ?_
    refine At.assign rfl rfl ?_
    refine At.ops0 ?_
    refine At.thenN ?_
    exact fun act_ hact_ => ⟨((j + 1), ((q + (min u2.vars.length 2000)) + nc3)), hact_.sub (Sub.cons rfl (Sub.cons rfl (Sub.cons rfl Sub.nil))), ⟨hB, hb1, (by omega), (by omega), (by omega), (by omega)⟩, by first | omega | (dsimp only; omega)⟩
   ·skip
    have hc3' := of_decide_eq_false hc3
    refine At.exit ?_
    refine At.thenE ?_
    refine At.thenE ?_
    refine At.inE ?_
    refine At.thenN ?_
    refine At.seq ?_
    refine At.region ?_
    refine At.move rfl rfl ?_
    refine At.minI rfl rfl rfl ?_
    refine At.set (d := 55) (u := .int .i64 (((min q 2001) : Nat) : Int)) rfl (congrArg (Value.int .i64) (min_lit' _ _)) ?_
    refine At.assign rfl rfl ?_
    refine At.ops0 ?_
    refine At.thenN ?_
    refine At.retc ?_
    refine At.doneR (ResV.tmp rfl ResV.nil) ?_
    exact ⟨_, rfl, hB, by omega, by omega, fun hz => by
     have h := hd (by omega)
     rw [List.take_of_length_le (by omega)] at h
     rw [cntT_eq]; omega⟩
  ·skip
   refine At.set (d := 30) (u := .bool false) rfl (congrArg Value.bool hg3) ?_
   have hg3' := of_decide_eq_false hg3
   refine At.no rfl rfl rfl rfl rfl rfl rfl ?_
   refine At.no rfl rfl rfl rfl rfl rfl rfl ?_
   refine At.pickF rfl rfl rfl ?_
   refine At.ops0 ?_
   refine At.thenN ?_
   refine At.condF rfl ?_
   refine At.exit ?_
   refine At.thenE ?_
   refine At.thenE ?_
   refine At.inE ?_
   refine At.thenN ?_
   refine At.seq ?_
   refine At.region ?_
   refine At.move rfl rfl ?_
   refine At.minI rfl rfl rfl ?_
   refine At.set (d := 55) (u := .int .i64 (((min q 2001) : Nat) : Int)) rfl (congrArg (Value.int .i64) (min_lit' _ _)) ?_
   refine At.assign rfl rfl ?_
   refine At.ops0 ?_
   refine At.thenN ?_
   refine At.retc ?_
   refine At.doneR (ResV.tmp rfl ResV.nil) ?_
   exact ⟨_, rfl, hB, by omega, by omega, fun hz => by
    have h := hd (by omega)
    rw [List.take_of_length_le (by omega)] at h
    rw [cntT_eq]; omega⟩
theorem countT_any (t : Tm) (w : World) (ht : TmOk w t) : Calls Tryz.prog 19 ([.agg t.cs] : List Value).toArray w fun e w' => ∃ n : Nat, e = .returned (.int .i64 (n : Int)) ∧ Below w.heap.size w w' ∧ 1 ≤ n ∧ n ≤ 2001 ∧ (n ≤ 2000 → cntT t ≤ n) := by
 have key : ∀ (n : Nat) (t : Tm), wtT t = n → ∀ (w : World), TmOk w t → Calls Tryz.prog 19 ([.agg t.cs] : List Value).toArray w fun e w' => ∃ n : Nat, e = .returned (.int .i64 (n : Int)) ∧ Below w.heap.size w w' ∧ 1 ≤ n ∧ n ≤ 2001 ∧ (n ≤ 2000 → cntT t ≤ n) := by
  intro n
  induction n using Nat.strongRecOn with
  | _ n ih => intro t hn w h; exact countT_step t w h (fun u hu => ih (wtT u) (hn ▸ hu) u rfl)
 exact key _ t rfl w ht
theorem largeS_any (p : Pr) (w : World) (hp : PrOk w p) :
  Calls Tryz.prog 8 ([.agg p.cs] : List Value).toArray w fun e w' => ∃ b : Bool, e = .returned (.bool b) ∧ Below w.heap.size w w' ∧ (b = false → SmallP p) := by
 have hlp := hp.effsAt.lenL; have hlq := hp.datsAt.lenL
 have hB := Below.refl w.heap.size w
 refine At.enter (N := 81) Tryz.func8 rfl rfl (by simp) [(0, .agg p.cs)] (by simp) ?_
 refine At.seq ?_
 refine At.region ?_
 refine At.box rfl rfl (fun b1 w1 F1 => ?_)
 have gb1 := F1.ge hB
 have hb1 : w1.heap[b1]? = some (.cells p.cs 35) := F1.new
 replace hB := F1.below' hB
 refine At.assign rfl rfl ?_
 refine At.ops0 ?_
 refine At.thenN ?_
 refine At.seq ?_
 refine At.seq ?_
 refine At.region ?_
 refine At.fieldAddr rfl fo35_0 rfl ?_
 refine At.load rfl (Ld.ownCell ag22 hb1 (hp).c0) rfl ?_
 refine At.lenSl rfl ((hp).effsAt).okL el22 rfl ?_
 refine At.gtr rfl rfl rfl ?_
 refine At.move rfl rfl ?_
 refine At.cases (decide (20 < (p.effs.length : Int))) (fun hg1 => ?_) (fun hg1 => ?_)
 ·skip
  refine At.set (d := 10) (u := .bool true) rfl (congrArg Value.bool hg1) ?_
  have hg1' := of_decide_eq_true hg1
  refine At.no rfl rfl rfl rfl rfl rfl rfl ?_
  refine At.no rfl rfl rfl rfl rfl rfl rfl ?_
  refine At.no rfl rfl rfl rfl rfl rfl rfl ?_
  refine At.no rfl rfl rfl rfl rfl rfl rfl ?_
  refine At.pickT rfl rfl rfl ?_
  refine At.move rfl rfl ?_
  refine At.no rfl rfl rfl rfl rfl rfl rfl ?_
  refine At.no rfl rfl rfl rfl rfl rfl rfl ?_
  refine At.no rfl rfl rfl rfl rfl rfl rfl ?_
  refine At.no rfl rfl rfl rfl rfl rfl rfl ?_
  refine At.pickT rfl rfl rfl ?_
  refine At.move rfl rfl ?_
  refine At.no rfl rfl rfl rfl rfl rfl rfl ?_
  refine At.no rfl rfl rfl rfl rfl rfl rfl ?_
  refine At.no rfl rfl rfl rfl rfl rfl rfl ?_
  refine At.no rfl rfl rfl rfl rfl rfl rfl ?_
  refine At.pickT rfl rfl rfl ?_
  refine At.ops0 ?_
  refine At.thenN ?_
  refine At.condT rfl ?_
  refine At.seq ?_
  refine At.region ?_
  refine At.assign rfl rfl ?_
  refine At.ops0 ?_
  refine At.thenN ?_
  refine At.retc ?_
  refine At.thenR ?_
  refine At.doneR (ResV.tmp rfl ResV.nil) ?_
  exact ⟨_, rfl, hB, fun h => by cases h⟩
 ·skip
  refine At.set (d := 10) (u := .bool false) rfl (congrArg Value.bool hg1) ?_
  have hg1' := of_decide_eq_false hg1
  refine At.yes rfl rfl rfl rfl ?_
  refine At.fieldAddr rfl fo35_1 rfl ?_
  refine At.yes rfl rfl rfl rfl ?_
  refine At.load rfl (Ld.ownCell ag23 hb1 (hp).c1) rfl ?_
  refine At.yes rfl rfl rfl rfl ?_
  refine At.lenSl rfl ((hp).datsAt).okL el23 rfl ?_
  refine At.yes rfl rfl rfl rfl ?_
  refine At.gtr rfl rfl rfl ?_
  refine At.pickF rfl rfl rfl ?_
  refine At.move rfl rfl ?_
  refine At.cases (decide (20 < (p.dats.length : Int))) (fun hg2 => ?_) (fun hg2 => ?_)
  ·skip
   refine At.set (d := 16) (u := .bool true) rfl (congrArg Value.bool hg2) ?_
   have hg2' := of_decide_eq_true hg2
   refine At.no rfl rfl rfl rfl rfl rfl rfl ?_
   refine At.no rfl rfl rfl rfl rfl rfl rfl ?_
   refine At.no rfl rfl rfl rfl rfl rfl rfl ?_
   refine At.no rfl rfl rfl rfl rfl rfl rfl ?_
   refine At.pickT rfl rfl rfl ?_
   refine At.move rfl rfl ?_
   refine At.no rfl rfl rfl rfl rfl rfl rfl ?_
   refine At.no rfl rfl rfl rfl rfl rfl rfl ?_
   refine At.no rfl rfl rfl rfl rfl rfl rfl ?_
   refine At.no rfl rfl rfl rfl rfl rfl rfl ?_
   refine At.pickT rfl rfl rfl ?_
   refine At.ops0 ?_
   refine At.thenN ?_
   refine At.condT rfl ?_
   refine At.seq ?_
   refine At.region ?_
   refine At.assign rfl rfl ?_
   refine At.ops0 ?_
   refine At.thenN ?_
   refine At.retc ?_
   refine At.thenR ?_
   refine At.doneR (ResV.tmp rfl ResV.nil) ?_
   exact ⟨_, rfl, hB, fun h => by cases h⟩
  ·skip
   refine At.set (d := 16) (u := .bool false) rfl (congrArg Value.bool hg2) ?_
   have hg2' := of_decide_eq_false hg2
   refine At.yes rfl rfl rfl rfl ?_
   refine At.fieldAddr rfl fo35_2 rfl ?_
   refine At.yes rfl rfl rfl rfl ?_
   refine At.load rfl (Ld.ownPart ag33 (sz33.trans (congrArg some ((hp).bodyOk).size.symm)) hb1 (hp).bodyCs) rfl ?_
   refine At.yes rfl rfl rfl rfl ?_
   refine At.call en18 rfl rfl (RefDepth_any p.body _ (((hp).bodyOk).keep hB)) (fun e w2 hR => ?_)
   obtain ⟨rfl, hbl1⟩ := hR
   refine ⟨_, rfl, ?_⟩
   replace hb1 := Below.old hbl1 hb1
   replace hB := Below.andThen hB hbl1
   refine At.yes rfl rfl rfl rfl ?_
   refine At.gtr rfl rfl rfl ?_
   refine At.pickF rfl rfl rfl ?_
   refine At.move rfl rfl ?_
   refine At.cases (decide (300 < ((min (dpT p.body) 1000 : Nat) : Int))) (fun hg3 => ?_) (fun hg3 => ?_)
   ·skip
    refine At.set (d := 22) (u := .bool true) rfl (congrArg Value.bool hg3) ?_
    have hg3' := of_decide_eq_true hg3
    refine At.no rfl rfl rfl rfl rfl rfl rfl ?_
    refine At.no rfl rfl rfl rfl rfl rfl rfl ?_
    refine At.no rfl rfl rfl rfl rfl rfl rfl ?_
    refine At.no rfl rfl rfl rfl rfl rfl rfl ?_
    refine At.pickT rfl rfl rfl ?_
    refine At.ops0 ?_
    refine At.thenN ?_
    refine At.condT rfl ?_
    refine At.seq ?_
    refine At.region ?_
    refine At.assign rfl rfl ?_
    refine At.ops0 ?_
    refine At.thenN ?_
    refine At.retc ?_
    refine At.thenR ?_
    refine At.doneR (ResV.tmp rfl ResV.nil) ?_
    exact ⟨_, rfl, hB, fun h => by cases h⟩
   ·skip
    refine At.set (d := 22) (u := .bool false) rfl (congrArg Value.bool hg3) ?_
    have hg3' := of_decide_eq_false hg3
    refine At.yes rfl rfl rfl rfl ?_
    refine At.fieldAddr rfl fo35_2 rfl ?_
    refine At.yes rfl rfl rfl rfl ?_
    refine At.load rfl (Ld.ownPart ag33 (sz33.trans (congrArg some ((hp).bodyOk).size.symm)) hb1 (hp).bodyCs) rfl ?_
    refine At.yes rfl rfl rfl rfl ?_
    refine At.call en19 rfl rfl (countT_any p.body _ (((hp).bodyOk).keep hB)) (fun e w3 hR => ?_)
    obtain ⟨nc1, rfl, hbl2, hna1, hnb1, hnc1⟩ := hR
    refine ⟨_, rfl, ?_⟩
    replace hb1 := Below.old hbl2 hb1
    replace hB := Below.andThen hB hbl2
    refine At.yes rfl rfl rfl rfl ?_
    refine At.gtr rfl rfl rfl ?_
    refine At.pickF rfl rfl rfl ?_
    refine At.ops0 ?_
    refine At.thenN ?_
    refine At.cond (b := decide (2000 < (nc1 : Int))) rfl (fun hc1 => ?_) (fun hc1 => ?_)
    ·skip
     have hc1' := of_decide_eq_true hc1
     refine At.seq ?_
     refine At.region ?_
     refine At.assign rfl rfl ?_
     refine At.ops0 ?_
     refine At.thenN ?_
     refine At.retc ?_
     refine At.thenR ?_
     refine At.doneR (ResV.tmp rfl ResV.nil) ?_
     exact ⟨_, rfl, hB, fun h => by cases h⟩
    ·skip
     have hc1' := of_decide_eq_false hc1
     refine At.skip ?_
     refine At.thenN ?_
     refine At.seq ?_
     refine At.seq ?_
     refine At.region ?_
     refine At.assign rfl rfl ?_
     refine At.ops0 ?_
     refine At.thenN ?_
     refine At.block ?_
     refine At.loop (Nat) (fun k => [(1, .pointer (some ⟨b1, 0, none⟩)), (3, .int .i64 (k : Int))]) (fun k w4 => Below w.heap.size w w4 ∧ w4.heap[b1]? = some (.cells p.cs 35) ∧ (k ≤ p.effs.length) ∧ (∀ e ∈ p.effs.take k, e.ops.length ≤ 20)) (fun k => p.effs.length - k) (0 : Nat) (Sub.cons rfl (Sub.cons rfl Sub.nil)) ⟨hB, hb1, (Nat.zero_le _), (fun x hx => by simp at hx)⟩ (fun k w4 hI => ?_)
     clear hB hb1
     obtain ⟨hB, hb1, hk, ik⟩ := hI
     show At _ _ [(1, .pointer (some ⟨b1, 0, none⟩)), (3, .int .i64 (k : Int))] _ _
     have hlp := hp.effsAt.lenL; have hlq := hp.datsAt.lenL
     refine At.seq ?_
     refine At.seq ?_
     refine At.region ?_
     refine At.move rfl rfl ?_
     refine At.fieldAddr rfl fo35_0 rfl ?_
     refine At.load rfl (Ld.ownCell ag22 hb1 (hp).c0) rfl ?_
     refine At.lenSl rfl ((hp).effsAt).okL el22 rfl ?_
     refine At.lss rfl rfl rfl ?_
     refine At.ops0 ?_
     refine At.thenN ?_
     refine At.cond (b := decide ((k : Int) < (p.effs.length : Int))) rfl (fun hc2 => ?_) (fun hc2 => ?_)
     ·skip
      have hc2' := of_decide_eq_true hc2
      refine At.skip ?_
      refine At.thenN ?_
      refine At.seq ?_
      refine At.block ?_
      refine At.seq ?_
      obtain ⟨x1, hx1⟩ := some_of_lt (l := p.effs) (i := k) (by omega)
      have hl1 := (hp.effOk x1 (List.mem_of_getElem? hx1)).opsAt.lenL
      refine At.region ?_
      refine At.fieldAddr rfl fo35_0 rfl ?_
      refine At.load rfl (Ld.ownCell ag22 hb1 (hp).c0) rfl ?_
      refine At.move rfl rfl ?_
      refine At.indexAddr (i := k) rfl rfl ((hp).effsAt).okL (lt_of_some hx1) el22 sz58 rfl ?_
      refine At.fieldAddr rfl fo58_1 rfl ?_
      refine At.load rfl (Ld.cell ag56 (cell_keep ((((hp).effsAt).row hx1).get (((hp).eff hx1)).c1) hB)) rfl ?_
      refine At.lenSl rfl ((((hp).eff hx1)).opsAt).okL el56 rfl ?_
      refine At.gtr rfl rfl rfl ?_
      refine At.ops0 ?_
      refine At.thenN ?_
      refine At.cond (b := decide (20 < (x1.ops.length : Int))) rfl (fun hc3 => ?_) (fun hc3 => ?_)
      ·skip
       have hc3' := of_decide_eq_true hc3
       refine At.seq ?_
       refine At.region ?_
       refine At.assign rfl rfl ?_
       refine At.ops0 ?_
       refine At.thenN ?_
       refine At.retc ?_
       refine At.inR ?_
       refine At.thenR ?_
       refine At.thenR ?_
       refine At.inR ?_
       refine At.thenR ?_
       refine At.doneR (ResV.tmp rfl ResV.nil) ?_
       exact ⟨_, rfl, hB, fun h => by cases h⟩
      ·skip
       have hc3' := of_decide_eq_false hc3
       refine At.skip ?_
       refine At.inN ?_
       refine At.thenN ?_
       refine At.region ?_
       refine At.move rfl rfl ?_
       refine At.addI rfl rfl rfl (by omega) ?_
       refine At.assign rfl rfl ?_
       refine At.ops0 ?_
       refine At.thenN ?_
       exact fun act_ hact_ => ⟨(k + 1), hact_.sub (Sub.cons rfl (Sub.cons rfl Sub.nil)), ⟨hB, hb1, (by omega), (take_next hx1 ik (by omega))⟩, by first | omega | (dsimp only; omega)⟩
     ·skip
      have hc2' := of_decide_eq_false hc2
      refine At.exit ?_
      refine At.thenE ?_
      refine At.thenE ?_
      refine At.inE ?_
      refine At.thenN ?_
      refine At.seq ?_
      refine At.seq ?_
      refine At.region ?_
      refine At.assign rfl rfl ?_
      refine At.ops0 ?_
      refine At.thenN ?_
      refine At.block ?_
      refine At.loop (Nat) (fun q => [(1, .pointer (some ⟨b1, 0, none⟩)), (4, .int .i64 (q : Int))]) (fun q w5 => Below w.heap.size w w5 ∧ w5.heap[b1]? = some (.cells p.cs 35) ∧ (q ≤ p.dats.length) ∧ (∀ d ∈ p.dats.take q, d.cons.length ≤ 20 ∧ ∀ c ∈ d.cons, c.fields.length ≤ 20)) (fun q => p.dats.length - q) (0 : Nat) (Sub.cons rfl (Sub.cons rfl Sub.nil)) ⟨hB, hb1, (Nat.zero_le _), (fun x hx => by simp at hx)⟩ (fun q w5 hI => ?_)
      clear hB hb1
      obtain ⟨hB, hb1, hq, iq⟩ := hI
      show At _ _ [(1, .pointer (some ⟨b1, 0, none⟩)), (4, .int .i64 (q : Int))] _ _
      have hlp := hp.effsAt.lenL; have hlq := hp.datsAt.lenL
      refine At.seq ?_
      refine At.seq ?_
      refine At.region ?_
      refine At.move rfl rfl ?_
      refine At.fieldAddr rfl fo35_1 rfl ?_
      refine At.load rfl (Ld.ownCell ag23 hb1 (hp).c1) rfl ?_
      refine At.lenSl rfl ((hp).datsAt).okL el23 rfl ?_
      refine At.lss rfl rfl rfl ?_
      refine At.ops0 ?_
      refine At.thenN ?_
      refine At.cond (b := decide ((q : Int) < (p.dats.length : Int))) rfl (fun hc4 => ?_) (fun hc4 => ?_)
      ·skip
       have hc4' := of_decide_eq_true hc4
       refine At.skip ?_
       refine At.thenN ?_
       refine At.seq ?_
       refine At.block ?_
       refine At.seq ?_
       refine At.seq ?_
       obtain ⟨y1, hy1⟩ := some_of_lt (l := p.dats) (i := q) (by omega)
       have hl1 := (hp.datOk y1 (List.mem_of_getElem? hy1)).consAt.lenL
       refine At.region ?_
       refine At.fieldAddr rfl fo35_1 rfl ?_
       refine At.load rfl (Ld.ownCell ag23 hb1 (hp).c1) rfl ?_
       refine At.move rfl rfl ?_
       refine At.indexAddr (i := q) rfl rfl ((hp).datsAt).okL (lt_of_some hy1) el23 sz61 rfl ?_
       refine At.fieldAddr rfl fo61_1 rfl ?_
       refine At.load rfl (Ld.cell ag59 (cell_keep ((((hp).datsAt).row hy1).get (((hp).dat hy1)).c1) hB)) rfl ?_
       refine At.lenSl rfl ((((hp).dat hy1)).consAt).okL el59 rfl ?_
       refine At.gtr rfl rfl rfl ?_
       refine At.ops0 ?_
       refine At.thenN ?_
       refine At.cond (b := decide (20 < (y1.cons.length : Int))) rfl (fun hc5 => ?_) (fun hc5 => ?_)
       ·skip
        have hc5' := of_decide_eq_true hc5
        refine At.seq ?_
        refine At.region ?_
        refine At.assign rfl rfl ?_
        refine At.ops0 ?_
        refine At.thenN ?_
        refine At.retc ?_
        refine At.thenR ?_
        refine At.inR ?_
        refine At.thenR ?_
        refine At.thenR ?_
        refine At.inR ?_
        refine At.thenR ?_
        refine At.doneR (ResV.tmp rfl ResV.nil) ?_
        exact ⟨_, rfl, hB, fun h => by cases h⟩
       ·skip
        have hc5' := of_decide_eq_false hc5
        refine At.skip ?_
        refine At.thenN ?_
        refine At.seq ?_
        refine At.region ?_
        refine At.assign rfl rfl ?_
        refine At.ops0 ?_
        refine At.thenN ?_
        refine At.block ?_
        refine At.loop (Nat) (fun r => [(1, .pointer (some ⟨b1, 0, none⟩)), (4, .int .i64 (q : Int)), (5, .int .i64 (r : Int))]) (fun r w6 => Below w.heap.size w w6 ∧ w6.heap[b1]? = some (.cells p.cs 35) ∧ (r ≤ y1.cons.length) ∧ (∀ c ∈ y1.cons.take r, c.fields.length ≤ 20)) (fun r => y1.cons.length - r) (0 : Nat) (Sub.cons rfl (Sub.cons rfl (Sub.cons rfl Sub.nil))) ⟨hB, hb1, (Nat.zero_le _), (fun x hx => by simp at hx)⟩ (fun r w6 hI => ?_)
        clear hB hb1
        obtain ⟨hB, hb1, hr, ir⟩ := hI
        show At _ _ [(1, .pointer (some ⟨b1, 0, none⟩)), (4, .int .i64 (q : Int)), (5, .int .i64 (r : Int))] _ _
        have hlp := hp.effsAt.lenL; have hlq := hp.datsAt.lenL
        refine At.seq ?_
        refine At.seq ?_
        refine At.region ?_
        refine At.move rfl rfl ?_
        refine At.fieldAddr rfl fo35_1 rfl ?_
        refine At.load rfl (Ld.ownCell ag23 hb1 (hp).c1) rfl ?_
        refine At.move rfl rfl ?_
        refine At.indexAddr (i := q) rfl rfl ((hp).datsAt).okL (lt_of_some hy1) el23 sz61 rfl ?_
        refine At.fieldAddr rfl fo61_1 rfl ?_
        refine At.load rfl (Ld.cell ag59 (cell_keep ((((hp).datsAt).row hy1).get (((hp).dat hy1)).c1) hB)) rfl ?_
        refine At.lenSl rfl ((((hp).dat hy1)).consAt).okL el59 rfl ?_
        refine At.lss rfl rfl rfl ?_
        refine At.ops0 ?_
        refine At.thenN ?_
        refine At.cond (b := decide ((r : Int) < (y1.cons.length : Int))) rfl (fun hc6 => ?_) (fun hc6 => ?_)
        ·skip
         have hc6' := of_decide_eq_true hc6
         refine At.skip ?_
         refine At.thenN ?_
         refine At.seq ?_
         refine At.block ?_
         refine At.seq ?_
         obtain ⟨y2, hy2⟩ := some_of_lt (l := y1.cons) (i := r) (by omega)
         have hl2 := ((hp.datOk y1 (List.mem_of_getElem? hy1)).conOk y2 (List.mem_of_getElem? hy2)).fieldsAt.lenL
         refine At.region ?_
         refine At.fieldAddr rfl fo35_1 rfl ?_
         refine At.load rfl (Ld.ownCell ag23 hb1 (hp).c1) rfl ?_
         refine At.move rfl rfl ?_
         refine At.indexAddr (i := q) rfl rfl ((hp).datsAt).okL (lt_of_some hy1) el23 sz61 rfl ?_
         refine At.fieldAddr rfl fo61_1 rfl ?_
         refine At.load rfl (Ld.cell ag59 (cell_keep ((((hp).datsAt).row hy1).get (((hp).dat hy1)).c1) hB)) rfl ?_
         refine At.move rfl rfl ?_
         refine At.indexAddr (i := r) rfl rfl ((((hp).dat hy1)).consAt).okL (lt_of_some hy2) el59 sz63 rfl ?_
         refine At.fieldAddr rfl fo63_1 rfl ?_
         refine At.load rfl (Ld.cell ag26 (cell_keep ((((((hp).dat hy1)).consAt).row hy2).get (((((hp).dat hy1)).con hy2)).c1) hB)) rfl ?_
         refine At.lenSl rfl ((((((hp).dat hy1)).con hy2)).fieldsAt).okL el26 rfl ?_
         refine At.gtr rfl rfl rfl ?_
         refine At.ops0 ?_
         refine At.thenN ?_
         refine At.cond (b := decide (20 < (y2.fields.length : Int))) rfl (fun hc7 => ?_) (fun hc7 => ?_)
         ·skip
          have hc7' := of_decide_eq_true hc7
          refine At.seq ?_
          refine At.region ?_
          refine At.assign rfl rfl ?_
          refine At.ops0 ?_
          refine At.thenN ?_
          refine At.retc ?_
          refine At.inR ?_
          refine At.thenR ?_
          refine At.thenR ?_
          refine At.inR ?_
          refine At.inR ?_
          refine At.thenR ?_
          refine At.thenR ?_
          refine At.inR ?_
          refine At.thenR ?_
          refine At.doneR (ResV.tmp rfl ResV.nil) ?_
          exact ⟨_, rfl, hB, fun h => by cases h⟩
         ·skip
          have hc7' := of_decide_eq_false hc7
          refine At.skip ?_
          refine At.inN ?_
          refine At.thenN ?_
          refine At.region ?_
          refine At.move rfl rfl ?_
          refine At.addI rfl rfl rfl (by omega) ?_
          refine At.assign rfl rfl ?_
          refine At.ops0 ?_
          refine At.thenN ?_
          exact fun act_ hact_ => ⟨(r + 1), hact_.sub (Sub.cons rfl (Sub.cons rfl (Sub.cons rfl Sub.nil))), ⟨hB, hb1, (by omega), (take_next hy2 ir (by omega))⟩, by first | omega | (dsimp only; omega)⟩
        ·skip
         have hc6' := of_decide_eq_false hc6
         refine At.exit ?_
         refine At.thenE ?_
         refine At.thenE ?_
         refine At.inE ?_
         refine At.inN ?_
         refine At.thenN ?_
         refine At.region ?_
         refine At.move rfl rfl ?_
         refine At.addI rfl rfl rfl (by omega) ?_
         refine At.assign rfl rfl ?_
         refine At.ops0 ?_
         refine At.thenN ?_
         exact fun act_ hact_ => ⟨(q + 1), hact_.sub (Sub.cons rfl (Sub.cons rfl Sub.nil)), ⟨hB, hb1, (by omega), (take_next hy1 iq ⟨by omega, by rw [List.take_of_length_le (by omega)] at ir; exact ir⟩)⟩, by first | omega | (dsimp only; omega)⟩
      ·skip
       have hc4' := of_decide_eq_false hc4
       refine At.exit ?_
       refine At.thenE ?_
       refine At.thenE ?_
       refine At.inE ?_
       refine At.thenN ?_
       refine At.seq ?_
       refine At.region ?_
       refine At.assign rfl rfl ?_
       refine At.ops0 ?_
       refine At.thenN ?_
       refine At.retc ?_
       refine At.doneR (ResV.tmp rfl ResV.nil) ?_
       exact ⟨_, rfl, hB, fun _ => ⟨by omega, by omega, by rw [List.take_of_length_le (by omega)] at ik; exact ik, fun d hd => by rw [List.take_of_length_le (by omega)] at iq; exact (iq d hd).1, fun d hd => by rw [List.take_of_length_le (by omega)] at iq; exact (iq d hd).2, by have := hnc1 (by omega); omega⟩⟩
theorem printWords_any (p : Pr) (m : Int) (w : World) (hp : PrOk w p) (hz : SzP p) (hwt : wtT p.body ≤ 4194304) (hfp : RightB p = true → FewW (printW p)) (hm : w.cell? ⟨0, 0, none⟩ = some (.int .i64 m)) (htab : Tab w) (hll : p.effs.length ≤ 1073741824 ∧ p.dats.length ≤ 1073741824) :
  Calls Tryz.prog 6 ([.agg p.cs] : List Value).toArray w fun e w' => e = .returned (.bool true) ∧ Below w.heap.size w w' := by
 have hB := Below.refl w.heap.size w
 refine At.enter (N := 44) Tryz.func6 rfl rfl (by simp) [(0, .agg p.cs)] (by simp) ?_
 refine At.seq ?_
 refine At.region ?_
 refine At.box rfl rfl (fun b1 w1 F1 => ?_)
 have gb1 := F1.ge hB
 have hb1 : w1.heap[b1]? = some (.cells p.cs 35) := F1.new
 replace hB := F1.below' hB
 refine At.assign rfl rfl ?_
 refine At.ops0 ?_
 refine At.thenN ?_
 refine At.seq ?_
 refine At.region ?_
 refine At.call en7 rfl rfl (shown_any m _ (cell_keep hm hB) (tab_keep htab hB)) (fun e w2 hR => ?_)
 obtain ⟨rfl, hbl1⟩ := hR
 refine ⟨_, rfl, ?_⟩
 replace hb1 := Below.old hbl1 hb1
 replace hB := Below.andThen hB hbl1
 refine At.assign rfl rfl ?_
 refine At.ops0 ?_
 refine At.thenN ?_
 refine At.seq ?_
 refine At.seq ?_
 refine At.region ?_
 refine At.load rfl (Ld.own ag35 (sz35.trans (congrArg some (hp).size.symm)) hb1) rfl ?_
 refine At.call en8 rfl rfl (largeS_any p _ ((hp).keep hB)) (fun e w3 hR => ?_)
 obtain ⟨lg1, rfl, hbl2, hsl1⟩ := hR
 refine ⟨_, rfl, ?_⟩
 replace hb1 := Below.old hbl2 hb1
 replace hB := Below.andThen hB hbl2
 refine At.ops0 ?_
 refine At.thenN ?_
 refine At.cond (b := lg1) rfl (fun hc1 => ?_) (fun hc1 => ?_)
 ·skip
  refine At.seq ?_
  refine At.region ?_
  refine At.move rfl rfl ?_
  refine At.assign rfl rfl ?_
  refine At.ops0 ?_
  refine At.thenN ?_
  refine At.retc ?_
  refine At.thenR ?_
  refine At.doneR (ResV.tmp rfl ResV.nil) ?_
  exact ⟨rfl, hB⟩
 ·skip
  refine At.skip ?_
  refine At.thenN ?_
  refine At.seq ?_
  refine At.region ?_
  refine At.load rfl (Ld.own ag35 (sz35.trans (congrArg some (hp).size.symm)) hb1) rfl ?_
  refine At.call en9 rfl rfl (print_any p m _ ((hp).keep hB) (hz) (cell_keep hm hB) (tab_keep htab hB) (hfp)) (fun e w4 hR => ?_)
  obtain ⟨rfl, hbl3⟩ := hR
  refine ⟨_, rfl, ?_⟩
  replace hb1 := Below.old hbl3 hb1
  replace hB := Below.andThen hB hbl3
  refine At.move rfl rfl ?_
  refine At.extract rfl rfl rfl ?_
  refine At.extract rfl rfl rfl ?_
  refine At.assign rfl rfl ?_
  refine At.assign rfl rfl ?_
  refine At.ops0 ?_
  refine At.thenN ?_
  refine At.seq ?_
  refine At.seq ?_
  refine At.region ?_
  refine At.move rfl rfl ?_
  refine At.neI rfl rfl rfl ?_
  refine At.ops0 ?_
  refine At.thenN ?_
  refine At.cond (b := (!decide ((if RightB p then (0 : Int) else 1) = 0))) rfl (fun hc2 => ?_) (fun hc2 => ?_)
  ·skip
   have hc2' := hc2; simp only [Bool.not_eq_true', Bool.not_eq_false', decide_eq_true_eq, decide_eq_false_iff_not] at hc2'
   refine At.seq ?_
   refine At.region ?_
   refine At.move rfl rfl ?_
   refine At.assign rfl rfl ?_
   refine At.ops0 ?_
   refine At.thenN ?_
   refine At.retc ?_
   refine At.thenR ?_
   refine At.doneR (ResV.tmp rfl ResV.nil) ?_
   exact ⟨rfl, hB⟩
  ·skip
   have hc2' := hc2; simp only [Bool.not_eq_true', Bool.not_eq_false', decide_eq_true_eq, decide_eq_false_iff_not] at hc2'
   refine At.skip ?_
   refine At.thenN ?_
   refine At.seq ?_
   have hRp : RightB p = true := by
    cases hx : RightB p with
    | true => rfl
    | false => rw [hx] at hc2; revert hc2; decide
   obtain ⟨hw1, hw2, hw3, hw4, hw5, hw6⟩ := print_words hRp hz (hsl1 (by simpa using hc1))
   refine At.region ?_
   refine At.move rfl rfl ?_
   refine At.toBytes (l := (printL p)) rfl st9 el43 ik5 (by omega) rfl (fun b2 cap1 w5 hgbb1 hbl4 hby1 => ?_)
   replace hb1 := Below.old hbl4 hb1
   replace hB := Below.andThen hB hbl4
   refine At.call en15 rfl rfl (lex_any (.slice (some ⟨b2, 0, none⟩) (printL p).length cap1) (printL p) m _ (BytesAt.keep hby1 (Below.refl _ _)) (cell_keep hm hB)) (fun e w6 hR => ?_)
   obtain ⟨vt1, rfl, hbl5, hO1, ghO1⟩ := hR
   refine ⟨_, rfl, ?_⟩
   replace ghO1 : ∀ g, Value.ownBlock vt1 = some g → w.heap.size ≤ g := fun g h => Nat.le_trans hB.size (ghO1 g h)
   replace hb1 := Below.old hbl5 hb1
   replace hby1 := hby1.below hbl5
   replace hB := Below.andThen hB hbl5
   refine At.move rfl rfl ?_
   refine At.extract rfl rfl rfl ?_
   refine At.extract rfl rfl rfl ?_
   refine At.extract rfl rfl rfl ?_
   refine At.assign rfl rfl ?_
   refine At.assign rfl rfl ?_
   refine At.assign rfl rfl ?_
   refine At.ops0 ?_
   refine At.thenN ?_
   refine At.seq ?_
   refine At.region ?_
   refine At.move rfl rfl ?_
   refine At.move rfl rfl ?_
   refine At.yes rfl rfl rfl rfl ?_
   refine At.move rfl rfl ?_
   refine At.yes rfl rfl rfl rfl ?_
   refine At.eqI rfl rfl rfl ?_
   refine At.pickT rfl rfl rfl ?_
   refine At.move rfl rfl ?_
   have hbb1 : (decide ((lexE (printL p)) = 0)) = true := decide_eq_true hw1
   refine At.set (d := 33) (u := .bool true) rfl (congrArg Value.bool hbb1) ?_
   refine At.yes rfl rfl rfl rfl ?_
   refine At.move rfl rfl ?_
   refine At.yes rfl rfl rfl rfl ?_
   refine At.call en16 rfl rfl (text_any vt1 (lexT (printL p)) _ (OwnR.rows hO1 (fun u hu => (((fun u _ => tk_ok u)) u hu).size)) hw4 hw5 (by rw [hw2]; omega)) (fun e w7 hR => ?_)
   obtain ⟨rfl, hbl6⟩ := hR
   refine ⟨_, rfl, ?_⟩
   replace hb1 := Below.old hbl6 hb1
   replace hby1 := hby1.below hbl6
   replace hO1 := hO1.below hbl6
   replace hB := Below.andThen hB hbl6
   refine At.yes rfl rfl rfl rfl ?_
   refine At.move rfl rfl ?_
   refine At.yes rfl rfl rfl rfl ?_
   refine At.eqB' (a := (textL (lexT (printL p)))) (b := (printL p)) rfl rfl rfl ?_
   refine At.pickT rfl rfl rfl ?_
   refine At.move rfl rfl ?_
   have hbb2 : (decide ((textL (lexT (printL p))) = (printL p))) = true := decide_eq_true hw2
   refine At.set (d := 39) (u := .bool true) rfl (congrArg Value.bool hbb2) ?_
   refine At.yes rfl rfl rfl rfl ?_
   refine At.move rfl rfl ?_
   refine At.yes rfl rfl rfl rfl ?_
   refine At.lenSl rfl (Own.slOk hO1) el50 rfl ?_
   refine At.yes rfl rfl rfl rfl ?_
   refine At.gtr rfl rfl rfl ?_
   refine At.pickT rfl rfl rfl ?_
   refine At.assign rfl rfl ?_
   refine At.ops0 ?_
   refine At.thenN ?_
   refine At.retc ?_
   refine At.doneR (ResV.tmp rfl ResV.nil) ?_
   exact ⟨congrArg Ending.returned (congrArg Value.bool (show (decide (0 < ((lexT (printL p)).length : Int))) = true from decide_eq_true (by have := List.length_pos_iff.2 hw3; omega))), hB⟩
end Go.Proofs.YtkclecfbjfdfkaaGreatDoor
