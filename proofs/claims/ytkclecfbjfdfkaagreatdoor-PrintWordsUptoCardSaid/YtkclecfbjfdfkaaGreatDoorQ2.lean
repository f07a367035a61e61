/-
 The walks of what tells whether terms can be written, and how deep they are. Written by a program of ours.
-/
import Derived.Test.YtkclecfbjfdfkaaGreatDoorQ1
set_option linter.unusedVariables false
set_option linter.unusedSimpArgs false
namespace Go.Proofs.YtkclecfbjfdfkaaGreatDoor
open Go.RowKit
theorem en112 : entB Tryz.prog 112 = true := by kernel_rfl
theorem en113 : entB Tryz.prog 113 = true := by kernel_rfl
theorem en114 : entB Tryz.prog 114 = true := by kernel_rfl
theorem en32 : entB Tryz.prog 32 = true := by kernel_rfl
theorem en45 : entB Tryz.prog 45 = true := by kernel_rfl
theorem en59 : entB Tryz.prog 59 = true := by kernel_rfl
theorem en65 : entB Tryz.prog 65 = true := by kernel_rfl
theorem en84 : entB Tryz.prog 84 = true := by kernel_rfl
theorem en85 : entB Tryz.prog 85 = true := by kernel_rfl
theorem en86 : entB Tryz.prog 86 = true := by kernel_rfl
theorem en87 : entB Tryz.prog 87 = true := by kernel_rfl
theorem en88 : entB Tryz.prog 88 = true := by kernel_rfl
theorem fo48_1 : fieldB Tryz.prog 48 1 = some (1, 1) := by kernel_rfl
theorem fo48_2 : fieldB Tryz.prog 48 2 = some (2, 21) := by kernel_rfl
theorem ze33 : zeroB Tryz.prog 33 = some (.agg #[.int .i64 0, .int .i64 0, .string (⟨#[]⟩ : ByteArray), .string (⟨#[]⟩ : ByteArray), .int .i64 0, (.slice none 0 0), (.slice none 0 0), .int .i64 0, .string (⟨#[]⟩ : ByteArray), .int .i64 0, (.slice none 0 0), (.slice none 0 0), .int .i64 0, (.slice none 0 0), .int .i64 0, .int .i64 0, .string (⟨#[]⟩ : ByteArray), .int .i64 0, (.slice none 0 0), (.slice none 0 0), .int .i64 0]) := by kernel_rfl
theorem ze48 : zeroB Tryz.prog 48 = some (.agg #[.string (⟨#[]⟩ : ByteArray), (.slice none 0 0), .int .i64 0, .int .i64 0, .string (⟨#[]⟩ : ByteArray), .string (⟨#[]⟩ : ByteArray), .int .i64 0, (.slice none 0 0), (.slice none 0 0), .int .i64 0, .string (⟨#[]⟩ : ByteArray), .int .i64 0, (.slice none 0 0), (.slice none 0 0), .int .i64 0, (.slice none 0 0), .int .i64 0, .int .i64 0, .string (⟨#[]⟩ : ByteArray), .int .i64 0, (.slice none 0 0), (.slice none 0 0), .int .i64 0]) := by kernel_rfl
theorem alone_any (t : Tm) (m : Int) (w : World) (ht : TmOk w t) (hz1 : t.nm.size ≤ 4194304) (hz2 : t.pm.size ≤ 4194304) (hza : ∀ a ∈ t.arms, a.nm.size ≤ 4194304) (hm : w.cell? ⟨0, 0, none⟩ = some (.int .i64 m)) :
  Calls Tryz.prog 84 ([.agg t.cs] : List Value).toArray w fun e w' => e = .returned (.bool (aloneB t)) ∧ Below w.heap.size w w' := by
 have hal0 := ht.armsAt.lenL
 have hB := Below.refl w.heap.size w
 refine At.enter (N := 139) Tryz.func84 rfl rfl (by simp) [(0, .agg t.cs)] (by simp) ?_
 refine At.seq ?_
 refine At.region ?_
 refine At.box rfl rfl (fun b1 w1 F1 => ?_)
 have gb1 := F1.ge hB
 have hb1 : w1.heap[b1]? = some (.cells t.cs 33) := F1.new
 replace hB := F1.below' hB
 refine At.assign rfl rfl ?_
 refine At.ops0 ?_
 refine At.thenN ?_
 refine At.seq ?_
 refine At.seq ?_
 refine At.region ?_
 refine At.fieldAddr rfl fo33_0 rfl ?_
 refine At.load rfl (Ld.ownCell ag3 hb1 (ht).c0) rfl ?_
 refine At.ops0 ?_
 refine At.thenN ?_
 refine At.block ?_
 refine At.seq ?_
 refine At.region ?_
 refine At.eqI rfl rfl rfl ?_
 refine At.assign rfl rfl ?_
 refine At.ops0 ?_
 refine At.thenN ?_
 refine At.cond (b := decide (t.k = 1)) rfl (fun hc1 => ?_) (fun hc1 => ?_)
 ·skip
  have hc1' := of_decide_eq_true hc1
  refine At.seq ?_
  refine At.region ?_
  refine At.load rfl (Ld.own ag33 (sz33.trans (congrArg some (ht).size.symm)) hb1) rfl ?_
  refine At.call en112 rfl rfl (has_any t 0 2 false false m _ ((ht).keep hB) hz1 hz2 (cell_keep hm hB)) (fun e w2 hR => ?_)
  obtain ⟨rfl, hbl1⟩ := hR
  refine ⟨_, rfl, ?_⟩
  replace hb1 := Below.old hbl1 hb1
  replace hB := Below.andThen hB hbl1
  refine At.assign rfl rfl ?_
  refine At.ops0 ?_
  refine At.thenN ?_
  refine At.retc ?_
  refine At.inR ?_
  refine At.thenR ?_
  refine At.doneR (ResV.tmp rfl ResV.nil) ?_
  exact ⟨congrArg Ending.returned (congrArg Value.bool (by first | (simp only [aloneB, hasT, hc1, Bool.true_or, Bool.or_true, Bool.false_or, Bool.or_false, Bool.true_and, Bool.and_true, Bool.false_and, Bool.and_false, Bool.not_true, Bool.not_false, cond_true, cond_false]; done) | (simp [aloneB, hasT, hc1]; done))), hB⟩
 ·skip
  have hc1' := of_decide_eq_false hc1
  refine At.seq ?_
  refine At.region ?_
  refine At.eqI rfl rfl rfl ?_
  refine At.assign rfl rfl ?_
  refine At.ops0 ?_
  refine At.thenN ?_
  refine At.cond (b := decide (t.k = 2)) rfl (fun hc2 => ?_) (fun hc2 => ?_)
  ·skip
   have hc2' := of_decide_eq_true hc2
   refine At.seq ?_
   refine At.region ?_
   refine At.load rfl (Ld.own ag33 (sz33.trans (congrArg some (ht).size.symm)) hb1) rfl ?_
   refine At.call en112 rfl rfl (has_any t 0 0 false false m _ ((ht).keep hB) hz1 hz2 (cell_keep hm hB)) (fun e w3 hR => ?_)
   obtain ⟨rfl, hbl2⟩ := hR
   refine ⟨_, rfl, ?_⟩
   replace hb1 := Below.old hbl2 hb1
   replace hB := Below.andThen hB hbl2
   refine At.move rfl rfl ?_
   refine At.cases ((hasB t.k t.nm t.pm t.n t.kids.length t.arms.length 0 0 false false)) (fun hg1 => ?_) (fun hg1 => ?_)
   ·skip
    refine At.set (d := 16) (u := .bool true) rfl (congrArg Value.bool hg1) ?_
    refine At.yes rfl rfl rfl rfl ?_
    refine At.fieldAddr rfl fo33_4 rfl ?_
    refine At.yes rfl rfl rfl rfl ?_
    refine At.load rfl (Ld.ownCell ag3 hb1 (ht).c4) rfl ?_
    refine At.yes rfl rfl rfl rfl ?_
    refine At.geq rfl rfl rfl ?_
    refine At.pickT rfl rfl rfl ?_
    refine At.assign rfl rfl ?_
    refine At.ops0 ?_
    refine At.thenN ?_
    refine At.retc ?_
    refine At.inR ?_
    refine At.thenR ?_
    refine At.doneR (ResV.tmp rfl ResV.nil) ?_
    exact ⟨congrArg Ending.returned (congrArg Value.bool (by first | (simp only [aloneB, hasT, hc1, hc2, hg1, Bool.true_or, Bool.or_true, Bool.false_or, Bool.or_false, Bool.true_and, Bool.and_true, Bool.false_and, Bool.and_false, Bool.not_true, Bool.not_false, cond_true, cond_false]; done) | (simp [aloneB, hasT, hc1, hc2, hg1]; done))), hB⟩
   ·skip
    refine At.set (d := 16) (u := .bool false) rfl (congrArg Value.bool hg1) ?_
    refine At.no rfl rfl rfl rfl rfl rfl rfl ?_
    refine At.no rfl rfl rfl rfl rfl rfl rfl ?_
    refine At.no rfl rfl rfl rfl rfl rfl rfl ?_
    refine At.pickF rfl rfl rfl ?_
    refine At.assign rfl rfl ?_
    refine At.ops0 ?_
    refine At.thenN ?_
    refine At.retc ?_
    refine At.inR ?_
    refine At.thenR ?_
    refine At.doneR (ResV.tmp rfl ResV.nil) ?_
    exact ⟨congrArg Ending.returned (congrArg Value.bool (by first | (simp only [aloneB, hasT, hc1, hc2, hg1, Bool.true_or, Bool.or_true, Bool.false_or, Bool.or_false, Bool.true_and, Bool.and_true, Bool.false_and, Bool.and_false, Bool.not_true, Bool.not_false, cond_true, cond_false]; done) | (simp [aloneB, hasT, hc1, hc2, hg1]; done))), hB⟩
  ·skip
   have hc2' := of_decide_eq_false hc2
   refine At.seq ?_
   refine At.region ?_
   refine At.eqI rfl rfl rfl ?_
   refine At.assign rfl rfl ?_
   refine At.ops0 ?_
   refine At.thenN ?_
   refine At.cond (b := decide (t.k = 3)) rfl (fun hc3 => ?_) (fun hc3 => ?_)
   ·skip
    have hc3' := of_decide_eq_true hc3
    refine At.seq ?_
    refine At.region ?_
    refine At.load rfl (Ld.own ag33 (sz33.trans (congrArg some (ht).size.symm)) hb1) rfl ?_
    refine At.call en112 rfl rfl (has_any t 0 0 false false m _ ((ht).keep hB) hz1 hz2 (cell_keep hm hB)) (fun e w4 hR => ?_)
    obtain ⟨rfl, hbl3⟩ := hR
    refine ⟨_, rfl, ?_⟩
    replace hb1 := Below.old hbl3 hb1
    replace hB := Below.andThen hB hbl3
    refine At.move rfl rfl ?_
    refine At.cases ((hasB t.k t.nm t.pm t.n t.kids.length t.arms.length 0 0 false false)) (fun hg2 => ?_) (fun hg2 => ?_)
    ·skip
     refine At.set (d := 25) (u := .bool true) rfl (congrArg Value.bool hg2) ?_
     refine At.yes rfl rfl rfl rfl ?_
     refine At.fieldAddr rfl fo33_4 rfl ?_
     refine At.yes rfl rfl rfl rfl ?_
     refine At.load rfl (Ld.ownCell ag3 hb1 (ht).c4) rfl ?_
     refine At.yes rfl rfl rfl rfl ?_
     refine At.eqI rfl rfl rfl ?_
     refine At.yes rfl rfl rfl rfl ?_
     refine At.move rfl rfl ?_
     refine At.cases (decide (t.n = 0)) (fun hg3 => ?_) (fun hg3 => ?_)
     ·skip
      refine At.set (d := 29) (u := .bool true) rfl (congrArg Value.bool hg3) ?_
      have hg3' := of_decide_eq_true hg3
      refine At.no rfl rfl rfl rfl rfl rfl rfl ?_
      refine At.no rfl rfl rfl rfl rfl rfl rfl ?_
      refine At.no rfl rfl rfl rfl rfl rfl rfl ?_
      refine At.yes rfl rfl rfl rfl ?_
      refine At.pickT rfl rfl rfl ?_
      refine At.pickT rfl rfl rfl ?_
      refine At.assign rfl rfl ?_
      refine At.ops0 ?_
      refine At.thenN ?_
      refine At.retc ?_
      refine At.inR ?_
      refine At.thenR ?_
      refine At.doneR (ResV.tmp rfl ResV.nil) ?_
      exact ⟨congrArg Ending.returned (congrArg Value.bool (by first | (simp only [aloneB, hasT, hc1, hc2, hc3, hg2, hg3, Bool.true_or, Bool.or_true, Bool.false_or, Bool.or_false, Bool.true_and, Bool.and_true, Bool.false_and, Bool.and_false, Bool.not_true, Bool.not_false, cond_true, cond_false]; done) | (simp [aloneB, hasT, hc1, hc2, hc3, hg2, hg3]; done))), hB⟩
     ·skip
      refine At.set (d := 29) (u := .bool false) rfl (congrArg Value.bool hg3) ?_
      have hg3' := of_decide_eq_false hg3
      refine At.yes rfl rfl rfl rfl ?_
      refine At.fieldAddr rfl fo33_4 rfl ?_
      refine At.yes rfl rfl rfl rfl ?_
      refine At.load rfl (Ld.ownCell ag3 hb1 (ht).c4) rfl ?_
      refine At.yes rfl rfl rfl rfl ?_
      refine At.eqI rfl rfl rfl ?_
      refine At.yes rfl rfl rfl rfl ?_
      refine At.pickF rfl rfl rfl ?_
      refine At.pickT rfl rfl rfl ?_
      refine At.assign rfl rfl ?_
      refine At.ops0 ?_
      refine At.thenN ?_
      refine At.retc ?_
      refine At.inR ?_
      refine At.thenR ?_
      refine At.doneR (ResV.tmp rfl ResV.nil) ?_
      exact ⟨congrArg Ending.returned (congrArg Value.bool (by first | (simp only [aloneB, hasT, hc1, hc2, hc3, hg2, hg3, Bool.true_or, Bool.or_true, Bool.false_or, Bool.or_false, Bool.true_and, Bool.and_true, Bool.false_and, Bool.and_false, Bool.not_true, Bool.not_false, cond_true, cond_false]; done) | (simp [aloneB, hasT, hc1, hc2, hc3, hg2, hg3]; done))), hB⟩
    ·skip
     refine At.set (d := 25) (u := .bool false) rfl (congrArg Value.bool hg2) ?_
     refine At.no rfl rfl rfl rfl rfl rfl rfl ?_
     refine At.no rfl rfl rfl rfl rfl rfl rfl ?_
     refine At.no rfl rfl rfl rfl rfl rfl rfl ?_
     refine At.no rfl rfl rfl rfl rfl rfl rfl ?_
     refine At.noU rfl rfl rfl rfl rfl rfl ?_
     refine At.noU rfl rfl rfl rfl rfl rfl ?_
     refine At.noU rfl rfl rfl rfl rfl rfl ?_
     refine At.no rfl rfl rfl rfl rfl rfl rfl ?_
     refine At.pickF rfl rfl rfl ?_
     refine At.assign rfl rfl ?_
     refine At.ops0 ?_
     refine At.thenN ?_
     refine At.retc ?_
     refine At.inR ?_
     refine At.thenR ?_
     refine At.doneR (ResV.tmp rfl ResV.nil) ?_
     exact ⟨congrArg Ending.returned (congrArg Value.bool (by first | (simp only [aloneB, hasT, hc1, hc2, hc3, hg2, Bool.true_or, Bool.or_true, Bool.false_or, Bool.or_false, Bool.true_and, Bool.and_true, Bool.false_and, Bool.and_false, Bool.not_true, Bool.not_false, cond_true, cond_false]; done) | (simp [aloneB, hasT, hc1, hc2, hc3, hg2]; done))), hB⟩
   ·skip
    have hc3' := of_decide_eq_false hc3
    refine At.seq ?_
    refine At.region ?_
    refine At.eqI rfl rfl rfl ?_
    refine At.assign rfl rfl ?_
    refine At.ops0 ?_
    refine At.thenN ?_
    refine At.cond (b := decide (t.k = 4)) rfl (fun hc4 => ?_) (fun hc4 => ?_)
    ·skip
     have hc4' := of_decide_eq_true hc4
     refine At.seq ?_
     refine At.region ?_
     refine At.load rfl (Ld.own ag33 (sz33.trans (congrArg some (ht).size.symm)) hb1) rfl ?_
     refine At.call en112 rfl rfl (has_any t 0 0 false false m _ ((ht).keep hB) hz1 hz2 (cell_keep hm hB)) (fun e w5 hR => ?_)
     obtain ⟨rfl, hbl4⟩ := hR
     refine ⟨_, rfl, ?_⟩
     replace hb1 := Below.old hbl4 hb1
     replace hB := Below.andThen hB hbl4
     refine At.assign rfl rfl ?_
     refine At.ops0 ?_
     refine At.thenN ?_
     refine At.retc ?_
     refine At.inR ?_
     refine At.thenR ?_
     refine At.doneR (ResV.tmp rfl ResV.nil) ?_
     exact ⟨congrArg Ending.returned (congrArg Value.bool (by first | (simp only [aloneB, hasT, hc1, hc2, hc3, hc4, Bool.true_or, Bool.or_true, Bool.false_or, Bool.or_false, Bool.true_and, Bool.and_true, Bool.false_and, Bool.and_false, Bool.not_true, Bool.not_false, cond_true, cond_false]; done) | (simp [aloneB, hasT, hc1, hc2, hc3, hc4]; done))), hB⟩
    ·skip
     have hc4' := of_decide_eq_false hc4
     refine At.seq ?_
     refine At.region ?_
     refine At.eqI rfl rfl rfl ?_
     refine At.assign rfl rfl ?_
     refine At.ops0 ?_
     refine At.thenN ?_
     refine At.cond (b := decide (t.k = 5)) rfl (fun hc5 => ?_) (fun hc5 => ?_)
     ·skip
      have hc5' := of_decide_eq_true hc5
      refine At.seq ?_
      refine At.region ?_
      refine At.load rfl (Ld.own ag33 (sz33.trans (congrArg some (ht).size.symm)) hb1) rfl ?_
      refine At.call en112 rfl rfl (has_any t 1 2 false false m _ ((ht).keep hB) hz1 hz2 (cell_keep hm hB)) (fun e w6 hR => ?_)
      obtain ⟨rfl, hbl5⟩ := hR
      refine ⟨_, rfl, ?_⟩
      replace hb1 := Below.old hbl5 hb1
      replace hB := Below.andThen hB hbl5
      refine At.assign rfl rfl ?_
      refine At.ops0 ?_
      refine At.thenN ?_
      refine At.retc ?_
      refine At.inR ?_
      refine At.thenR ?_
      refine At.doneR (ResV.tmp rfl ResV.nil) ?_
      exact ⟨congrArg Ending.returned (congrArg Value.bool (by first | (simp only [aloneB, hasT, hc1, hc2, hc3, hc4, hc5, Bool.true_or, Bool.or_true, Bool.false_or, Bool.or_false, Bool.true_and, Bool.and_true, Bool.false_and, Bool.and_false, Bool.not_true, Bool.not_false, cond_true, cond_false]; done) | (simp [aloneB, hasT, hc1, hc2, hc3, hc4, hc5]; done))), hB⟩
     ·skip
      have hc5' := of_decide_eq_false hc5
      refine At.seq ?_
      refine At.region ?_
      refine At.eqI rfl rfl rfl ?_
      refine At.assign rfl rfl ?_
      refine At.ops0 ?_
      refine At.thenN ?_
      refine At.cond (b := decide (t.k = 6)) rfl (fun hc6 => ?_) (fun hc6 => ?_)
      ·skip
       have hc6' := of_decide_eq_true hc6
       refine At.seq ?_
       refine At.region ?_
       refine At.load rfl (Ld.own ag33 (sz33.trans (congrArg some (ht).size.symm)) hb1) rfl ?_
       refine At.call en112 rfl rfl (has_any t 2 0 false false m _ ((ht).keep hB) hz1 hz2 (cell_keep hm hB)) (fun e w7 hR => ?_)
       obtain ⟨rfl, hbl6⟩ := hR
       refine ⟨_, rfl, ?_⟩
       replace hb1 := Below.old hbl6 hb1
       replace hB := Below.andThen hB hbl6
       refine At.assign rfl rfl ?_
       refine At.ops0 ?_
       refine At.thenN ?_
       refine At.retc ?_
       refine At.inR ?_
       refine At.thenR ?_
       refine At.doneR (ResV.tmp rfl ResV.nil) ?_
       exact ⟨congrArg Ending.returned (congrArg Value.bool (by first | (simp only [aloneB, hasT, hc1, hc2, hc3, hc4, hc5, hc6, Bool.true_or, Bool.or_true, Bool.false_or, Bool.or_false, Bool.true_and, Bool.and_true, Bool.false_and, Bool.and_false, Bool.not_true, Bool.not_false, cond_true, cond_false]; done) | (simp [aloneB, hasT, hc1, hc2, hc3, hc4, hc5, hc6]; done))), hB⟩
      ·skip
       have hc6' := of_decide_eq_false hc6
       refine At.seq ?_
       refine At.region ?_
       refine At.eqI rfl rfl rfl ?_
       refine At.assign rfl rfl ?_
       refine At.ops0 ?_
       refine At.thenN ?_
       refine At.cond (b := decide (t.k = 7)) rfl (fun hc7 => ?_) (fun hc7 => ?_)
       ·skip
        have hc7' := of_decide_eq_true hc7
        refine At.seq ?_
        refine At.region ?_
        refine At.load rfl (Ld.own ag33 (sz33.trans (congrArg some (ht).size.symm)) hb1) rfl ?_
        refine At.call en112 rfl rfl (has_any t 2 2 false false m _ ((ht).keep hB) hz1 hz2 (cell_keep hm hB)) (fun e w8 hR => ?_)
        obtain ⟨rfl, hbl7⟩ := hR
        refine ⟨_, rfl, ?_⟩
        replace hb1 := Below.old hbl7 hb1
        replace hB := Below.andThen hB hbl7
        refine At.assign rfl rfl ?_
        refine At.ops0 ?_
        refine At.thenN ?_
        refine At.retc ?_
        refine At.inR ?_
        refine At.thenR ?_
        refine At.doneR (ResV.tmp rfl ResV.nil) ?_
        exact ⟨congrArg Ending.returned (congrArg Value.bool (by first | (simp only [aloneB, hasT, hc1, hc2, hc3, hc4, hc5, hc6, hc7, Bool.true_or, Bool.or_true, Bool.false_or, Bool.or_false, Bool.true_and, Bool.and_true, Bool.false_and, Bool.and_false, Bool.not_true, Bool.not_false, cond_true, cond_false]; done) | (simp [aloneB, hasT, hc1, hc2, hc3, hc4, hc5, hc6, hc7]; done))), hB⟩
       ·skip
        have hc7' := of_decide_eq_false hc7
        refine At.seq ?_
        refine At.region ?_
        refine At.eqI rfl rfl rfl ?_
        refine At.assign rfl rfl ?_
        refine At.ops0 ?_
        refine At.thenN ?_
        refine At.cond (b := decide (t.k = 8)) rfl (fun hc8 => ?_) (fun hc8 => ?_)
        ·skip
         have hc8' := of_decide_eq_true hc8
         refine At.seq ?_
         refine At.region ?_
         refine At.load rfl (Ld.own ag33 (sz33.trans (congrArg some (ht).size.symm)) hb1) rfl ?_
         refine At.call en112 rfl rfl (has_any t 2 2 true false m _ ((ht).keep hB) hz1 hz2 (cell_keep hm hB)) (fun e w9 hR => ?_)
         obtain ⟨rfl, hbl8⟩ := hR
         refine ⟨_, rfl, ?_⟩
         replace hb1 := Below.old hbl8 hb1
         replace hB := Below.andThen hB hbl8
         refine At.assign rfl rfl ?_
         refine At.ops0 ?_
         refine At.thenN ?_
         refine At.retc ?_
         refine At.inR ?_
         refine At.thenR ?_
         refine At.doneR (ResV.tmp rfl ResV.nil) ?_
         exact ⟨congrArg Ending.returned (congrArg Value.bool (by first | (simp only [aloneB, hasT, hc1, hc2, hc3, hc4, hc5, hc6, hc7, hc8, Bool.true_or, Bool.or_true, Bool.false_or, Bool.or_false, Bool.true_and, Bool.and_true, Bool.false_and, Bool.and_false, Bool.not_true, Bool.not_false, cond_true, cond_false]; done) | (simp [aloneB, hasT, hc1, hc2, hc3, hc4, hc5, hc6, hc7, hc8]; done))), hB⟩
        ·skip
         have hc8' := of_decide_eq_false hc8
         refine At.seq ?_
         refine At.region ?_
         refine At.eqI rfl rfl rfl ?_
         refine At.assign rfl rfl ?_
         refine At.ops0 ?_
         refine At.thenN ?_
         refine At.cond (b := decide (t.k = 9)) rfl (fun hc9 => ?_) (fun hc9 => ?_)
         ·skip
          have hc9' := of_decide_eq_true hc9
          refine At.seq ?_
          refine At.region ?_
          refine At.load rfl (Ld.own ag33 (sz33.trans (congrArg some (ht).size.symm)) hb1) rfl ?_
          refine At.call en112 rfl rfl (has_any t 3 0 false false m _ ((ht).keep hB) hz1 hz2 (cell_keep hm hB)) (fun e w10 hR => ?_)
          obtain ⟨rfl, hbl9⟩ := hR
          refine ⟨_, rfl, ?_⟩
          replace hb1 := Below.old hbl9 hb1
          replace hB := Below.andThen hB hbl9
          refine At.assign rfl rfl ?_
          refine At.ops0 ?_
          refine At.thenN ?_
          refine At.retc ?_
          refine At.inR ?_
          refine At.thenR ?_
          refine At.doneR (ResV.tmp rfl ResV.nil) ?_
          exact ⟨congrArg Ending.returned (congrArg Value.bool (by first | (simp only [aloneB, hasT, hc1, hc2, hc3, hc4, hc5, hc6, hc7, hc8, hc9, Bool.true_or, Bool.or_true, Bool.false_or, Bool.or_false, Bool.true_and, Bool.and_true, Bool.false_and, Bool.and_false, Bool.not_true, Bool.not_false, cond_true, cond_false]; done) | (simp [aloneB, hasT, hc1, hc2, hc3, hc4, hc5, hc6, hc7, hc8, hc9]; done))), hB⟩
         ·skip
          have hc9' := of_decide_eq_false hc9
          refine At.seq ?_
          refine At.region ?_
          refine At.eqI rfl rfl rfl ?_
          refine At.assign rfl rfl ?_
          refine At.ops0 ?_
          refine At.thenN ?_
          refine At.cond (b := decide (t.k = 10)) rfl (fun hc10 => ?_) (fun hc10 => ?_)
          ·skip
           have hc10' := of_decide_eq_true hc10
           refine At.seq ?_
           refine At.region ?_
           refine At.fieldAddr rfl fo33_2 rfl ?_
           refine At.load rfl (Ld.ownCell ag9 hb1 (ht).c2) rfl ?_
           refine At.call en113 rfl rfl (kids_any t.nm _) (fun e w11 hR => ?_)
           obtain ⟨rfl, hbl10⟩ := hR
           refine ⟨_, rfl, ?_⟩
           replace hb1 := Below.old hbl10 hb1
           replace hB := Below.andThen hB hbl10
           refine At.assign rfl rfl ?_
           refine At.ops0 ?_
           refine At.thenN ?_
           refine At.seq ?_
           refine At.region ?_
           refine At.fieldAddr rfl fo33_2 rfl ?_
           refine At.store1 rfl rfl hb1 sz9 (by rw [(ht).size]; decide) rfl (fun w12 S1 => ?_)
           replace hb1 : w12.heap[b1]? = some (.cells (Tm.withNm t (⟨#[]⟩ : ByteArray)).cs 33) := S1.new
           replace hB := S1.below' hB gb1
           refine At.ops0 ?_
           refine At.thenN ?_
           refine At.seq ?_
           refine At.region ?_
           refine At.load rfl (Ld.own ag33 (sz33.trans (congrArg some ((TmOk.withNm ((ht).keep hB) (⟨#[]⟩ : ByteArray))).size.symm)) hb1) rfl ?_
           refine At.move rfl rfl ?_
           refine At.call en112 rfl rfl (has_any (Tm.withNm t (⟨#[]⟩ : ByteArray)) (kidsOf t.nm) 0 false false m _ (((TmOk.withNm ((ht).keep hB) (⟨#[]⟩ : ByteArray))).keep (Below.refl _ _)) (show ((⟨#[]⟩ : ByteArray)).size ≤ 4194304 by decide) hz2 (cell_keep hm hB)) (fun e w13 hR => ?_)
           obtain ⟨rfl, hbl11⟩ := hR
           refine ⟨_, rfl, ?_⟩
           replace hb1 := Below.old hbl11 hb1
           replace hB := Below.andThen hB hbl11
           refine At.assign rfl rfl ?_
           refine At.ops0 ?_
           refine At.thenN ?_
           refine At.retc ?_
           refine At.inR ?_
           refine At.thenR ?_
           refine At.doneR (ResV.tmp rfl ResV.nil) ?_
           exact ⟨congrArg Ending.returned (congrArg Value.bool (show hasB t.k (⟨#[]⟩ : ByteArray) t.pm t.n t.kids.length t.arms.length (kidsOf t.nm) 0 false false = _ by simp only [aloneB, hasT, hc1, hc2, hc3, hc4, hc5, hc6, hc7, hc8, hc9, hc10, cond_true, cond_false])), hB⟩
          ·skip
           have hc10' := of_decide_eq_false hc10
           refine At.seq ?_
           refine At.region ?_
           refine At.eqI rfl rfl rfl ?_
           refine At.assign rfl rfl ?_
           refine At.ops0 ?_
           refine At.thenN ?_
           refine At.cond (b := decide (t.k = 11)) rfl (fun hc11 => ?_) (fun hc11 => ?_)
           ·skip
            have hc11' := of_decide_eq_true hc11
            refine At.seq ?_
            refine At.region ?_
            refine At.load rfl (Ld.own ag33 (sz33.trans (congrArg some (ht).size.symm)) hb1) rfl ?_
            refine At.fieldAddr rfl fo33_5 rfl ?_
            refine At.load rfl (Ld.ownCell ag24 hb1 (ht).c5) rfl ?_
            refine At.lenSl rfl ((ht).kidsAt).okL el24 rfl ?_
            refine At.call en112 rfl rfl (has_any t (t.kids.length : Int) 3 false false m _ ((ht).keep hB) hz1 hz2 (cell_keep hm hB)) (fun e w14 hR => ?_)
            obtain ⟨rfl, hbl12⟩ := hR
            refine ⟨_, rfl, ?_⟩
            replace hb1 := Below.old hbl12 hb1
            replace hB := Below.andThen hB hbl12
            refine At.assign rfl rfl ?_
            refine At.ops0 ?_
            refine At.thenN ?_
            refine At.retc ?_
            refine At.inR ?_
            refine At.thenR ?_
            refine At.doneR (ResV.tmp rfl ResV.nil) ?_
            exact ⟨congrArg Ending.returned (congrArg Value.bool (by first | (simp only [aloneB, hasT, hc1, hc2, hc3, hc4, hc5, hc6, hc7, hc8, hc9, hc10, hc11, Bool.true_or, Bool.or_true, Bool.false_or, Bool.or_false, Bool.true_and, Bool.and_true, Bool.false_and, Bool.and_false, Bool.not_true, Bool.not_false, cond_true, cond_false]; done) | (simp [aloneB, hasT, hc1, hc2, hc3, hc4, hc5, hc6, hc7, hc8, hc9, hc10, hc11]; done))), hB⟩
           ·skip
            have hc11' := of_decide_eq_false hc11
            refine At.seq ?_
            refine At.region ?_
            refine At.eqI rfl rfl rfl ?_
            refine At.assign rfl rfl ?_
            refine At.ops0 ?_
            refine At.thenN ?_
            refine At.cond (b := decide (t.k = 12)) rfl (fun hc12 => ?_) (fun hc12 => ?_)
            ·skip
             have hc12' := of_decide_eq_true hc12
             refine At.seq ?_
             refine At.region ?_
             refine At.load rfl (Ld.own ag33 (sz33.trans (congrArg some (ht).size.symm)) hb1) rfl ?_
             refine At.call en112 rfl rfl (has_any t 1 0 false true m _ ((ht).keep hB) hz1 hz2 (cell_keep hm hB)) (fun e w15 hR => ?_)
             obtain ⟨rfl, hbl13⟩ := hR
             refine ⟨_, rfl, ?_⟩
             replace hb1 := Below.old hbl13 hb1
             replace hB := Below.andThen hB hbl13
             refine At.move rfl rfl ?_
             refine At.cases ((hasB t.k t.nm t.pm t.n t.kids.length t.arms.length 1 0 false true)) (fun hg4 => ?_) (fun hg4 => ?_)
             ·skip
              refine At.set (d := 79) (u := .bool true) rfl (congrArg Value.bool hg4) ?_
              refine At.yes rfl rfl rfl rfl ?_
              refine At.fieldAddr rfl fo33_6 rfl ?_
              refine At.yes rfl rfl rfl rfl ?_
              refine At.load rfl (Ld.ownCell ag25 hb1 (ht).c6) rfl ?_
              refine At.yes rfl rfl rfl rfl ?_
              refine At.call en87 rfl rfl (containsF_Am t.av t.arms 114 [] (fun a => !nmB 3 a.nm) _ (((ht).armsAt).keep hB) (fun u hu => ((ht).arms u hu).keep hB) en114 (by have := ht.armsAt.lenL; omega) (fun u w1 hw hu => alone1_any u m w1 (((ht.arms u hu).keep hB).keep hw) (hza u hu) (cell_keep (cell_keep hm hB) hw))) (fun e w16 hR => ?_)
              obtain ⟨rfl, hbl14⟩ := hR
              refine ⟨_, rfl, ?_⟩
              replace hb1 := Below.old hbl14 hb1
              replace hB := Below.andThen hB hbl14
              refine At.yes rfl rfl rfl rfl ?_
              refine At.not rfl rfl ?_
              refine At.pickT rfl rfl rfl ?_
              refine At.assign rfl rfl ?_
              refine At.ops0 ?_
              refine At.thenN ?_
              refine At.retc ?_
              refine At.inR ?_
              refine At.thenR ?_
              refine At.doneR (ResV.tmp rfl ResV.nil) ?_
              exact ⟨congrArg Ending.returned (congrArg Value.bool (by first | (simp only [aloneB, hasT, hc1, hc2, hc3, hc4, hc5, hc6, hc7, hc8, hc9, hc10, hc11, hc12, hg4, Bool.true_or, Bool.or_true, Bool.false_or, Bool.or_false, Bool.true_and, Bool.and_true, Bool.false_and, Bool.and_false, Bool.not_true, Bool.not_false, cond_true, cond_false]; done) | (simp [aloneB, hasT, hc1, hc2, hc3, hc4, hc5, hc6, hc7, hc8, hc9, hc10, hc11, hc12, hg4]; done))), hB⟩
             ·skip
              refine At.set (d := 79) (u := .bool false) rfl (congrArg Value.bool hg4) ?_
              refine At.no rfl rfl rfl rfl rfl rfl rfl ?_
              refine At.no rfl rfl rfl rfl rfl rfl rfl ?_
              refine At.no rfl rfl rfl rfl rfl rfl rfl ?_
              refine At.no rfl rfl rfl rfl rfl rfl rfl ?_
              refine At.pickF rfl rfl rfl ?_
              refine At.assign rfl rfl ?_
              refine At.ops0 ?_
              refine At.thenN ?_
              refine At.retc ?_
              refine At.inR ?_
              refine At.thenR ?_
              refine At.doneR (ResV.tmp rfl ResV.nil) ?_
              exact ⟨congrArg Ending.returned (congrArg Value.bool (by first | (simp only [aloneB, hasT, hc1, hc2, hc3, hc4, hc5, hc6, hc7, hc8, hc9, hc10, hc11, hc12, hg4, Bool.true_or, Bool.or_true, Bool.false_or, Bool.or_false, Bool.true_and, Bool.and_true, Bool.false_and, Bool.and_false, Bool.not_true, Bool.not_false, cond_true, cond_false]; done) | (simp [aloneB, hasT, hc1, hc2, hc3, hc4, hc5, hc6, hc7, hc8, hc9, hc10, hc11, hc12, hg4]; done))), hB⟩
            ·skip
             have hc12' := of_decide_eq_false hc12
             refine At.seq ?_
             refine At.region ?_
             refine At.eqI rfl rfl rfl ?_
             refine At.assign rfl rfl ?_
             refine At.ops0 ?_
             refine At.thenN ?_
             refine At.cond (b := decide (t.k = 13)) rfl (fun hc13 => ?_) (fun hc13 => ?_)
             ·skip
              have hc13' := of_decide_eq_true hc13
              refine At.seq ?_
              refine At.region ?_
              refine At.load rfl (Ld.own ag33 (sz33.trans (congrArg some (ht).size.symm)) hb1) rfl ?_
              refine At.call en112 rfl rfl (has_any t 1 2 false false m _ ((ht).keep hB) hz1 hz2 (cell_keep hm hB)) (fun e w17 hR => ?_)
              obtain ⟨rfl, hbl15⟩ := hR
              refine ⟨_, rfl, ?_⟩
              replace hb1 := Below.old hbl15 hb1
              replace hB := Below.andThen hB hbl15
              refine At.assign rfl rfl ?_
              refine At.ops0 ?_
              refine At.thenN ?_
              refine At.retc ?_
              refine At.inR ?_
              refine At.thenR ?_
              refine At.doneR (ResV.tmp rfl ResV.nil) ?_
              exact ⟨congrArg Ending.returned (congrArg Value.bool (by first | (simp only [aloneB, hasT, hc1, hc2, hc3, hc4, hc5, hc6, hc7, hc8, hc9, hc10, hc11, hc12, hc13, Bool.true_or, Bool.or_true, Bool.false_or, Bool.or_false, Bool.true_and, Bool.and_true, Bool.false_and, Bool.and_false, Bool.not_true, Bool.not_false, cond_true, cond_false]; done) | (simp [aloneB, hasT, hc1, hc2, hc3, hc4, hc5, hc6, hc7, hc8, hc9, hc10, hc11, hc12, hc13]; done))), hB⟩
             ·skip
              have hc13' := of_decide_eq_false hc13
              refine At.seq ?_
              refine At.region ?_
              refine At.eqI rfl rfl rfl ?_
              refine At.assign rfl rfl ?_
              refine At.ops0 ?_
              refine At.thenN ?_
              refine At.cond (b := decide (t.k = 14)) rfl (fun hc14 => ?_) (fun hc14 => ?_)
              ·skip
               have hc14' := of_decide_eq_true hc14
               refine At.seq ?_
               refine At.seq ?_
               refine At.region ?_
               refine At.load rfl (Ld.own ag33 (sz33.trans (congrArg some (ht).size.symm)) hb1) rfl ?_
               refine At.call en112 rfl rfl (has_any t 1 3 false true m _ ((ht).keep hB) hz1 hz2 (cell_keep hm hB)) (fun e w18 hR => ?_)
               obtain ⟨rfl, hbl16⟩ := hR
               refine ⟨_, rfl, ?_⟩
               replace hb1 := Below.old hbl16 hb1
               replace hB := Below.andThen hB hbl16
               refine At.not rfl rfl ?_
               refine At.move rfl rfl ?_
               refine At.cases ((!(hasB t.k t.nm t.pm t.n t.kids.length t.arms.length 1 3 false true))) (fun hg5 => ?_) (fun hg5 => ?_)
               ·skip
                refine At.set (d := 94) (u := .bool true) rfl (congrArg Value.bool hg5) ?_
                refine At.no rfl rfl rfl rfl rfl rfl rfl ?_
                refine At.no rfl rfl rfl rfl rfl rfl rfl ?_
                refine At.no rfl rfl rfl rfl rfl rfl rfl ?_
                refine At.no rfl rfl rfl rfl rfl rfl rfl ?_
                refine At.pickT rfl rfl rfl ?_
                refine At.ops0 ?_
                refine At.thenN ?_
                refine At.condT rfl ?_
                refine At.seq ?_
                refine At.region ?_
                refine At.assign rfl rfl ?_
                refine At.ops0 ?_
                refine At.thenN ?_
                refine At.retc ?_
                refine At.thenR ?_
                refine At.inR ?_
                refine At.thenR ?_
                refine At.doneR (ResV.tmp rfl ResV.nil) ?_
                exact ⟨congrArg Ending.returned (congrArg Value.bool (by first | (simp only [aloneB, hasT, hc1, hc2, hc3, hc4, hc5, hc6, hc7, hc8, hc9, hc10, hc11, hc12, hc13, hc14, hg5, Bool.true_or, Bool.or_true, Bool.false_or, Bool.or_false, Bool.true_and, Bool.and_true, Bool.false_and, Bool.and_false, Bool.not_true, Bool.not_false, cond_true, cond_false]; done) | (simp [aloneB, hasT, hc1, hc2, hc3, hc4, hc5, hc6, hc7, hc8, hc9, hc10, hc11, hc12, hc13, hc14, hg5]; done))), hB⟩
               ·skip
                refine At.set (d := 94) (u := .bool false) rfl (congrArg Value.bool hg5) ?_
                refine At.yes rfl rfl rfl rfl ?_
                refine At.fieldAddr rfl fo33_6 rfl ?_
                refine At.yes rfl rfl rfl rfl ?_
                refine At.load rfl (Ld.ownCell ag25 hb1 (ht).c6) rfl ?_
                refine At.yes rfl rfl rfl rfl ?_
                refine At.lenSl rfl ((ht).armsAt).okL el25 rfl ?_
                refine At.yes rfl rfl rfl rfl ?_
                refine At.eqI rfl rfl rfl ?_
                refine At.pickF rfl rfl rfl ?_
                refine At.ops0 ?_
                refine At.thenN ?_
                refine At.cond (b := decide ((t.arms.length : Int) = 0)) rfl (fun hc15 => ?_) (fun hc15 => ?_)
                ·skip
                 have hc15' := of_decide_eq_true hc15
                 refine At.seq ?_
                 refine At.region ?_
                 refine At.assign rfl rfl ?_
                 refine At.ops0 ?_
                 refine At.thenN ?_
                 refine At.retc ?_
                 refine At.thenR ?_
                 refine At.inR ?_
                 refine At.thenR ?_
                 refine At.doneR (ResV.tmp rfl ResV.nil) ?_
                 exact ⟨congrArg Ending.returned (congrArg Value.bool (by first | (simp only [aloneB, hasT, hc1, hc2, hc3, hc4, hc5, hc6, hc7, hc8, hc9, hc10, hc11, hc12, hc13, hc14, hg5, hc15, Bool.true_or, Bool.or_true, Bool.false_or, Bool.or_false, Bool.true_and, Bool.and_true, Bool.false_and, Bool.and_false, Bool.not_true, Bool.not_false, cond_true, cond_false]; done) | (simp [aloneB, hasT, hc1, hc2, hc3, hc4, hc5, hc6, hc7, hc8, hc9, hc10, hc11, hc12, hc13, hc14, hg5, hc15]; done))), hB⟩
                ·skip
                 have hc15' := of_decide_eq_false hc15
                 refine At.skip ?_
                 refine At.thenN ?_
                 refine At.seq ?_
                 refine At.seq ?_
                 refine At.region ?_
                 refine At.fieldAddr rfl fo33_6 rfl ?_
                 refine At.load rfl (Ld.ownCell ag25 hb1 (ht).c6) rfl ?_
                 refine At.lenSl rfl ((ht).armsAt).okL el25 rfl ?_
                 refine At.move rfl rfl ?_
                 refine At.ops0 ?_
                 refine At.thenN ?_
                 refine At.block ?_
                 refine At.loop (Nat) (fun i => [(101, t.av), (102, .int .i64 (t.arms.length : Int)), (103, .int .i64 (i : Int))]) (fun i w19 => Below w.heap.size w w19 ∧ (i ≤ t.arms.length) ∧ (hdFrom i (t.arms.drop i) = hdFrom 0 t.arms)) (fun i => t.arms.length - i) (0 : Nat) (Sub.cons rfl (Sub.cons rfl (Sub.cons rfl Sub.nil))) ⟨hB, (Nat.zero_le _), (rfl)⟩ (fun i w19 hI => ?_)
                 clear hB hb1
                 obtain ⟨hB, hib, hd⟩ := hI
                 show At _ _ [(101, t.av), (102, .int .i64 (t.arms.length : Int)), (103, .int .i64 (i : Int))] _ _
                 have hal := ht.armsAt.lenL
                 refine At.seq ?_
                 refine At.region ?_
                 refine At.lss rfl rfl rfl ?_
                 refine At.ops0 ?_
                 refine At.thenN ?_
                 refine At.seq ?_
                 refine At.cond (b := decide ((i : Int) < (t.arms.length : Int))) rfl (fun hc16 => ?_) (fun hc16 => ?_)
                 ·skip
                  have hc16' := of_decide_eq_true hc16
                  refine At.skip ?_
                  refine At.thenN ?_
                  refine At.seq ?_
                  refine At.block ?_
                  refine At.seq ?_
                  obtain ⟨u1, hu1⟩ := some_of_lt (l := t.arms) (i := i) (by omega)
                  have hza1 := hza u1 (List.mem_of_getElem? hu1)
                  refine At.region ?_
                  refine At.move rfl rfl ?_
                  refine At.indexAddr (i := i) rfl rfl ((ht).armsAt).okL (lt_of_some hu1) el25 sz48 rfl ?_
                  refine At.load rfl (Ld.row ag48 (sz48.trans (congrArg some (((ht).arm hu1)).size.symm)) ((((ht).armsAt).row hu1).keep hB)) rfl ?_
                  refine At.alloc ze48 rfl (fun b2 w20 F2 => ?_)
                  have gb2 := F2.ge hB
                  have hb2 : w20.heap[b2]? = some (.cells #[.string (⟨#[]⟩ : ByteArray), (.slice none 0 0), .int .i64 0, .int .i64 0, .string (⟨#[]⟩ : ByteArray), .string (⟨#[]⟩ : ByteArray), .int .i64 0, (.slice none 0 0), (.slice none 0 0), .int .i64 0, .string (⟨#[]⟩ : ByteArray), .int .i64 0, (.slice none 0 0), (.slice none 0 0), .int .i64 0, (.slice none 0 0), .int .i64 0, .int .i64 0, .string (⟨#[]⟩ : ByteArray), .int .i64 0, (.slice none 0 0), (.slice none 0 0), .int .i64 0] 48) := F2.new
                  replace hB := F2.below' hB
                  refine At.assign rfl rfl ?_
                  refine At.storeAll rfl rfl hb2 (sz48.trans (congrArg some (((ht).arm hu1)).size.symm)) (((ht).arm hu1)).size.symm (((ht).arm hu1)).one (fun w21 S2 => ?_)
                  replace hb2 : w21.heap[b2]? = some (.cells u1.cs 48) := S2.new
                  replace hB := S2.below' hB gb2
                  refine At.ops0 ?_
                  refine At.thenN ?_
                  refine At.seq ?_
                  refine At.region ?_
                  refine At.move rfl rfl ?_
                  refine At.eqI rfl rfl rfl ?_
                  refine At.move rfl rfl ?_
                  refine At.cases (decide ((i : Int) = 0)) (fun hg6 => ?_) (fun hg6 => ?_)
                  ·skip
                   refine At.set (d := 110) (u := .bool true) rfl (congrArg Value.bool hg6) ?_
                   have hg6' := of_decide_eq_true hg6
                   refine At.yes rfl rfl rfl rfl ?_
                   refine At.fieldAddr rfl fo48_0 rfl ?_
                   refine At.yes rfl rfl rfl rfl ?_
                   refine At.load rfl (Ld.ownCell ag9 hb2 (((ht).arm hu1)).c0) rfl ?_
                   refine At.yes rfl rfl rfl rfl ?_
                   refine At.neS rfl rfl rfl ?_
                   refine At.yes rfl rfl rfl rfl ?_
                   refine At.move rfl rfl ?_
                   refine At.cases ((!decide (u1.nm = (⟨#[114, 101, 116, 117, 114, 110]⟩ : ByteArray)))) (fun hg7 => ?_) (fun hg7 => ?_)
                   ·skip
                    refine At.set (d := 114) (u := .bool true) rfl (congrArg Value.bool hg7) ?_
                    have hg7' := hg7; simp only [Bool.not_eq_true', Bool.not_eq_false', decide_eq_true_eq, decide_eq_false_iff_not] at hg7'
                    refine At.no rfl rfl rfl rfl rfl rfl rfl ?_
                    refine At.no rfl rfl rfl rfl rfl rfl rfl ?_
                    refine At.no rfl rfl rfl rfl rfl rfl rfl ?_
                    refine At.no rfl rfl rfl rfl rfl rfl rfl ?_
                    refine At.yes rfl rfl rfl rfl ?_
                    refine At.pickT rfl rfl rfl ?_
                    refine At.pickT rfl rfl rfl ?_
                    refine At.move rfl rfl ?_
                    refine At.no rfl rfl rfl rfl rfl rfl rfl ?_
                    refine At.no rfl rfl rfl rfl rfl rfl rfl ?_
                    refine At.no rfl rfl rfl rfl rfl rfl rfl ?_
                    refine At.noU rfl rfl rfl rfl rfl rfl ?_
                    refine At.noU rfl rfl rfl rfl rfl rfl ?_
                    refine At.noU rfl rfl rfl rfl rfl rfl ?_
                    refine At.noU rfl rfl rfl rfl rfl rfl ?_
                    refine At.noU rfl rfl rfl rfl rfl rfl ?_
                    refine At.noU rfl rfl rfl rfl rfl rfl ?_
                    refine At.noU rfl rfl rfl rfl rfl rfl ?_
                    refine At.noU rfl rfl rfl rfl rfl rfl ?_
                    refine At.noU rfl rfl rfl rfl rfl rfl ?_
                    refine At.noU rfl rfl rfl rfl rfl rfl ?_
                    refine At.noU rfl rfl rfl rfl rfl rfl ?_
                    refine At.no rfl rfl rfl rfl rfl rfl rfl ?_
                    refine At.pickT rfl rfl rfl ?_
                    refine At.ops0 ?_
                    refine At.thenN ?_
                    refine At.condT rfl ?_
                    refine At.seq ?_
                    refine At.region ?_
                    refine At.assign rfl rfl ?_
                    refine At.ops0 ?_
                    refine At.thenN ?_
                    refine At.retc ?_
                    refine At.inR ?_
                    refine At.thenR ?_
                    refine At.thenR ?_
                    refine At.inR ?_
                    refine At.thenR ?_
                    refine At.inR ?_
                    refine At.thenR ?_
                    refine At.doneR (ResV.tmp rfl ResV.nil) ?_
                    have hno : hdFrom 0 t.arms = false := by rw [← hd, hdFrom_step hu1, (show hdNo i u1 = true by first | (simp only [hdNo, ← nms_one, hc1, hc2, hc3, hc4, hc5, hc6, hc7, hc8, hc9, hc10, hc11, hc12, hc13, hc14, hg5, hc15, hc16, hg6, hg7, Bool.true_or, Bool.or_true, Bool.false_or, Bool.or_false, Bool.true_and, Bool.and_true, Bool.false_and, Bool.and_false, Bool.not_true, Bool.not_false, cond_true, cond_false]; done) | (simp [hdNo, ← nms_one, hc1, hc2, hc3, hc4, hc5, hc6, hc7, hc8, hc9, hc10, hc11, hc12, hc13, hc14, hg5, hc15, hc16, hg6, hg7]; done) | (simp_all [hdNo, ← nms_one]; done))]; rfl
                    exact ⟨congrArg Ending.returned (congrArg Value.bool (by simp only [aloneB, hc1, hc2, hc3, hc4, hc5, hc6, hc7, hc8, hc9, hc10, hc11, hc12, hc13, hc14, cond_true, cond_false, hno, Bool.and_false])), hB⟩
                   ·skip
                    refine At.set (d := 114) (u := .bool false) rfl (congrArg Value.bool hg7) ?_
                    have hg7' := hg7; simp only [Bool.not_eq_true', Bool.not_eq_false', decide_eq_true_eq, decide_eq_false_iff_not] at hg7'
                    refine At.yes rfl rfl rfl rfl ?_
                    refine At.fieldAddr rfl fo48_1 rfl ?_
                    refine At.yes rfl rfl rfl rfl ?_
                    refine At.load rfl (Ld.ownCell ag27 hb2 (((ht).arm hu1)).c1) rfl ?_
                    refine At.yes rfl rfl rfl rfl ?_
                    refine At.lenSl rfl ((((ht).arm hu1)).varsAt).ok el27 rfl ?_
                    refine At.yes rfl rfl rfl rfl ?_
                    refine At.neI rfl rfl rfl ?_
                    refine At.yes rfl rfl rfl rfl ?_
                    refine At.pickF rfl rfl rfl ?_
                    refine At.pickT rfl rfl rfl ?_
                    refine At.move rfl rfl ?_
                    refine At.cases ((!decide ((u1.vars.length : Int) = 1))) (fun hg8 => ?_) (fun hg8 => ?_)
                    ·skip
                     refine At.set (d := 121) (u := .bool true) rfl (congrArg Value.bool hg8) ?_
                     have hg8' := hg8; simp only [Bool.not_eq_true', Bool.not_eq_false', decide_eq_true_eq, decide_eq_false_iff_not] at hg8'
                     refine At.no rfl rfl rfl rfl rfl rfl rfl ?_
                     refine At.no rfl rfl rfl rfl rfl rfl rfl ?_
                     refine At.no rfl rfl rfl rfl rfl rfl rfl ?_
                     refine At.noU rfl rfl rfl rfl rfl rfl ?_
                     refine At.noU rfl rfl rfl rfl rfl rfl ?_
                     refine At.noU rfl rfl rfl rfl rfl rfl ?_
                     refine At.noU rfl rfl rfl rfl rfl rfl ?_
                     refine At.noU rfl rfl rfl rfl rfl rfl ?_
                     refine At.noU rfl rfl rfl rfl rfl rfl ?_
                     refine At.noU rfl rfl rfl rfl rfl rfl ?_
                     refine At.noU rfl rfl rfl rfl rfl rfl ?_
                     refine At.noU rfl rfl rfl rfl rfl rfl ?_
                     refine At.noU rfl rfl rfl rfl rfl rfl ?_
                     refine At.noU rfl rfl rfl rfl rfl rfl ?_
                     refine At.no rfl rfl rfl rfl rfl rfl rfl ?_
                     refine At.pickT rfl rfl rfl ?_
                     refine At.ops0 ?_
                     refine At.thenN ?_
                     refine At.condT rfl ?_
                     refine At.seq ?_
                     refine At.region ?_
                     refine At.assign rfl rfl ?_
                     refine At.ops0 ?_
                     refine At.thenN ?_
                     refine At.retc ?_
                     refine At.inR ?_
                     refine At.thenR ?_
                     refine At.thenR ?_
                     refine At.inR ?_
                     refine At.thenR ?_
                     refine At.inR ?_
                     refine At.thenR ?_
                     refine At.doneR (ResV.tmp rfl ResV.nil) ?_
                     have hno : hdFrom 0 t.arms = false := by rw [← hd, hdFrom_step hu1, (show hdNo i u1 = true by first | (simp only [hdNo, ← nms_one, hc1, hc2, hc3, hc4, hc5, hc6, hc7, hc8, hc9, hc10, hc11, hc12, hc13, hc14, hg5, hc15, hc16, hg6, hg7, hg8, Bool.true_or, Bool.or_true, Bool.false_or, Bool.or_false, Bool.true_and, Bool.and_true, Bool.false_and, Bool.and_false, Bool.not_true, Bool.not_false, cond_true, cond_false]; done) | (simp [hdNo, ← nms_one, hc1, hc2, hc3, hc4, hc5, hc6, hc7, hc8, hc9, hc10, hc11, hc12, hc13, hc14, hg5, hc15, hc16, hg6, hg7, hg8]; done) | (simp_all [hdNo, ← nms_one]; done))]; rfl
                     exact ⟨congrArg Ending.returned (congrArg Value.bool (by simp only [aloneB, hc1, hc2, hc3, hc4, hc5, hc6, hc7, hc8, hc9, hc10, hc11, hc12, hc13, hc14, cond_true, cond_false, hno, Bool.and_false])), hB⟩
                    ·skip
                     refine At.set (d := 121) (u := .bool false) rfl (congrArg Value.bool hg8) ?_
                     have hg8' := hg8; simp only [Bool.not_eq_true', Bool.not_eq_false', decide_eq_true_eq, decide_eq_false_iff_not] at hg8'
                     refine At.yes rfl rfl rfl rfl ?_
                     refine At.move rfl rfl ?_
                     refine At.yes rfl rfl rfl rfl ?_
                     refine At.gtr rfl rfl rfl ?_
                     refine At.yes rfl rfl rfl rfl ?_
                     refine At.move rfl rfl ?_
                     refine At.cases (decide (0 < (i : Int))) (fun hg9 => ?_) (fun hg9 => ?_)
                     ·skip
                      refine At.set (d := 124) (u := .bool true) rfl (congrArg Value.bool hg9) ?_
                      have hg9' := of_decide_eq_true hg9
                      refine At.yes rfl rfl rfl rfl ?_
                      refine At.fieldAddr rfl fo48_0 rfl ?_
                      refine At.yes rfl rfl rfl rfl ?_
                      refine At.load rfl (Ld.ownCell ag9 hb2 (((ht).arm hu1)).c0) rfl ?_
                      refine At.yes rfl rfl rfl rfl ?_
                      refine At.buildSlice (xs := [.tmp 126]) rfl rfl el27 sz9 ze9 (by intro v hv; simp only [List.mem_cons, List.not_mem_nil, or_false] at hv; rcases hv with rfl <;> first | rfl | simp [Value.cells, Value.cells]) rfl (by decide) rfl (fun b3 w22 F3 => ?_)
                      have n_b2_b3 : b2 ≠ b3 := Nat.ne_of_lt (F3.lt hb2)
                      have gb3 := F3.ge hB
                      replace hb2 := F3.old hb2
                      have hb3 : w22.heap[b3]? = some (.cells #[.string u1.nm] 9) := F3.new
                      replace hB := F3.below' hB
                      refine At.yes rfl rfl rfl rfl ?_
                      refine At.call en27 rfl rfl (named_any 2 (.slice (some ⟨b3, 0, none⟩) 1 1) ([u1.nm]) m _ (StrsAt.own (ss := [u1.nm]) hb3 rfl (by decide) : StrsAt _ (.slice (some ⟨b3, 0, none⟩) 1 1) [u1.nm]) (by simp) ((fun s hs => by rw [List.mem_singleton] at hs; subst hs; exact hza1)) (cell_keep hm hB)) (fun e w23 hR => ?_)
                      obtain ⟨rfl, hbl17⟩ := hR
                      refine ⟨_, rfl, ?_⟩
                      replace hb2 := Below.old hbl17 hb2
                      replace hb3 := Below.old hbl17 hb3
                      replace hB := Below.andThen hB hbl17
                      refine At.yes rfl rfl rfl rfl ?_
                      refine At.not rfl rfl ?_
                      refine At.yes rfl rfl rfl rfl ?_
                      refine At.move rfl rfl ?_
                      refine At.cases ((!(nmsB 2 ([u1.nm])))) (fun hg10 => ?_) (fun hg10 => ?_)
                      ·skip
                       refine At.set (d := 130) (u := .bool true) rfl (congrArg Value.bool hg10) ?_
                       refine At.no rfl rfl rfl rfl rfl rfl rfl ?_
                       refine At.no rfl rfl rfl rfl rfl rfl rfl ?_
                       refine At.no rfl rfl rfl rfl rfl rfl rfl ?_
                       refine At.no rfl rfl rfl rfl rfl rfl rfl ?_
                       refine At.yes rfl rfl rfl rfl ?_
                       refine At.pickT rfl rfl rfl ?_
                       refine At.yes rfl rfl rfl rfl ?_
                       refine At.pickT rfl rfl rfl ?_
                       refine At.pickF rfl rfl rfl ?_
                       refine At.ops0 ?_
                       refine At.thenN ?_
                       refine At.condT rfl ?_
                       refine At.seq ?_
                       refine At.region ?_
                       refine At.assign rfl rfl ?_
                       refine At.ops0 ?_
                       refine At.thenN ?_
                       refine At.retc ?_
                       refine At.inR ?_
                       refine At.thenR ?_
                       refine At.thenR ?_
                       refine At.inR ?_
                       refine At.thenR ?_
                       refine At.inR ?_
                       refine At.thenR ?_
                       refine At.doneR (ResV.tmp rfl ResV.nil) ?_
                       have hno : hdFrom 0 t.arms = false := by rw [← hd, hdFrom_step hu1, (show hdNo i u1 = true by first | (simp only [hdNo, ← nms_one, hc1, hc2, hc3, hc4, hc5, hc6, hc7, hc8, hc9, hc10, hc11, hc12, hc13, hc14, hg5, hc15, hc16, hg6, hg7, hg8, hg9, hg10, Bool.true_or, Bool.or_true, Bool.false_or, Bool.or_false, Bool.true_and, Bool.and_true, Bool.false_and, Bool.and_false, Bool.not_true, Bool.not_false, cond_true, cond_false]; done) | (simp [hdNo, ← nms_one, hc1, hc2, hc3, hc4, hc5, hc6, hc7, hc8, hc9, hc10, hc11, hc12, hc13, hc14, hg5, hc15, hc16, hg6, hg7, hg8, hg9, hg10]; done) | (simp_all [hdNo, ← nms_one]; done))]; rfl
                       exact ⟨congrArg Ending.returned (congrArg Value.bool (by simp only [aloneB, hc1, hc2, hc3, hc4, hc5, hc6, hc7, hc8, hc9, hc10, hc11, hc12, hc13, hc14, cond_true, cond_false, hno, Bool.and_false])), hB⟩
                      ·skip
                       refine At.set (d := 130) (u := .bool false) rfl (congrArg Value.bool hg10) ?_
                       refine At.yes rfl rfl rfl rfl ?_
                       refine At.fieldAddr rfl fo48_1 rfl ?_
                       refine At.yes rfl rfl rfl rfl ?_
                       refine At.load rfl (Ld.ownCell ag27 hb2 (((ht).arm hu1)).c1) rfl ?_
                       refine At.yes rfl rfl rfl rfl ?_
                       refine At.lenSl rfl ((((ht).arm hu1)).varsAt).ok el27 rfl ?_
                       refine At.yes rfl rfl rfl rfl ?_
                       refine At.neI rfl rfl rfl ?_
                       refine At.yes rfl rfl rfl rfl ?_
                       refine At.pickF rfl rfl rfl ?_
                       refine At.yes rfl rfl rfl rfl ?_
                       refine At.pickT rfl rfl rfl ?_
                       refine At.pickF rfl rfl rfl ?_
                       refine At.ops0 ?_
                       refine At.thenN ?_
                       refine At.cond (b := (!decide ((u1.vars.length : Int) = 2))) rfl (fun hc17 => ?_) (fun hc17 => ?_)
                       ·skip
                        have hc17' := hc17; simp only [Bool.not_eq_true', Bool.not_eq_false', decide_eq_true_eq, decide_eq_false_iff_not] at hc17'
                        refine At.seq ?_
                        refine At.region ?_
                        refine At.assign rfl rfl ?_
                        refine At.ops0 ?_
                        refine At.thenN ?_
                        refine At.retc ?_
                        refine At.inR ?_
                        refine At.thenR ?_
                        refine At.thenR ?_
                        refine At.inR ?_
                        refine At.thenR ?_
                        refine At.inR ?_
                        refine At.thenR ?_
                        refine At.doneR (ResV.tmp rfl ResV.nil) ?_
                        have hno : hdFrom 0 t.arms = false := by rw [← hd, hdFrom_step hu1, (show hdNo i u1 = true by first | (simp only [hdNo, ← nms_one, hc1, hc2, hc3, hc4, hc5, hc6, hc7, hc8, hc9, hc10, hc11, hc12, hc13, hc14, hg5, hc15, hc16, hg6, hg7, hg8, hg9, hg10, hc17, Bool.true_or, Bool.or_true, Bool.false_or, Bool.or_false, Bool.true_and, Bool.and_true, Bool.false_and, Bool.and_false, Bool.not_true, Bool.not_false, cond_true, cond_false]; done) | (simp [hdNo, ← nms_one, hc1, hc2, hc3, hc4, hc5, hc6, hc7, hc8, hc9, hc10, hc11, hc12, hc13, hc14, hg5, hc15, hc16, hg6, hg7, hg8, hg9, hg10, hc17]; done) | (simp_all [hdNo, ← nms_one]; done))]; rfl
                        exact ⟨congrArg Ending.returned (congrArg Value.bool (by simp only [aloneB, hc1, hc2, hc3, hc4, hc5, hc6, hc7, hc8, hc9, hc10, hc11, hc12, hc13, hc14, cond_true, cond_false, hno, Bool.and_false])), hB⟩
                       ·skip
                        have hc17' := hc17; simp only [Bool.not_eq_true', Bool.not_eq_false', decide_eq_true_eq, decide_eq_false_iff_not] at hc17'
                        refine At.skip ?_
                        refine At.inN ?_
                        refine At.thenN ?_
                        refine At.region ?_
                        refine At.addI rfl rfl rfl (by omega) ?_
                        refine At.move rfl rfl ?_
                        refine At.ops0 ?_
                        refine At.thenN ?_
                        exact fun act_ hact_ => ⟨(i + 1), hact_.sub (Sub.cons rfl (Sub.cons rfl (Sub.cons rfl Sub.nil))), ⟨hB, (by omega), (by rw [← hd, hdFrom_step hu1, (show hdNo i u1 = false by first | (simp only [hdNo, ← nms_one, hc1, hc2, hc3, hc4, hc5, hc6, hc7, hc8, hc9, hc10, hc11, hc12, hc13, hc14, hg5, hc15, hc16, hg6, hg7, hg8, hg9, hg10, hc17, Bool.true_or, Bool.or_true, Bool.false_or, Bool.or_false, Bool.true_and, Bool.and_true, Bool.false_and, Bool.and_false, Bool.not_true, Bool.not_false, cond_true, cond_false]; done) | (simp [hdNo, ← nms_one, hc1, hc2, hc3, hc4, hc5, hc6, hc7, hc8, hc9, hc10, hc11, hc12, hc13, hc14, hg5, hc15, hc16, hg6, hg7, hg8, hg9, hg10, hc17]; done) | (simp_all [hdNo, ← nms_one]; done))]; rfl)⟩, by first | omega | (dsimp only; omega)⟩
                     ·skip
                      refine At.set (d := 124) (u := .bool false) rfl (congrArg Value.bool hg9) ?_
                      have hg9' := of_decide_eq_false hg9
                      refine At.no rfl rfl rfl rfl rfl rfl rfl ?_
                      refine At.no rfl rfl rfl rfl rfl rfl rfl ?_
                      refine At.no rfl rfl rfl rfl rfl rfl rfl ?_
                      refine At.no rfl rfl rfl rfl rfl rfl rfl ?_
                      refine At.no rfl rfl rfl rfl rfl rfl rfl ?_
                      refine At.no rfl rfl rfl rfl rfl rfl rfl ?_
                      refine At.noU rfl rfl rfl rfl rfl rfl ?_
                      refine At.noU rfl rfl rfl rfl rfl rfl ?_
                      refine At.noU rfl rfl rfl rfl rfl rfl ?_
                      refine At.noU rfl rfl rfl rfl rfl rfl ?_
                      refine At.no rfl rfl rfl rfl rfl rfl rfl ?_
                      refine At.yes rfl rfl rfl rfl ?_
                      refine At.pickF rfl rfl rfl ?_
                      refine At.pickF rfl rfl rfl ?_
                      refine At.ops0 ?_
                      refine At.thenN ?_
                      refine At.condF rfl ?_
                      refine At.skip ?_
                      refine At.inN ?_
                      refine At.thenN ?_
                      refine At.region ?_
                      refine At.addI rfl rfl rfl (by omega) ?_
                      refine At.move rfl rfl ?_
                      refine At.ops0 ?_
                      refine At.thenN ?_
                      exact fun act_ hact_ => ⟨(i + 1), hact_.sub (Sub.cons rfl (Sub.cons rfl (Sub.cons rfl Sub.nil))), ⟨hB, (by omega), (by rw [← hd, hdFrom_step hu1, (show hdNo i u1 = false by first | (simp only [hdNo, ← nms_one, hc1, hc2, hc3, hc4, hc5, hc6, hc7, hc8, hc9, hc10, hc11, hc12, hc13, hc14, hg5, hc15, hc16, hg6, hg7, hg8, hg9, Bool.true_or, Bool.or_true, Bool.false_or, Bool.or_false, Bool.true_and, Bool.and_true, Bool.false_and, Bool.and_false, Bool.not_true, Bool.not_false, cond_true, cond_false]; done) | (simp [hdNo, ← nms_one, hc1, hc2, hc3, hc4, hc5, hc6, hc7, hc8, hc9, hc10, hc11, hc12, hc13, hc14, hg5, hc15, hc16, hg6, hg7, hg8, hg9]; done) | (simp_all [hdNo, ← nms_one]; done))]; rfl)⟩, by first | omega | (dsimp only; omega)⟩
                  ·skip
                   refine At.set (d := 110) (u := .bool false) rfl (congrArg Value.bool hg6) ?_
                   have hg6' := of_decide_eq_false hg6
                   refine At.no rfl rfl rfl rfl rfl rfl rfl ?_
                   refine At.no rfl rfl rfl rfl rfl rfl rfl ?_
                   refine At.no rfl rfl rfl rfl rfl rfl rfl ?_
                   refine At.no rfl rfl rfl rfl rfl rfl rfl ?_
                   refine At.noU rfl rfl rfl rfl rfl rfl ?_
                   refine At.noU rfl rfl rfl rfl rfl rfl ?_
                   refine At.noU rfl rfl rfl rfl rfl rfl ?_
                   refine At.noU rfl rfl rfl rfl rfl rfl ?_
                   refine At.no rfl rfl rfl rfl rfl rfl rfl ?_
                   refine At.pickF rfl rfl rfl ?_
                   refine At.move rfl rfl ?_
                   refine At.yes rfl rfl rfl rfl ?_
                   refine At.move rfl rfl ?_
                   refine At.yes rfl rfl rfl rfl ?_
                   refine At.gtr rfl rfl rfl ?_
                   refine At.yes rfl rfl rfl rfl ?_
                   refine At.move rfl rfl ?_
                   refine At.cases (decide (0 < (i : Int))) (fun hg11 => ?_) (fun hg11 => ?_)
                   ·skip
                    refine At.set (d := 124) (u := .bool true) rfl (congrArg Value.bool hg11) ?_
                    have hg11' := of_decide_eq_true hg11
                    refine At.yes rfl rfl rfl rfl ?_
                    refine At.fieldAddr rfl fo48_0 rfl ?_
                    refine At.yes rfl rfl rfl rfl ?_
                    refine At.load rfl (Ld.ownCell ag9 hb2 (((ht).arm hu1)).c0) rfl ?_
                    refine At.yes rfl rfl rfl rfl ?_
                    refine At.buildSlice (xs := [.tmp 126]) rfl rfl el27 sz9 ze9 (by intro v hv; simp only [List.mem_cons, List.not_mem_nil, or_false] at hv; rcases hv with rfl <;> first | rfl | simp [Value.cells, Value.cells]) rfl (by decide) rfl (fun b4 w24 F4 => ?_)
                    have n_b2_b4 : b2 ≠ b4 := Nat.ne_of_lt (F4.lt hb2)
                    have gb4 := F4.ge hB
                    replace hb2 := F4.old hb2
                    have hb4 : w24.heap[b4]? = some (.cells #[.string u1.nm] 9) := F4.new
                    replace hB := F4.below' hB
                    refine At.yes rfl rfl rfl rfl ?_
                    refine At.call en27 rfl rfl (named_any 2 (.slice (some ⟨b4, 0, none⟩) 1 1) ([u1.nm]) m _ (StrsAt.own (ss := [u1.nm]) hb4 rfl (by decide) : StrsAt _ (.slice (some ⟨b4, 0, none⟩) 1 1) [u1.nm]) (by simp) ((fun s hs => by rw [List.mem_singleton] at hs; subst hs; exact hza1)) (cell_keep hm hB)) (fun e w25 hR => ?_)
                    obtain ⟨rfl, hbl18⟩ := hR
                    refine ⟨_, rfl, ?_⟩
                    replace hb2 := Below.old hbl18 hb2
                    replace hb4 := Below.old hbl18 hb4
                    replace hB := Below.andThen hB hbl18
                    refine At.yes rfl rfl rfl rfl ?_
                    refine At.not rfl rfl ?_
                    refine At.yes rfl rfl rfl rfl ?_
                    refine At.move rfl rfl ?_
                    refine At.cases ((!(nmsB 2 ([u1.nm])))) (fun hg12 => ?_) (fun hg12 => ?_)
                    ·skip
                     refine At.set (d := 130) (u := .bool true) rfl (congrArg Value.bool hg12) ?_
                     refine At.no rfl rfl rfl rfl rfl rfl rfl ?_
                     refine At.no rfl rfl rfl rfl rfl rfl rfl ?_
                     refine At.no rfl rfl rfl rfl rfl rfl rfl ?_
                     refine At.no rfl rfl rfl rfl rfl rfl rfl ?_
                     refine At.yes rfl rfl rfl rfl ?_
                     refine At.pickT rfl rfl rfl ?_
                     refine At.yes rfl rfl rfl rfl ?_
                     refine At.pickT rfl rfl rfl ?_
                     refine At.pickF rfl rfl rfl ?_
                     refine At.ops0 ?_
                     refine At.thenN ?_
                     refine At.condT rfl ?_
                     refine At.seq ?_
                     refine At.region ?_
                     refine At.assign rfl rfl ?_
                     refine At.ops0 ?_
                     refine At.thenN ?_
                     refine At.retc ?_
                     refine At.inR ?_
                     refine At.thenR ?_
                     refine At.thenR ?_
                     refine At.inR ?_
                     refine At.thenR ?_
                     refine At.inR ?_
                     refine At.thenR ?_
                     refine At.doneR (ResV.tmp rfl ResV.nil) ?_
                     have hno : hdFrom 0 t.arms = false := by rw [← hd, hdFrom_step hu1, (show hdNo i u1 = true by first | (simp only [hdNo, ← nms_one, hc1, hc2, hc3, hc4, hc5, hc6, hc7, hc8, hc9, hc10, hc11, hc12, hc13, hc14, hg5, hc15, hc16, hg6, hg11, hg12, Bool.true_or, Bool.or_true, Bool.false_or, Bool.or_false, Bool.true_and, Bool.and_true, Bool.false_and, Bool.and_false, Bool.not_true, Bool.not_false, cond_true, cond_false]; done) | (simp [hdNo, ← nms_one, hc1, hc2, hc3, hc4, hc5, hc6, hc7, hc8, hc9, hc10, hc11, hc12, hc13, hc14, hg5, hc15, hc16, hg6, hg11, hg12]; done) | (simp_all [hdNo, ← nms_one]; done))]; rfl
                     exact ⟨congrArg Ending.returned (congrArg Value.bool (by simp only [aloneB, hc1, hc2, hc3, hc4, hc5, hc6, hc7, hc8, hc9, hc10, hc11, hc12, hc13, hc14, cond_true, cond_false, hno, Bool.and_false])), hB⟩
                    ·skip
                     refine At.set (d := 130) (u := .bool false) rfl (congrArg Value.bool hg12) ?_
                     refine At.yes rfl rfl rfl rfl ?_
                     refine At.fieldAddr rfl fo48_1 rfl ?_
                     refine At.yes rfl rfl rfl rfl ?_
                     refine At.load rfl (Ld.ownCell ag27 hb2 (((ht).arm hu1)).c1) rfl ?_
                     refine At.yes rfl rfl rfl rfl ?_
                     refine At.lenSl rfl ((((ht).arm hu1)).varsAt).ok el27 rfl ?_
                     refine At.yes rfl rfl rfl rfl ?_
                     refine At.neI rfl rfl rfl ?_
                     refine At.yes rfl rfl rfl rfl ?_
                     refine At.pickF rfl rfl rfl ?_
                     refine At.yes rfl rfl rfl rfl ?_
                     refine At.pickT rfl rfl rfl ?_
                     refine At.pickF rfl rfl rfl ?_
                     refine At.ops0 ?_
                     refine At.thenN ?_
                     refine At.cond (b := (!decide ((u1.vars.length : Int) = 2))) rfl (fun hc18 => ?_) (fun hc18 => ?_)
                     ·skip
                      have hc18' := hc18; simp only [Bool.not_eq_true', Bool.not_eq_false', decide_eq_true_eq, decide_eq_false_iff_not] at hc18'
                      refine At.seq ?_
                      refine At.region ?_
                      refine At.assign rfl rfl ?_
                      refine At.ops0 ?_
                      refine At.thenN ?_
                      refine At.retc ?_
                      refine At.inR ?_
                      refine At.thenR ?_
                      refine At.thenR ?_
                      refine At.inR ?_
                      refine At.thenR ?_
                      refine At.inR ?_
                      refine At.thenR ?_
                      refine At.doneR (ResV.tmp rfl ResV.nil) ?_
                      have hno : hdFrom 0 t.arms = false := by rw [← hd, hdFrom_step hu1, (show hdNo i u1 = true by first | (simp only [hdNo, ← nms_one, hc1, hc2, hc3, hc4, hc5, hc6, hc7, hc8, hc9, hc10, hc11, hc12, hc13, hc14, hg5, hc15, hc16, hg6, hg11, hg12, hc18, Bool.true_or, Bool.or_true, Bool.false_or, Bool.or_false, Bool.true_and, Bool.and_true, Bool.false_and, Bool.and_false, Bool.not_true, Bool.not_false, cond_true, cond_false]; done) | (simp [hdNo, ← nms_one, hc1, hc2, hc3, hc4, hc5, hc6, hc7, hc8, hc9, hc10, hc11, hc12, hc13, hc14, hg5, hc15, hc16, hg6, hg11, hg12, hc18]; done) | (simp_all [hdNo, ← nms_one]; done))]; rfl
                      exact ⟨congrArg Ending.returned (congrArg Value.bool (by simp only [aloneB, hc1, hc2, hc3, hc4, hc5, hc6, hc7, hc8, hc9, hc10, hc11, hc12, hc13, hc14, cond_true, cond_false, hno, Bool.and_false])), hB⟩
                     ·skip
                      have hc18' := hc18; simp only [Bool.not_eq_true', Bool.not_eq_false', decide_eq_true_eq, decide_eq_false_iff_not] at hc18'
                      refine At.skip ?_
                      refine At.inN ?_
                      refine At.thenN ?_
                      refine At.region ?_
                      refine At.addI rfl rfl rfl (by omega) ?_
                      refine At.move rfl rfl ?_
                      refine At.ops0 ?_
                      refine At.thenN ?_
                      exact fun act_ hact_ => ⟨(i + 1), hact_.sub (Sub.cons rfl (Sub.cons rfl (Sub.cons rfl Sub.nil))), ⟨hB, (by omega), (by rw [← hd, hdFrom_step hu1, (show hdNo i u1 = false by first | (simp only [hdNo, ← nms_one, hc1, hc2, hc3, hc4, hc5, hc6, hc7, hc8, hc9, hc10, hc11, hc12, hc13, hc14, hg5, hc15, hc16, hg6, hg11, hg12, hc18, Bool.true_or, Bool.or_true, Bool.false_or, Bool.or_false, Bool.true_and, Bool.and_true, Bool.false_and, Bool.and_false, Bool.not_true, Bool.not_false, cond_true, cond_false]; done) | (simp [hdNo, ← nms_one, hc1, hc2, hc3, hc4, hc5, hc6, hc7, hc8, hc9, hc10, hc11, hc12, hc13, hc14, hg5, hc15, hc16, hg6, hg11, hg12, hc18]; done) | (simp_all [hdNo, ← nms_one]; done))]; rfl)⟩, by first | omega | (dsimp only; omega)⟩
                   ·skip
                    refine At.set (d := 124) (u := .bool false) rfl (congrArg Value.bool hg11) ?_
                    have hg11' := of_decide_eq_false hg11
                    refine At.no rfl rfl rfl rfl rfl rfl rfl ?_
                    refine At.no rfl rfl rfl rfl rfl rfl rfl ?_
                    refine At.no rfl rfl rfl rfl rfl rfl rfl ?_
                    refine At.no rfl rfl rfl rfl rfl rfl rfl ?_
                    refine At.no rfl rfl rfl rfl rfl rfl rfl ?_
                    refine At.no rfl rfl rfl rfl rfl rfl rfl ?_
                    refine At.noU rfl rfl rfl rfl rfl rfl ?_
                    refine At.noU rfl rfl rfl rfl rfl rfl ?_
                    refine At.noU rfl rfl rfl rfl rfl rfl ?_
                    refine At.noU rfl rfl rfl rfl rfl rfl ?_
                    refine At.no rfl rfl rfl rfl rfl rfl rfl ?_
                    refine At.yes rfl rfl rfl rfl ?_
                    refine At.pickF rfl rfl rfl ?_
                    refine At.pickF rfl rfl rfl ?_
                    refine At.ops0 ?_
                    refine At.thenN ?_
                    refine At.condF rfl ?_
                    refine At.skip ?_
                    refine At.inN ?_
                    refine At.thenN ?_
                    refine At.region ?_
                    refine At.addI rfl rfl rfl (by omega) ?_
                    refine At.move rfl rfl ?_
                    refine At.ops0 ?_
                    refine At.thenN ?_
                    exact fun act_ hact_ => ⟨(i + 1), hact_.sub (Sub.cons rfl (Sub.cons rfl (Sub.cons rfl Sub.nil))), ⟨hB, (by omega), (by rw [← hd, hdFrom_step hu1, (show hdNo i u1 = false by first | (simp only [hdNo, ← nms_one, hc1, hc2, hc3, hc4, hc5, hc6, hc7, hc8, hc9, hc10, hc11, hc12, hc13, hc14, hg5, hc15, hc16, hg6, hg11, Bool.true_or, Bool.or_true, Bool.false_or, Bool.or_false, Bool.true_and, Bool.and_true, Bool.false_and, Bool.and_false, Bool.not_true, Bool.not_false, cond_true, cond_false]; done) | (simp [hdNo, ← nms_one, hc1, hc2, hc3, hc4, hc5, hc6, hc7, hc8, hc9, hc10, hc11, hc12, hc13, hc14, hg5, hc15, hc16, hg6, hg11]; done) | (simp_all [hdNo, ← nms_one]; done))]; rfl)⟩, by first | omega | (dsimp only; omega)⟩
                 ·skip
                  have hc16' := of_decide_eq_false hc16
                  refine At.exit ?_
                  refine At.thenE ?_
                  refine At.thenE ?_
                  refine At.inE ?_
                  refine At.thenN ?_
                  refine At.seq ?_
                  refine At.region ?_
                  refine At.assign rfl rfl ?_
                  refine At.ops0 ?_
                  refine At.thenN ?_
                  refine At.retc ?_
                  refine At.inR ?_
                  refine At.thenR ?_
                  refine At.doneR (ResV.tmp rfl ResV.nil) ?_
                  have hyes : hdFrom 0 t.arms = true := by rw [← hd, List.drop_eq_nil_of_le (by omega)]; rfl
                  exact ⟨congrArg Ending.returned (congrArg Value.bool (by first | (simp only [aloneB, hasT, hc1, hc2, hc3, hc4, hc5, hc6, hc7, hc8, hc9, hc10, hc11, hc12, hc13, hc14, hg5, hc15, hc16, hyes, Bool.true_or, Bool.or_true, Bool.false_or, Bool.or_false, Bool.true_and, Bool.and_true, Bool.false_and, Bool.and_false, Bool.not_true, Bool.not_false, cond_true, cond_false]; done) | (simp [aloneB, hasT, hc1, hc2, hc3, hc4, hc5, hc6, hc7, hc8, hc9, hc10, hc11, hc12, hc13, hc14, hg5, hc15, hc16, hyes]; done))), hB⟩
              ·skip
               have hc14' := of_decide_eq_false hc14
               refine At.skip ?_
               refine At.inN ?_
               refine At.thenN ?_
               refine At.seq ?_
               refine At.region ?_
               refine At.assign rfl rfl ?_
               refine At.ops0 ?_
               refine At.thenN ?_
               refine At.retc ?_
               refine At.doneR (ResV.tmp rfl ResV.nil) ?_
               exact ⟨congrArg Ending.returned (congrArg Value.bool (by first | (simp only [aloneB, hasT, hc1, hc2, hc3, hc4, hc5, hc6, hc7, hc8, hc9, hc10, hc11, hc12, hc13, hc14, Bool.true_or, Bool.or_true, Bool.false_or, Bool.or_false, Bool.true_and, Bool.and_true, Bool.false_and, Bool.and_false, Bool.not_true, Bool.not_false, cond_true, cond_false]; done) | (simp [aloneB, hasT, hc1, hc2, hc3, hc4, hc5, hc6, hc7, hc8, hc9, hc10, hc11, hc12, hc13, hc14]; done))), hB⟩
theorem right1_any (u : Tm) (m : Int) (w : World) (hu : TmOk w u) (hz : szT u) (hm : w.cell? ⟨0, 0, none⟩ = some (.int .i64 m)) (hih : ∀ (w : World), TmOk w u → szT u → w.cell? ⟨0, 0, none⟩ = some (.int .i64 m) → Calls Tryz.prog 59 ([.agg (u).cs] : List Value).toArray w fun e w' => e = .returned (.bool (rightB u)) ∧ Below w.heap.size w w') :
  Calls Tryz.prog 86 ([.agg u.cs] : List Value).toArray w fun e w' => e = .returned (.bool (!rightB u)) ∧ Below w.heap.size w w' := by
 have hB := Below.refl w.heap.size w
 refine At.enter (N := 6) Tryz.func86 rfl rfl (by simp) [(0, .agg u.cs)] (by simp) ?_
 refine At.seq ?_
 refine At.region ?_
 refine At.box rfl rfl (fun b1 w1 F1 => ?_)
 have gb1 := F1.ge hB
 have hb1 : w1.heap[b1]? = some (.cells u.cs 33) := F1.new
 replace hB := F1.below' hB
 refine At.assign rfl rfl ?_
 refine At.ops0 ?_
 refine At.thenN ?_
 refine At.seq ?_
 refine At.region ?_
 refine At.load rfl (Ld.own ag33 (sz33.trans (congrArg some (hu).size.symm)) hb1) rfl ?_
 refine At.call en59 rfl rfl (hih _ ((hu).keep hB) hz (cell_keep hm hB)) (fun e w2 hR => ?_)
 obtain ⟨rfl, hbl1⟩ := hR
 refine ⟨_, rfl, ?_⟩
 replace hb1 := Below.old hbl1 hb1
 replace hB := Below.andThen hB hbl1
 refine At.not rfl rfl ?_
 refine At.assign rfl rfl ?_
 refine At.ops0 ?_
 refine At.thenN ?_
 refine At.retc ?_
 refine At.doneR (ResV.tmp rfl ResV.nil) ?_
 exact ⟨rfl, hB⟩
theorem right2_any (a : Am) (m : Int) (w : World) (ha : AmOk w a) (hz : a.nm.size ≤ 4194304 ∧ a.vars.length ≤ 4194304 ∧ (∀ s ∈ a.vars, s.size ≤ 4194304) ∧ szT a.body) (hm : w.cell? ⟨0, 0, none⟩ = some (.int .i64 m)) (hih : ∀ (w : World), TmOk w a.body → szT a.body → w.cell? ⟨0, 0, none⟩ = some (.int .i64 m) → Calls Tryz.prog 59 ([.agg (a.body).cs] : List Value).toArray w fun e w' => e = .returned (.bool (rightB a.body)) ∧ Below w.heap.size w w') :
  Calls Tryz.prog 88 ([.agg a.cs] : List Value).toArray w fun e w' => e = .returned (.bool ((!nmsB 2 a.vars) || (!rightB a.body))) ∧ Below w.heap.size w w' := by
 have hB := Below.refl w.heap.size w
 refine At.enter (N := 13) Tryz.func88 rfl rfl (by simp) [(0, .agg a.cs)] (by simp) ?_
 refine At.seq ?_
 refine At.region ?_
 refine At.box rfl rfl (fun b1 w1 F1 => ?_)
 have gb1 := F1.ge hB
 have hb1 : w1.heap[b1]? = some (.cells a.cs 48) := F1.new
 replace hB := F1.below' hB
 refine At.assign rfl rfl ?_
 refine At.ops0 ?_
 refine At.thenN ?_
 refine At.seq ?_
 refine At.region ?_
 refine At.fieldAddr rfl fo48_1 rfl ?_
 refine At.load rfl (Ld.ownCell ag27 hb1 (ha).c1) rfl ?_
 refine At.call en27 rfl rfl (named_any 2 a.vv a.vars m _ (((ha).varsAt).keep hB) (by omega) (hz.2.2.1) (cell_keep hm hB)) (fun e w2 hR => ?_)
 obtain ⟨rfl, hbl1⟩ := hR
 refine ⟨_, rfl, ?_⟩
 replace hb1 := Below.old hbl1 hb1
 replace hB := Below.andThen hB hbl1
 refine At.not rfl rfl ?_
 refine At.move rfl rfl ?_
 refine At.cases ((!(nmsB 2 a.vars))) (fun hg1 => ?_) (fun hg1 => ?_)
 ·skip
  refine At.set (d := 7) (u := .bool true) rfl (congrArg Value.bool hg1) ?_
  refine At.no rfl rfl rfl rfl rfl rfl rfl ?_
  refine At.no rfl rfl rfl rfl rfl rfl rfl ?_
  refine At.no rfl rfl rfl rfl rfl rfl rfl ?_
  refine At.no rfl rfl rfl rfl rfl rfl rfl ?_
  refine At.pickT rfl rfl rfl ?_
  refine At.assign rfl rfl ?_
  refine At.ops0 ?_
  refine At.thenN ?_
  refine At.retc ?_
  refine At.doneR (ResV.tmp rfl ResV.nil) ?_
  exact ⟨congrArg Ending.returned (congrArg Value.bool (by first | (simp only [hg1, Bool.true_or, Bool.or_true, Bool.false_or, Bool.or_false, Bool.true_and, Bool.and_true, Bool.false_and, Bool.and_false, Bool.not_true, Bool.not_false, cond_true, cond_false]; done) | (simp [hg1]; done))), hB⟩
 ·skip
  refine At.set (d := 7) (u := .bool false) rfl (congrArg Value.bool hg1) ?_
  refine At.yes rfl rfl rfl rfl ?_
  refine At.fieldAddr rfl fo48_2 rfl ?_
  refine At.yes rfl rfl rfl rfl ?_
  refine At.load rfl (Ld.ownPart ag33 (sz33.trans (congrArg some ((ha).body).size.symm)) hb1 (ha).bodyCs) rfl ?_
  refine At.yes rfl rfl rfl rfl ?_
  refine At.call en59 rfl rfl (hih _ (((ha).body).keep hB) hz.2.2.2 (cell_keep hm hB)) (fun e w3 hR => ?_)
  obtain ⟨rfl, hbl2⟩ := hR
  refine ⟨_, rfl, ?_⟩
  replace hb1 := Below.old hbl2 hb1
  replace hB := Below.andThen hB hbl2
  refine At.yes rfl rfl rfl rfl ?_
  refine At.not rfl rfl ?_
  refine At.pickF rfl rfl rfl ?_
  refine At.assign rfl rfl ?_
  refine At.ops0 ?_
  refine At.thenN ?_
  refine At.retc ?_
  refine At.doneR (ResV.tmp rfl ResV.nil) ?_
  exact ⟨congrArg Ending.returned (congrArg Value.bool (by first | (simp only [hg1, Bool.true_or, Bool.or_true, Bool.false_or, Bool.or_false, Bool.true_and, Bool.and_true, Bool.false_and, Bool.and_false, Bool.not_true, Bool.not_false, cond_true, cond_false]; done) | (simp [hg1]; done))), hB⟩
theorem right_step (t : Tm) (m : Int) (w : World) (ht : TmOk w t) (hz : szT t) (hm : w.cell? ⟨0, 0, none⟩ = some (.int .i64 m))
  (ih : ∀ (u : Tm), wtT u < wtT t → ∀ (w : World), TmOk w u → szT u → w.cell? ⟨0, 0, none⟩ = some (.int .i64 m) → Calls Tryz.prog 59 ([.agg u.cs] : List Value).toArray w fun e w' => e = .returned (.bool (rightB u)) ∧ Below w.heap.size w w') :
  Calls Tryz.prog 59 ([.agg t.cs] : List Value).toArray w fun e w' => e = .returned (.bool (rightB t)) ∧ Below w.heap.size w w' := by
 have hB := Below.refl w.heap.size w
 refine At.enter (N := 17) Tryz.func59 rfl rfl (by simp) [(0, .agg t.cs)] (by simp) ?_
 refine At.seq ?_
 refine At.region ?_
 refine At.box rfl rfl (fun b1 w1 F1 => ?_)
 have gb1 := F1.ge hB
 have hb1 : w1.heap[b1]? = some (.cells t.cs 33) := F1.new
 replace hB := F1.below' hB
 refine At.assign rfl rfl ?_
 refine At.ops0 ?_
 refine At.thenN ?_
 refine At.seq ?_
 refine At.region ?_
 refine At.load rfl (Ld.own ag33 (sz33.trans (congrArg some (ht).size.symm)) hb1) rfl ?_
 refine At.call en84 rfl rfl (alone_any t m _ ((ht).keep hB) ((szT_eq t).1 hz).1 ((szT_eq t).1 hz).2.1 (fun a ha => (sz_arm hz ha).1) (cell_keep hm hB)) (fun e w2 hR => ?_)
 obtain ⟨rfl, hbl1⟩ := hR
 refine ⟨_, rfl, ?_⟩
 replace hb1 := Below.old hbl1 hb1
 replace hB := Below.andThen hB hbl1
 refine At.move rfl rfl ?_
 refine At.cases ((aloneB t)) (fun hg1 => ?_) (fun hg1 => ?_)
 ·skip
  refine At.set (d := 5) (u := .bool true) rfl (congrArg Value.bool hg1) ?_
  refine At.yes rfl rfl rfl rfl ?_
  refine At.fieldAddr rfl fo33_5 rfl ?_
  refine At.yes rfl rfl rfl rfl ?_
  refine At.load rfl (Ld.ownCell ag24 hb1 (ht).c5) rfl ?_
  refine At.yes rfl rfl rfl rfl ?_
  refine At.call en85 rfl rfl (containsF_Tm t.kv t.kids 86 [] (fun u => !rightB u) _ (((ht).kidsAt).keep hB) (fun u hu => ((ht).kids u hu).keep hB) en86 (by have := ht.kidsAt.lenL; omega) (fun u w1 hw hu => right1_any u m w1 (((ht.kids u hu).keep hB).keep hw) (sz_kid hz hu) (cell_keep (cell_keep hm hB) hw) (ih u (by have := wt_kid hu; omega)))) (fun e w3 hR => ?_)
  obtain ⟨rfl, hbl2⟩ := hR
  refine ⟨_, rfl, ?_⟩
  replace hb1 := Below.old hbl2 hb1
  replace hB := Below.andThen hB hbl2
  refine At.yes rfl rfl rfl rfl ?_
  refine At.not rfl rfl ?_
  refine At.pickT rfl rfl rfl ?_
  refine At.move rfl rfl ?_
  refine At.cases ((!(t.kids.any (fun u => !rightB u)))) (fun hg2 => ?_) (fun hg2 => ?_)
  ·skip
   refine At.set (d := 11) (u := .bool true) rfl (congrArg Value.bool hg2) ?_
   refine At.yes rfl rfl rfl rfl ?_
   refine At.fieldAddr rfl fo33_6 rfl ?_
   refine At.yes rfl rfl rfl rfl ?_
   refine At.load rfl (Ld.ownCell ag25 hb1 (ht).c6) rfl ?_
   refine At.yes rfl rfl rfl rfl ?_
   refine At.call en87 rfl rfl (containsF_Am t.av t.arms 88 [] (fun a => (!nmsB 2 a.vars) || (!rightB a.body)) _ (((ht).armsAt).keep hB) (fun u hu => ((ht).arms u hu).keep hB) en88 (by have := ht.armsAt.lenL; omega) (fun u w1 hw hu => right2_any u m w1 (((ht.arms u hu).keep hB).keep hw) (sz_arm hz hu) (cell_keep (cell_keep hm hB) hw) (ih u.body (by have := wt_arm hu; omega)))) (fun e w4 hR => ?_)
   obtain ⟨rfl, hbl3⟩ := hR
   refine ⟨_, rfl, ?_⟩
   replace hb1 := Below.old hbl3 hb1
   replace hB := Below.andThen hB hbl3
   refine At.yes rfl rfl rfl rfl ?_
   refine At.not rfl rfl ?_
   refine At.pickT rfl rfl rfl ?_
   refine At.assign rfl rfl ?_
   refine At.ops0 ?_
   refine At.thenN ?_
   refine At.retc ?_
   refine At.doneR (ResV.tmp rfl ResV.nil) ?_
   exact ⟨congrArg Ending.returned (congrArg Value.bool (by rw [right_eq]; simp only [hg1, hg2, Bool.true_or, Bool.or_true, Bool.false_or, Bool.or_false, Bool.true_and, Bool.and_true, Bool.false_and, Bool.and_false, Bool.not_true, Bool.not_false, cond_true, cond_false])), hB⟩
  ·skip
   refine At.set (d := 11) (u := .bool false) rfl (congrArg Value.bool hg2) ?_
   refine At.no rfl rfl rfl rfl rfl rfl rfl ?_
   refine At.no rfl rfl rfl rfl rfl rfl rfl ?_
   refine At.no rfl rfl rfl rfl rfl rfl rfl ?_
   refine At.no rfl rfl rfl rfl rfl rfl rfl ?_
   refine At.pickF rfl rfl rfl ?_
   refine At.assign rfl rfl ?_
   refine At.ops0 ?_
   refine At.thenN ?_
   refine At.retc ?_
   refine At.doneR (ResV.tmp rfl ResV.nil) ?_
   exact ⟨congrArg Ending.returned (congrArg Value.bool (by rw [right_eq]; simp only [hg1, hg2, Bool.true_or, Bool.or_true, Bool.false_or, Bool.or_false, Bool.true_and, Bool.and_true, Bool.false_and, Bool.and_false, Bool.not_true, Bool.not_false, cond_true, cond_false])), hB⟩
 ·skip
  refine At.set (d := 5) (u := .bool false) rfl (congrArg Value.bool hg1) ?_
  refine At.no rfl rfl rfl rfl rfl rfl rfl ?_
  refine At.no rfl rfl rfl rfl rfl rfl rfl ?_
  refine At.no rfl rfl rfl rfl rfl rfl rfl ?_
  refine At.no rfl rfl rfl rfl rfl rfl rfl ?_
  refine At.pickF rfl rfl rfl ?_
  refine At.move rfl rfl ?_
  refine At.no rfl rfl rfl rfl rfl rfl rfl ?_
  refine At.no rfl rfl rfl rfl rfl rfl rfl ?_
  refine At.no rfl rfl rfl rfl rfl rfl rfl ?_
  refine At.no rfl rfl rfl rfl rfl rfl rfl ?_
  refine At.pickF rfl rfl rfl ?_
  refine At.assign rfl rfl ?_
  refine At.ops0 ?_
  refine At.thenN ?_
  refine At.retc ?_
  refine At.doneR (ResV.tmp rfl ResV.nil) ?_
  exact ⟨congrArg Ending.returned (congrArg Value.bool (by rw [right_eq]; simp only [hg1, Bool.true_or, Bool.or_true, Bool.false_or, Bool.or_false, Bool.true_and, Bool.and_true, Bool.false_and, Bool.and_false, Bool.not_true, Bool.not_false, cond_true, cond_false])), hB⟩
theorem right_any (t : Tm) (m : Int) (w : World) (ht : TmOk w t) (hz : szT t) (hm : w.cell? ⟨0, 0, none⟩ = some (.int .i64 m)) : Calls Tryz.prog 59 ([.agg t.cs] : List Value).toArray w fun e w' => e = .returned (.bool (rightB t)) ∧ Below w.heap.size w w' := by
 have key : ∀ (n : Nat) (t : Tm), wtT t = n → ∀ (w : World), TmOk w t → szT t → w.cell? ⟨0, 0, none⟩ = some (.int .i64 m) → Calls Tryz.prog 59 ([.agg t.cs] : List Value).toArray w fun e w' => e = .returned (.bool (rightB t)) ∧ Below w.heap.size w w' := by
  intro n
  induction n using Nat.strongRecOn with
  | _ n ih => intro t hn w h hz hm; exact right_step t m w h hz hm (fun u hu => ih (wtT u) (hn ▸ hu) u rfl)
 exact key _ t rfl w ht hz hm
theorem depth_step (t : Tm) (left : Nat) (w : World) (ht : TmOk w t) (h1 : 1 ≤ left) (h2 : left ≤ 1000)
  (ih : ∀ (u : Tm), wtT u < wtT t → ∀ (left : Nat) (w : World), TmOk w u → 1 ≤ left → left ≤ 1000 → Calls Tryz.prog 65 ([.agg u.cs, .int .i64 (left : Int)] : List Value).toArray w fun e w' => e = .returned (.int .i64 ((min (dpT u) left : Nat) : Int)) ∧ Below w.heap.size w w') :
  Calls Tryz.prog 65 ([.agg t.cs, .int .i64 (left : Int)] : List Value).toArray w fun e w' => e = .returned (.int .i64 ((min (dpT t) left : Nat) : Int)) ∧ Below w.heap.size w w' := by
 have hB := Below.refl w.heap.size w
 refine At.enter (N := 44) Tryz.func65 rfl rfl (by simp) [(0, .agg t.cs), (1, .int .i64 (left : Int))] (by simp) ?_
 refine At.seq ?_
 refine At.region ?_
 refine At.box rfl rfl (fun b1 w1 F1 => ?_)
 have gb1 := F1.ge hB
 have hb1 : w1.heap[b1]? = some (.cells t.cs 33) := F1.new
 replace hB := F1.below' hB
 refine At.assign rfl rfl ?_
 refine At.ops0 ?_
 refine At.thenN ?_
 refine At.seq ?_
 refine At.seq ?_
 refine At.region ?_
 refine At.move rfl rfl ?_
 refine At.leq rfl rfl rfl ?_
 refine At.ops0 ?_
 refine At.thenN ?_
 refine At.cond (b := decide ((left : Int) ≤ 1)) rfl (fun hc1 => ?_) (fun hc1 => ?_)
 ·skip
  have hc1' := of_decide_eq_true hc1
  refine At.seq ?_
  refine At.region ?_
  refine At.move rfl rfl ?_
  refine At.assign rfl rfl ?_
  refine At.ops0 ?_
  refine At.thenN ?_
  refine At.retc ?_
  refine At.thenR ?_
  refine At.doneR (ResV.tmp rfl ResV.nil) ?_
  exact ⟨congrArg Ending.returned (congrArg (Value.int .i64) (by rw [dpT_eq]; omega)), hB⟩
 ·skip
  have hc1' := of_decide_eq_false hc1
  refine At.skip ?_
  refine At.thenN ?_
  refine At.seq ?_
  refine At.region ?_
  refine At.assign rfl rfl ?_
  refine At.ops0 ?_
  refine At.thenN ?_
  refine At.seq ?_
  refine At.seq ?_
  refine At.region ?_
  refine At.fieldAddr rfl fo33_5 rfl ?_
  refine At.load rfl (Ld.ownCell ag24 hb1 (ht).c5) rfl ?_
  refine At.lenSl rfl ((ht).kidsAt).okL el24 rfl ?_
  refine At.move rfl rfl ?_
  refine At.ops0 ?_
  refine At.thenN ?_
  refine At.block ?_
  refine At.loop (Nat × Nat) (fun (k, n) => [(1, .int .i64 (left : Int)), (2, .pointer (some ⟨b1, 0, none⟩)), (5, .int .i64 (n : Int)), (14, t.kv), (15, .int .i64 (t.kids.length : Int)), (16, .int .i64 (k : Int))]) (fun (k, n) w2 => Below w.heap.size w w2 ∧ w2.heap[b1]? = some (.cells t.cs 33) ∧ (k ≤ t.kids.length) ∧ (n = min (dpL (t.kids.take k)) (left - 1))) (fun (k, n) => t.kids.length - k) (0, 0) (Sub.cons rfl (Sub.cons rfl (Sub.cons rfl (Sub.cons rfl (Sub.cons rfl (Sub.cons rfl Sub.nil)))))) ⟨hB, hb1, (Nat.zero_le _), (by simp [dpL])⟩ (fun gh w2 hI => ?_)
  obtain ⟨k, n⟩ := gh
  clear hB hb1
  obtain ⟨hB, hb1, hkb, hnk⟩ := hI
  show At _ _ [(1, .int .i64 (left : Int)), (2, .pointer (some ⟨b1, 0, none⟩)), (5, .int .i64 (n : Int)), (14, t.kv), (15, .int .i64 (t.kids.length : Int)), (16, .int .i64 (k : Int))] _ _
  have hkl := ht.kidsAt.lenL
  refine At.seq ?_
  refine At.region ?_
  refine At.lss rfl rfl rfl ?_
  refine At.ops0 ?_
  refine At.thenN ?_
  refine At.seq ?_
  refine At.cond (b := decide ((k : Int) < (t.kids.length : Int))) rfl (fun hc2 => ?_) (fun hc2 => ?_)
  ·skip
   have hc2' := of_decide_eq_true hc2
   refine At.skip ?_
   refine At.thenN ?_
   refine At.seq ?_
   refine At.block ?_
   refine At.seq ?_
   obtain ⟨u1, hu1⟩ := some_of_lt (l := t.kids) (i := k) (by omega)
   refine At.region ?_
   refine At.indexAddr (i := k) rfl rfl ((ht).kidsAt).okL (lt_of_some hu1) el24 sz33 rfl ?_
   refine At.load rfl (Ld.row ag33 (sz33.trans (congrArg some (((ht).kid hu1)).size.symm)) ((((ht).kidsAt).row hu1).keep hB)) rfl ?_
   refine At.alloc ze33 rfl (fun b2 w3 F2 => ?_)
   have n_b1_b2 : b1 ≠ b2 := Nat.ne_of_lt (F2.lt hb1)
   have gb2 := F2.ge hB
   replace hb1 := F2.old hb1
   have hb2 : w3.heap[b2]? = some (.cells #[.int .i64 0, .int .i64 0, .string (⟨#[]⟩ : ByteArray), .string (⟨#[]⟩ : ByteArray), .int .i64 0, (.slice none 0 0), (.slice none 0 0), .int .i64 0, .string (⟨#[]⟩ : ByteArray), .int .i64 0, (.slice none 0 0), (.slice none 0 0), .int .i64 0, (.slice none 0 0), .int .i64 0, .int .i64 0, .string (⟨#[]⟩ : ByteArray), .int .i64 0, (.slice none 0 0), (.slice none 0 0), .int .i64 0] 33) := F2.new
   replace hB := F2.below' hB
   refine At.storeAll rfl rfl hb2 (sz33.trans (congrArg some (((ht).kid hu1)).size.symm)) (((ht).kid hu1)).size.symm (((ht).kid hu1)).one (fun w4 S1 => ?_)
   replace hb1 := S1.other hb1 n_b1_b2
   replace hb2 : w4.heap[b2]? = some (.cells u1.cs 33) := S1.new
   replace hB := S1.below' hB gb2
   refine At.ops0 ?_
   refine At.thenN ?_
   refine At.region ?_
   refine At.move rfl rfl ?_
   refine At.load rfl (Ld.own ag33 (sz33.trans (congrArg some (((ht).kid hu1)).size.symm)) hb2) rfl ?_
   refine At.move rfl rfl ?_
   refine At.subI rfl rfl rfl (by omega) ?_
   refine At.set (d := 23) (u := .int .i64 (((left - 1) : Nat) : Int)) rfl (congrArg (Value.int .i64) (by omega)) ?_
   refine At.call en65 rfl rfl (ih u1 (by have := wt_kid (List.mem_of_getElem? hu1); omega) (left - 1) _ ((((ht).kid hu1)).keep hB) (by omega) (by omega)) (fun e w5 hR => ?_)
   obtain ⟨rfl, hbl1⟩ := hR
   refine ⟨_, rfl, ?_⟩
   replace hb1 := Below.old hbl1 hb1
   replace hb2 := Below.old hbl1 hb2
   replace hB := Below.andThen hB hbl1
   refine At.maxI rfl rfl rfl ?_
   refine At.set (d := 25) (u := .int .i64 (((max n (min (dpT u1) (left - 1))) : Nat) : Int)) rfl (congrArg (Value.int .i64) (max_lit _ _)) ?_
   refine At.assign rfl rfl ?_
   refine At.ops0 ?_
   refine At.inN ?_
   refine At.thenN ?_
   refine At.region ?_
   refine At.addI rfl rfl rfl (by omega) ?_
   refine At.move rfl rfl ?_
   refine At.ops0 ?_
   refine At.thenN ?_
   exact fun act_ hact_ => ⟨((k + 1), (max n (min (dpT u1) (left - 1)))), hact_.sub (Sub.cons rfl (Sub.cons rfl (Sub.cons rfl (Sub.cons rfl (Sub.cons rfl (Sub.cons rfl Sub.nil)))))), ⟨hB, hb1, (by omega), (by rw [take_snoc hu1, dpL_snoc, hnk]; omega)⟩, by first | omega | (dsimp only; omega)⟩
  ·skip
   have hc2' := of_decide_eq_false hc2
   refine At.exit ?_
   refine At.thenE ?_
   refine At.thenE ?_
   refine At.inE ?_
   refine At.thenN ?_
   refine At.seq ?_
   refine At.seq ?_
   refine At.region ?_
   refine At.fieldAddr rfl fo33_6 rfl ?_
   refine At.load rfl (Ld.ownCell ag25 hb1 (ht).c6) rfl ?_
   refine At.lenSl rfl ((ht).armsAt).okL el25 rfl ?_
   refine At.move rfl rfl ?_
   refine At.ops0 ?_
   refine At.thenN ?_
   refine At.block ?_
   refine At.loop (Nat × Nat) (fun (j, q) => [(1, .int .i64 (left : Int)), (5, .int .i64 (q : Int)), (28, t.av), (29, .int .i64 (t.arms.length : Int)), (30, .int .i64 (j : Int))]) (fun (j, q) w6 => Below w.heap.size w w6 ∧ (j ≤ t.arms.length) ∧ (q = min (max (dpL t.kids) (dpA (t.arms.take j))) (left - 1))) (fun (j, q) => t.arms.length - j) (0, n) (Sub.cons rfl (Sub.cons rfl (Sub.cons rfl (Sub.cons rfl (Sub.cons rfl Sub.nil))))) ⟨hB, (Nat.zero_le _), (by rw [List.take_of_length_le (by omega)] at hnk; simp [dpA, hnk])⟩ (fun gh w6 hI => ?_)
   obtain ⟨j, q⟩ := gh
   clear hB hb1
   obtain ⟨hB, hjb, hqj⟩ := hI
   show At _ _ [(1, .int .i64 (left : Int)), (5, .int .i64 (q : Int)), (28, t.av), (29, .int .i64 (t.arms.length : Int)), (30, .int .i64 (j : Int))] _ _
   have hal := ht.armsAt.lenL
   refine At.seq ?_
   refine At.region ?_
   refine At.lss rfl rfl rfl ?_
   refine At.ops0 ?_
   refine At.thenN ?_
   refine At.seq ?_
   refine At.cond (b := decide ((j : Int) < (t.arms.length : Int))) rfl (fun hc3 => ?_) (fun hc3 => ?_)
   ·skip
    have hc3' := of_decide_eq_true hc3
    refine At.skip ?_
    refine At.thenN ?_
    refine At.seq ?_
    refine At.block ?_
    refine At.seq ?_
    obtain ⟨u2, hu2⟩ := some_of_lt (l := t.arms) (i := j) (by omega)
    refine At.region ?_
    refine At.indexAddr (i := j) rfl rfl ((ht).armsAt).okL (lt_of_some hu2) el25 sz48 rfl ?_
    refine At.load rfl (Ld.row ag48 (sz48.trans (congrArg some (((ht).arm hu2)).size.symm)) ((((ht).armsAt).row hu2).keep hB)) rfl ?_
    refine At.alloc ze48 rfl (fun b3 w7 F3 => ?_)
    have gb3 := F3.ge hB
    have hb3 : w7.heap[b3]? = some (.cells #[.string (⟨#[]⟩ : ByteArray), (.slice none 0 0), .int .i64 0, .int .i64 0, .string (⟨#[]⟩ : ByteArray), .string (⟨#[]⟩ : ByteArray), .int .i64 0, (.slice none 0 0), (.slice none 0 0), .int .i64 0, .string (⟨#[]⟩ : ByteArray), .int .i64 0, (.slice none 0 0), (.slice none 0 0), .int .i64 0, (.slice none 0 0), .int .i64 0, .int .i64 0, .string (⟨#[]⟩ : ByteArray), .int .i64 0, (.slice none 0 0), (.slice none 0 0), .int .i64 0] 48) := F3.new
    replace hB := F3.below' hB
    refine At.storeAll rfl rfl hb3 (sz48.trans (congrArg some (((ht).arm hu2)).size.symm)) (((ht).arm hu2)).size.symm (((ht).arm hu2)).one (fun w8 S2 => ?_)
    replace hb3 : w8.heap[b3]? = some (.cells u2.cs 48) := S2.new
    replace hB := S2.below' hB gb3
    refine At.ops0 ?_
    refine At.thenN ?_
    refine At.region ?_
    refine At.move rfl rfl ?_
    refine At.fieldAddr rfl fo48_2 rfl ?_
    refine At.load rfl (Ld.ownPart ag33 (sz33.trans (congrArg some ((((ht).arm hu2)).body).size.symm)) hb3 (((ht).arm hu2)).bodyCs) rfl ?_
    refine At.move rfl rfl ?_
    refine At.subI rfl rfl rfl (by omega) ?_
    refine At.set (d := 38) (u := .int .i64 (((left - 1) : Nat) : Int)) rfl (congrArg (Value.int .i64) (by omega)) ?_
    refine At.call en65 rfl rfl (ih u2.body (by have := wt_arm (List.mem_of_getElem? hu2); omega) (left - 1) _ (((((ht).arm hu2)).body).keep hB) (by omega) (by omega)) (fun e w9 hR => ?_)
    obtain ⟨rfl, hbl2⟩ := hR
    refine ⟨_, rfl, ?_⟩
    replace hb3 := Below.old hbl2 hb3
    replace hB := Below.andThen hB hbl2
    refine At.maxI rfl rfl rfl ?_
    refine At.set (d := 40) (u := .int .i64 (((max q (min (dpT u2.body) (left - 1))) : Nat) : Int)) rfl (congrArg (Value.int .i64) (max_lit _ _)) ?_
    refine At.assign rfl rfl ?_
    refine At.ops0 ?_
    refine At.inN ?_
    refine At.thenN ?_
    refine At.region ?_
    refine At.addI rfl rfl rfl (by omega) ?_
    refine At.move rfl rfl ?_
    refine At.ops0 ?_
    refine At.thenN ?_
    exact fun act_ hact_ => ⟨((j + 1), (max q (min (dpT u2.body) (left - 1)))), hact_.sub (Sub.cons rfl (Sub.cons rfl (Sub.cons rfl (Sub.cons rfl (Sub.cons rfl Sub.nil))))), ⟨hB, (by omega), (by rw [take_snoc hu2, dpA_snoc, hqj]; omega)⟩, by first | omega | (dsimp only; omega)⟩
   ·skip
    have hc3' := of_decide_eq_false hc3
    refine At.exit ?_
    refine At.thenE ?_
    refine At.thenE ?_
    refine At.inE ?_
    refine At.thenN ?_
    refine At.seq ?_
    refine At.region ?_
    refine At.move rfl rfl ?_
    refine At.addI rfl rfl rfl (by omega) ?_
    refine At.assign rfl rfl ?_
    refine At.ops0 ?_
    refine At.thenN ?_
    refine At.retc ?_
    refine At.doneR (ResV.tmp rfl ResV.nil) ?_
    rw [List.take_of_length_le (by omega)] at hqj
    exact ⟨congrArg Ending.returned (congrArg (Value.int .i64) (by rw [dpT_eq, hqj]; omega)), hB⟩
theorem depth_any (t : Tm) (left : Nat) (w : World) (ht : TmOk w t) (h1 : 1 ≤ left) (h2 : left ≤ 1000) : Calls Tryz.prog 65 ([.agg t.cs, .int .i64 (left : Int)] : List Value).toArray w fun e w' => e = .returned (.int .i64 ((min (dpT t) left : Nat) : Int)) ∧ Below w.heap.size w w' := by
 have key : ∀ (n : Nat) (t : Tm), wtT t = n → ∀ (left : Nat) (w : World), TmOk w t → 1 ≤ left → left ≤ 1000 → Calls Tryz.prog 65 ([.agg t.cs, .int .i64 (left : Int)] : List Value).toArray w fun e w' => e = .returned (.int .i64 ((min (dpT t) left : Nat) : Int)) ∧ Below w.heap.size w w' := by
  intro n
  induction n using Nat.strongRecOn with
  | _ n ih => intro t hn left w h h1 h2; exact depth_step t left w h h1 h2 (fun u hu => ih (wtT u) (hn ▸ hu) u rfl)
 exact key _ t rfl left w ht h1 h2
theorem refDepth_step (t : Tm) (left : Nat) (w : World) (ht : TmOk w t) (h1 : 1 ≤ left) (h2 : left ≤ 1000)
  (ih : ∀ (u : Tm), wtT u < wtT t → ∀ (left : Nat) (w : World), TmOk w u → 1 ≤ left → left ≤ 1000 → Calls Tryz.prog 45 ([.agg u.cs, .int .i64 (left : Int)] : List Value).toArray w fun e w' => e = .returned (.int .i64 ((min (dpT u) left : Nat) : Int)) ∧ Below w.heap.size w w') :
  Calls Tryz.prog 45 ([.agg t.cs, .int .i64 (left : Int)] : List Value).toArray w fun e w' => e = .returned (.int .i64 ((min (dpT t) left : Nat) : Int)) ∧ Below w.heap.size w w' := by
 have hB := Below.refl w.heap.size w
 refine At.enter (N := 52) Tryz.func45 rfl rfl (by simp) [(0, .agg t.cs), (1, .int .i64 (left : Int))] (by simp) ?_
 refine At.seq ?_
 refine At.region ?_
 refine At.box rfl rfl (fun b1 w1 F1 => ?_)
 have gb1 := F1.ge hB
 have hb1 : w1.heap[b1]? = some (.cells t.cs 33) := F1.new
 replace hB := F1.below' hB
 refine At.assign rfl rfl ?_
 refine At.ops0 ?_
 refine At.thenN ?_
 refine At.seq ?_
 refine At.seq ?_
 refine At.region ?_
 refine At.move rfl rfl ?_
 refine At.leq rfl rfl rfl ?_
 refine At.ops0 ?_
 refine At.thenN ?_
 refine At.cond (b := decide ((left : Int) ≤ 1)) rfl (fun hc1 => ?_) (fun hc1 => ?_)
 ·skip
  have hc1' := of_decide_eq_true hc1
  refine At.seq ?_
  refine At.region ?_
  refine At.move rfl rfl ?_
  refine At.assign rfl rfl ?_
  refine At.ops0 ?_
  refine At.thenN ?_
  refine At.retc ?_
  refine At.thenR ?_
  refine At.doneR (ResV.tmp rfl ResV.nil) ?_
  exact ⟨congrArg Ending.returned (congrArg (Value.int .i64) (by rw [dpT_eq]; omega)), hB⟩
 ·skip
  have hc1' := of_decide_eq_false hc1
  refine At.skip ?_
  refine At.thenN ?_
  refine At.seq ?_
  refine At.region ?_
  refine At.assign rfl rfl ?_
  refine At.ops0 ?_
  refine At.thenN ?_
  refine At.seq ?_
  refine At.seq ?_
  refine At.region ?_
  refine At.assign rfl rfl ?_
  refine At.ops0 ?_
  refine At.thenN ?_
  refine At.block ?_
  refine At.loop (Nat × Nat) (fun (k, n) => [(1, .int .i64 (left : Int)), (2, .pointer (some ⟨b1, 0, none⟩)), (5, .int .i64 (n : Int)), (6, .int .i64 (k : Int))]) (fun (k, n) w2 => Below w.heap.size w w2 ∧ w2.heap[b1]? = some (.cells t.cs 33) ∧ (k ≤ t.kids.length) ∧ (n = min (dpL (t.kids.take k)) (left - 1))) (fun (k, n) => t.kids.length - k) (0, 0) (Sub.cons rfl (Sub.cons rfl (Sub.cons rfl (Sub.cons rfl Sub.nil)))) ⟨hB, hb1, (Nat.zero_le _), (by simp [dpL])⟩ (fun gh w2 hI => ?_)
  obtain ⟨k, n⟩ := gh
  clear hB hb1
  obtain ⟨hB, hb1, hkb, hnk⟩ := hI
  show At _ _ [(1, .int .i64 (left : Int)), (2, .pointer (some ⟨b1, 0, none⟩)), (5, .int .i64 (n : Int)), (6, .int .i64 (k : Int))] _ _
  have hkl := ht.kidsAt.lenL
  refine At.seq ?_
  refine At.seq ?_
  refine At.region ?_
  refine At.move rfl rfl ?_
  refine At.fieldAddr rfl fo33_5 rfl ?_
  refine At.load rfl (Ld.ownCell ag24 hb1 (ht).c5) rfl ?_
  refine At.lenSl rfl ((ht).kidsAt).okL el24 rfl ?_
  refine At.lss rfl rfl rfl ?_
  refine At.ops0 ?_
  refine At.thenN ?_
  refine At.cond (b := decide ((k : Int) < (t.kids.length : Int))) rfl (fun hc2 => ?_) (fun hc2 => ?_)
  ·skip
   have hc2' := of_decide_eq_true hc2
   refine At.skip ?_
   refine At.thenN ?_
   refine At.seq ?_
   refine At.block ?_
   refine At.seq ?_
   obtain ⟨u1, hu1⟩ := some_of_lt (l := t.kids) (i := k) (by omega)
   refine At.region ?_
   refine At.fieldAddr rfl fo33_5 rfl ?_
   refine At.load rfl (Ld.ownCell ag24 hb1 (ht).c5) rfl ?_
   refine At.move rfl rfl ?_
   refine At.indexAddr (i := k) rfl rfl ((ht).kidsAt).okL (lt_of_some hu1) el24 sz33 rfl ?_
   refine At.load rfl (Ld.row ag33 (sz33.trans (congrArg some (((ht).kid hu1)).size.symm)) ((((ht).kidsAt).row hu1).keep hB)) rfl ?_
   refine At.move rfl rfl ?_
   refine At.subI rfl rfl rfl (by omega) ?_
   refine At.set (d := 26) (u := .int .i64 (((left - 1) : Nat) : Int)) rfl (congrArg (Value.int .i64) (by omega)) ?_
   refine At.call en45 rfl rfl (ih u1 (by have := wt_kid (List.mem_of_getElem? hu1); omega) (left - 1) _ ((((ht).kid hu1)).keep hB) (by omega) (by omega)) (fun e w3 hR => ?_)
   obtain ⟨rfl, hbl1⟩ := hR
   refine ⟨_, rfl, ?_⟩
   replace hb1 := Below.old hbl1 hb1
   replace hB := Below.andThen hB hbl1
   refine At.assign rfl rfl ?_
   refine At.ops0 ?_
   refine At.thenN ?_
   refine At.region ?_
   refine At.move rfl rfl ?_
   refine At.move rfl rfl ?_
   refine At.maxI rfl rfl rfl ?_
   refine At.set (d := 30) (u := .int .i64 (((max n (min (dpT u1) (left - 1))) : Nat) : Int)) rfl (congrArg (Value.int .i64) (max_lit _ _)) ?_
   refine At.assign rfl rfl ?_
   refine At.ops0 ?_
   refine At.inN ?_
   refine At.thenN ?_
   refine At.region ?_
   refine At.move rfl rfl ?_
   refine At.addI rfl rfl rfl (by omega) ?_
   refine At.assign rfl rfl ?_
   refine At.ops0 ?_
   refine At.thenN ?_
   exact fun act_ hact_ => ⟨((k + 1), (max n (min (dpT u1) (left - 1)))), hact_.sub (Sub.cons rfl (Sub.cons rfl (Sub.cons rfl (Sub.cons rfl Sub.nil)))), ⟨hB, hb1, (by omega), (by rw [take_snoc hu1, dpL_snoc, hnk]; omega)⟩, by first | omega | (dsimp only; omega)⟩
  ·skip
   have hc2' := of_decide_eq_false hc2
   refine At.exit ?_
   refine At.thenE ?_
   refine At.thenE ?_
   refine At.inE ?_
   refine At.thenN ?_
   refine At.seq ?_
   refine At.seq ?_
   refine At.region ?_
   refine At.assign rfl rfl ?_
   refine At.ops0 ?_
   refine At.thenN ?_
   refine At.block ?_
   refine At.loop (Nat × Nat) (fun (j, q) => [(1, .int .i64 (left : Int)), (2, .pointer (some ⟨b1, 0, none⟩)), (5, .int .i64 (q : Int)), (8, .int .i64 (j : Int))]) (fun (j, q) w4 => Below w.heap.size w w4 ∧ w4.heap[b1]? = some (.cells t.cs 33) ∧ (j ≤ t.arms.length) ∧ (q = min (max (dpL t.kids) (dpA (t.arms.take j))) (left - 1))) (fun (j, q) => t.arms.length - j) (0, n) (Sub.cons rfl (Sub.cons rfl (Sub.cons rfl (Sub.cons rfl Sub.nil)))) ⟨hB, hb1, (Nat.zero_le _), (by rw [List.take_of_length_le (by omega)] at hnk; simp [dpA, hnk])⟩ (fun gh w4 hI => ?_)
   obtain ⟨j, q⟩ := gh
   clear hB hb1
   obtain ⟨hB, hb1, hjb, hqj⟩ := hI
   show At _ _ [(1, .int .i64 (left : Int)), (2, .pointer (some ⟨b1, 0, none⟩)), (5, .int .i64 (q : Int)), (8, .int .i64 (j : Int))] _ _
   have hal := ht.armsAt.lenL
   refine At.seq ?_
   refine At.seq ?_
   refine At.region ?_
   refine At.move rfl rfl ?_
   refine At.fieldAddr rfl fo33_6 rfl ?_
   refine At.load rfl (Ld.ownCell ag25 hb1 (ht).c6) rfl ?_
   refine At.lenSl rfl ((ht).armsAt).okL el25 rfl ?_
   refine At.lss rfl rfl rfl ?_
   refine At.ops0 ?_
   refine At.thenN ?_
   refine At.cond (b := decide ((j : Int) < (t.arms.length : Int))) rfl (fun hc3 => ?_) (fun hc3 => ?_)
   ·skip
    have hc3' := of_decide_eq_true hc3
    refine At.skip ?_
    refine At.thenN ?_
    refine At.seq ?_
    refine At.block ?_
    refine At.seq ?_
    obtain ⟨u2, hu2⟩ := some_of_lt (l := t.arms) (i := j) (by omega)
    refine At.region ?_
    refine At.fieldAddr rfl fo33_6 rfl ?_
    refine At.load rfl (Ld.ownCell ag25 hb1 (ht).c6) rfl ?_
    refine At.move rfl rfl ?_
    refine At.indexAddr (i := j) rfl rfl ((ht).armsAt).okL (lt_of_some hu2) el25 sz48 rfl ?_
    refine At.fieldAddr rfl fo48_2 rfl ?_
    refine At.load rfl (Ld.row ag33 (sz33.trans (congrArg some ((((ht).arm hu2)).body).size.symm)) (((((ht).armsAt).row hu2).part 2 (((ht).arm hu2)).bodyCs).keep hB)) rfl ?_
    refine At.move rfl rfl ?_
    refine At.subI rfl rfl rfl (by omega) ?_
    refine At.set (d := 45) (u := .int .i64 (((left - 1) : Nat) : Int)) rfl (congrArg (Value.int .i64) (by omega)) ?_
    refine At.call en45 rfl rfl (ih u2.body (by have := wt_arm (List.mem_of_getElem? hu2); omega) (left - 1) _ (((((ht).arm hu2)).body).keep hB) (by omega) (by omega)) (fun e w5 hR => ?_)
    obtain ⟨rfl, hbl2⟩ := hR
    refine ⟨_, rfl, ?_⟩
    replace hb1 := Below.old hbl2 hb1
    replace hB := Below.andThen hB hbl2
    refine At.assign rfl rfl ?_
    refine At.ops0 ?_
    refine At.thenN ?_
    refine At.region ?_
    refine At.move rfl rfl ?_
    refine At.move rfl rfl ?_
    refine At.maxI rfl rfl rfl ?_
    refine At.set (d := 49) (u := .int .i64 (((max q (min (dpT u2.body) (left - 1))) : Nat) : Int)) rfl (congrArg (Value.int .i64) (max_lit _ _)) ?_
    refine At.assign rfl rfl ?_
    refine At.ops0 ?_
    refine At.inN ?_
    refine At.thenN ?_
    refine At.region ?_
    refine At.move rfl rfl ?_
    refine At.addI rfl rfl rfl (by omega) ?_
    refine At.assign rfl rfl ?_
    refine At.ops0 ?_
    refine At.thenN ?_
    exact fun act_ hact_ => ⟨((j + 1), (max q (min (dpT u2.body) (left - 1)))), hact_.sub (Sub.cons rfl (Sub.cons rfl (Sub.cons rfl (Sub.cons rfl Sub.nil)))), ⟨hB, hb1, (by omega), (by rw [take_snoc hu2, dpA_snoc, hqj]; omega)⟩, by first | omega | (dsimp only; omega)⟩
   ·skip
    have hc3' := of_decide_eq_false hc3
    refine At.exit ?_
    refine At.thenE ?_
    refine At.thenE ?_
    refine At.inE ?_
    refine At.thenN ?_
    refine At.seq ?_
    refine At.region ?_
    refine At.move rfl rfl ?_
    refine At.addI rfl rfl rfl (by omega) ?_
    refine At.assign rfl rfl ?_
    refine At.ops0 ?_
    refine At.thenN ?_
    refine At.retc ?_
    refine At.doneR (ResV.tmp rfl ResV.nil) ?_
    rw [List.take_of_length_le (by omega)] at hqj
    exact ⟨congrArg Ending.returned (congrArg (Value.int .i64) (by rw [dpT_eq, hqj]; omega)), hB⟩
theorem refDepth_any (t : Tm) (left : Nat) (w : World) (ht : TmOk w t) (h1 : 1 ≤ left) (h2 : left ≤ 1000) : Calls Tryz.prog 45 ([.agg t.cs, .int .i64 (left : Int)] : List Value).toArray w fun e w' => e = .returned (.int .i64 ((min (dpT t) left : Nat) : Int)) ∧ Below w.heap.size w w' := by
 have key : ∀ (n : Nat) (t : Tm), wtT t = n → ∀ (left : Nat) (w : World), TmOk w t → 1 ≤ left → left ≤ 1000 → Calls Tryz.prog 45 ([.agg t.cs, .int .i64 (left : Int)] : List Value).toArray w fun e w' => e = .returned (.int .i64 ((min (dpT t) left : Nat) : Int)) ∧ Below w.heap.size w w' := by
  intro n
  induction n using Nat.strongRecOn with
  | _ n ih => intro t hn left w h h1 h2; exact refDepth_step t left w h h1 h2 (fun u hu => ih (wtT u) (hn ▸ hu) u rfl)
 exact key _ t rfl left w ht h1 h2
theorem Depth_any (t : Tm) (w : World) (ht : TmOk w t) :
  Calls Tryz.prog 32 ([.agg t.cs] : List Value).toArray w fun e w' => e = .returned (.int .i64 ((min (dpT t) 1000 : Nat) : Int)) ∧ Below w.heap.size w w' := by
 have hB := Below.refl w.heap.size w
 refine At.enter (N := 5) Tryz.func32 rfl rfl (by simp) [(0, .agg t.cs)] (by simp) ?_
 refine At.seq ?_
 refine At.region ?_
 refine At.box rfl rfl (fun b1 w1 F1 => ?_)
 have gb1 := F1.ge hB
 have hb1 : w1.heap[b1]? = some (.cells t.cs 33) := F1.new
 replace hB := F1.below' hB
 refine At.assign rfl rfl ?_
 refine At.ops0 ?_
 refine At.thenN ?_
 refine At.seq ?_
 refine At.region ?_
 refine At.load rfl (Ld.own ag33 (sz33.trans (congrArg some (ht).size.symm)) hb1) rfl ?_
 refine At.call en65 rfl rfl (depth_any t 1000 _ ((ht).keep hB) (by decide) (by decide)) (fun e w2 hR => ?_)
 obtain ⟨rfl, hbl1⟩ := hR
 refine ⟨_, rfl, ?_⟩
 replace hb1 := Below.old hbl1 hb1
 replace hB := Below.andThen hB hbl1
 refine At.assign rfl rfl ?_
 refine At.ops0 ?_
 refine At.thenN ?_
 refine At.retc ?_
 refine At.doneR (ResV.tmp rfl ResV.nil) ?_
 exact ⟨rfl, hB⟩
theorem RefDepth_any (t : Tm) (w : World) (ht : TmOk w t) :
  Calls Tryz.prog 18 ([.agg t.cs] : List Value).toArray w fun e w' => e = .returned (.int .i64 ((min (dpT t) 1000 : Nat) : Int)) ∧ Below w.heap.size w w' := by
 have hB := Below.refl w.heap.size w
 refine At.enter (N := 5) Tryz.func18 rfl rfl (by simp) [(0, .agg t.cs)] (by simp) ?_
 refine At.seq ?_
 refine At.region ?_
 refine At.box rfl rfl (fun b1 w1 F1 => ?_)
 have gb1 := F1.ge hB
 have hb1 : w1.heap[b1]? = some (.cells t.cs 33) := F1.new
 replace hB := F1.below' hB
 refine At.assign rfl rfl ?_
 refine At.ops0 ?_
 refine At.thenN ?_
 refine At.seq ?_
 refine At.region ?_
 refine At.load rfl (Ld.own ag33 (sz33.trans (congrArg some (ht).size.symm)) hb1) rfl ?_
 refine At.call en45 rfl rfl (refDepth_any t 1000 _ ((ht).keep hB) (by decide) (by decide)) (fun e w2 hR => ?_)
 obtain ⟨rfl, hbl1⟩ := hR
 refine ⟨_, rfl, ?_⟩
 replace hb1 := Below.old hbl1 hb1
 replace hB := Below.andThen hB hbl1
 refine At.assign rfl rfl ?_
 refine At.ops0 ?_
 refine At.thenN ?_
 refine At.retc ?_
 refine At.doneR (ResV.tmp rfl ResV.nil) ?_
 exact ⟨rfl, hB⟩
theorem written_any (t : Tm) (m : Int) (w : World) (ht : TmOk w t) (hz : szT t) (hm : w.cell? ⟨0, 0, none⟩ = some (.int .i64 m)) :
  Calls Tryz.prog 29 ([.agg t.cs] : List Value).toArray w fun e w' => e = .returned (.bool (writtenB t)) ∧ Below w.heap.size w w' := by
 have hB := Below.refl w.heap.size w
 refine At.enter (N := 10) Tryz.func29 rfl rfl (by simp) [(0, .agg t.cs)] (by simp) ?_
 refine At.seq ?_
 refine At.region ?_
 refine At.box rfl rfl (fun b1 w1 F1 => ?_)
 have gb1 := F1.ge hB
 have hb1 : w1.heap[b1]? = some (.cells t.cs 33) := F1.new
 replace hB := F1.below' hB
 refine At.assign rfl rfl ?_
 refine At.ops0 ?_
 refine At.thenN ?_
 refine At.seq ?_
 refine At.region ?_
 refine At.load rfl (Ld.own ag33 (sz33.trans (congrArg some (ht).size.symm)) hb1) rfl ?_
 refine At.call en32 rfl rfl (Depth_any t _ ((ht).keep hB)) (fun e w2 hR => ?_)
 obtain ⟨rfl, hbl1⟩ := hR
 refine ⟨_, rfl, ?_⟩
 replace hb1 := Below.old hbl1 hb1
 replace hB := Below.andThen hB hbl1
 refine At.leq rfl rfl rfl ?_
 refine At.move rfl rfl ?_
 refine At.cases (decide (((min (dpT t) 1000 : Nat) : Int) ≤ 200)) (fun hg1 => ?_) (fun hg1 => ?_)
 ·skip
  refine At.set (d := 6) (u := .bool true) rfl (congrArg Value.bool hg1) ?_
  have hg1' := of_decide_eq_true hg1
  refine At.yes rfl rfl rfl rfl ?_
  refine At.load rfl (Ld.own ag33 (sz33.trans (congrArg some (ht).size.symm)) hb1) rfl ?_
  refine At.yes rfl rfl rfl rfl ?_
  refine At.call en59 rfl rfl (right_any t m _ ((ht).keep hB) hz (cell_keep hm hB)) (fun e w3 hR => ?_)
  obtain ⟨rfl, hbl2⟩ := hR
  refine ⟨_, rfl, ?_⟩
  replace hb1 := Below.old hbl2 hb1
  replace hB := Below.andThen hB hbl2
  refine At.pickT rfl rfl rfl ?_
  refine At.assign rfl rfl ?_
  refine At.ops0 ?_
  refine At.thenN ?_
  refine At.retc ?_
  refine At.doneR (ResV.tmp rfl ResV.nil) ?_
  exact ⟨congrArg Ending.returned (congrArg Value.bool (by first | (simp only [writtenB, hg1, Bool.true_or, Bool.or_true, Bool.false_or, Bool.or_false, Bool.true_and, Bool.and_true, Bool.false_and, Bool.and_false, Bool.not_true, Bool.not_false, cond_true, cond_false]; done) | (simp [writtenB, hg1]; done))), hB⟩
 ·skip
  refine At.set (d := 6) (u := .bool false) rfl (congrArg Value.bool hg1) ?_
  have hg1' := of_decide_eq_false hg1
  refine At.no rfl rfl rfl rfl rfl rfl rfl ?_
  refine At.no rfl rfl rfl rfl rfl rfl rfl ?_
  refine At.pickF rfl rfl rfl ?_
  refine At.assign rfl rfl ?_
  refine At.ops0 ?_
  refine At.thenN ?_
  refine At.retc ?_
  refine At.doneR (ResV.tmp rfl ResV.nil) ?_
  exact ⟨congrArg Ending.returned (congrArg Value.bool (by first | (simp only [writtenB, hg1, Bool.true_or, Bool.or_true, Bool.false_or, Bool.or_false, Bool.true_and, Bool.and_true, Bool.false_and, Bool.and_false, Bool.not_true, Bool.not_false, cond_true, cond_false]; done) | (simp [writtenB, hg1]; done))), hB⟩
end Go.Proofs.YtkclecfbjfdfkaaGreatDoor
