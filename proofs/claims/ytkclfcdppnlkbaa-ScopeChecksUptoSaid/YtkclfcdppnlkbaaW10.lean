/-
  The walks of the reference's check, second part, and of ScopeChecks: what each call does, for every argument that lies so in memory. Written by a program of ours.
-/
import Derived.Test.YtkclfcdppnlkbaaW9
set_option linter.unusedVariables false
set_option linter.unusedSimpArgs false
namespace Go.Proofs.Ytkclfcdppnlkbaa
open Go.RowKit
theorem en13 : entB Try.prog 13 = true := by kernel_rfl
theorem en29 : entB Try.prog 29 = true := by kernel_rfl
theorem en30 : entB Try.prog 30 = true := by kernel_rfl
theorem en45 : entB Try.prog 45 = true := by kernel_rfl
theorem en46 : entB Try.prog 46 = true := by kernel_rfl
theorem en47 : entB Try.prog 47 = true := by kernel_rfl
theorem en48 : entB Try.prog 48 = true := by kernel_rfl
theorem en56 : entB Try.prog 56 = true := by kernel_rfl
theorem en57 : entB Try.prog 57 = true := by kernel_rfl
theorem en58 : entB Try.prog 58 = true := by kernel_rfl
theorem refOne_any (p : Pr) (t : Tm) (v : Value) (bound : List ByteArray) (w : World) (hp : PrOk w p) (hz : PrSz p) (ht : TmOk w t) (hv : StrsAt w v bound) (hl : bound.length + wtT t ≤ 4398046511104) :
    Calls Try.prog 46 ([.agg p.cs, .agg t.cs, v] : List Value).toArray w fun e w' => e = .returned (.bool (oneB p t bound)) ∧ Below w.heap.size w w' := by
  have hB := Below.refl w.heap.size w
  refine At.enter (N := 104) Try.func46 rfl rfl (by simp) [(0, .agg p.cs), (1, .agg t.cs), (2, v)] (by simp) ?_
  refine At.seq ?_
  refine At.region ?_
  refine At.box rfl rfl (fun b1 w1 F1 => ?_)
  have gb1 := F1.ge hB
  have hb1 : w1.heap[b1]? = some (.cells p.cs 35) := F1.new
  replace hB := F1.below' hB
  refine At.box rfl rfl (fun b2 w2 F2 => ?_)
  have n_b1_b2 : b1 ≠ b2 := Nat.ne_of_lt (F2.lt hb1)
  have gb2 := F2.ge hB
  replace hb1 := F2.old hb1
  have hb2 : w2.heap[b2]? = some (.cells t.cs 33) := F2.new
  replace hB := F2.below' hB
  refine At.assign rfl rfl ?_
  refine At.ops0 ?_
  refine At.thenN ?_
  refine At.seq ?_
  refine At.region ?_
  refine At.fieldAddr rfl fo33_0 rfl ?_
  refine At.load rfl (Ld.ownCell ag3 hb2 (ht).c0) rfl ?_
  refine At.call en56 rfl rfl (kids_any t.k _) (fun e w' hR => ?_)
  obtain ⟨rfl, rfl⟩ := hR
  refine ⟨_, rfl, ?_⟩
  refine At.assign rfl rfl ?_
  refine At.ops0 ?_
  refine At.thenN ?_
  refine At.seq ?_
  refine At.seq ?_
  refine At.region ?_
  refine At.move rfl rfl ?_
  refine At.fieldAddr rfl fo33_5 rfl ?_
  refine At.load rfl (Ld.ownCell ag24 hb2 (ht).c5) rfl ?_
  refine At.lenSl rfl ((ht).kidsAt).okL el24 rfl ?_
  refine At.neI rfl rfl rfl ?_
  refine At.move rfl rfl ?_
  refine At.cases ((!decide ((kidsN t.k) = (t.kids.length : Int)))) (fun hg1 => ?_) (fun hg1 => ?_)
  · skip
    refine At.set (d := 24) (u := .bool true) rfl (congrArg Value.bool hg1) ?_
    have hg1' := hg1; simp only [Bool.not_eq_true', Bool.not_eq_false', decide_eq_true_eq, decide_eq_false_iff_not] at hg1'
    refine At.yes rfl rfl rfl rfl ?_
    refine At.move rfl rfl ?_
    refine At.yes rfl rfl rfl rfl ?_
    refine At.neI rfl rfl rfl ?_
    refine At.pickT rfl rfl rfl ?_
    refine At.ops0 ?_
    refine At.thenN ?_
    refine At.cond (b := (!decide ((kidsN t.k) = (-1)))) rfl (fun hc1 => ?_) (fun hc1 => ?_)
    · skip
      have hc1' := hc1; simp only [Bool.not_eq_true', Bool.not_eq_false', decide_eq_true_eq, decide_eq_false_iff_not] at hc1'
      refine At.seq ?_
      refine At.region ?_
      refine At.assign rfl rfl ?_
      refine At.ops0 ?_
      refine At.thenN ?_
      refine At.retc ?_
      refine At.thenR ?_
      refine At.doneR (ResV.tmp rfl ResV.nil) ?_
      exact ⟨congrArg Ending.returned (congrArg Value.bool (Eq.symm ((oneR_eq p t bound).symm.trans (by simp only [oneR, hg1, hc1, Bool.true_or, Bool.or_true, Bool.false_or, Bool.or_false, Bool.false_and, Bool.true_and, Bool.and_true, Bool.and_false, Bool.not_true, Bool.not_false, if_true, if_false, Bool.false_eq_true])))), hB⟩
    · skip
      have hc1' := hc1; simp only [Bool.not_eq_true', Bool.not_eq_false', decide_eq_true_eq, decide_eq_false_iff_not] at hc1'
      refine At.skip ?_
      refine At.thenN ?_
      refine At.seq ?_
      refine At.seq ?_
      refine At.region ?_
      refine At.fieldAddr rfl fo33_0 rfl ?_
      refine At.load rfl (Ld.ownCell ag3 hb2 (ht).c0) rfl ?_
      refine At.ops0 ?_
      refine At.thenN ?_
      refine At.block ?_
      refine At.seq ?_
      refine At.region ?_
      refine At.eqI rfl rfl rfl ?_
      refine At.assign rfl rfl ?_
      refine At.ops0 ?_
      refine At.thenN ?_
      refine At.cond (b := decide (t.k = 14)) rfl (fun hc2 => ?_) (fun hc2 => ?_)
      · skip
        have hc2' := of_decide_eq_true hc2
        refine At.seq ?_
        refine At.region ?_
        refine At.load rfl (Ld.own ag35 (sz35.trans (congrArg some (hp).size.symm)) hb1) rfl ?_
        refine At.load rfl (Ld.own ag33 (sz33.trans (congrArg some (ht).size.symm)) hb2) rfl ?_
        refine At.call en57 rfl rfl (handles_any p t _ ((hp).keep hB) hz ((ht).keep hB)) (fun e w3 hR => ?_)
        obtain ⟨rfl, hbl1⟩ := hR
        refine ⟨_, rfl, ?_⟩
        replace hb1 := Below.old hbl1 hb1
        replace hb2 := Below.old hbl1 hb2
        replace hB := Below.andThen hB hbl1
        refine At.assign rfl rfl ?_
        refine At.ops0 ?_
        refine At.thenN ?_
        refine At.retc ?_
        refine At.inR ?_
        refine At.thenR ?_
        refine At.doneR (ResV.tmp rfl ResV.nil) ?_
        exact ⟨congrArg Ending.returned (congrArg Value.bool (Eq.symm ((oneR_eq p t bound).symm.trans (by simp only [oneR, hg1, hc1, hc2, Bool.true_or, Bool.or_true, Bool.false_or, Bool.or_false, Bool.false_and, Bool.true_and, Bool.and_true, Bool.and_false, Bool.not_true, Bool.not_false, if_true, if_false, Bool.false_eq_true])))), hB⟩
      · skip
        have hc2' := of_decide_eq_false hc2
        refine At.seq ?_
        refine At.region ?_
        refine At.eqI rfl rfl rfl ?_
        refine At.assign rfl rfl ?_
        refine At.ops0 ?_
        refine At.thenN ?_
        refine At.cond (b := decide (t.k = 12)) rfl (fun hc3 => ?_) (fun hc3 => ?_)
        · skip
          have hc3' := of_decide_eq_true hc3
          refine At.seq ?_
          refine At.region ?_
          refine At.load rfl (Ld.own ag35 (sz35.trans (congrArg some (hp).size.symm)) hb1) rfl ?_
          refine At.load rfl (Ld.own ag33 (sz33.trans (congrArg some (ht).size.symm)) hb2) rfl ?_
          refine At.call en58 rfl rfl (matches_any p t _ ((hp).keep hB) hz ((ht).keep hB) (fun a ha => by have := wt_arm ha; omega)) (fun e w4 hR => ?_)
          obtain ⟨rfl, hbl2⟩ := hR
          refine ⟨_, rfl, ?_⟩
          replace hb1 := Below.old hbl2 hb1
          replace hb2 := Below.old hbl2 hb2
          replace hB := Below.andThen hB hbl2
          refine At.assign rfl rfl ?_
          refine At.ops0 ?_
          refine At.thenN ?_
          refine At.retc ?_
          refine At.inR ?_
          refine At.thenR ?_
          refine At.doneR (ResV.tmp rfl ResV.nil) ?_
          exact ⟨congrArg Ending.returned (congrArg Value.bool (Eq.symm ((oneR_eq p t bound).symm.trans (by simp only [oneR, hg1, hc1, hc2, hc3, Bool.true_or, Bool.or_true, Bool.false_or, Bool.or_false, Bool.false_and, Bool.true_and, Bool.and_true, Bool.and_false, Bool.not_true, Bool.not_false, if_true, if_false, Bool.false_eq_true])))), hB⟩
        · skip
          have hc3' := of_decide_eq_false hc3
          refine At.skip ?_
          refine At.inN ?_
          refine At.thenN ?_
          refine At.seq ?_
          refine At.seq ?_
          refine At.region ?_
          refine At.fieldAddr rfl fo33_6 rfl ?_
          refine At.load rfl (Ld.ownCell ag25 hb2 (ht).c6) rfl ?_
          refine At.lenSl rfl ((ht).armsAt).okL el25 rfl ?_
          refine At.gtr rfl rfl rfl ?_
          refine At.ops0 ?_
          refine At.thenN ?_
          refine At.cond (b := decide (0 < (t.arms.length : Int))) rfl (fun hc4 => ?_) (fun hc4 => ?_)
          · skip
            have hc4' := of_decide_eq_true hc4
            refine At.seq ?_
            refine At.region ?_
            refine At.assign rfl rfl ?_
            refine At.ops0 ?_
            refine At.thenN ?_
            refine At.retc ?_
            refine At.thenR ?_
            refine At.doneR (ResV.tmp rfl ResV.nil) ?_
            exact ⟨congrArg Ending.returned (congrArg Value.bool (Eq.symm ((oneR_eq p t bound).symm.trans (by simp only [oneR, hg1, hc1, hc2, hc3, hc4, Bool.true_or, Bool.or_true, Bool.false_or, Bool.or_false, Bool.false_and, Bool.true_and, Bool.and_true, Bool.and_false, Bool.not_true, Bool.not_false, if_true, if_false, Bool.false_eq_true])))), hB⟩
          · skip
            have hc4' := of_decide_eq_false hc4
            refine At.skip ?_
            refine At.thenN ?_
            refine At.seq ?_
            refine At.seq ?_
            refine At.region ?_
            refine At.fieldAddr rfl fo33_0 rfl ?_
            refine At.load rfl (Ld.ownCell ag3 hb2 (ht).c0) rfl ?_
            refine At.ops0 ?_
            refine At.thenN ?_
            refine At.block ?_
            refine At.seq ?_
            refine At.region ?_
            refine At.eqI rfl rfl rfl ?_
            refine At.assign rfl rfl ?_
            refine At.ops0 ?_
            refine At.thenN ?_
            refine At.cond (b := decide (t.k = 1)) rfl (fun hc5 => ?_) (fun hc5 => ?_)
            · skip
              have hc5' := of_decide_eq_true hc5
              refine At.seq ?_
              refine At.region ?_
              refine At.fieldAddr rfl fo33_2 rfl ?_
              refine At.load rfl (Ld.ownCell ag9 hb2 (ht).c2) rfl ?_
              refine At.neS rfl rfl rfl ?_
              refine At.move rfl rfl ?_
              refine At.cases ((!decide (t.nm = (⟨#[95]⟩ : ByteArray)))) (fun hg2 => ?_) (fun hg2 => ?_)
              · skip
                refine At.set (d := 51) (u := .bool true) rfl (congrArg Value.bool hg2) ?_
                have hg2' := hg2; simp only [Bool.not_eq_true', Bool.not_eq_false', decide_eq_true_eq, decide_eq_false_iff_not] at hg2'
                refine At.yes rfl rfl rfl rfl ?_
                refine At.move rfl rfl ?_
                refine At.yes rfl rfl rfl rfl ?_
                refine At.fieldAddr rfl fo33_2 rfl ?_
                refine At.yes rfl rfl rfl rfl ?_
                refine At.load rfl (Ld.ownCell ag9 hb2 (ht).c2) rfl ?_
                refine At.yes rfl rfl rfl rfl ?_
                refine At.call en44 rfl rfl (in_any v bound t.nm _ ((hv).keep hB) (by omega)) (fun e w' hR => ?_)
                obtain ⟨rfl, rfl⟩ := hR
                refine ⟨_, rfl, ?_⟩
                refine At.pickT rfl rfl rfl ?_
                refine At.assign rfl rfl ?_
                refine At.ops0 ?_
                refine At.thenN ?_
                refine At.retc ?_
                refine At.inR ?_
                refine At.thenR ?_
                refine At.doneR (ResV.tmp rfl ResV.nil) ?_
                exact ⟨congrArg Ending.returned (congrArg Value.bool (Eq.symm ((oneR_eq p t bound).symm.trans (by simp only [oneR, hg1, hc1, hc2, hc3, hc4, hc5, hg2, Bool.true_or, Bool.or_true, Bool.false_or, Bool.or_false, Bool.false_and, Bool.true_and, Bool.and_true, Bool.and_false, Bool.not_true, Bool.not_false, if_true, if_false, Bool.false_eq_true])))), hB⟩
              · skip
                refine At.set (d := 51) (u := .bool false) rfl (congrArg Value.bool hg2) ?_
                have hg2' := hg2; simp only [Bool.not_eq_true', Bool.not_eq_false', decide_eq_true_eq, decide_eq_false_iff_not] at hg2'
                refine At.no rfl rfl rfl rfl rfl rfl rfl ?_
                refine At.no rfl rfl rfl rfl rfl rfl rfl ?_
                refine At.no rfl rfl rfl rfl rfl rfl rfl ?_
                refine At.no rfl rfl rfl rfl rfl rfl rfl ?_
                refine At.pickF rfl rfl rfl ?_
                refine At.assign rfl rfl ?_
                refine At.ops0 ?_
                refine At.thenN ?_
                refine At.retc ?_
                refine At.inR ?_
                refine At.thenR ?_
                refine At.doneR (ResV.tmp rfl ResV.nil) ?_
                exact ⟨congrArg Ending.returned (congrArg Value.bool (Eq.symm ((oneR_eq p t bound).symm.trans (by simp only [oneR, hg1, hc1, hc2, hc3, hc4, hc5, hg2, Bool.true_or, Bool.or_true, Bool.false_or, Bool.or_false, Bool.false_and, Bool.true_and, Bool.and_true, Bool.and_false, Bool.not_true, Bool.not_false, if_true, if_false, Bool.false_eq_true])))), hB⟩
            · skip
              have hc5' := of_decide_eq_false hc5
              refine At.seq ?_
              refine At.region ?_
              refine At.eqI rfl rfl rfl ?_
              refine At.assign rfl rfl ?_
              refine At.ops0 ?_
              refine At.thenN ?_
              refine At.cond (b := decide (t.k = 10)) rfl (fun hc6 => ?_) (fun hc6 => ?_)
              · skip
                have hc6' := of_decide_eq_true hc6
                refine At.seq ?_
                refine At.region ?_
                refine At.fieldAddr rfl fo33_2 rfl ?_
                refine At.load rfl (Ld.ownCell ag9 hb2 (ht).c2) rfl ?_
                refine At.call en21 rfl rfl (refPrims_any t.nm _) (fun e w' hR => ?_)
                obtain ⟨rfl, rfl⟩ := hR
                refine ⟨_, rfl, ?_⟩
                refine At.move rfl rfl ?_
                refine At.extract rfl rfl rfl ?_
                refine At.extract rfl rfl rfl ?_
                refine At.assign rfl rfl ?_
                refine At.assign rfl rfl ?_
                refine At.ops0 ?_
                refine At.thenN ?_
                refine At.seq ?_
                refine At.region ?_
                refine At.move rfl rfl ?_
                refine At.move rfl rfl ?_
                refine At.cases ((primN t.nm).2) (fun hg3 => ?_) (fun hg3 => ?_)
                · skip
                  refine At.set (d := 66) (u := .bool true) rfl (congrArg Value.bool hg3) ?_
                  refine At.yes rfl rfl rfl rfl ?_
                  refine At.move rfl rfl ?_
                  refine At.yes rfl rfl rfl rfl ?_
                  refine At.fieldAddr rfl fo33_5 rfl ?_
                  refine At.yes rfl rfl rfl rfl ?_
                  refine At.load rfl (Ld.ownCell ag24 hb2 (ht).c5) rfl ?_
                  refine At.yes rfl rfl rfl rfl ?_
                  refine At.lenSl rfl ((ht).kidsAt).okL el24 rfl ?_
                  refine At.yes rfl rfl rfl rfl ?_
                  refine At.eqI rfl rfl rfl ?_
                  refine At.pickT rfl rfl rfl ?_
                  refine At.assign rfl rfl ?_
                  refine At.ops0 ?_
                  refine At.thenN ?_
                  refine At.retc ?_
                  refine At.inR ?_
                  refine At.thenR ?_
                  refine At.doneR (ResV.tmp rfl ResV.nil) ?_
                  exact ⟨congrArg Ending.returned (congrArg Value.bool (Eq.symm ((oneR_eq p t bound).symm.trans (by simp only [oneR, hg1, hc1, hc2, hc3, hc4, hc5, hc6, hg3, Bool.true_or, Bool.or_true, Bool.false_or, Bool.or_false, Bool.false_and, Bool.true_and, Bool.and_true, Bool.and_false, Bool.not_true, Bool.not_false, if_true, if_false, Bool.false_eq_true])))), hB⟩
                · skip
                  refine At.set (d := 66) (u := .bool false) rfl (congrArg Value.bool hg3) ?_
                  refine At.no rfl rfl rfl rfl rfl rfl rfl ?_
                  refine At.no rfl rfl rfl rfl rfl rfl rfl ?_
                  refine At.no rfl rfl rfl rfl rfl rfl rfl ?_
                  refine At.no rfl rfl rfl rfl rfl rfl rfl ?_
                  refine At.no rfl rfl rfl rfl rfl rfl rfl ?_
                  refine At.pickF rfl rfl rfl ?_
                  refine At.assign rfl rfl ?_
                  refine At.ops0 ?_
                  refine At.thenN ?_
                  refine At.retc ?_
                  refine At.inR ?_
                  refine At.thenR ?_
                  refine At.doneR (ResV.tmp rfl ResV.nil) ?_
                  exact ⟨congrArg Ending.returned (congrArg Value.bool (Eq.symm ((oneR_eq p t bound).symm.trans (by simp only [oneR, hg1, hc1, hc2, hc3, hc4, hc5, hc6, hg3, Bool.true_or, Bool.or_true, Bool.false_or, Bool.or_false, Bool.false_and, Bool.true_and, Bool.and_true, Bool.and_false, Bool.not_true, Bool.not_false, if_true, if_false, Bool.false_eq_true])))), hB⟩
              · skip
                have hc6' := of_decide_eq_false hc6
                refine At.seq ?_
                refine At.region ?_
                refine At.eqI rfl rfl rfl ?_
                refine At.assign rfl rfl ?_
                refine At.ops0 ?_
                refine At.thenN ?_
                refine At.cond (b := decide (t.k = 11)) rfl (fun hc7 => ?_) (fun hc7 => ?_)
                · skip
                  have hc7' := of_decide_eq_true hc7
                  refine At.seq ?_
                  refine At.region ?_
                  refine At.load rfl (Ld.own ag35 (sz35.trans (congrArg some (hp).size.symm)) hb1) rfl ?_
                  refine At.fieldAddr rfl fo33_2 rfl ?_
                  refine At.load rfl (Ld.ownCell ag9 hb2 (ht).c2) rfl ?_
                  refine At.call en19 rfl rfl (refCon_any p t.nm _ ((hp).keep hB) (hp).hl (hp).ho (hp).hc) (fun e w5 hR => ?_)
                  obtain ⟨rfl, hbl3⟩ := hR
                  refine ⟨_, rfl, ?_⟩
                  replace hb1 := Below.old hbl3 hb1
                  replace hb2 := Below.old hbl3 hb2
                  replace hB := Below.andThen hB hbl3
                  refine At.move rfl rfl ?_
                  refine At.extract rfl rfl rfl ?_
                  refine At.extract rfl rfl rfl ?_
                  refine At.extract rfl rfl rfl ?_
                  refine At.alloc ze52 rfl (fun b3 w6 F3 => ?_)
                  have n_b1_b3 : b1 ≠ b3 := Nat.ne_of_lt (F3.lt hb1)
                  have n_b2_b3 : b2 ≠ b3 := Nat.ne_of_lt (F3.lt hb2)
                  have gb3 := F3.ge hB
                  replace hb1 := F3.old hb1
                  replace hb2 := F3.old hb2
                  have hb3 : w6.heap[b3]? = some (.cells #[.string (⟨#[]⟩ : ByteArray), (.slice none 0 0)] 52) := F3.new
                  replace hB := F3.below' hB
                  refine At.alloc ze54 rfl (fun b4 w7 F4 => ?_)
                  have n_b1_b4 : b1 ≠ b4 := Nat.ne_of_lt (F4.lt hb1)
                  have n_b2_b4 : b2 ≠ b4 := Nat.ne_of_lt (F4.lt hb2)
                  have n_b3_b4 : b3 ≠ b4 := Nat.ne_of_lt (F4.lt hb3)
                  have gb4 := F4.ge hB
                  replace hb1 := F4.old hb1
                  replace hb2 := F4.old hb2
                  replace hb3 := F4.old hb3
                  have hb4 : w7.heap[b4]? = some (.cells #[.string (⟨#[]⟩ : ByteArray), (.slice none 0 0)] 54) := F4.new
                  replace hB := F4.below' hB
                  refine At.storeAll rfl rfl hb3 (sz52.trans (congrArg some ((datE_ok hp t.nm)).size.symm)) ((datE_ok hp t.nm)).size.symm ((datE_ok hp t.nm)).one (fun w8 S1 => ?_)
                  replace hb1 := S1.other hb1 n_b1_b3
                  replace hb2 := S1.other hb2 n_b2_b3
                  replace hb4 := S1.other hb4 n_b3_b4.symm
                  replace hb3 : w8.heap[b3]? = some (.cells (datE (findCon p.dats t.nm)).cs 52) := S1.new
                  replace hB := S1.below' hB gb3
                  refine At.storeAll rfl rfl hb4 (sz54.trans (congrArg some ((cnE_ok hp t.nm)).size.symm)) ((cnE_ok hp t.nm)).size.symm ((cnE_ok hp t.nm)).one (fun w9 S2 => ?_)
                  replace hb1 := S2.other hb1 n_b1_b4
                  replace hb2 := S2.other hb2 n_b2_b4
                  replace hb3 := S2.other hb3 n_b3_b4
                  replace hb4 : w9.heap[b4]? = some (.cells (cnE (findCon p.dats t.nm)).cs 54) := S2.new
                  replace hB := S2.below' hB gb4
                  refine At.assign rfl rfl ?_
                  refine At.ops0 ?_
                  refine At.thenN ?_
                  refine At.seq ?_
                  refine At.region ?_
                  refine At.move rfl rfl ?_
                  refine At.move rfl rfl ?_
                  refine At.cases ((findCon p.dats t.nm).isSome) (fun hg4 => ?_) (fun hg4 => ?_)
                  · skip
                    refine At.set (d := 84) (u := .bool true) rfl (congrArg Value.bool hg4) ?_
                    refine At.yes rfl rfl rfl rfl ?_
                    refine At.fieldAddr rfl fo54_1 rfl ?_
                    refine At.yes rfl rfl rfl rfl ?_
                    refine At.load rfl (Ld.ownCell ag26 hb4 ((cnE_ok hp t.nm)).c1) rfl ?_
                    refine At.yes rfl rfl rfl rfl ?_
                    refine At.lenSl rfl (((cnE_ok hp t.nm)).fieldsAt).okL el26 rfl ?_
                    refine At.yes rfl rfl rfl rfl ?_
                    refine At.fieldAddr rfl fo33_5 rfl ?_
                    refine At.yes rfl rfl rfl rfl ?_
                    refine At.load rfl (Ld.ownCell ag24 hb2 (ht).c5) rfl ?_
                    refine At.yes rfl rfl rfl rfl ?_
                    refine At.lenSl rfl ((ht).kidsAt).okL el24 rfl ?_
                    refine At.yes rfl rfl rfl rfl ?_
                    refine At.eqI rfl rfl rfl ?_
                    refine At.pickT rfl rfl rfl ?_
                    refine At.assign rfl rfl ?_
                    refine At.ops0 ?_
                    refine At.thenN ?_
                    refine At.retc ?_
                    refine At.inR ?_
                    refine At.thenR ?_
                    refine At.doneR (ResV.tmp rfl ResV.nil) ?_
                    exact ⟨congrArg Ending.returned (congrArg Value.bool (Eq.symm ((oneR_eq p t bound).symm.trans (by simp only [oneR, hg1, hc1, hc2, hc3, hc4, hc5, hc6, hc7, hg4, Bool.true_or, Bool.or_true, Bool.false_or, Bool.or_false, Bool.false_and, Bool.true_and, Bool.and_true, Bool.and_false, Bool.not_true, Bool.not_false, if_true, if_false, Bool.false_eq_true])))), hB⟩
                  · skip
                    refine At.set (d := 84) (u := .bool false) rfl (congrArg Value.bool hg4) ?_
                    refine At.no rfl rfl rfl rfl rfl rfl rfl ?_
                    refine At.no rfl rfl rfl rfl rfl rfl rfl ?_
                    refine At.no rfl rfl rfl rfl rfl rfl rfl ?_
                    refine At.no rfl rfl rfl rfl rfl rfl rfl ?_
                    refine At.no rfl rfl rfl rfl rfl rfl rfl ?_
                    refine At.no rfl rfl rfl rfl rfl rfl rfl ?_
                    refine At.no rfl rfl rfl rfl rfl rfl rfl ?_
                    refine At.pickF rfl rfl rfl ?_
                    refine At.assign rfl rfl ?_
                    refine At.ops0 ?_
                    refine At.thenN ?_
                    refine At.retc ?_
                    refine At.inR ?_
                    refine At.thenR ?_
                    refine At.doneR (ResV.tmp rfl ResV.nil) ?_
                    exact ⟨congrArg Ending.returned (congrArg Value.bool (Eq.symm ((oneR_eq p t bound).symm.trans (by simp only [oneR, hg1, hc1, hc2, hc3, hc4, hc5, hc6, hc7, hg4, Bool.true_or, Bool.or_true, Bool.false_or, Bool.or_false, Bool.false_and, Bool.true_and, Bool.and_true, Bool.and_false, Bool.not_true, Bool.not_false, if_true, if_false, Bool.false_eq_true])))), hB⟩
                · skip
                  have hc7' := of_decide_eq_false hc7
                  refine At.seq ?_
                  refine At.region ?_
                  refine At.eqI rfl rfl rfl ?_
                  refine At.assign rfl rfl ?_
                  refine At.ops0 ?_
                  refine At.thenN ?_
                  refine At.cond (b := decide (t.k = 13)) rfl (fun hc8 => ?_) (fun hc8 => ?_)
                  · skip
                    have hc8' := of_decide_eq_true hc8
                    refine At.seq ?_
                    refine At.region ?_
                    refine At.load rfl (Ld.own ag35 (sz35.trans (congrArg some (hp).size.symm)) hb1) rfl ?_
                    refine At.fieldAddr rfl fo33_2 rfl ?_
                    refine At.load rfl (Ld.ownCell ag9 hb2 (ht).c2) rfl ?_
                    refine At.call en15 rfl rfl (refEffect_any p t.nm _ ((hp).keep hB) (hp).hl (hp).ho (hp).hc) (fun e w10 hR => ?_)
                    obtain ⟨rfl, hbl4⟩ := hR
                    refine ⟨_, rfl, ?_⟩
                    replace hb1 := Below.old hbl4 hb1
                    replace hb2 := Below.old hbl4 hb2
                    replace hB := Below.andThen hB hbl4
                    refine At.move rfl rfl ?_
                    refine At.extract rfl rfl rfl ?_
                    refine At.extract rfl rfl rfl ?_
                    refine At.extract rfl rfl rfl ?_
                    refine At.alloc ze43 rfl (fun b5 w11 F5 => ?_)
                    have n_b1_b5 : b1 ≠ b5 := Nat.ne_of_lt (F5.lt hb1)
                    have n_b2_b5 : b2 ≠ b5 := Nat.ne_of_lt (F5.lt hb2)
                    have gb5 := F5.ge hB
                    replace hb1 := F5.old hb1
                    replace hb2 := F5.old hb2
                    have hb5 : w11.heap[b5]? = some (.cells #[.string (⟨#[]⟩ : ByteArray), (.slice none 0 0)] 43) := F5.new
                    replace hB := F5.below' hB
                    refine At.alloc ze45 rfl (fun b6 w12 F6 => ?_)
                    have n_b1_b6 : b1 ≠ b6 := Nat.ne_of_lt (F6.lt hb1)
                    have n_b2_b6 : b2 ≠ b6 := Nat.ne_of_lt (F6.lt hb2)
                    have n_b5_b6 : b5 ≠ b6 := Nat.ne_of_lt (F6.lt hb5)
                    have gb6 := F6.ge hB
                    replace hb1 := F6.old hb1
                    replace hb2 := F6.old hb2
                    replace hb5 := F6.old hb5
                    have hb6 : w12.heap[b6]? = some (.cells #[.string (⟨#[]⟩ : ByteArray), .int .i64 0, .string (⟨#[]⟩ : ByteArray), .int .i64 0, (.slice none 0 0), (.slice none 0 0), .int .i64 0, .int .i64 0, .string (⟨#[]⟩ : ByteArray), .int .i64 0, (.slice none 0 0), (.slice none 0 0), .int .i64 0] 45) := F6.new
                    replace hB := F6.below' hB
                    refine At.storeAll rfl rfl hb5 (sz43.trans (congrArg some ((effE_ok hp t.nm)).size.symm)) ((effE_ok hp t.nm)).size.symm ((effE_ok hp t.nm)).one (fun w13 S3 => ?_)
                    replace hb1 := S3.other hb1 n_b1_b5
                    replace hb2 := S3.other hb2 n_b2_b5
                    replace hb6 := S3.other hb6 n_b5_b6.symm
                    replace hb5 : w13.heap[b5]? = some (.cells (effE (findEff p.effs t.nm)).cs 43) := S3.new
                    replace hB := S3.below' hB gb5
                    refine At.storeAll rfl rfl hb6 (sz45.trans (congrArg some ((opE_ok hp t.nm)).size.symm)) ((opE_ok hp t.nm)).size.symm ((opE_ok hp t.nm)).one (fun w14 S4 => ?_)
                    replace hb1 := S4.other hb1 n_b1_b6
                    replace hb2 := S4.other hb2 n_b2_b6
                    replace hb5 := S4.other hb5 n_b5_b6
                    replace hb6 : w14.heap[b6]? = some (.cells (opE (findEff p.effs t.nm)).cs 45) := S4.new
                    replace hB := S4.below' hB gb6
                    refine At.assign rfl rfl ?_
                    refine At.ops0 ?_
                    refine At.thenN ?_
                    refine At.seq ?_
                    refine At.region ?_
                    refine At.move rfl rfl ?_
                    refine At.assign rfl rfl ?_
                    refine At.ops0 ?_
                    refine At.thenN ?_
                    refine At.retc ?_
                    refine At.inR ?_
                    refine At.thenR ?_
                    refine At.doneR (ResV.tmp rfl ResV.nil) ?_
                    exact ⟨congrArg Ending.returned (congrArg Value.bool (Eq.symm ((oneR_eq p t bound).symm.trans (by simp only [oneR, hg1, hc1, hc2, hc3, hc4, hc5, hc6, hc7, hc8, Bool.true_or, Bool.or_true, Bool.false_or, Bool.or_false, Bool.false_and, Bool.true_and, Bool.and_true, Bool.and_false, Bool.not_true, Bool.not_false, if_true, if_false, Bool.false_eq_true])))), hB⟩
                  · skip
                    have hc8' := of_decide_eq_false hc8
                    refine At.skip ?_
                    refine At.inN ?_
                    refine At.thenN ?_
                    refine At.seq ?_
                    refine At.region ?_
                    refine At.assign rfl rfl ?_
                    refine At.ops0 ?_
                    refine At.thenN ?_
                    refine At.retc ?_
                    refine At.doneR (ResV.tmp rfl ResV.nil) ?_
                    exact ⟨congrArg Ending.returned (congrArg Value.bool (Eq.symm ((oneR_eq p t bound).symm.trans (by simp only [oneR, hg1, hc1, hc2, hc3, hc4, hc5, hc6, hc7, hc8, Bool.true_or, Bool.or_true, Bool.false_or, Bool.or_false, Bool.false_and, Bool.true_and, Bool.and_true, Bool.and_false, Bool.not_true, Bool.not_false, if_true, if_false, Bool.false_eq_true])))), hB⟩
  · skip
    refine At.set (d := 24) (u := .bool false) rfl (congrArg Value.bool hg1) ?_
    have hg1' := hg1; simp only [Bool.not_eq_true', Bool.not_eq_false', decide_eq_true_eq, decide_eq_false_iff_not] at hg1'
    refine At.no rfl rfl rfl rfl rfl rfl rfl ?_
    refine At.no rfl rfl rfl rfl rfl rfl rfl ?_
    refine At.pickF rfl rfl rfl ?_
    refine At.ops0 ?_
    refine At.thenN ?_
    refine At.condF rfl ?_
    refine At.skip ?_
    refine At.thenN ?_
    refine At.seq ?_
    refine At.seq ?_
    refine At.region ?_
    refine At.fieldAddr rfl fo33_0 rfl ?_
    refine At.load rfl (Ld.ownCell ag3 hb2 (ht).c0) rfl ?_
    refine At.ops0 ?_
    refine At.thenN ?_
    refine At.block ?_
    refine At.seq ?_
    refine At.region ?_
    refine At.eqI rfl rfl rfl ?_
    refine At.assign rfl rfl ?_
    refine At.ops0 ?_
    refine At.thenN ?_
    refine At.cond (b := decide (t.k = 14)) rfl (fun hc9 => ?_) (fun hc9 => ?_)
    · skip
      have hc9' := of_decide_eq_true hc9
      refine At.seq ?_
      refine At.region ?_
      refine At.load rfl (Ld.own ag35 (sz35.trans (congrArg some (hp).size.symm)) hb1) rfl ?_
      refine At.load rfl (Ld.own ag33 (sz33.trans (congrArg some (ht).size.symm)) hb2) rfl ?_
      refine At.call en57 rfl rfl (handles_any p t _ ((hp).keep hB) hz ((ht).keep hB)) (fun e w15 hR => ?_)
      obtain ⟨rfl, hbl5⟩ := hR
      refine ⟨_, rfl, ?_⟩
      replace hb1 := Below.old hbl5 hb1
      replace hb2 := Below.old hbl5 hb2
      replace hB := Below.andThen hB hbl5
      refine At.assign rfl rfl ?_
      refine At.ops0 ?_
      refine At.thenN ?_
      refine At.retc ?_
      refine At.inR ?_
      refine At.thenR ?_
      refine At.doneR (ResV.tmp rfl ResV.nil) ?_
      exact ⟨congrArg Ending.returned (congrArg Value.bool (Eq.symm ((oneR_eq p t bound).symm.trans (by simp only [oneR, hg1, hc9, Bool.true_or, Bool.or_true, Bool.false_or, Bool.or_false, Bool.false_and, Bool.true_and, Bool.and_true, Bool.and_false, Bool.not_true, Bool.not_false, if_true, if_false, Bool.false_eq_true])))), hB⟩
    · skip
      have hc9' := of_decide_eq_false hc9
      refine At.seq ?_
      refine At.region ?_
      refine At.eqI rfl rfl rfl ?_
      refine At.assign rfl rfl ?_
      refine At.ops0 ?_
      refine At.thenN ?_
      refine At.cond (b := decide (t.k = 12)) rfl (fun hc10 => ?_) (fun hc10 => ?_)
      · skip
        have hc10' := of_decide_eq_true hc10
        refine At.seq ?_
        refine At.region ?_
        refine At.load rfl (Ld.own ag35 (sz35.trans (congrArg some (hp).size.symm)) hb1) rfl ?_
        refine At.load rfl (Ld.own ag33 (sz33.trans (congrArg some (ht).size.symm)) hb2) rfl ?_
        refine At.call en58 rfl rfl (matches_any p t _ ((hp).keep hB) hz ((ht).keep hB) (fun a ha => by have := wt_arm ha; omega)) (fun e w16 hR => ?_)
        obtain ⟨rfl, hbl6⟩ := hR
        refine ⟨_, rfl, ?_⟩
        replace hb1 := Below.old hbl6 hb1
        replace hb2 := Below.old hbl6 hb2
        replace hB := Below.andThen hB hbl6
        refine At.assign rfl rfl ?_
        refine At.ops0 ?_
        refine At.thenN ?_
        refine At.retc ?_
        refine At.inR ?_
        refine At.thenR ?_
        refine At.doneR (ResV.tmp rfl ResV.nil) ?_
        exact ⟨congrArg Ending.returned (congrArg Value.bool (Eq.symm ((oneR_eq p t bound).symm.trans (by simp only [oneR, hg1, hc9, hc10, Bool.true_or, Bool.or_true, Bool.false_or, Bool.or_false, Bool.false_and, Bool.true_and, Bool.and_true, Bool.and_false, Bool.not_true, Bool.not_false, if_true, if_false, Bool.false_eq_true])))), hB⟩
      · skip
        have hc10' := of_decide_eq_false hc10
        refine At.skip ?_
        refine At.inN ?_
        refine At.thenN ?_
        refine At.seq ?_
        refine At.seq ?_
        refine At.region ?_
        refine At.fieldAddr rfl fo33_6 rfl ?_
        refine At.load rfl (Ld.ownCell ag25 hb2 (ht).c6) rfl ?_
        refine At.lenSl rfl ((ht).armsAt).okL el25 rfl ?_
        refine At.gtr rfl rfl rfl ?_
        refine At.ops0 ?_
        refine At.thenN ?_
        refine At.cond (b := decide (0 < (t.arms.length : Int))) rfl (fun hc11 => ?_) (fun hc11 => ?_)
        · skip
          have hc11' := of_decide_eq_true hc11
          refine At.seq ?_
          refine At.region ?_
          refine At.assign rfl rfl ?_
          refine At.ops0 ?_
          refine At.thenN ?_
          refine At.retc ?_
          refine At.thenR ?_
          refine At.doneR (ResV.tmp rfl ResV.nil) ?_
          exact ⟨congrArg Ending.returned (congrArg Value.bool (Eq.symm ((oneR_eq p t bound).symm.trans (by simp only [oneR, hg1, hc9, hc10, hc11, Bool.true_or, Bool.or_true, Bool.false_or, Bool.or_false, Bool.false_and, Bool.true_and, Bool.and_true, Bool.and_false, Bool.not_true, Bool.not_false, if_true, if_false, Bool.false_eq_true])))), hB⟩
        · skip
          have hc11' := of_decide_eq_false hc11
          refine At.skip ?_
          refine At.thenN ?_
          refine At.seq ?_
          refine At.seq ?_
          refine At.region ?_
          refine At.fieldAddr rfl fo33_0 rfl ?_
          refine At.load rfl (Ld.ownCell ag3 hb2 (ht).c0) rfl ?_
          refine At.ops0 ?_
          refine At.thenN ?_
          refine At.block ?_
          refine At.seq ?_
          refine At.region ?_
          refine At.eqI rfl rfl rfl ?_
          refine At.assign rfl rfl ?_
          refine At.ops0 ?_
          refine At.thenN ?_
          refine At.cond (b := decide (t.k = 1)) rfl (fun hc12 => ?_) (fun hc12 => ?_)
          · skip
            have hc12' := of_decide_eq_true hc12
            refine At.seq ?_
            refine At.region ?_
            refine At.fieldAddr rfl fo33_2 rfl ?_
            refine At.load rfl (Ld.ownCell ag9 hb2 (ht).c2) rfl ?_
            refine At.neS rfl rfl rfl ?_
            refine At.move rfl rfl ?_
            refine At.cases ((!decide (t.nm = (⟨#[95]⟩ : ByteArray)))) (fun hg5 => ?_) (fun hg5 => ?_)
            · skip
              refine At.set (d := 51) (u := .bool true) rfl (congrArg Value.bool hg5) ?_
              have hg5' := hg5; simp only [Bool.not_eq_true', Bool.not_eq_false', decide_eq_true_eq, decide_eq_false_iff_not] at hg5'
              refine At.yes rfl rfl rfl rfl ?_
              refine At.move rfl rfl ?_
              refine At.yes rfl rfl rfl rfl ?_
              refine At.fieldAddr rfl fo33_2 rfl ?_
              refine At.yes rfl rfl rfl rfl ?_
              refine At.load rfl (Ld.ownCell ag9 hb2 (ht).c2) rfl ?_
              refine At.yes rfl rfl rfl rfl ?_
              refine At.call en44 rfl rfl (in_any v bound t.nm _ ((hv).keep hB) (by omega)) (fun e w' hR => ?_)
              obtain ⟨rfl, rfl⟩ := hR
              refine ⟨_, rfl, ?_⟩
              refine At.pickT rfl rfl rfl ?_
              refine At.assign rfl rfl ?_
              refine At.ops0 ?_
              refine At.thenN ?_
              refine At.retc ?_
              refine At.inR ?_
              refine At.thenR ?_
              refine At.doneR (ResV.tmp rfl ResV.nil) ?_
              exact ⟨congrArg Ending.returned (congrArg Value.bool (Eq.symm ((oneR_eq p t bound).symm.trans (by simp only [oneR, hg1, hc9, hc10, hc11, hc12, hg5, Bool.true_or, Bool.or_true, Bool.false_or, Bool.or_false, Bool.false_and, Bool.true_and, Bool.and_true, Bool.and_false, Bool.not_true, Bool.not_false, if_true, if_false, Bool.false_eq_true])))), hB⟩
            · skip
              refine At.set (d := 51) (u := .bool false) rfl (congrArg Value.bool hg5) ?_
              have hg5' := hg5; simp only [Bool.not_eq_true', Bool.not_eq_false', decide_eq_true_eq, decide_eq_false_iff_not] at hg5'
              refine At.no rfl rfl rfl rfl rfl rfl rfl ?_
              refine At.no rfl rfl rfl rfl rfl rfl rfl ?_
              refine At.no rfl rfl rfl rfl rfl rfl rfl ?_
              refine At.no rfl rfl rfl rfl rfl rfl rfl ?_
              refine At.pickF rfl rfl rfl ?_
              refine At.assign rfl rfl ?_
              refine At.ops0 ?_
              refine At.thenN ?_
              refine At.retc ?_
              refine At.inR ?_
              refine At.thenR ?_
              refine At.doneR (ResV.tmp rfl ResV.nil) ?_
              exact ⟨congrArg Ending.returned (congrArg Value.bool (Eq.symm ((oneR_eq p t bound).symm.trans (by simp only [oneR, hg1, hc9, hc10, hc11, hc12, hg5, Bool.true_or, Bool.or_true, Bool.false_or, Bool.or_false, Bool.false_and, Bool.true_and, Bool.and_true, Bool.and_false, Bool.not_true, Bool.not_false, if_true, if_false, Bool.false_eq_true])))), hB⟩
          · skip
            have hc12' := of_decide_eq_false hc12
            refine At.seq ?_
            refine At.region ?_
            refine At.eqI rfl rfl rfl ?_
            refine At.assign rfl rfl ?_
            refine At.ops0 ?_
            refine At.thenN ?_
            refine At.cond (b := decide (t.k = 10)) rfl (fun hc13 => ?_) (fun hc13 => ?_)
            · skip
              have hc13' := of_decide_eq_true hc13
              refine At.seq ?_
              refine At.region ?_
              refine At.fieldAddr rfl fo33_2 rfl ?_
              refine At.load rfl (Ld.ownCell ag9 hb2 (ht).c2) rfl ?_
              refine At.call en21 rfl rfl (refPrims_any t.nm _) (fun e w' hR => ?_)
              obtain ⟨rfl, rfl⟩ := hR
              refine ⟨_, rfl, ?_⟩
              refine At.move rfl rfl ?_
              refine At.extract rfl rfl rfl ?_
              refine At.extract rfl rfl rfl ?_
              refine At.assign rfl rfl ?_
              refine At.assign rfl rfl ?_
              refine At.ops0 ?_
              refine At.thenN ?_
              refine At.seq ?_
              refine At.region ?_
              refine At.move rfl rfl ?_
              refine At.move rfl rfl ?_
              refine At.cases ((primN t.nm).2) (fun hg6 => ?_) (fun hg6 => ?_)
              · skip
                refine At.set (d := 66) (u := .bool true) rfl (congrArg Value.bool hg6) ?_
                refine At.yes rfl rfl rfl rfl ?_
                refine At.move rfl rfl ?_
                refine At.yes rfl rfl rfl rfl ?_
                refine At.fieldAddr rfl fo33_5 rfl ?_
                refine At.yes rfl rfl rfl rfl ?_
                refine At.load rfl (Ld.ownCell ag24 hb2 (ht).c5) rfl ?_
                refine At.yes rfl rfl rfl rfl ?_
                refine At.lenSl rfl ((ht).kidsAt).okL el24 rfl ?_
                refine At.yes rfl rfl rfl rfl ?_
                refine At.eqI rfl rfl rfl ?_
                refine At.pickT rfl rfl rfl ?_
                refine At.assign rfl rfl ?_
                refine At.ops0 ?_
                refine At.thenN ?_
                refine At.retc ?_
                refine At.inR ?_
                refine At.thenR ?_
                refine At.doneR (ResV.tmp rfl ResV.nil) ?_
                exact ⟨congrArg Ending.returned (congrArg Value.bool (Eq.symm ((oneR_eq p t bound).symm.trans (by simp only [oneR, hg1, hc9, hc10, hc11, hc12, hc13, hg6, Bool.true_or, Bool.or_true, Bool.false_or, Bool.or_false, Bool.false_and, Bool.true_and, Bool.and_true, Bool.and_false, Bool.not_true, Bool.not_false, if_true, if_false, Bool.false_eq_true])))), hB⟩
              · skip
                refine At.set (d := 66) (u := .bool false) rfl (congrArg Value.bool hg6) ?_
                refine At.no rfl rfl rfl rfl rfl rfl rfl ?_
                refine At.no rfl rfl rfl rfl rfl rfl rfl ?_
                refine At.no rfl rfl rfl rfl rfl rfl rfl ?_
                refine At.no rfl rfl rfl rfl rfl rfl rfl ?_
                refine At.no rfl rfl rfl rfl rfl rfl rfl ?_
                refine At.pickF rfl rfl rfl ?_
                refine At.assign rfl rfl ?_
                refine At.ops0 ?_
                refine At.thenN ?_
                refine At.retc ?_
                refine At.inR ?_
                refine At.thenR ?_
                refine At.doneR (ResV.tmp rfl ResV.nil) ?_
                exact ⟨congrArg Ending.returned (congrArg Value.bool (Eq.symm ((oneR_eq p t bound).symm.trans (by simp only [oneR, hg1, hc9, hc10, hc11, hc12, hc13, hg6, Bool.true_or, Bool.or_true, Bool.false_or, Bool.or_false, Bool.false_and, Bool.true_and, Bool.and_true, Bool.and_false, Bool.not_true, Bool.not_false, if_true, if_false, Bool.false_eq_true])))), hB⟩
            · skip
              have hc13' := of_decide_eq_false hc13
              refine At.seq ?_
              refine At.region ?_
              refine At.eqI rfl rfl rfl ?_
              refine At.assign rfl rfl ?_
              refine At.ops0 ?_
              refine At.thenN ?_
              refine At.cond (b := decide (t.k = 11)) rfl (fun hc14 => ?_) (fun hc14 => ?_)
              · skip
                have hc14' := of_decide_eq_true hc14
                refine At.seq ?_
                refine At.region ?_
                refine At.load rfl (Ld.own ag35 (sz35.trans (congrArg some (hp).size.symm)) hb1) rfl ?_
                refine At.fieldAddr rfl fo33_2 rfl ?_
                refine At.load rfl (Ld.ownCell ag9 hb2 (ht).c2) rfl ?_
                refine At.call en19 rfl rfl (refCon_any p t.nm _ ((hp).keep hB) (hp).hl (hp).ho (hp).hc) (fun e w17 hR => ?_)
                obtain ⟨rfl, hbl7⟩ := hR
                refine ⟨_, rfl, ?_⟩
                replace hb1 := Below.old hbl7 hb1
                replace hb2 := Below.old hbl7 hb2
                replace hB := Below.andThen hB hbl7
                refine At.move rfl rfl ?_
                refine At.extract rfl rfl rfl ?_
                refine At.extract rfl rfl rfl ?_
                refine At.extract rfl rfl rfl ?_
                refine At.alloc ze52 rfl (fun b7 w18 F7 => ?_)
                have n_b1_b7 : b1 ≠ b7 := Nat.ne_of_lt (F7.lt hb1)
                have n_b2_b7 : b2 ≠ b7 := Nat.ne_of_lt (F7.lt hb2)
                have gb7 := F7.ge hB
                replace hb1 := F7.old hb1
                replace hb2 := F7.old hb2
                have hb7 : w18.heap[b7]? = some (.cells #[.string (⟨#[]⟩ : ByteArray), (.slice none 0 0)] 52) := F7.new
                replace hB := F7.below' hB
                refine At.alloc ze54 rfl (fun b8 w19 F8 => ?_)
                have n_b1_b8 : b1 ≠ b8 := Nat.ne_of_lt (F8.lt hb1)
                have n_b2_b8 : b2 ≠ b8 := Nat.ne_of_lt (F8.lt hb2)
                have n_b7_b8 : b7 ≠ b8 := Nat.ne_of_lt (F8.lt hb7)
                have gb8 := F8.ge hB
                replace hb1 := F8.old hb1
                replace hb2 := F8.old hb2
                replace hb7 := F8.old hb7
                have hb8 : w19.heap[b8]? = some (.cells #[.string (⟨#[]⟩ : ByteArray), (.slice none 0 0)] 54) := F8.new
                replace hB := F8.below' hB
                refine At.storeAll rfl rfl hb7 (sz52.trans (congrArg some ((datE_ok hp t.nm)).size.symm)) ((datE_ok hp t.nm)).size.symm ((datE_ok hp t.nm)).one (fun w20 S5 => ?_)
                replace hb1 := S5.other hb1 n_b1_b7
                replace hb2 := S5.other hb2 n_b2_b7
                replace hb8 := S5.other hb8 n_b7_b8.symm
                replace hb7 : w20.heap[b7]? = some (.cells (datE (findCon p.dats t.nm)).cs 52) := S5.new
                replace hB := S5.below' hB gb7
                refine At.storeAll rfl rfl hb8 (sz54.trans (congrArg some ((cnE_ok hp t.nm)).size.symm)) ((cnE_ok hp t.nm)).size.symm ((cnE_ok hp t.nm)).one (fun w21 S6 => ?_)
                replace hb1 := S6.other hb1 n_b1_b8
                replace hb2 := S6.other hb2 n_b2_b8
                replace hb7 := S6.other hb7 n_b7_b8
                replace hb8 : w21.heap[b8]? = some (.cells (cnE (findCon p.dats t.nm)).cs 54) := S6.new
                replace hB := S6.below' hB gb8
                refine At.assign rfl rfl ?_
                refine At.ops0 ?_
                refine At.thenN ?_
                refine At.seq ?_
                refine At.region ?_
                refine At.move rfl rfl ?_
                refine At.move rfl rfl ?_
                refine At.cases ((findCon p.dats t.nm).isSome) (fun hg7 => ?_) (fun hg7 => ?_)
                · skip
                  refine At.set (d := 84) (u := .bool true) rfl (congrArg Value.bool hg7) ?_
                  refine At.yes rfl rfl rfl rfl ?_
                  refine At.fieldAddr rfl fo54_1 rfl ?_
                  refine At.yes rfl rfl rfl rfl ?_
                  refine At.load rfl (Ld.ownCell ag26 hb8 ((cnE_ok hp t.nm)).c1) rfl ?_
                  refine At.yes rfl rfl rfl rfl ?_
                  refine At.lenSl rfl (((cnE_ok hp t.nm)).fieldsAt).okL el26 rfl ?_
                  refine At.yes rfl rfl rfl rfl ?_
                  refine At.fieldAddr rfl fo33_5 rfl ?_
                  refine At.yes rfl rfl rfl rfl ?_
                  refine At.load rfl (Ld.ownCell ag24 hb2 (ht).c5) rfl ?_
                  refine At.yes rfl rfl rfl rfl ?_
                  refine At.lenSl rfl ((ht).kidsAt).okL el24 rfl ?_
                  refine At.yes rfl rfl rfl rfl ?_
                  refine At.eqI rfl rfl rfl ?_
                  refine At.pickT rfl rfl rfl ?_
                  refine At.assign rfl rfl ?_
                  refine At.ops0 ?_
                  refine At.thenN ?_
                  refine At.retc ?_
                  refine At.inR ?_
                  refine At.thenR ?_
                  refine At.doneR (ResV.tmp rfl ResV.nil) ?_
                  exact ⟨congrArg Ending.returned (congrArg Value.bool (Eq.symm ((oneR_eq p t bound).symm.trans (by simp only [oneR, hg1, hc9, hc10, hc11, hc12, hc13, hc14, hg7, Bool.true_or, Bool.or_true, Bool.false_or, Bool.or_false, Bool.false_and, Bool.true_and, Bool.and_true, Bool.and_false, Bool.not_true, Bool.not_false, if_true, if_false, Bool.false_eq_true])))), hB⟩
                · skip
                  refine At.set (d := 84) (u := .bool false) rfl (congrArg Value.bool hg7) ?_
                  refine At.no rfl rfl rfl rfl rfl rfl rfl ?_
                  refine At.no rfl rfl rfl rfl rfl rfl rfl ?_
                  refine At.no rfl rfl rfl rfl rfl rfl rfl ?_
                  refine At.no rfl rfl rfl rfl rfl rfl rfl ?_
                  refine At.no rfl rfl rfl rfl rfl rfl rfl ?_
                  refine At.no rfl rfl rfl rfl rfl rfl rfl ?_
                  refine At.no rfl rfl rfl rfl rfl rfl rfl ?_
                  refine At.pickF rfl rfl rfl ?_
                  refine At.assign rfl rfl ?_
                  refine At.ops0 ?_
                  refine At.thenN ?_
                  refine At.retc ?_
                  refine At.inR ?_
                  refine At.thenR ?_
                  refine At.doneR (ResV.tmp rfl ResV.nil) ?_
                  exact ⟨congrArg Ending.returned (congrArg Value.bool (Eq.symm ((oneR_eq p t bound).symm.trans (by simp only [oneR, hg1, hc9, hc10, hc11, hc12, hc13, hc14, hg7, Bool.true_or, Bool.or_true, Bool.false_or, Bool.or_false, Bool.false_and, Bool.true_and, Bool.and_true, Bool.and_false, Bool.not_true, Bool.not_false, if_true, if_false, Bool.false_eq_true])))), hB⟩
              · skip
                have hc14' := of_decide_eq_false hc14
                refine At.seq ?_
                refine At.region ?_
                refine At.eqI rfl rfl rfl ?_
                refine At.assign rfl rfl ?_
                refine At.ops0 ?_
                refine At.thenN ?_
                refine At.cond (b := decide (t.k = 13)) rfl (fun hc15 => ?_) (fun hc15 => ?_)
                · skip
                  have hc15' := of_decide_eq_true hc15
                  refine At.seq ?_
                  refine At.region ?_
                  refine At.load rfl (Ld.own ag35 (sz35.trans (congrArg some (hp).size.symm)) hb1) rfl ?_
                  refine At.fieldAddr rfl fo33_2 rfl ?_
                  refine At.load rfl (Ld.ownCell ag9 hb2 (ht).c2) rfl ?_
                  refine At.call en15 rfl rfl (refEffect_any p t.nm _ ((hp).keep hB) (hp).hl (hp).ho (hp).hc) (fun e w22 hR => ?_)
                  obtain ⟨rfl, hbl8⟩ := hR
                  refine ⟨_, rfl, ?_⟩
                  replace hb1 := Below.old hbl8 hb1
                  replace hb2 := Below.old hbl8 hb2
                  replace hB := Below.andThen hB hbl8
                  refine At.move rfl rfl ?_
                  refine At.extract rfl rfl rfl ?_
                  refine At.extract rfl rfl rfl ?_
                  refine At.extract rfl rfl rfl ?_
                  refine At.alloc ze43 rfl (fun b9 w23 F9 => ?_)
                  have n_b1_b9 : b1 ≠ b9 := Nat.ne_of_lt (F9.lt hb1)
                  have n_b2_b9 : b2 ≠ b9 := Nat.ne_of_lt (F9.lt hb2)
                  have gb9 := F9.ge hB
                  replace hb1 := F9.old hb1
                  replace hb2 := F9.old hb2
                  have hb9 : w23.heap[b9]? = some (.cells #[.string (⟨#[]⟩ : ByteArray), (.slice none 0 0)] 43) := F9.new
                  replace hB := F9.below' hB
                  refine At.alloc ze45 rfl (fun b10 w24 F10 => ?_)
                  have n_b1_b10 : b1 ≠ b10 := Nat.ne_of_lt (F10.lt hb1)
                  have n_b2_b10 : b2 ≠ b10 := Nat.ne_of_lt (F10.lt hb2)
                  have n_b9_b10 : b9 ≠ b10 := Nat.ne_of_lt (F10.lt hb9)
                  have gb10 := F10.ge hB
                  replace hb1 := F10.old hb1
                  replace hb2 := F10.old hb2
                  replace hb9 := F10.old hb9
                  have hb10 : w24.heap[b10]? = some (.cells #[.string (⟨#[]⟩ : ByteArray), .int .i64 0, .string (⟨#[]⟩ : ByteArray), .int .i64 0, (.slice none 0 0), (.slice none 0 0), .int .i64 0, .int .i64 0, .string (⟨#[]⟩ : ByteArray), .int .i64 0, (.slice none 0 0), (.slice none 0 0), .int .i64 0] 45) := F10.new
                  replace hB := F10.below' hB
                  refine At.storeAll rfl rfl hb9 (sz43.trans (congrArg some ((effE_ok hp t.nm)).size.symm)) ((effE_ok hp t.nm)).size.symm ((effE_ok hp t.nm)).one (fun w25 S7 => ?_)
                  replace hb1 := S7.other hb1 n_b1_b9
                  replace hb2 := S7.other hb2 n_b2_b9
                  replace hb10 := S7.other hb10 n_b9_b10.symm
                  replace hb9 : w25.heap[b9]? = some (.cells (effE (findEff p.effs t.nm)).cs 43) := S7.new
                  replace hB := S7.below' hB gb9
                  refine At.storeAll rfl rfl hb10 (sz45.trans (congrArg some ((opE_ok hp t.nm)).size.symm)) ((opE_ok hp t.nm)).size.symm ((opE_ok hp t.nm)).one (fun w26 S8 => ?_)
                  replace hb1 := S8.other hb1 n_b1_b10
                  replace hb2 := S8.other hb2 n_b2_b10
                  replace hb9 := S8.other hb9 n_b9_b10
                  replace hb10 : w26.heap[b10]? = some (.cells (opE (findEff p.effs t.nm)).cs 45) := S8.new
                  replace hB := S8.below' hB gb10
                  refine At.assign rfl rfl ?_
                  refine At.ops0 ?_
                  refine At.thenN ?_
                  refine At.seq ?_
                  refine At.region ?_
                  refine At.move rfl rfl ?_
                  refine At.assign rfl rfl ?_
                  refine At.ops0 ?_
                  refine At.thenN ?_
                  refine At.retc ?_
                  refine At.inR ?_
                  refine At.thenR ?_
                  refine At.doneR (ResV.tmp rfl ResV.nil) ?_
                  exact ⟨congrArg Ending.returned (congrArg Value.bool (Eq.symm ((oneR_eq p t bound).symm.trans (by simp only [oneR, hg1, hc9, hc10, hc11, hc12, hc13, hc14, hc15, Bool.true_or, Bool.or_true, Bool.false_or, Bool.or_false, Bool.false_and, Bool.true_and, Bool.and_true, Bool.and_false, Bool.not_true, Bool.not_false, if_true, if_false, Bool.false_eq_true])))), hB⟩
                · skip
                  have hc15' := of_decide_eq_false hc15
                  refine At.skip ?_
                  refine At.inN ?_
                  refine At.thenN ?_
                  refine At.seq ?_
                  refine At.region ?_
                  refine At.assign rfl rfl ?_
                  refine At.ops0 ?_
                  refine At.thenN ?_
                  refine At.retc ?_
                  refine At.doneR (ResV.tmp rfl ResV.nil) ?_
                  exact ⟨congrArg Ending.returned (congrArg Value.bool (Eq.symm ((oneR_eq p t bound).symm.trans (by simp only [oneR, hg1, hc9, hc10, hc11, hc12, hc13, hc14, hc15, Bool.true_or, Bool.or_true, Bool.false_or, Bool.or_false, Bool.false_and, Bool.true_and, Bool.and_true, Bool.and_false, Bool.not_true, Bool.not_false, if_true, if_false, Bool.false_eq_true])))), hB⟩
theorem refWith_any (v u : Value) (l m : List ByteArray) (w : World) (hv : StrsAt w v l) (hm : StrsAt w u m) (hl : l.length + m.length ≤ 8796093022208) :
    Calls Try.prog 47 ([v, u] : List Value).toArray w fun e w' => ∃ v', e = .returned v' ∧ Below w.heap.size w w' ∧ StrsAt w' v' (l ++ m) := by
  have hB := Below.refl w.heap.size w
  refine At.enter (N := 10) Try.func47 rfl rfl (by simp) [(0, v), (1, u)] (by simp) ?_
  refine At.seq ?_
  refine At.region ?_
  refine At.assign rfl rfl ?_
  refine At.ops0 ?_
  refine At.thenN ?_
  refine At.seq ?_
  refine At.region ?_
  refine At.buildSlice (xs := []) rfl rfl el27 sz9 ze9 (by simp) rfl (by decide) rfl (fun b1 w1 F1 => ?_)
  have gb1 := F1.ge hB
  have hb1 : w1.heap[b1]? = some (.cells #[] 9) := F1.new
  replace hB := F1.below' hB
  have hr0 : OwnS 9 w1 (.slice (some ⟨b1, 0, none⟩) 0 0) [] := OwnS.made (ss := []) hb1 rfl (by decide)
  have gr0 : ∀ g, Value.ownBlock (.slice (some ⟨b1, 0, none⟩) 0 0) = some g → w.heap.size ≤ g := fun g h => by cases h; exact gb1
  clear hb1
  refine At.move rfl rfl ?_
  refine At.appendS (ss := []) rfl rfl el27 el27 sz9 by9 ze9 rfl hr0 ((hv).keep hB) (by simp only [List.length_append, List.length_nil]; omega) rfl (fun va1 w2 hO1 hA1 => ?_)
  have ghO1 := hA1.ge hB.size gr0
  replace hB := hA1.below hB hB.size gr0
  refine At.move rfl rfl ?_
  refine At.appendS (ss := ([] ++ l)) rfl rfl el27 el27 sz9 by9 ze9 rfl hO1 ((hm).keep hB) (by simp only [List.length_append, List.length_nil]; omega) rfl (fun va2 w3 hO2 hA2 => ?_)
  have ghO2 := hA2.ge hB.size ghO1
  replace hB := hA2.below hB hB.size ghO1
  refine At.assign rfl rfl ?_
  refine At.ops0 ?_
  refine At.thenN ?_
  refine At.retc ?_
  refine At.doneR (ResV.tmp rfl ResV.nil) ?_
  exact ⟨_, rfl, hB, (by have q := hO2.strs; rw [List.nil_append] at q; exact q)⟩
theorem bound_any (t : Tm) (i : Nat) (w : World) (ht : TmOk w t) :
    Calls Try.prog 48 ([.agg t.cs, .int .i64 (i : Int)] : List Value).toArray w fun e w' => ∃ v', e = .returned v' ∧ Below w.heap.size w w' ∧ StrsAt w' v' (boundB t.k t.nm t.pm i) := by
  have hB := Below.refl w.heap.size w
  refine At.enter (N := 31) Try.func48 rfl rfl (by simp) [(0, .agg t.cs), (1, .int .i64 (i : Int))] (by simp) ?_
  refine At.seq ?_
  refine At.region ?_
  refine At.box rfl rfl (fun b1 w1 F1 => ?_)
  have gb1 := F1.ge hB
  have hb1 : w1.heap[b1]? = some (.cells t.cs 33) := F1.new
  replace hB := F1.below' hB
  refine At.assign rfl rfl ?_
  refine At.ops0 ?_
  refine At.thenN ?_
  refine At.seq ?_
  refine At.seq ?_
  refine At.region ?_
  refine At.fieldAddr rfl fo33_0 rfl ?_
  refine At.load rfl (Ld.ownCell ag3 hb1 (ht).c0) rfl ?_
  refine At.ops0 ?_
  refine At.thenN ?_
  refine At.block ?_
  refine At.seq ?_
  refine At.region ?_
  refine At.eqI rfl rfl rfl ?_
  refine At.assign rfl rfl ?_
  refine At.ops0 ?_
  refine At.thenN ?_
  refine At.cond (b := decide (t.k = 5)) rfl (fun hc1 => ?_) (fun hc1 => ?_)
  · skip
    have hc1' := of_decide_eq_true hc1
    refine At.seq ?_
    refine At.region ?_
    refine At.fieldAddr rfl fo33_2 rfl ?_
    refine At.load rfl (Ld.ownCell ag9 hb1 (ht).c2) rfl ?_
    refine At.buildSlice (xs := [.tmp 10]) rfl rfl el27 sz9 ze9 (by intro v hv; simp only [List.mem_cons, List.not_mem_nil, or_false] at hv; rcases hv with rfl <;> first | rfl | simp [Value.cells, Value.cells]) rfl (by decide) rfl (fun b2 w2 F2 => ?_)
    have n_b1_b2 : b1 ≠ b2 := Nat.ne_of_lt (F2.lt hb1)
    have gb2 := F2.ge hB
    replace hb1 := F2.old hb1
    have hb2 : w2.heap[b2]? = some (.cells #[.string t.nm] 9) := F2.new
    replace hB := F2.below' hB
    have hs1 : StrsAt w2 (.slice (some ⟨b2, 0, none⟩) 1 1) [t.nm] := StrsAt.own (ss := [t.nm]) hb2 rfl (by decide)
    refine At.assign rfl rfl ?_
    refine At.ops0 ?_
    refine At.thenN ?_
    refine At.retc ?_
    refine At.inR ?_
    refine At.thenR ?_
    refine At.doneR (ResV.tmp rfl ResV.nil) ?_
    have hin : boundB t.k t.nm t.pm i = [t.nm] := by first | (exfalso; omega) | simp only [boundB, hc1, Bool.true_or, Bool.or_true, Bool.false_or, Bool.or_false, Bool.false_and, Bool.true_and, if_true, if_false, Bool.false_eq_true]
    exact ⟨_, rfl, hB, by rw [hin]; exact hs1⟩
  · skip
    have hc1' := of_decide_eq_false hc1
    refine At.seq ?_
    refine At.region ?_
    refine At.eqI rfl rfl rfl ?_
    refine At.assign rfl rfl ?_
    refine At.ops0 ?_
    refine At.thenN ?_
    refine At.cond (b := decide (t.k = 7)) rfl (fun hc2 => ?_) (fun hc2 => ?_)
    · skip
      have hc2' := of_decide_eq_true hc2
      refine At.seq ?_
      refine At.region ?_
      refine At.move rfl rfl ?_
      refine At.eqI rfl rfl rfl ?_
      refine At.ops0 ?_
      refine At.thenN ?_
      refine At.cond (b := decide ((i : Int) = 1)) rfl (fun hc3 => ?_) (fun hc3 => ?_)
      · skip
        have hc3' := of_decide_eq_true hc3
        refine At.seq ?_
        refine At.region ?_
        refine At.fieldAddr rfl fo33_2 rfl ?_
        refine At.load rfl (Ld.ownCell ag9 hb1 (ht).c2) rfl ?_
        refine At.buildSlice (xs := [.tmp 17]) rfl rfl el27 sz9 ze9 (by intro v hv; simp only [List.mem_cons, List.not_mem_nil, or_false] at hv; rcases hv with rfl <;> first | rfl | simp [Value.cells, Value.cells]) rfl (by decide) rfl (fun b3 w3 F3 => ?_)
        have n_b1_b3 : b1 ≠ b3 := Nat.ne_of_lt (F3.lt hb1)
        have gb3 := F3.ge hB
        replace hb1 := F3.old hb1
        have hb3 : w3.heap[b3]? = some (.cells #[.string t.nm] 9) := F3.new
        replace hB := F3.below' hB
        have hs2 : StrsAt w3 (.slice (some ⟨b3, 0, none⟩) 1 1) [t.nm] := StrsAt.own (ss := [t.nm]) hb3 rfl (by decide)
        refine At.assign rfl rfl ?_
        refine At.ops0 ?_
        refine At.thenN ?_
        refine At.retc ?_
        refine At.inR ?_
        refine At.thenR ?_
        refine At.doneR (ResV.tmp rfl ResV.nil) ?_
        have hin : boundB t.k t.nm t.pm i = [t.nm] := by first | (exfalso; omega) | simp only [boundB, hc1, hc2, hc3, Bool.true_or, Bool.or_true, Bool.false_or, Bool.or_false, Bool.false_and, Bool.true_and, if_true, if_false, Bool.false_eq_true]
        exact ⟨_, rfl, hB, by rw [hin]; exact hs2⟩
      · skip
        have hc3' := of_decide_eq_false hc3
        refine At.skip ?_
        refine At.inN ?_
        refine At.thenN ?_
        refine At.seq ?_
        refine At.region ?_
        refine At.assign rfl rfl ?_
        refine At.ops0 ?_
        refine At.thenN ?_
        refine At.retc ?_
        refine At.doneR (ResV.tmp rfl ResV.nil) ?_
        have hin : boundB t.k t.nm t.pm i = ([] : List ByteArray) := by first | (exfalso; omega) | simp only [boundB, hc1, hc2, hc3, Bool.true_or, Bool.or_true, Bool.false_or, Bool.or_false, Bool.false_and, Bool.true_and, if_true, if_false, Bool.false_eq_true]
        exact ⟨_, rfl, hB, by rw [hin]; exact (((StrsAt.nil _)).keep hB)⟩
    · skip
      have hc2' := of_decide_eq_false hc2
      refine At.seq ?_
      refine At.region ?_
      refine At.eqI rfl rfl rfl ?_
      refine At.assign rfl rfl ?_
      refine At.ops0 ?_
      refine At.thenN ?_
      refine At.cond (b := decide (t.k = 8)) rfl (fun hc4 => ?_) (fun hc4 => ?_)
      · skip
        have hc4' := of_decide_eq_true hc4
        refine At.seq ?_
        refine At.seq ?_
        refine At.region ?_
        refine At.move rfl rfl ?_
        refine At.eqI rfl rfl rfl ?_
        refine At.ops0 ?_
        refine At.thenN ?_
        refine At.cond (b := decide ((i : Int) = 0)) rfl (fun hc5 => ?_) (fun hc5 => ?_)
        · skip
          have hc5' := of_decide_eq_true hc5
          refine At.seq ?_
          refine At.region ?_
          refine At.fieldAddr rfl fo33_2 rfl ?_
          refine At.load rfl (Ld.ownCell ag9 hb1 (ht).c2) rfl ?_
          refine At.fieldAddr rfl fo33_3 rfl ?_
          refine At.load rfl (Ld.ownCell ag9 hb1 (ht).c3) rfl ?_
          refine At.buildSlice (xs := [.tmp 24, .tmp 26]) rfl rfl el27 sz9 ze9 (by intro v hv; simp only [List.mem_cons, List.not_mem_nil, or_false] at hv; rcases hv with rfl | rfl <;> first | rfl | simp [Value.cells, Value.cells]) rfl (by decide) rfl (fun b4 w4 F4 => ?_)
          have n_b1_b4 : b1 ≠ b4 := Nat.ne_of_lt (F4.lt hb1)
          have gb4 := F4.ge hB
          replace hb1 := F4.old hb1
          have hb4 : w4.heap[b4]? = some (.cells #[.string t.nm, .string t.pm] 9) := F4.new
          replace hB := F4.below' hB
          have hs3 : StrsAt w4 (.slice (some ⟨b4, 0, none⟩) 2 2) [t.nm, t.pm] := StrsAt.own (ss := [t.nm, t.pm]) hb4 rfl (by decide)
          refine At.assign rfl rfl ?_
          refine At.ops0 ?_
          refine At.thenN ?_
          refine At.retc ?_
          refine At.thenR ?_
          refine At.inR ?_
          refine At.thenR ?_
          refine At.doneR (ResV.tmp rfl ResV.nil) ?_
          have hin : boundB t.k t.nm t.pm i = [t.nm, t.pm] := by first | (exfalso; omega) | simp only [boundB, hc1, hc2, hc4, hc5, Bool.true_or, Bool.or_true, Bool.false_or, Bool.or_false, Bool.false_and, Bool.true_and, if_true, if_false, Bool.false_eq_true]
          exact ⟨_, rfl, hB, by rw [hin]; exact hs3⟩
        · skip
          have hc5' := of_decide_eq_false hc5
          refine At.skip ?_
          refine At.thenN ?_
          refine At.seq ?_
          refine At.region ?_
          refine At.fieldAddr rfl fo33_2 rfl ?_
          refine At.load rfl (Ld.ownCell ag9 hb1 (ht).c2) rfl ?_
          refine At.buildSlice (xs := [.tmp 29]) rfl rfl el27 sz9 ze9 (by intro v hv; simp only [List.mem_cons, List.not_mem_nil, or_false] at hv; rcases hv with rfl <;> first | rfl | simp [Value.cells, Value.cells]) rfl (by decide) rfl (fun b5 w5 F5 => ?_)
          have n_b1_b5 : b1 ≠ b5 := Nat.ne_of_lt (F5.lt hb1)
          have gb5 := F5.ge hB
          replace hb1 := F5.old hb1
          have hb5 : w5.heap[b5]? = some (.cells #[.string t.nm] 9) := F5.new
          replace hB := F5.below' hB
          have hs4 : StrsAt w5 (.slice (some ⟨b5, 0, none⟩) 1 1) [t.nm] := StrsAt.own (ss := [t.nm]) hb5 rfl (by decide)
          refine At.assign rfl rfl ?_
          refine At.ops0 ?_
          refine At.thenN ?_
          refine At.retc ?_
          refine At.inR ?_
          refine At.thenR ?_
          refine At.doneR (ResV.tmp rfl ResV.nil) ?_
          have hin : boundB t.k t.nm t.pm i = [t.nm] := by first | (exfalso; omega) | simp only [boundB, hc1, hc2, hc4, hc5, Bool.true_or, Bool.or_true, Bool.false_or, Bool.or_false, Bool.false_and, Bool.true_and, if_true, if_false, Bool.false_eq_true]
          exact ⟨_, rfl, hB, by rw [hin]; exact hs4⟩
      · skip
        have hc4' := of_decide_eq_false hc4
        refine At.skip ?_
        refine At.inN ?_
        refine At.thenN ?_
        refine At.seq ?_
        refine At.region ?_
        refine At.assign rfl rfl ?_
        refine At.ops0 ?_
        refine At.thenN ?_
        refine At.retc ?_
        refine At.doneR (ResV.tmp rfl ResV.nil) ?_
        have hin : boundB t.k t.nm t.pm i = ([] : List ByteArray) := by first | (exfalso; omega) | simp only [boundB, hc1, hc2, hc4, Bool.true_or, Bool.or_true, Bool.false_or, Bool.or_false, Bool.false_and, Bool.true_and, if_true, if_false, Bool.false_eq_true]
        exact ⟨_, rfl, hB, by rw [hin]; exact (((StrsAt.nil _)).keep hB)⟩
theorem refTerm_step (p : Pr) (hz : PrSz p) (t : Tm) (v : Value) (bound : List ByteArray) (w : World) (hp : PrOk w p) (ht : TmOk w t) (hv : StrsAt w v bound) (hl : bound.length + wtT t ≤ 4398046511104)
    (ih : ∀ (u : Tm), wtT u < wtT t → ∀ (v : Value) (bound : List ByteArray) (w : World), PrOk w p → TmOk w u → StrsAt w v bound → bound.length + wtT u ≤ 4398046511104 → Calls Try.prog 30 ([.agg p.cs, .agg u.cs, v] : List Value).toArray w fun e w' => e = .returned (termF (termS p bound u)) ∧ Below w.heap.size w w') :
    Calls Try.prog 30 ([.agg p.cs, .agg t.cs, v] : List Value).toArray w fun e w' => e = .returned (termF (termS p bound t)) ∧ Below w.heap.size w w' := by
  have hB := Below.refl w.heap.size w
  refine At.enter (N := 75) Try.func30 rfl rfl (by simp) [(0, .agg p.cs), (1, .agg t.cs), (2, v)] (by simp) ?_
  refine At.seq ?_
  refine At.region ?_
  refine At.box rfl rfl (fun b1 w1 F1 => ?_)
  have gb1 := F1.ge hB
  have hb1 : w1.heap[b1]? = some (.cells p.cs 35) := F1.new
  replace hB := F1.below' hB
  refine At.box rfl rfl (fun b2 w2 F2 => ?_)
  have n_b1_b2 : b1 ≠ b2 := Nat.ne_of_lt (F2.lt hb1)
  have gb2 := F2.ge hB
  replace hb1 := F2.old hb1
  have hb2 : w2.heap[b2]? = some (.cells t.cs 33) := F2.new
  replace hB := F2.below' hB
  refine At.assign rfl rfl ?_
  refine At.assign rfl rfl ?_
  refine At.ops0 ?_
  refine At.thenN ?_
  refine At.seq ?_
  refine At.seq ?_
  refine At.region ?_
  refine At.load rfl (Ld.own ag35 (sz35.trans (congrArg some (hp).size.symm)) hb1) rfl ?_
  refine At.load rfl (Ld.own ag33 (sz33.trans (congrArg some (ht).size.symm)) hb2) rfl ?_
  refine At.move rfl rfl ?_
  refine At.call en46 rfl rfl (refOne_any p t v bound _ ((hp).keep hB) hz ((ht).keep hB) ((hv).keep hB) (by omega)) (fun e w3 hR => ?_)
  obtain ⟨rfl, hbl1⟩ := hR
  refine ⟨_, rfl, ?_⟩
  replace hb1 := Below.old hbl1 hb1
  replace hb2 := Below.old hbl1 hb2
  replace hB := Below.andThen hB hbl1
  refine At.not rfl rfl ?_
  refine At.ops0 ?_
  refine At.thenN ?_
  refine At.cond (b := (!(oneB p t bound))) rfl (fun hc1 => ?_) (fun hc1 => ?_)
  · skip
    refine At.seq ?_
    refine At.region ?_
    refine At.fieldAddr rfl fo33_1 rfl ?_
    refine At.load rfl (Ld.ownCell ag3 hb2 (ht).c1) rfl ?_
    refine At.assign rfl rfl ?_
    refine At.assign rfl rfl ?_
    refine At.ops0 ?_
    refine At.thenN ?_
    refine At.retc ?_
    refine At.thenR ?_
    refine At.doneR (ResV.tmp rfl (ResV.tmp rfl ResV.nil)) ?_
    exact ⟨congrArg Ending.returned (by rw [termS_no (by simpa using hc1)]; rfl), hB⟩
  · skip
    refine At.skip ?_
    refine At.thenN ?_
    refine At.seq ?_
    refine At.seq ?_
    refine At.region ?_
    refine At.assign rfl rfl ?_
    refine At.ops0 ?_
    refine At.thenN ?_
    refine At.block ?_
    have hone : oneB p t bound = true := by simpa using hc1
    refine At.loop (Nat) (fun k => [(2, v), (3, .pointer (some ⟨b1, 0, none⟩)), (4, .pointer (some ⟨b2, 0, none⟩)), (8, .int .i64 (k : Int))]) (fun k w4 => Below w.heap.size w w4 ∧ w4.heap[b1]? = some (.cells p.cs 35) ∧ w4.heap[b2]? = some (.cells t.cs 33) ∧ (k ≤ t.kids.length) ∧ (kidsS p t.k t.nm t.pm bound k (t.kids.drop k) = kidsS p t.k t.nm t.pm bound 0 t.kids)) (fun k => t.kids.length - k) (0 : Nat) (Sub.cons rfl (Sub.cons rfl (Sub.cons rfl (Sub.cons rfl Sub.nil)))) ⟨hB, hb1, hb2, (Nat.zero_le _), (rfl)⟩ (fun k w4 hI => ?_)
    clear hB hb1 hb2
    obtain ⟨hB, hb1, hb2, hkb, hn⟩ := hI
    show At _ _ [(2, v), (3, .pointer (some ⟨b1, 0, none⟩)), (4, .pointer (some ⟨b2, 0, none⟩)), (8, .int .i64 (k : Int))] _ _
    refine At.seq ?_
    refine At.seq ?_
    refine At.region ?_
    refine At.move rfl rfl ?_
    refine At.fieldAddr rfl fo33_5 rfl ?_
    refine At.load rfl (Ld.ownCell ag24 hb2 (ht).c5) rfl ?_
    refine At.lenSl rfl ((ht).kidsAt).okL el24 rfl ?_
    refine At.lss rfl rfl rfl ?_
    refine At.ops0 ?_
    refine At.thenN ?_
    refine At.cond (b := decide ((k : Int) < (t.kids.length : Int))) rfl (fun hc2 => ?_) (fun hc2 => ?_)
    · skip
      have hc2' := of_decide_eq_true hc2
      refine At.skip ?_
      refine At.thenN ?_
      refine At.seq ?_
      refine At.block ?_
      refine At.seq ?_
      obtain ⟨u1, hu1⟩ := some_of_lt (l := t.kids) (i := k) (by omega)
      have hw := wt_kid (List.mem_of_getElem? hu1)
      have hlt : wtT u1 < wtT t := by omega
      have hil := boundB_len t.k t.nm t.pm k
      have hins := bound_inside hone (lt_of_some hu1)
      refine At.drawG (n := 17) mixed (by kernel_rfl) rfl (PanicOk.then (PanicOk.block (PanicOk.then (PanicOk.then (PanicOk.block (PanicOk.then PanicOk.body)))))) ?_
      have hB := Below.drewB hB
      have hb1 : _ := (show w4.drew.heap[b1]? = _ from hb1)
      have hb2 : _ := (show w4.drew.heap[b2]? = _ from hb2)
      refine At.wpcS (i := 0) (d := 29) (.agg p.cs) (by kernel_rfl) rfl rfl rfl (fun Lx => ?_) ?_
      · skip
        refine At.load rfl (Ld.own ag35 (sz35.trans (congrArg some (hp).size.symm)) hb1) rfl ?_
        refine At.ops0 ?_
        exact fun a ha => ⟨ha, rfl⟩
      refine At.wpcS (i := 1) (d := 30) (.pointer (some ⟨b2, 0 + 5, none⟩)) (by kernel_rfl) rfl rfl rfl (fun Lx => ?_) ?_
      · skip
        refine At.fieldAddr rfl fo33_5 rfl ?_
        refine At.ops0 ?_
        exact fun a ha => ⟨ha, rfl⟩
      refine At.wpcS (i := 2) (d := 31) (t.kv) (by kernel_rfl) rfl rfl rfl (fun Lx => ?_) ?_
      · skip
        refine At.load rfl (Ld.ownCell ag24 hb2 (ht).c5) rfl ?_
        refine At.ops0 ?_
        exact fun a ha => ⟨ha, rfl⟩
      refine At.wpcS (i := 3) (d := 32) (.int .i64 (k : Int)) (by kernel_rfl) rfl rfl rfl (fun Lx => ?_) ?_
      · skip
        refine At.move rfl rfl ?_
        refine At.ops0 ?_
        exact fun a ha => ⟨ha, rfl⟩
      refine At.wpcS (i := 4) (d := 33) (.pointer (some ⟨vBlock t.kv, vOff t.kv + k * 21, none⟩)) (by kernel_rfl) rfl rfl rfl (fun Lx => ?_) ?_
      · skip
        refine At.indexAddr (i := k) rfl rfl ((ht).kidsAt).okL (lt_of_some hu1) el24 sz33 rfl ?_
        refine At.ops0 ?_
        exact fun a ha => ⟨ha, rfl⟩
      refine At.wpcS (i := 5) (d := 34) (.agg u1.cs) (by kernel_rfl) rfl rfl rfl (fun Lx => ?_) ?_
      · skip
        refine At.load rfl (Ld.row ag33 (sz33.trans (congrArg some (((ht).kid hu1)).size.symm)) ((((ht).kidsAt).row hu1).keep hB)) rfl ?_
        refine At.ops0 ?_
        exact fun a ha => ⟨ha, rfl⟩
      refine At.wpcS (i := 6) (d := 35) (v) (by kernel_rfl) rfl rfl rfl (fun Lx => ?_) ?_
      · skip
        refine At.move rfl rfl ?_
        refine At.ops0 ?_
        exact fun a ha => ⟨ha, rfl⟩
      refine At.wpcS (i := 7) (d := 36) (.agg t.cs) (by kernel_rfl) rfl rfl rfl (fun Lx => ?_) ?_
      · skip
        refine At.load rfl (Ld.own ag33 (sz33.trans (congrArg some (ht).size.symm)) hb2) rfl ?_
        refine At.ops0 ?_
        exact fun a ha => ⟨ha, rfl⟩
      refine At.wpcS (i := 8) (d := 37) (.int .i64 (k : Int)) (by kernel_rfl) rfl rfl rfl (fun Lx => ?_) ?_
      · skip
        refine At.move rfl rfl ?_
        refine At.ops0 ?_
        exact fun a ha => ⟨ha, rfl⟩
      refine At.wpcE [9] (by kernel_rfl) (by kernel_rfl) (.cons [0, 1, 2, 3, 4, 5, 6] rfl (by kernel_rfl) ?_ .nil)
      refine At.call en48 rfl rfl (bound_any t k _ ((ht).keep hB)) (fun e w5 hR => ?_)
      obtain ⟨vs1, rfl, hbl2, hst1⟩ := hR
      refine ⟨_, rfl, ?_⟩
      replace hb1 := Below.old hbl2 hb1
      replace hb2 := Below.old hbl2 hb2
      replace hB := Below.andThen hB hbl2
      refine At.ops0 ?_
      refine At.wpcN (.cons rfl rfl rfl rfl (fun Lx => ?_) (.cons rfl rfl rfl rfl (fun Lx => ?_) (.cons rfl rfl rfl rfl (fun Lx => ?_) (.cons rfl rfl rfl rfl (fun Lx => ?_) (.cons rfl rfl rfl rfl (fun Lx => ?_) (.cons rfl rfl rfl rfl (fun Lx => ?_) (.cons rfl rfl rfl rfl (fun Lx => ?_) .nil))))))) ?_
      · skip
        refine At.load rfl (Ld.own ag35 (sz35.trans (congrArg some (hp).size.symm)) hb1) rfl ?_
        refine At.ops0 ?_
        exact fun a ha => ⟨ha, rfl⟩
      · skip
        refine At.fieldAddr rfl fo33_5 rfl ?_
        refine At.ops0 ?_
        exact fun a ha => ⟨ha, rfl⟩
      · skip
        refine At.load rfl (Ld.ownCell ag24 hb2 (ht).c5) rfl ?_
        refine At.ops0 ?_
        exact fun a ha => ⟨ha, rfl⟩
      · skip
        refine At.move rfl rfl ?_
        refine At.ops0 ?_
        exact fun a ha => ⟨ha, rfl⟩
      · skip
        refine At.indexAddr (i := k) rfl rfl ((ht).kidsAt).okL (lt_of_some hu1) el24 sz33 rfl ?_
        refine At.ops0 ?_
        exact fun a ha => ⟨ha, rfl⟩
      · skip
        refine At.load rfl (Ld.row ag33 (sz33.trans (congrArg some (((ht).kid hu1)).size.symm)) ((((ht).kidsAt).row hu1).keep hB)) rfl ?_
        refine At.ops0 ?_
        exact fun a ha => ⟨ha, rfl⟩
      · skip
        refine At.move rfl rfl ?_
        refine At.ops0 ?_
        exact fun a ha => ⟨ha, rfl⟩
      refine At.wpcE [10] (by kernel_rfl) (by kernel_rfl) (.cons [0, 1, 2, 3, 4, 5] rfl (by kernel_rfl) ?_ .nil)
      refine At.call en47 rfl rfl (refWith_any v vs1 bound (boundB t.k t.nm t.pm k) _ ((hv).keep hB) ((hst1).keep (Below.refl _ _)) (by have := wt_kids t; have := wt_arms t; omega)) (fun e w6 hR => ?_)
      obtain ⟨vs2, rfl, hbl3, hst2⟩ := hR
      refine ⟨_, rfl, ?_⟩
      replace hb1 := Below.old hbl3 hb1
      replace hb2 := Below.old hbl3 hb2
      replace hst1 := hst1.below hbl3
      replace hB := Below.andThen hB hbl3
      refine At.ops0 ?_
      refine At.wpcN (.cons rfl rfl rfl rfl (fun Lx => ?_) (.cons rfl rfl rfl rfl (fun Lx => ?_) (.cons rfl rfl rfl rfl (fun Lx => ?_) (.cons rfl rfl rfl rfl (fun Lx => ?_) (.cons rfl rfl rfl rfl (fun Lx => ?_) (.cons rfl rfl rfl rfl (fun Lx => ?_) .nil)))))) ?_
      · skip
        refine At.load rfl (Ld.own ag35 (sz35.trans (congrArg some (hp).size.symm)) hb1) rfl ?_
        refine At.ops0 ?_
        exact fun a ha => ⟨ha, rfl⟩
      · skip
        refine At.fieldAddr rfl fo33_5 rfl ?_
        refine At.ops0 ?_
        exact fun a ha => ⟨ha, rfl⟩
      · skip
        refine At.load rfl (Ld.ownCell ag24 hb2 (ht).c5) rfl ?_
        refine At.ops0 ?_
        exact fun a ha => ⟨ha, rfl⟩
      · skip
        refine At.move rfl rfl ?_
        refine At.ops0 ?_
        exact fun a ha => ⟨ha, rfl⟩
      · skip
        refine At.indexAddr (i := k) rfl rfl ((ht).kidsAt).okL (lt_of_some hu1) el24 sz33 rfl ?_
        refine At.ops0 ?_
        exact fun a ha => ⟨ha, rfl⟩
      · skip
        refine At.load rfl (Ld.row ag33 (sz33.trans (congrArg some (((ht).kid hu1)).size.symm)) ((((ht).kidsAt).row hu1).keep hB)) rfl ?_
        refine At.ops0 ?_
        exact fun a ha => ⟨ha, rfl⟩
      refine At.wpcE [11] (by kernel_rfl) (by kernel_rfl) (.cons [] rfl (by kernel_rfl) ?_ .nil)
      refine At.call en30 rfl rfl (ih u1 hlt vs2 (bound ++ (boundB t.k t.nm t.pm k)) _ ((hp).keep hB) ((((ht).kid hu1)).keep hB) ((hst2).keep (Below.refl _ _)) (by rw [List.length_append]; omega)) (fun e w7 hR => ?_)
      obtain ⟨rfl, hbl4⟩ := hR
      refine ⟨_, rfl, ?_⟩
      replace hb1 := Below.old hbl4 hb1
      replace hb2 := Below.old hbl4 hb2
      replace hst1 := hst1.below hbl4
      replace hst2 := hst2.below hbl4
      replace hB := Below.andThen hB hbl4
      refine At.ops0 ?_
      refine At.wpcN .nil ?_
      refine At.wpcS (i := 12) (d := 28) (.tuple #[.int .i64 (atE (termS p (bound ++ (boundB t.k t.nm t.pm k)) u1)), .bool (okE (termS p (bound ++ (boundB t.k t.nm t.pm k)) u1))]) (by kernel_rfl) rfl rfl rfl (fun Lx => ?_) ?_
      · skip
        refine At.move rfl rfl ?_
        refine At.ops0 ?_
        exact fun a ha => ⟨ha, rfl⟩
      refine At.wpcS (i := 13) (d := 41) (.int .i64 (atE (termS p (bound ++ (boundB t.k t.nm t.pm k)) u1))) (by kernel_rfl) rfl rfl rfl (fun Lx => ?_) ?_
      · skip
        refine At.extract rfl rfl rfl ?_
        refine At.ops0 ?_
        exact fun a ha => ⟨ha, rfl⟩
      refine At.wpcS (i := 14) (d := 42) (.bool (okE (termS p (bound ++ (boundB t.k t.nm t.pm k)) u1))) (by kernel_rfl) rfl rfl rfl (fun Lx => ?_) ?_
      · skip
        refine At.extract rfl rfl rfl ?_
        refine At.ops0 ?_
        exact fun a ha => ⟨ha, rfl⟩
      refine At.wpcE [15] (by kernel_rfl) (by kernel_rfl) (.cons [14] rfl (by kernel_rfl) ?_ .nil)
      refine At.assign rfl rfl ?_
      refine At.ops0 ?_
      refine At.wpcN (.cons rfl rfl rfl rfl (fun Lx => ?_) .nil) ?_
      · skip
        refine At.extract rfl rfl rfl ?_
        refine At.ops0 ?_
        exact fun a ha => ⟨ha, rfl⟩
      refine At.wpcE [16] (by kernel_rfl) (by kernel_rfl) (.cons [] rfl (by kernel_rfl) ?_ .nil)
      refine At.assign rfl rfl ?_
      refine At.ops0 ?_
      refine At.wpcN .nil ?_
      refine At.wpcZ ?_
      refine At.thenN ?_
      refine At.seq ?_
      refine At.region ?_
      refine At.move rfl rfl ?_
      refine At.not rfl rfl ?_
      refine At.ops0 ?_
      refine At.thenN ?_
      refine At.cond (b := (!(okE (termS p (bound ++ (boundB t.k t.nm t.pm k)) u1)))) rfl (fun hc3 => ?_) (fun hc3 => ?_)
      · skip
        refine At.seq ?_
        refine At.region ?_
        refine At.move rfl rfl ?_
        refine At.assign rfl rfl ?_
        refine At.assign rfl rfl ?_
        refine At.ops0 ?_
        refine At.thenN ?_
        refine At.retc ?_
        refine At.inR ?_
        refine At.thenR ?_
        refine At.thenR ?_
        refine At.inR ?_
        refine At.thenR ?_
        refine At.doneR (ResV.tmp rfl (ResV.tmp rfl ResV.nil)) ?_
        have hbad := hc3; rw [Bool.not_eq_true'] at hbad
        have hx := atE_some (s := kidsS p t.k t.nm t.pm bound (k + 1) (t.kids.drop (k + 1))) hbad
        have hx2 := atE_some (s := armsS p bound t.arms) hbad
        exact ⟨congrArg Ending.returned (by rw [termS_go hone, ← hn, kidsS_step hu1, ← hins, hx, hx2, termF, hbad]; rfl), hB⟩
      · skip
        refine At.skip ?_
        refine At.inN ?_
        refine At.thenN ?_
        refine At.region ?_
        refine At.move rfl rfl ?_
        refine At.addI rfl rfl rfl (by have := wt_kids t; have := wt_arms t; omega) ?_
        refine At.assign rfl rfl ?_
        refine At.ops0 ?_
        refine At.thenN ?_
        exact fun a ha => ⟨(k + 1), ha.sub (Sub.cons rfl (Sub.cons rfl (Sub.cons rfl (Sub.cons rfl Sub.nil)))), ⟨hB, hb1, hb2, (by omega), (by have hg := hc3; rw [Bool.not_eq_false'] at hg; rw [← hn, kidsS_step hu1, ← hins, atE_none hg]; rfl)⟩, by first | omega | (dsimp only; omega)⟩
    · skip
      have hc2' := of_decide_eq_false hc2
      refine At.exit ?_
      refine At.thenE ?_
      refine At.thenE ?_
      refine At.inE ?_
      refine At.thenN ?_
      refine At.seq ?_
      refine At.seq ?_
      refine At.region ?_
      refine At.assign rfl rfl ?_
      refine At.ops0 ?_
      refine At.thenN ?_
      refine At.block ?_
      have hkn : ∀ x, orO (kidsS p t.k t.nm t.pm bound 0 t.kids) x = x := fun x => by rw [← hn, List.drop_eq_nil_of_le (by omega)]; rfl
      refine At.loop (Nat) (fun j => [(2, v), (3, .pointer (some ⟨b1, 0, none⟩)), (4, .pointer (some ⟨b2, 0, none⟩)), (11, .int .i64 (j : Int))]) (fun j w8 => Below w.heap.size w w8 ∧ w8.heap[b1]? = some (.cells p.cs 35) ∧ w8.heap[b2]? = some (.cells t.cs 33) ∧ (j ≤ t.arms.length) ∧ (armsS p bound (t.arms.drop j) = armsS p bound t.arms)) (fun j => t.arms.length - j) (0 : Nat) (Sub.cons rfl (Sub.cons rfl (Sub.cons rfl (Sub.cons rfl Sub.nil)))) ⟨hB, hb1, hb2, (Nat.zero_le _), (rfl)⟩ (fun j w8 hI => ?_)
      clear hB hb1 hb2
      obtain ⟨hB, hb1, hb2, hjb, hn2⟩ := hI
      show At _ _ [(2, v), (3, .pointer (some ⟨b1, 0, none⟩)), (4, .pointer (some ⟨b2, 0, none⟩)), (11, .int .i64 (j : Int))] _ _
      refine At.seq ?_
      refine At.seq ?_
      refine At.region ?_
      refine At.move rfl rfl ?_
      refine At.fieldAddr rfl fo33_6 rfl ?_
      refine At.load rfl (Ld.ownCell ag25 hb2 (ht).c6) rfl ?_
      refine At.lenSl rfl ((ht).armsAt).okL el25 rfl ?_
      refine At.lss rfl rfl rfl ?_
      refine At.ops0 ?_
      refine At.thenN ?_
      refine At.cond (b := decide ((j : Int) < (t.arms.length : Int))) rfl (fun hc4 => ?_) (fun hc4 => ?_)
      · skip
        have hc4' := of_decide_eq_true hc4
        refine At.skip ?_
        refine At.thenN ?_
        refine At.seq ?_
        refine At.block ?_
        refine At.seq ?_
        obtain ⟨u2, hu2⟩ := some_of_lt (l := t.arms) (i := j) (by omega)
        have hw := wt_arm (List.mem_of_getElem? hu2)
        have hlt : wtT u2.body < wtT t := by omega
        refine At.drawG (n := 21) mixed (by kernel_rfl) rfl (PanicOk.then (PanicOk.block (PanicOk.then (PanicOk.then (PanicOk.block (PanicOk.then PanicOk.body)))))) ?_
        have hB := Below.drewB hB
        have hb1 : _ := (show w8.drew.heap[b1]? = _ from hb1)
        have hb2 : _ := (show w8.drew.heap[b2]? = _ from hb2)
        refine At.wpcS (i := 0) (d := 54) (.agg p.cs) (by kernel_rfl) rfl rfl rfl (fun Lx => ?_) ?_
        · skip
          refine At.load rfl (Ld.own ag35 (sz35.trans (congrArg some (hp).size.symm)) hb1) rfl ?_
          refine At.ops0 ?_
          exact fun a ha => ⟨ha, rfl⟩
        refine At.wpcS (i := 1) (d := 55) (.pointer (some ⟨b2, 0 + 6, none⟩)) (by kernel_rfl) rfl rfl rfl (fun Lx => ?_) ?_
        · skip
          refine At.fieldAddr rfl fo33_6 rfl ?_
          refine At.ops0 ?_
          exact fun a ha => ⟨ha, rfl⟩
        refine At.wpcS (i := 2) (d := 56) (t.av) (by kernel_rfl) rfl rfl rfl (fun Lx => ?_) ?_
        · skip
          refine At.load rfl (Ld.ownCell ag25 hb2 (ht).c6) rfl ?_
          refine At.ops0 ?_
          exact fun a ha => ⟨ha, rfl⟩
        refine At.wpcS (i := 3) (d := 57) (.int .i64 (j : Int)) (by kernel_rfl) rfl rfl rfl (fun Lx => ?_) ?_
        · skip
          refine At.move rfl rfl ?_
          refine At.ops0 ?_
          exact fun a ha => ⟨ha, rfl⟩
        refine At.wpcS (i := 4) (d := 58) (.pointer (some ⟨vBlock t.av, vOff t.av + j * 23, none⟩)) (by kernel_rfl) rfl rfl rfl (fun Lx => ?_) ?_
        · skip
          refine At.indexAddr (i := j) rfl rfl ((ht).armsAt).okL (lt_of_some hu2) el25 sz71 rfl ?_
          refine At.ops0 ?_
          exact fun a ha => ⟨ha, rfl⟩
        refine At.wpcS (i := 5) (d := 59) (.pointer (some ⟨vBlock t.av, vOff t.av + j * 23 + 2, none⟩)) (by kernel_rfl) rfl rfl rfl (fun Lx => ?_) ?_
        · skip
          refine At.fieldAddr rfl fo71_2 rfl ?_
          refine At.ops0 ?_
          exact fun a ha => ⟨ha, rfl⟩
        refine At.wpcS (i := 6) (d := 60) (.agg u2.body.cs) (by kernel_rfl) rfl rfl rfl (fun Lx => ?_) ?_
        · skip
          refine At.load rfl (Ld.row ag33 (sz33.trans (congrArg some ((((ht).arm hu2)).body).size.symm)) (((((ht).armsAt).row hu2).part 2 (((ht).arm hu2)).bodyCs).keep hB)) rfl ?_
          refine At.ops0 ?_
          exact fun a ha => ⟨ha, rfl⟩
        refine At.wpcS (i := 7) (d := 61) (v) (by kernel_rfl) rfl rfl rfl (fun Lx => ?_) ?_
        · skip
          refine At.move rfl rfl ?_
          refine At.ops0 ?_
          exact fun a ha => ⟨ha, rfl⟩
        refine At.wpcS (i := 8) (d := 62) (.pointer (some ⟨b2, 0 + 6, none⟩)) (by kernel_rfl) rfl rfl rfl (fun Lx => ?_) ?_
        · skip
          refine At.fieldAddr rfl fo33_6 rfl ?_
          refine At.ops0 ?_
          exact fun a ha => ⟨ha, rfl⟩
        refine At.wpcS (i := 9) (d := 63) (t.av) (by kernel_rfl) rfl rfl rfl (fun Lx => ?_) ?_
        · skip
          refine At.load rfl (Ld.ownCell ag25 hb2 (ht).c6) rfl ?_
          refine At.ops0 ?_
          exact fun a ha => ⟨ha, rfl⟩
        refine At.wpcS (i := 10) (d := 64) (.int .i64 (j : Int)) (by kernel_rfl) rfl rfl rfl (fun Lx => ?_) ?_
        · skip
          refine At.move rfl rfl ?_
          refine At.ops0 ?_
          exact fun a ha => ⟨ha, rfl⟩
        refine At.wpcS (i := 11) (d := 65) (.pointer (some ⟨vBlock t.av, vOff t.av + j * 23, none⟩)) (by kernel_rfl) rfl rfl rfl (fun Lx => ?_) ?_
        · skip
          refine At.indexAddr (i := j) rfl rfl ((ht).armsAt).okL (lt_of_some hu2) el25 sz71 rfl ?_
          refine At.ops0 ?_
          exact fun a ha => ⟨ha, rfl⟩
        refine At.wpcS (i := 12) (d := 66) (.pointer (some ⟨vBlock t.av, vOff t.av + j * 23 + 1, none⟩)) (by kernel_rfl) rfl rfl rfl (fun Lx => ?_) ?_
        · skip
          refine At.fieldAddr rfl fo71_1 rfl ?_
          refine At.ops0 ?_
          exact fun a ha => ⟨ha, rfl⟩
        refine At.wpcS (i := 13) (d := 67) (u2.vv) (by kernel_rfl) rfl rfl rfl (fun Lx => ?_) ?_
        · skip
          refine At.load rfl (Ld.cell ag27 (cell_keep ((((ht).armsAt).row hu2).get (((ht).arm hu2)).c1) hB)) rfl ?_
          refine At.ops0 ?_
          exact fun a ha => ⟨ha, rfl⟩
        refine At.wpcE [14] (by kernel_rfl) (by kernel_rfl) (.cons [0, 1, 2, 3, 4, 5, 6] rfl (by kernel_rfl) ?_ .nil)
        refine At.call en47 rfl rfl (refWith_any v u2.vv bound u2.vars _ ((hv).keep hB) (((((ht).arm hu2)).varsAt).keep hB) (by have := wt_kids t; have := wt_arms t; omega)) (fun e w9 hR => ?_)
        obtain ⟨vs3, rfl, hbl5, hst3⟩ := hR
        refine ⟨_, rfl, ?_⟩
        replace hb1 := Below.old hbl5 hb1
        replace hb2 := Below.old hbl5 hb2
        replace hB := Below.andThen hB hbl5
        refine At.ops0 ?_
        refine At.wpcN (.cons rfl rfl rfl rfl (fun Lx => ?_) (.cons rfl rfl rfl rfl (fun Lx => ?_) (.cons rfl rfl rfl rfl (fun Lx => ?_) (.cons rfl rfl rfl rfl (fun Lx => ?_) (.cons rfl rfl rfl rfl (fun Lx => ?_) (.cons rfl rfl rfl rfl (fun Lx => ?_) (.cons rfl rfl rfl rfl (fun Lx => ?_) .nil))))))) ?_
        · skip
          refine At.load rfl (Ld.own ag35 (sz35.trans (congrArg some (hp).size.symm)) hb1) rfl ?_
          refine At.ops0 ?_
          exact fun a ha => ⟨ha, rfl⟩
        · skip
          refine At.fieldAddr rfl fo33_6 rfl ?_
          refine At.ops0 ?_
          exact fun a ha => ⟨ha, rfl⟩
        · skip
          refine At.load rfl (Ld.ownCell ag25 hb2 (ht).c6) rfl ?_
          refine At.ops0 ?_
          exact fun a ha => ⟨ha, rfl⟩
        · skip
          refine At.move rfl rfl ?_
          refine At.ops0 ?_
          exact fun a ha => ⟨ha, rfl⟩
        · skip
          refine At.indexAddr (i := j) rfl rfl ((ht).armsAt).okL (lt_of_some hu2) el25 sz71 rfl ?_
          refine At.ops0 ?_
          exact fun a ha => ⟨ha, rfl⟩
        · skip
          refine At.fieldAddr rfl fo71_2 rfl ?_
          refine At.ops0 ?_
          exact fun a ha => ⟨ha, rfl⟩
        · skip
          refine At.load rfl (Ld.row ag33 (sz33.trans (congrArg some ((((ht).arm hu2)).body).size.symm)) (((((ht).armsAt).row hu2).part 2 (((ht).arm hu2)).bodyCs).keep hB)) rfl ?_
          refine At.ops0 ?_
          exact fun a ha => ⟨ha, rfl⟩
        refine At.wpcE [15] (by kernel_rfl) (by kernel_rfl) (.cons [] rfl (by kernel_rfl) ?_ .nil)
        refine At.call en30 rfl rfl (ih u2.body hlt vs3 (bound ++ u2.vars) _ ((hp).keep hB) (((((ht).arm hu2)).body).keep hB) ((hst3).keep (Below.refl _ _)) (by rw [List.length_append]; omega)) (fun e w10 hR => ?_)
        obtain ⟨rfl, hbl6⟩ := hR
        refine ⟨_, rfl, ?_⟩
        replace hb1 := Below.old hbl6 hb1
        replace hb2 := Below.old hbl6 hb2
        replace hst3 := hst3.below hbl6
        replace hB := Below.andThen hB hbl6
        refine At.ops0 ?_
        refine At.wpcN .nil ?_
        refine At.wpcS (i := 16) (d := 53) (.tuple #[.int .i64 (atE (termS p (bound ++ u2.vars) u2.body)), .bool (okE (termS p (bound ++ u2.vars) u2.body))]) (by kernel_rfl) rfl rfl rfl (fun Lx => ?_) ?_
        · skip
          refine At.move rfl rfl ?_
          refine At.ops0 ?_
          exact fun a ha => ⟨ha, rfl⟩
        refine At.wpcS (i := 17) (d := 70) (.int .i64 (atE (termS p (bound ++ u2.vars) u2.body))) (by kernel_rfl) rfl rfl rfl (fun Lx => ?_) ?_
        · skip
          refine At.extract rfl rfl rfl ?_
          refine At.ops0 ?_
          exact fun a ha => ⟨ha, rfl⟩
        refine At.wpcS (i := 18) (d := 71) (.bool (okE (termS p (bound ++ u2.vars) u2.body))) (by kernel_rfl) rfl rfl rfl (fun Lx => ?_) ?_
        · skip
          refine At.extract rfl rfl rfl ?_
          refine At.ops0 ?_
          exact fun a ha => ⟨ha, rfl⟩
        refine At.wpcE [19] (by kernel_rfl) (by kernel_rfl) (.cons [18] rfl (by kernel_rfl) ?_ .nil)
        refine At.assign rfl rfl ?_
        refine At.ops0 ?_
        refine At.wpcN (.cons rfl rfl rfl rfl (fun Lx => ?_) .nil) ?_
        · skip
          refine At.extract rfl rfl rfl ?_
          refine At.ops0 ?_
          exact fun a ha => ⟨ha, rfl⟩
        refine At.wpcE [20] (by kernel_rfl) (by kernel_rfl) (.cons [] rfl (by kernel_rfl) ?_ .nil)
        refine At.assign rfl rfl ?_
        refine At.ops0 ?_
        refine At.wpcN .nil ?_
        refine At.wpcZ ?_
        refine At.thenN ?_
        refine At.seq ?_
        refine At.region ?_
        refine At.move rfl rfl ?_
        refine At.not rfl rfl ?_
        refine At.ops0 ?_
        refine At.thenN ?_
        refine At.cond (b := (!(okE (termS p (bound ++ u2.vars) u2.body)))) rfl (fun hc5 => ?_) (fun hc5 => ?_)
        · skip
          refine At.seq ?_
          refine At.region ?_
          refine At.move rfl rfl ?_
          refine At.assign rfl rfl ?_
          refine At.assign rfl rfl ?_
          refine At.ops0 ?_
          refine At.thenN ?_
          refine At.retc ?_
          refine At.inR ?_
          refine At.thenR ?_
          refine At.thenR ?_
          refine At.inR ?_
          refine At.thenR ?_
          refine At.doneR (ResV.tmp rfl (ResV.tmp rfl ResV.nil)) ?_
          have hbad := hc5; rw [Bool.not_eq_true'] at hbad
          have hx := atE_some (s := armsS p bound (t.arms.drop (j + 1))) hbad
          exact ⟨congrArg Ending.returned (by rw [termS_go hone, hkn, ← hn2, armsS_step hu2, hx, termF, hbad]; rfl), hB⟩
        · skip
          refine At.skip ?_
          refine At.inN ?_
          refine At.thenN ?_
          refine At.region ?_
          refine At.move rfl rfl ?_
          refine At.addI rfl rfl rfl (by have := wt_kids t; have := wt_arms t; omega) ?_
          refine At.assign rfl rfl ?_
          refine At.ops0 ?_
          refine At.thenN ?_
          exact fun a ha => ⟨(j + 1), ha.sub (Sub.cons rfl (Sub.cons rfl (Sub.cons rfl (Sub.cons rfl Sub.nil)))), ⟨hB, hb1, hb2, (by omega), (by have hg := hc5; rw [Bool.not_eq_false'] at hg; rw [← hn2, armsS_step hu2, atE_none hg]; rfl)⟩, by first | omega | (dsimp only; omega)⟩
      · skip
        have hc4' := of_decide_eq_false hc4
        refine At.exit ?_
        refine At.thenE ?_
        refine At.thenE ?_
        refine At.inE ?_
        refine At.thenN ?_
        refine At.seq ?_
        refine At.region ?_
        refine At.assign rfl rfl ?_
        refine At.assign rfl rfl ?_
        refine At.ops0 ?_
        refine At.thenN ?_
        refine At.retc ?_
        refine At.doneR (ResV.tmp rfl (ResV.tmp rfl ResV.nil)) ?_
        exact ⟨congrArg Ending.returned (by rw [termS_go hone, hkn, ← hn2, List.drop_eq_nil_of_le (by omega)]; rfl), hB⟩
theorem refTerm_any (p : Pr) (hz : PrSz p) : ∀ (t : Tm) (v : Value) (bound : List ByteArray) (w : World), PrOk w p → TmOk w t → StrsAt w v bound → bound.length + wtT t ≤ 4398046511104 →
    Calls Try.prog 30 ([.agg p.cs, .agg t.cs, v] : List Value).toArray w fun e w' => e = .returned (termF (termS p bound t)) ∧ Below w.heap.size w w' := by
  have key : ∀ (n : Nat) (t : Tm), wtT t = n → ∀ (v : Value) (bound : List ByteArray) (w : World), PrOk w p → TmOk w t → StrsAt w v bound → bound.length + wtT t ≤ 4398046511104 →
      Calls Try.prog 30 ([.agg p.cs, .agg t.cs, v] : List Value).toArray w fun e w' => e = .returned (termF (termS p bound t)) ∧ Below w.heap.size w w' := by
    intro n
    induction n using Nat.strongRecOn with
    | _ n ih => intro t hn v bound w h1 h2 h3 h4; exact refTerm_step p hz t v bound w h1 h2 h3 h4 (fun u hu => ih (wtT u) (hn ▸ hu) u rfl)
  exact fun t => key _ t rfl
theorem declared_any (p : Pr) (w : World) (hp : PrOk w p) (hz : PrSz p) :
    Calls Try.prog 29 ([.agg p.cs] : List Value).toArray w fun e w' => e = .returned (.int .i64 (declR p)) ∧ Below w.heap.size w w' := by
  have hel := hz.effs
  have hdl := hz.dats
  have hB := Below.refl w.heap.size w
  refine At.enter (N := 190) Try.func29 rfl rfl (by simp) [(0, .agg p.cs)] (by simp) ?_
  refine At.seq ?_
  refine At.region ?_
  refine At.box rfl rfl (fun b1 w1 F1 => ?_)
  have gb1 := F1.ge hB
  have hb1 : w1.heap[b1]? = some (.cells p.cs 35) := F1.new
  replace hB := F1.below' hB
  refine At.assign rfl rfl ?_
  refine At.ops0 ?_
  refine At.thenN ?_
  refine At.seq ?_
  refine At.seq ?_
  refine At.region ?_
  refine At.fieldAddr rfl fo35_0 rfl ?_
  refine At.load rfl (Ld.ownCell ag22 hb1 (hp).c0) rfl ?_
  refine At.lenSl rfl ((hp).effsAt).okL el22 rfl ?_
  refine At.gtr rfl rfl rfl ?_
  refine At.ops0 ?_
  refine At.thenN ?_
  refine At.cond (b := decide (65534 < (p.effs.length : Int))) rfl (fun hc1 => ?_) (fun hc1 => ?_)
  · skip
    have hc1' := of_decide_eq_true hc1
    refine At.seq ?_
    refine At.region ?_
    refine At.assign rfl rfl ?_
    refine At.ops0 ?_
    refine At.thenN ?_
    refine At.retc ?_
    refine At.thenR ?_
    refine At.doneR (ResV.tmp rfl ResV.nil) ?_
    exact ⟨congrArg Ending.returned (congrArg (Value.int .i64) (Eq.symm (declR_lim hc1))), hB⟩
  · skip
    have hc1' := of_decide_eq_false hc1
    refine At.skip ?_
    refine At.thenN ?_
    refine At.seq ?_
    refine At.region ?_
    refine At.assign rfl rfl ?_
    refine At.ops0 ?_
    refine At.thenN ?_
    refine At.seq ?_
    refine At.region ?_
    refine At.assign rfl rfl ?_
    refine At.ops0 ?_
    refine At.thenN ?_
    refine At.seq ?_
    refine At.seq ?_
    refine At.region ?_
    refine At.assign rfl rfl ?_
    refine At.ops0 ?_
    refine At.thenN ?_
    refine At.block ?_
    have hrAEff : OwnS 9 w1 (.slice none 0 0) [] := OwnS.nil _ _
    have gAEff : ∀ g, Value.ownBlock (.slice none 0 0) = some g → w.heap.size ≤ g := fun g h => by cases h
    have hrBEff : OwnS 9 w1 (.slice none 0 0) [] := OwnS.nil _ _
    have gBEff : ∀ g, Value.ownBlock (.slice none 0 0) = some g → w.heap.size ≤ g := fun g h => by cases h
    refine At.loop (Nat × Value × Value) (fun (k, vAEff, vBEff) => [(1, .pointer (some ⟨b1, 0, none⟩)), (3, vAEff), (4, vBEff), (5, .int .i64 (k : Int))]) (fun (k, vAEff, vBEff) w2 => Below w.heap.size w w2 ∧ w2.heap[b1]? = some (.cells p.cs 35) ∧ OwnS 9 w2 vAEff ((p.effs.take k).map Eff.nm) ∧ OwnS 9 w2 vBEff ((p.effs.take k).flatMap fun e => e.ops.map Op.nm) ∧ (∀ g, vAEff.ownBlock = some g → w.heap.size ≤ g) ∧ (∀ g, vBEff.ownBlock = some g → w.heap.size ≤ g) ∧ (Apart vAEff vBEff) ∧ (k ≤ p.effs.length) ∧ (effsB p.dats ([con_] ++ (p.effs.take k).map Eff.nm) ((p.effs.take k).flatMap fun e => e.ops.map Op.nm) (p.effs.drop k) = effsB p.dats [con_] [] p.effs)) (fun (k, vAEff, vBEff) => p.effs.length - k) (0, .slice none 0 0, .slice none 0 0) (Sub.cons rfl (Sub.cons rfl (Sub.cons rfl (Sub.cons rfl Sub.nil)))) ⟨hB, hb1, hrAEff, hrBEff, (gAEff), (gBEff), (Apart.nil _), (Nat.zero_le _), (rfl)⟩ (fun gh w2 hI => ?_)
    obtain ⟨k, vAEff, vBEff⟩ := gh
    clear hB hb1
    obtain ⟨hB, hb1, hrAEff, hrBEff, gAEff, gBEff, apEff, hkb, hnEff⟩ := hI
    show At _ _ [(1, .pointer (some ⟨b1, 0, none⟩)), (3, vAEff), (4, vBEff), (5, .int .i64 (k : Int))] _ _
    refine At.seq ?_
    refine At.seq ?_
    refine At.region ?_
    refine At.move rfl rfl ?_
    refine At.fieldAddr rfl fo35_0 rfl ?_
    refine At.load rfl (Ld.ownCell ag22 hb1 (hp).c0) rfl ?_
    refine At.lenSl rfl ((hp).effsAt).okL el22 rfl ?_
    refine At.lss rfl rfl rfl ?_
    refine At.ops0 ?_
    refine At.thenN ?_
    refine At.cond (b := decide ((k : Int) < (p.effs.length : Int))) rfl (fun hc2 => ?_) (fun hc2 => ?_)
    · skip
      have hc2' := of_decide_eq_true hc2
      refine At.skip ?_
      refine At.thenN ?_
      refine At.seq ?_
      refine At.block ?_
      refine At.seq ?_
      obtain ⟨uEff, huEff⟩ := some_of_lt (l := p.effs) (i := k) (by omega)
      refine At.region ?_
      refine At.fieldAddr rfl fo35_0 rfl ?_
      refine At.load rfl (Ld.ownCell ag22 hb1 (hp).c0) rfl ?_
      refine At.move rfl rfl ?_
      refine At.indexAddr (i := k) rfl rfl ((hp).effsAt).okL (lt_of_some huEff) el22 sz43 rfl ?_
      refine At.load rfl (Ld.row ag43 (sz43.trans (congrArg some (((hp).eff huEff)).size.symm)) ((((hp).effsAt).row huEff).keep hB)) rfl ?_
      refine At.alloc ze43 rfl (fun b2 w3 F2 => ?_)
      have n_b1_b2 : b1 ≠ b2 := Nat.ne_of_lt (F2.lt hb1)
      have gb2 := F2.ge hB
      replace hb1 := F2.old hb1
      replace hrAEff := hrAEff.fresh F2
      replace hrBEff := hrBEff.fresh F2
      have hb2 : w3.heap[b2]? = some (.cells #[.string (⟨#[]⟩ : ByteArray), (.slice none 0 0)] 43) := F2.new
      replace hB := F2.below' hB
      refine At.storeAll rfl rfl hb2 (sz43.trans (congrArg some (((hp).eff huEff)).size.symm)) (((hp).eff huEff)).size.symm (((hp).eff huEff)).one (fun w4 S1 => ?_)
      replace hb1 := S1.other hb1 n_b1_b2
      replace hrAEff := hrAEff.set S1 (hrAEff.neT hb2 rfl)
      replace hrBEff := hrBEff.set S1 (hrBEff.neT hb2 rfl)
      replace hb2 : w4.heap[b2]? = some (.cells uEff.cs 43) := S1.new
      replace hB := S1.below' hB gb2
      refine At.ops0 ?_
      refine At.thenN ?_
      refine At.seq ?_
      refine At.seq ?_
      refine At.region ?_
      refine At.fieldAddr rfl fo43_0 rfl ?_
      refine At.load rfl (Ld.ownCell ag9 hb2 (((hp).eff huEff)).c0) rfl ?_
      refine At.eqS rfl rfl rfl ?_
      refine At.move rfl rfl ?_
      refine At.cases (decide (uEff.nm = (⟨#[]⟩ : ByteArray))) (fun hg1 => ?_) (fun hg1 => ?_)
      · skip
        refine At.set (d := 32) (u := .bool true) rfl (congrArg Value.bool hg1) ?_
        have hg1' := of_decide_eq_true hg1
        refine At.no rfl rfl rfl rfl rfl rfl rfl ?_
        refine At.no rfl rfl rfl rfl rfl rfl rfl ?_
        refine At.no rfl rfl rfl rfl rfl rfl rfl ?_
        refine At.pickT rfl rfl rfl ?_
        refine At.move rfl rfl ?_
        refine At.no rfl rfl rfl rfl rfl rfl rfl ?_
        refine At.no rfl rfl rfl rfl rfl rfl rfl ?_
        refine At.no rfl rfl rfl rfl rfl rfl rfl ?_
        refine At.no rfl rfl rfl rfl rfl rfl rfl ?_
        refine At.pickT rfl rfl rfl ?_
        refine At.ops0 ?_
        refine At.thenN ?_
        refine At.condT rfl ?_
        refine At.seq ?_
        refine At.region ?_
        refine At.assign rfl rfl ?_
        refine At.ops0 ?_
        refine At.thenN ?_
        refine At.retc ?_
        refine At.thenR ?_
        refine At.inR ?_
        refine At.thenR ?_
        refine At.thenR ?_
        refine At.inR ?_
        refine At.thenR ?_
        refine At.doneR (ResV.tmp rfl ResV.nil) ?_
        have hbad : (decide (uEff.nm = (⟨#[]⟩ : ByteArray)) || memB uEff.nm ([con_] ++ (p.effs.take k).map Eff.nm)) = true := by rw [memB_con]; have e0 := hg1; simp only [e0, Bool.true_or, Bool.or_true]
        have hno : effsB p.dats [con_] [] p.effs = false := by rw [← hnEff, effsB_bad huEff hbad]
        exact ⟨congrArg Ending.returned (congrArg (Value.int .i64) (Eq.symm (declR_effs hc1 hno))), hB⟩
      · skip
        refine At.set (d := 32) (u := .bool false) rfl (congrArg Value.bool hg1) ?_
        have hg1' := of_decide_eq_false hg1
        refine At.yes rfl rfl rfl rfl ?_
        refine At.fieldAddr rfl fo43_0 rfl ?_
        refine At.yes rfl rfl rfl rfl ?_
        refine At.load rfl (Ld.ownCell ag9 hb2 (((hp).eff huEff)).c0) rfl ?_
        refine At.yes rfl rfl rfl rfl ?_
        refine At.eqS rfl rfl rfl ?_
        refine At.pickF rfl rfl rfl ?_
        refine At.move rfl rfl ?_
        refine At.cases (decide (uEff.nm = (⟨#[99, 111, 110, 115, 111, 108, 101]⟩ : ByteArray))) (fun hg2 => ?_) (fun hg2 => ?_)
        · skip
          refine At.set (d := 37) (u := .bool true) rfl (congrArg Value.bool hg2) ?_
          have hg2' := of_decide_eq_true hg2
          refine At.no rfl rfl rfl rfl rfl rfl rfl ?_
          refine At.no rfl rfl rfl rfl rfl rfl rfl ?_
          refine At.no rfl rfl rfl rfl rfl rfl rfl ?_
          refine At.no rfl rfl rfl rfl rfl rfl rfl ?_
          refine At.pickT rfl rfl rfl ?_
          refine At.ops0 ?_
          refine At.thenN ?_
          refine At.condT rfl ?_
          refine At.seq ?_
          refine At.region ?_
          refine At.assign rfl rfl ?_
          refine At.ops0 ?_
          refine At.thenN ?_
          refine At.retc ?_
          refine At.thenR ?_
          refine At.inR ?_
          refine At.thenR ?_
          refine At.thenR ?_
          refine At.inR ?_
          refine At.thenR ?_
          refine At.doneR (ResV.tmp rfl ResV.nil) ?_
          have hbad : (decide (uEff.nm = (⟨#[]⟩ : ByteArray)) || memB uEff.nm ([con_] ++ (p.effs.take k).map Eff.nm)) = true := by rw [memB_con]; have e0 := hg1; have e1 : decide (uEff.nm = con_) = true := hg2; simp only [e0, e1, Bool.true_or, Bool.or_true]
          have hno : effsB p.dats [con_] [] p.effs = false := by rw [← hnEff, effsB_bad huEff hbad]
          exact ⟨congrArg Ending.returned (congrArg (Value.int .i64) (Eq.symm (declR_effs hc1 hno))), hB⟩
        · skip
          refine At.set (d := 37) (u := .bool false) rfl (congrArg Value.bool hg2) ?_
          have hg2' := of_decide_eq_false hg2
          refine At.yes rfl rfl rfl rfl ?_
          refine At.move rfl rfl ?_
          refine At.yes rfl rfl rfl rfl ?_
          refine At.fieldAddr rfl fo43_0 rfl ?_
          refine At.yes rfl rfl rfl rfl ?_
          refine At.load rfl (Ld.ownCell ag9 hb2 (((hp).eff huEff)).c0) rfl ?_
          refine At.yes rfl rfl rfl rfl ?_
          refine At.call en44 rfl rfl (in_any vAEff ((p.effs.take k).map Eff.nm) uEff.nm _ ((hrAEff.strs).keep (Below.refl _ _)) (by simp only [List.length_append, List.length_map, List.length_take]; omega)) (fun e w' hR => ?_)
          obtain ⟨rfl, rfl⟩ := hR
          refine ⟨_, rfl, ?_⟩
          refine At.pickF rfl rfl rfl ?_
          refine At.ops0 ?_
          refine At.thenN ?_
          refine At.cond (b := (memB uEff.nm ((p.effs.take k).map Eff.nm))) rfl (fun hc3 => ?_) (fun hc3 => ?_)
          · skip
            refine At.seq ?_
            refine At.region ?_
            refine At.assign rfl rfl ?_
            refine At.ops0 ?_
            refine At.thenN ?_
            refine At.retc ?_
            refine At.thenR ?_
            refine At.inR ?_
            refine At.thenR ?_
            refine At.thenR ?_
            refine At.inR ?_
            refine At.thenR ?_
            refine At.doneR (ResV.tmp rfl ResV.nil) ?_
            have hbad : (decide (uEff.nm = (⟨#[]⟩ : ByteArray)) || memB uEff.nm ([con_] ++ (p.effs.take k).map Eff.nm)) = true := by rw [memB_con]; have e0 := hg1; have e1 : decide (uEff.nm = con_) = false := hg2; have e2 := hc3; simp only [e0, e1, e2, Bool.true_or, Bool.or_true]
            have hno : effsB p.dats [con_] [] p.effs = false := by rw [← hnEff, effsB_bad huEff hbad]
            exact ⟨congrArg Ending.returned (congrArg (Value.int .i64) (Eq.symm (declR_effs hc1 hno))), hB⟩
          · skip
            refine At.skip ?_
            refine At.thenN ?_
            refine At.seq ?_
            refine At.region ?_
            refine At.move rfl rfl ?_
            refine At.fieldAddr rfl fo43_0 rfl ?_
            refine At.load rfl (Ld.ownCell ag9 hb2 (((hp).eff huEff)).c0) rfl ?_
            refine At.buildSlice (xs := [.tmp 45]) rfl rfl el27 sz9 ze9 (by intro v hv; simp only [List.mem_cons, List.not_mem_nil, or_false] at hv; rcases hv with rfl <;> first | rfl | simp [Value.cells, Value.cells]) rfl (by decide) rfl (fun b3 w5 F3 => ?_)
            have n_b1_b3 : b1 ≠ b3 := Nat.ne_of_lt (F3.lt hb1)
            have n_b2_b3 : b2 ≠ b3 := Nat.ne_of_lt (F3.lt hb2)
            have gb3 := F3.ge hB
            replace hb1 := F3.old hb1
            replace hb2 := F3.old hb2
            replace hrAEff := hrAEff.fresh F3
            replace hrBEff := hrBEff.fresh F3
            have hb3 : w5.heap[b3]? = some (.cells #[.string uEff.nm] 9) := F3.new
            replace hB := F3.below' hB
            have hs1 : StrsAt w5 (.slice (some ⟨b3, 0, none⟩) 1 1) [uEff.nm] := StrsAt.own (ss := [uEff.nm]) hb3 rfl (by decide)
            refine At.appendS (ss := ((p.effs.take k).map Eff.nm)) rfl rfl el27 el27 sz9 by9 ze9 rfl hrAEff (hs1) (by first | omega | (have := hz.ops _ (List.mem_of_getElem? huEff); omega) | (have := hz.cons _ (List.mem_of_getElem? huDat); omega) | (simp only [List.length_append, List.length_map, List.length_take, List.length_cons, List.length_nil]; omega)) rfl (fun va1 w6 hO1 hA1 => ?_)
            replace hb1 := hA1.old hb1 (hrAEff.neT hb1 rfl)
            replace hb2 := hA1.old hb2 (hrAEff.neT hb2 rfl)
            clear hb3
            have ap_hO1_hrBEff := Apart.app (apEff) hA1 hrBEff
            replace hrBEff := AppR.apart hA1 hrBEff (Apart.symm apEff)
            have ghO1 := hA1.ge hB.size gAEff
            replace hB := hA1.below hB hB.size gAEff
            refine At.assign rfl rfl ?_
            refine At.ops0 ?_
            refine At.thenN ?_
            refine At.seq ?_
            refine At.region ?_
            refine At.assign rfl rfl ?_
            refine At.ops0 ?_
            refine At.thenN ?_
            refine At.block ?_
            have hfl := flat_le1 (fun e : Eff => e.ops.map Op.nm) huEff
            have hsum := hz.opsAll
            simp only [List.length_map] at hfl
            refine At.loop (Nat × Value) (fun (j, vCEff) => [(1, .pointer (some ⟨b1, 0, none⟩)), (3, va1), (4, vCEff), (5, .int .i64 (k : Int)), (6, .pointer (some ⟨b2, 0, none⟩)), (7, .int .i64 (j : Int))]) (fun (j, vCEff) w7 => Below w.heap.size w w7 ∧ w7.heap[b1]? = some (.cells p.cs 35) ∧ w7.heap[b2]? = some (.cells uEff.cs 43) ∧ OwnS 9 w7 va1 (((p.effs.take k).map Eff.nm) ++ [uEff.nm]) ∧ OwnS 9 w7 vCEff (((p.effs.take k).flatMap fun e => e.ops.map Op.nm) ++ (uEff.ops.take j).map Op.nm) ∧ (∀ g, vCEff.ownBlock = some g → w.heap.size ≤ g) ∧ (Apart va1 vCEff) ∧ (j ≤ uEff.ops.length) ∧ (opsB p.dats (((p.effs.take k).flatMap fun e => e.ops.map Op.nm) ++ (uEff.ops.take j).map Op.nm) (uEff.ops.drop j) = opsB p.dats ((p.effs.take k).flatMap fun e => e.ops.map Op.nm) uEff.ops)) (fun (j, vCEff) => uEff.ops.length - j) (0, vBEff) (Sub.cons rfl (Sub.cons rfl (Sub.cons rfl (Sub.cons rfl (Sub.cons rfl (Sub.cons rfl Sub.nil)))))) ⟨hB, hb1, hb2, hO1, (by rw [List.take_zero, List.map_nil, List.append_nil]; exact hrBEff), (gBEff), (ap_hO1_hrBEff), (Nat.zero_le _), (by rw [List.take_zero, List.map_nil, List.append_nil]; rfl)⟩ (fun gh w7 hI => ?_)
            obtain ⟨j, vCEff⟩ := gh
            clear hB hb1 hb2 hrBEff hO1
            obtain ⟨hB, hb1, hb2, hO1, hrCEff, gCEff, apCEff, hjb, hniEff⟩ := hI
            show At _ _ [(1, .pointer (some ⟨b1, 0, none⟩)), (3, va1), (4, vCEff), (5, .int .i64 (k : Int)), (6, .pointer (some ⟨b2, 0, none⟩)), (7, .int .i64 (j : Int))] _ _
            refine At.seq ?_
            refine At.seq ?_
            refine At.region ?_
            refine At.move rfl rfl ?_
            refine At.fieldAddr rfl fo43_1 rfl ?_
            refine At.load rfl (Ld.ownCell ag41 hb2 (((hp).eff huEff)).c1) rfl ?_
            refine At.lenSl rfl ((((hp).eff huEff)).opsAt).okL el41 rfl ?_
            refine At.lss rfl rfl rfl ?_
            refine At.ops0 ?_
            refine At.thenN ?_
            refine At.cond (b := decide ((j : Int) < (uEff.ops.length : Int))) rfl (fun hc4 => ?_) (fun hc4 => ?_)
            · skip
              have hc4' := of_decide_eq_true hc4
              refine At.skip ?_
              refine At.thenN ?_
              refine At.seq ?_
              refine At.block ?_
              refine At.seq ?_
              refine At.seq ?_
              obtain ⟨xEff, hxEff⟩ := some_of_lt (l := uEff.ops) (i := j) (by omega)
              refine At.cases (decide (xEff.nm = (⟨#[]⟩ : ByteArray))) (fun hg3 => ?_) (fun hg3 => ?_)
              · skip
                have hg3' := of_decide_eq_true hg3
                refine At.drawG (n := 39) mixed (by kernel_rfl) rfl (PanicOk.then (PanicOk.then (PanicOk.block (PanicOk.then (PanicOk.then (PanicOk.block (PanicOk.block (PanicOk.then (PanicOk.then (PanicOk.block (PanicOk.then PanicOk.body))))))))))) ?_
                have hB := Below.drewB hB
                have hb1 : _ := (show w7.drew.heap[b1]? = _ from hb1)
                have hb2 : _ := (show w7.drew.heap[b2]? = _ from hb2)
                have hO1 := hO1.drew
                have hrCEff := hrCEff.drew
                refine At.wpcS (i := 0) (d := 55) (.pointer (some ⟨b2, 0 + 1, none⟩)) (by kernel_rfl) rfl rfl rfl (fun Lx => ?_) ?_
                · skip
                  refine At.fieldAddr rfl fo43_1 rfl ?_
                  refine At.ops0 ?_
                  exact fun a ha => ⟨ha, rfl⟩
                refine At.wpcS (i := 1) (d := 56) (uEff.ov) (by kernel_rfl) rfl rfl rfl (fun Lx => ?_) ?_
                · skip
                  refine At.load rfl (Ld.ownCell ag41 hb2 (((hp).eff huEff)).c1) rfl ?_
                  refine At.ops0 ?_
                  exact fun a ha => ⟨ha, rfl⟩
                refine At.wpcS (i := 2) (d := 57) (.int .i64 (j : Int)) (by kernel_rfl) rfl rfl rfl (fun Lx => ?_) ?_
                · skip
                  refine At.move rfl rfl ?_
                  refine At.ops0 ?_
                  exact fun a ha => ⟨ha, rfl⟩
                refine At.wpcS (i := 3) (d := 58) (.pointer (some ⟨vBlock uEff.ov, vOff uEff.ov + j * 13, none⟩)) (by kernel_rfl) rfl rfl rfl (fun Lx => ?_) ?_
                · skip
                  refine At.indexAddr (i := j) rfl rfl ((((hp).eff huEff)).opsAt).okL (lt_of_some hxEff) el41 sz45 rfl ?_
                  refine At.ops0 ?_
                  exact fun a ha => ⟨ha, rfl⟩
                refine At.wpcS (i := 4) (d := 59) (.pointer (some ⟨vBlock uEff.ov, vOff uEff.ov + j * 13 + 0, none⟩)) (by kernel_rfl) rfl rfl rfl (fun Lx => ?_) ?_
                · skip
                  refine At.fieldAddr rfl fo45_0 rfl ?_
                  refine At.ops0 ?_
                  exact fun a ha => ⟨ha, rfl⟩
                refine At.wpcS (i := 5) (d := 60) (.string xEff.nm) (by kernel_rfl) rfl rfl rfl (fun Lx => ?_) ?_
                · skip
                  refine At.load rfl (Ld.cell ag9 (cell_keep ((((((hp).eff huEff)).opsAt).row hxEff).get (((((hp).eff huEff)).op hxEff)).c0) hB)) rfl ?_
                  refine At.ops0 ?_
                  exact fun a ha => ⟨ha, rfl⟩
                refine At.wpcS (i := 6) (d := 61) (.bool (decide (xEff.nm = (⟨#[]⟩ : ByteArray)))) (by kernel_rfl) rfl rfl rfl (fun Lx => ?_) ?_
                · skip
                  refine At.eqS rfl rfl rfl ?_
                  refine At.ops0 ?_
                  exact fun a ha => ⟨ha, rfl⟩
                refine At.set (d := 61) (u := .bool true) rfl (congrArg Value.bool hg3) ?_
                refine At.wpcS (i := 7) (d := 62) (.bool true) (by kernel_rfl) rfl rfl rfl (fun Lx => ?_) ?_
                · skip
                  refine At.move rfl rfl ?_
                  refine At.ops0 ?_
                  exact fun a ha => ⟨ha, rfl⟩
                refine At.wpcS (i := 8) (d := 63) (undef) (by kernel_rfl) rfl rfl rfl (fun Lx => ?_) ?_
                · skip
                  refine At.no rfl rfl rfl rfl rfl rfl rfl ?_
                  refine At.ops0 ?_
                  exact fun a ha => ⟨ha, rfl⟩
                refine At.wpcS (i := 9) (d := 64) (undef) (by kernel_rfl) rfl rfl rfl (fun Lx => ?_) ?_
                · skip
                  refine At.no rfl rfl rfl rfl rfl rfl rfl ?_
                  refine At.ops0 ?_
                  exact fun a ha => ⟨ha, rfl⟩
                refine At.wpcS (i := 10) (d := 65) (undef) (by kernel_rfl) rfl rfl rfl (fun Lx => ?_) ?_
                · skip
                  refine At.no rfl rfl rfl rfl rfl rfl rfl ?_
                  refine At.ops0 ?_
                  exact fun a ha => ⟨ha, rfl⟩
                refine At.wpcS (i := 11) (d := 66) (undef) (by kernel_rfl) rfl rfl rfl (fun Lx => ?_) ?_
                · skip
                  refine At.no rfl rfl rfl rfl rfl rfl rfl ?_
                  refine At.ops0 ?_
                  exact fun a ha => ⟨ha, rfl⟩
                refine At.wpcS (i := 12) (d := 67) (undef) (by kernel_rfl) rfl rfl rfl (fun Lx => ?_) ?_
                · skip
                  refine At.no rfl rfl rfl rfl rfl rfl rfl ?_
                  refine At.ops0 ?_
                  exact fun a ha => ⟨ha, rfl⟩
                refine At.wpcS (i := 13) (d := 68) (undef) (by kernel_rfl) rfl rfl rfl (fun Lx => ?_) ?_
                · skip
                  refine At.no rfl rfl rfl rfl rfl rfl rfl ?_
                  refine At.ops0 ?_
                  exact fun a ha => ⟨ha, rfl⟩
                refine At.wpcS (i := 14) (d := 69) (undef) (by kernel_rfl) rfl rfl rfl (fun Lx => ?_) ?_
                · skip
                  refine At.no rfl rfl rfl rfl rfl rfl rfl ?_
                  refine At.ops0 ?_
                  exact fun a ha => ⟨ha, rfl⟩
                refine At.wpcE [15] (by kernel_rfl) (by kernel_rfl) (.cons [] rfl (by kernel_rfl) ?_ .nil)
                refine At.no rfl rfl rfl rfl rfl rfl rfl ?_
                refine At.ops0 ?_
                refine At.wpcN .nil ?_
                refine At.wpcS (i := 16) (d := 71) (.bool true) (by kernel_rfl) rfl rfl rfl (fun Lx => ?_) ?_
                · skip
                  refine At.pickT rfl rfl rfl ?_
                  refine At.ops0 ?_
                  exact fun a ha => ⟨ha, rfl⟩
                refine At.wpcS (i := 17) (d := 72) (.bool true) (by kernel_rfl) rfl rfl rfl (fun Lx => ?_) ?_
                · skip
                  refine At.move rfl rfl ?_
                  refine At.ops0 ?_
                  exact fun a ha => ⟨ha, rfl⟩
                refine At.wpcS (i := 18) (d := 73) (undef) (by kernel_rfl) rfl rfl rfl (fun Lx => ?_) ?_
                · skip
                  refine At.no rfl rfl rfl rfl rfl rfl rfl ?_
                  refine At.ops0 ?_
                  exact fun a ha => ⟨ha, rfl⟩
                refine At.wpcS (i := 19) (d := 74) (undef) (by kernel_rfl) rfl rfl rfl (fun Lx => ?_) ?_
                · skip
                  refine At.no rfl rfl rfl rfl rfl rfl rfl ?_
                  refine At.ops0 ?_
                  exact fun a ha => ⟨ha, rfl⟩
                refine At.wpcS (i := 20) (d := 75) (undef) (by kernel_rfl) rfl rfl rfl (fun Lx => ?_) ?_
                · skip
                  refine At.no rfl rfl rfl rfl rfl rfl rfl ?_
                  refine At.ops0 ?_
                  exact fun a ha => ⟨ha, rfl⟩
                refine At.wpcS (i := 21) (d := 76) (undef) (by kernel_rfl) rfl rfl rfl (fun Lx => ?_) ?_
                · skip
                  refine At.no rfl rfl rfl rfl rfl rfl rfl ?_
                  refine At.ops0 ?_
                  exact fun a ha => ⟨ha, rfl⟩
                refine At.wpcS (i := 22) (d := 77) (undef) (by kernel_rfl) rfl rfl rfl (fun Lx => ?_) ?_
                · skip
                  refine At.no rfl rfl rfl rfl rfl rfl rfl ?_
                  refine At.ops0 ?_
                  exact fun a ha => ⟨ha, rfl⟩
                refine At.wpcS (i := 23) (d := 78) (undef) (by kernel_rfl) rfl rfl rfl (fun Lx => ?_) ?_
                · skip
                  refine At.no rfl rfl rfl rfl rfl rfl rfl ?_
                  refine At.ops0 ?_
                  exact fun a ha => ⟨ha, rfl⟩
                refine At.wpcS (i := 24) (d := 79) (undef) (by kernel_rfl) rfl rfl rfl (fun Lx => ?_) ?_
                · skip
                  refine At.no rfl rfl rfl rfl rfl rfl rfl ?_
                  refine At.ops0 ?_
                  exact fun a ha => ⟨ha, rfl⟩
                refine At.wpcE [25] (by kernel_rfl) (by kernel_rfl) (.cons [] rfl (by kernel_rfl) ?_ .nil)
                refine At.no rfl rfl rfl rfl rfl rfl rfl ?_
                refine At.ops0 ?_
                refine At.wpcN .nil ?_
                refine At.wpcS (i := 26) (d := 81) (undef) (by kernel_rfl) rfl rfl rfl (fun Lx => ?_) ?_
                · skip
                  refine At.no rfl rfl rfl rfl rfl rfl rfl ?_
                  refine At.ops0 ?_
                  exact fun a ha => ⟨ha, rfl⟩
                refine At.wpcS (i := 27) (d := 82) (.bool true) (by kernel_rfl) rfl rfl rfl (fun Lx => ?_) ?_
                · skip
                  refine At.pickT rfl rfl rfl ?_
                  refine At.ops0 ?_
                  exact fun a ha => ⟨ha, rfl⟩
                refine At.wpcS (i := 28) (d := 83) (.bool true) (by kernel_rfl) rfl rfl rfl (fun Lx => ?_) ?_
                · skip
                  refine At.move rfl rfl ?_
                  refine At.ops0 ?_
                  exact fun a ha => ⟨ha, rfl⟩
                refine At.wpcS (i := 29) (d := 84) (undef) (by kernel_rfl) rfl rfl rfl (fun Lx => ?_) ?_
                · skip
                  refine At.no rfl rfl rfl rfl rfl rfl rfl ?_
                  refine At.ops0 ?_
                  exact fun a ha => ⟨ha, rfl⟩
                refine At.wpcS (i := 30) (d := 85) (undef) (by kernel_rfl) rfl rfl rfl (fun Lx => ?_) ?_
                · skip
                  refine At.no rfl rfl rfl rfl rfl rfl rfl ?_
                  refine At.ops0 ?_
                  exact fun a ha => ⟨ha, rfl⟩
                refine At.wpcS (i := 31) (d := 86) (undef) (by kernel_rfl) rfl rfl rfl (fun Lx => ?_) ?_
                · skip
                  refine At.no rfl rfl rfl rfl rfl rfl rfl ?_
                  refine At.ops0 ?_
                  exact fun a ha => ⟨ha, rfl⟩
                refine At.wpcS (i := 32) (d := 87) (undef) (by kernel_rfl) rfl rfl rfl (fun Lx => ?_) ?_
                · skip
                  refine At.no rfl rfl rfl rfl rfl rfl rfl ?_
                  refine At.ops0 ?_
                  exact fun a ha => ⟨ha, rfl⟩
                refine At.wpcS (i := 33) (d := 88) (undef) (by kernel_rfl) rfl rfl rfl (fun Lx => ?_) ?_
                · skip
                  refine At.no rfl rfl rfl rfl rfl rfl rfl ?_
                  refine At.ops0 ?_
                  exact fun a ha => ⟨ha, rfl⟩
                refine At.wpcS (i := 34) (d := 89) (undef) (by kernel_rfl) rfl rfl rfl (fun Lx => ?_) ?_
                · skip
                  refine At.no rfl rfl rfl rfl rfl rfl rfl ?_
                  refine At.ops0 ?_
                  exact fun a ha => ⟨ha, rfl⟩
                refine At.wpcS (i := 35) (d := 90) (undef) (by kernel_rfl) rfl rfl rfl (fun Lx => ?_) ?_
                · skip
                  refine At.no rfl rfl rfl rfl rfl rfl rfl ?_
                  refine At.ops0 ?_
                  exact fun a ha => ⟨ha, rfl⟩
                refine At.wpcE [36] (by kernel_rfl) (by kernel_rfl) (.cons [] rfl (by kernel_rfl) ?_ .nil)
                refine At.no rfl rfl rfl rfl rfl rfl rfl ?_
                refine At.ops0 ?_
                refine At.wpcN .nil ?_
                refine At.wpcS (i := 37) (d := 92) (undef) (by kernel_rfl) rfl rfl rfl (fun Lx => ?_) ?_
                · skip
                  refine At.no rfl rfl rfl rfl rfl rfl rfl ?_
                  refine At.ops0 ?_
                  exact fun a ha => ⟨ha, rfl⟩
                refine At.wpcS (i := 38) (d := 93) (.bool true) (by kernel_rfl) rfl rfl rfl (fun Lx => ?_) ?_
                · skip
                  refine At.pickT rfl rfl rfl ?_
                  refine At.ops0 ?_
                  exact fun a ha => ⟨ha, rfl⟩
                refine At.wpcZ ?_
                refine At.thenN ?_
                refine At.condT rfl ?_
                refine At.seq ?_
                refine At.region ?_
                refine At.assign rfl rfl ?_
                refine At.ops0 ?_
                refine At.thenN ?_
                refine At.retc ?_
                refine At.thenR ?_
                refine At.inR ?_
                refine At.thenR ?_
                refine At.thenR ?_
                refine At.inR ?_
                refine At.inR ?_
                refine At.thenR ?_
                refine At.thenR ?_
                refine At.inR ?_
                refine At.thenR ?_
                refine At.doneR (ResV.tmp rfl ResV.nil) ?_
                have hgood0 : (decide (uEff.nm = (⟨#[]⟩ : ByteArray)) || memB uEff.nm ([con_] ++ (p.effs.take k).map Eff.nm)) = false := by rw [memB_con]; have e1 := hg1; have e2 : decide (uEff.nm = con_) = false := hg2; have e3 := hc3; simp only [e1, e2, e3, Bool.or_self]
                have hbad : ((decide (xEff.nm = (⟨#[]⟩ : ByteArray)) || memB xEff.nm (((p.effs.take k).flatMap fun e => e.ops.map Op.nm) ++ (uEff.ops.take j).map Op.nm)) || !(knownT p.dats xEff.arg && knownT p.dats xEff.res)) = true := by have e0 := hg3; (try simp only [Bool.not_eq_true', Bool.not_eq_false', Bool.not_not] at e0 ⊢); simp only [e0, Bool.true_or, Bool.or_true, Bool.not_false, Bool.false_and, Bool.and_false]
                have hno : effsB p.dats [con_] [] p.effs = false := by rw [← hnEff, effsB_step huEff hgood0, ← hniEff, opsB_bad hxEff hbad]; rfl
                exact ⟨congrArg Ending.returned (congrArg (Value.int .i64) (Eq.symm (declR_effs hc1 hno))), hB⟩
              · skip
                have hg3' := of_decide_eq_false hg3
                refine At.cases ((memB xEff.nm (((p.effs.take k).flatMap fun e => e.ops.map Op.nm) ++ (uEff.ops.take j).map Op.nm))) (fun hg4 => ?_) (fun hg4 => ?_)
                · skip
                  refine At.drawG (n := 39) mixed (by kernel_rfl) rfl (PanicOk.then (PanicOk.then (PanicOk.block (PanicOk.then (PanicOk.then (PanicOk.block (PanicOk.block (PanicOk.then (PanicOk.then (PanicOk.block (PanicOk.then PanicOk.body))))))))))) ?_
                  have hB := Below.drewB hB
                  have hb1 : _ := (show w7.drew.heap[b1]? = _ from hb1)
                  have hb2 : _ := (show w7.drew.heap[b2]? = _ from hb2)
                  have hO1 := hO1.drew
                  have hrCEff := hrCEff.drew
                  refine At.wpcS (i := 0) (d := 55) (.pointer (some ⟨b2, 0 + 1, none⟩)) (by kernel_rfl) rfl rfl rfl (fun Lx => ?_) ?_
                  · skip
                    refine At.fieldAddr rfl fo43_1 rfl ?_
                    refine At.ops0 ?_
                    exact fun a ha => ⟨ha, rfl⟩
                  refine At.wpcS (i := 1) (d := 56) (uEff.ov) (by kernel_rfl) rfl rfl rfl (fun Lx => ?_) ?_
                  · skip
                    refine At.load rfl (Ld.ownCell ag41 hb2 (((hp).eff huEff)).c1) rfl ?_
                    refine At.ops0 ?_
                    exact fun a ha => ⟨ha, rfl⟩
                  refine At.wpcS (i := 2) (d := 57) (.int .i64 (j : Int)) (by kernel_rfl) rfl rfl rfl (fun Lx => ?_) ?_
                  · skip
                    refine At.move rfl rfl ?_
                    refine At.ops0 ?_
                    exact fun a ha => ⟨ha, rfl⟩
                  refine At.wpcS (i := 3) (d := 58) (.pointer (some ⟨vBlock uEff.ov, vOff uEff.ov + j * 13, none⟩)) (by kernel_rfl) rfl rfl rfl (fun Lx => ?_) ?_
                  · skip
                    refine At.indexAddr (i := j) rfl rfl ((((hp).eff huEff)).opsAt).okL (lt_of_some hxEff) el41 sz45 rfl ?_
                    refine At.ops0 ?_
                    exact fun a ha => ⟨ha, rfl⟩
                  refine At.wpcS (i := 4) (d := 59) (.pointer (some ⟨vBlock uEff.ov, vOff uEff.ov + j * 13 + 0, none⟩)) (by kernel_rfl) rfl rfl rfl (fun Lx => ?_) ?_
                  · skip
                    refine At.fieldAddr rfl fo45_0 rfl ?_
                    refine At.ops0 ?_
                    exact fun a ha => ⟨ha, rfl⟩
                  refine At.wpcS (i := 5) (d := 60) (.string xEff.nm) (by kernel_rfl) rfl rfl rfl (fun Lx => ?_) ?_
                  · skip
                    refine At.load rfl (Ld.cell ag9 (cell_keep ((((((hp).eff huEff)).opsAt).row hxEff).get (((((hp).eff huEff)).op hxEff)).c0) hB)) rfl ?_
                    refine At.ops0 ?_
                    exact fun a ha => ⟨ha, rfl⟩
                  refine At.wpcS (i := 6) (d := 61) (.bool (decide (xEff.nm = (⟨#[]⟩ : ByteArray)))) (by kernel_rfl) rfl rfl rfl (fun Lx => ?_) ?_
                  · skip
                    refine At.eqS rfl rfl rfl ?_
                    refine At.ops0 ?_
                    exact fun a ha => ⟨ha, rfl⟩
                  refine At.set (d := 61) (u := .bool false) rfl (congrArg Value.bool hg3) ?_
                  refine At.wpcS (i := 7) (d := 62) (.bool false) (by kernel_rfl) rfl rfl rfl (fun Lx => ?_) ?_
                  · skip
                    refine At.move rfl rfl ?_
                    refine At.ops0 ?_
                    exact fun a ha => ⟨ha, rfl⟩
                  refine At.wpcS (i := 8) (d := 63) (vCEff) (by kernel_rfl) rfl rfl rfl (fun Lx => ?_) ?_
                  · skip
                    refine At.yes rfl rfl rfl rfl ?_
                    refine At.move rfl rfl ?_
                    refine At.ops0 ?_
                    exact fun a ha => ⟨ha, rfl⟩
                  refine At.wpcS (i := 9) (d := 64) (.pointer (some ⟨b2, 0 + 1, none⟩)) (by kernel_rfl) rfl rfl rfl (fun Lx => ?_) ?_
                  · skip
                    refine At.yes rfl rfl rfl rfl ?_
                    refine At.fieldAddr rfl fo43_1 rfl ?_
                    refine At.ops0 ?_
                    exact fun a ha => ⟨ha, rfl⟩
                  refine At.wpcS (i := 10) (d := 65) (uEff.ov) (by kernel_rfl) rfl rfl rfl (fun Lx => ?_) ?_
                  · skip
                    refine At.yes rfl rfl rfl rfl ?_
                    refine At.load rfl (Ld.ownCell ag41 hb2 (((hp).eff huEff)).c1) rfl ?_
                    refine At.ops0 ?_
                    exact fun a ha => ⟨ha, rfl⟩
                  refine At.wpcS (i := 11) (d := 66) (.int .i64 (j : Int)) (by kernel_rfl) rfl rfl rfl (fun Lx => ?_) ?_
                  · skip
                    refine At.yes rfl rfl rfl rfl ?_
                    refine At.move rfl rfl ?_
                    refine At.ops0 ?_
                    exact fun a ha => ⟨ha, rfl⟩
                  refine At.wpcS (i := 12) (d := 67) (.pointer (some ⟨vBlock uEff.ov, vOff uEff.ov + j * 13, none⟩)) (by kernel_rfl) rfl rfl rfl (fun Lx => ?_) ?_
                  · skip
                    refine At.yes rfl rfl rfl rfl ?_
                    refine At.indexAddr (i := j) rfl rfl ((((hp).eff huEff)).opsAt).okL (lt_of_some hxEff) el41 sz45 rfl ?_
                    refine At.ops0 ?_
                    exact fun a ha => ⟨ha, rfl⟩
                  refine At.wpcS (i := 13) (d := 68) (.pointer (some ⟨vBlock uEff.ov, vOff uEff.ov + j * 13 + 0, none⟩)) (by kernel_rfl) rfl rfl rfl (fun Lx => ?_) ?_
                  · skip
                    refine At.yes rfl rfl rfl rfl ?_
                    refine At.fieldAddr rfl fo45_0 rfl ?_
                    refine At.ops0 ?_
                    exact fun a ha => ⟨ha, rfl⟩
                  refine At.wpcS (i := 14) (d := 69) (.string xEff.nm) (by kernel_rfl) rfl rfl rfl (fun Lx => ?_) ?_
                  · skip
                    refine At.yes rfl rfl rfl rfl ?_
                    refine At.load rfl (Ld.cell ag9 (cell_keep ((((((hp).eff huEff)).opsAt).row hxEff).get (((((hp).eff huEff)).op hxEff)).c0) hB)) rfl ?_
                    refine At.ops0 ?_
                    exact fun a ha => ⟨ha, rfl⟩
                  refine At.wpcE [15] (by kernel_rfl) (by kernel_rfl) (.cons [] rfl (by kernel_rfl) ?_ .nil)
                  refine At.yes rfl rfl rfl rfl ?_
                  refine At.call en44 rfl rfl (in_any vCEff (((p.effs.take k).flatMap fun e => e.ops.map Op.nm) ++ (uEff.ops.take j).map Op.nm) xEff.nm _ ((hrCEff.strs).keep (Below.refl _ _)) (by simp only [List.length_append, List.length_map, List.length_take]; omega)) (fun e w' hR => ?_)
                  obtain ⟨rfl, rfl⟩ := hR
                  refine ⟨_, rfl, ?_⟩
                  refine At.ops0 ?_
                  refine At.wpcN .nil ?_
                  refine At.wpcS (i := 16) (d := 71) (.bool (memB xEff.nm (((p.effs.take k).flatMap fun e => e.ops.map Op.nm) ++ (uEff.ops.take j).map Op.nm))) (by kernel_rfl) rfl rfl rfl (fun Lx => ?_) ?_
                  · skip
                    refine At.pickF rfl rfl rfl ?_
                    refine At.ops0 ?_
                    exact fun a ha => ⟨ha, rfl⟩
                  refine At.set (d := 71) (u := .bool true) rfl (congrArg Value.bool hg4) ?_
                  refine At.wpcS (i := 17) (d := 72) (.bool true) (by kernel_rfl) rfl rfl rfl (fun Lx => ?_) ?_
                  · skip
                    refine At.move rfl rfl ?_
                    refine At.ops0 ?_
                    exact fun a ha => ⟨ha, rfl⟩
                  refine At.wpcS (i := 18) (d := 73) (undef) (by kernel_rfl) rfl rfl rfl (fun Lx => ?_) ?_
                  · skip
                    refine At.no rfl rfl rfl rfl rfl rfl rfl ?_
                    refine At.ops0 ?_
                    exact fun a ha => ⟨ha, rfl⟩
                  refine At.wpcS (i := 19) (d := 74) (undef) (by kernel_rfl) rfl rfl rfl (fun Lx => ?_) ?_
                  · skip
                    refine At.no rfl rfl rfl rfl rfl rfl rfl ?_
                    refine At.ops0 ?_
                    exact fun a ha => ⟨ha, rfl⟩
                  refine At.wpcS (i := 20) (d := 75) (undef) (by kernel_rfl) rfl rfl rfl (fun Lx => ?_) ?_
                  · skip
                    refine At.no rfl rfl rfl rfl rfl rfl rfl ?_
                    refine At.ops0 ?_
                    exact fun a ha => ⟨ha, rfl⟩
                  refine At.wpcS (i := 21) (d := 76) (undef) (by kernel_rfl) rfl rfl rfl (fun Lx => ?_) ?_
                  · skip
                    refine At.no rfl rfl rfl rfl rfl rfl rfl ?_
                    refine At.ops0 ?_
                    exact fun a ha => ⟨ha, rfl⟩
                  refine At.wpcS (i := 22) (d := 77) (undef) (by kernel_rfl) rfl rfl rfl (fun Lx => ?_) ?_
                  · skip
                    refine At.no rfl rfl rfl rfl rfl rfl rfl ?_
                    refine At.ops0 ?_
                    exact fun a ha => ⟨ha, rfl⟩
                  refine At.wpcS (i := 23) (d := 78) (undef) (by kernel_rfl) rfl rfl rfl (fun Lx => ?_) ?_
                  · skip
                    refine At.no rfl rfl rfl rfl rfl rfl rfl ?_
                    refine At.ops0 ?_
                    exact fun a ha => ⟨ha, rfl⟩
                  refine At.wpcS (i := 24) (d := 79) (undef) (by kernel_rfl) rfl rfl rfl (fun Lx => ?_) ?_
                  · skip
                    refine At.no rfl rfl rfl rfl rfl rfl rfl ?_
                    refine At.ops0 ?_
                    exact fun a ha => ⟨ha, rfl⟩
                  refine At.wpcE [25] (by kernel_rfl) (by kernel_rfl) (.cons [] rfl (by kernel_rfl) ?_ .nil)
                  refine At.no rfl rfl rfl rfl rfl rfl rfl ?_
                  refine At.ops0 ?_
                  refine At.wpcN .nil ?_
                  refine At.wpcS (i := 26) (d := 81) (undef) (by kernel_rfl) rfl rfl rfl (fun Lx => ?_) ?_
                  · skip
                    refine At.no rfl rfl rfl rfl rfl rfl rfl ?_
                    refine At.ops0 ?_
                    exact fun a ha => ⟨ha, rfl⟩
                  refine At.wpcS (i := 27) (d := 82) (.bool true) (by kernel_rfl) rfl rfl rfl (fun Lx => ?_) ?_
                  · skip
                    refine At.pickT rfl rfl rfl ?_
                    refine At.ops0 ?_
                    exact fun a ha => ⟨ha, rfl⟩
                  refine At.wpcS (i := 28) (d := 83) (.bool true) (by kernel_rfl) rfl rfl rfl (fun Lx => ?_) ?_
                  · skip
                    refine At.move rfl rfl ?_
                    refine At.ops0 ?_
                    exact fun a ha => ⟨ha, rfl⟩
                  refine At.wpcS (i := 29) (d := 84) (undef) (by kernel_rfl) rfl rfl rfl (fun Lx => ?_) ?_
                  · skip
                    refine At.no rfl rfl rfl rfl rfl rfl rfl ?_
                    refine At.ops0 ?_
                    exact fun a ha => ⟨ha, rfl⟩
                  refine At.wpcS (i := 30) (d := 85) (undef) (by kernel_rfl) rfl rfl rfl (fun Lx => ?_) ?_
                  · skip
                    refine At.no rfl rfl rfl rfl rfl rfl rfl ?_
                    refine At.ops0 ?_
                    exact fun a ha => ⟨ha, rfl⟩
                  refine At.wpcS (i := 31) (d := 86) (undef) (by kernel_rfl) rfl rfl rfl (fun Lx => ?_) ?_
                  · skip
                    refine At.no rfl rfl rfl rfl rfl rfl rfl ?_
                    refine At.ops0 ?_
                    exact fun a ha => ⟨ha, rfl⟩
                  refine At.wpcS (i := 32) (d := 87) (undef) (by kernel_rfl) rfl rfl rfl (fun Lx => ?_) ?_
                  · skip
                    refine At.no rfl rfl rfl rfl rfl rfl rfl ?_
                    refine At.ops0 ?_
                    exact fun a ha => ⟨ha, rfl⟩
                  refine At.wpcS (i := 33) (d := 88) (undef) (by kernel_rfl) rfl rfl rfl (fun Lx => ?_) ?_
                  · skip
                    refine At.no rfl rfl rfl rfl rfl rfl rfl ?_
                    refine At.ops0 ?_
                    exact fun a ha => ⟨ha, rfl⟩
                  refine At.wpcS (i := 34) (d := 89) (undef) (by kernel_rfl) rfl rfl rfl (fun Lx => ?_) ?_
                  · skip
                    refine At.no rfl rfl rfl rfl rfl rfl rfl ?_
                    refine At.ops0 ?_
                    exact fun a ha => ⟨ha, rfl⟩
                  refine At.wpcS (i := 35) (d := 90) (undef) (by kernel_rfl) rfl rfl rfl (fun Lx => ?_) ?_
                  · skip
                    refine At.no rfl rfl rfl rfl rfl rfl rfl ?_
                    refine At.ops0 ?_
                    exact fun a ha => ⟨ha, rfl⟩
                  refine At.wpcE [36] (by kernel_rfl) (by kernel_rfl) (.cons [] rfl (by kernel_rfl) ?_ .nil)
                  refine At.no rfl rfl rfl rfl rfl rfl rfl ?_
                  refine At.ops0 ?_
                  refine At.wpcN .nil ?_
                  refine At.wpcS (i := 37) (d := 92) (undef) (by kernel_rfl) rfl rfl rfl (fun Lx => ?_) ?_
                  · skip
                    refine At.no rfl rfl rfl rfl rfl rfl rfl ?_
                    refine At.ops0 ?_
                    exact fun a ha => ⟨ha, rfl⟩
                  refine At.wpcS (i := 38) (d := 93) (.bool true) (by kernel_rfl) rfl rfl rfl (fun Lx => ?_) ?_
                  · skip
                    refine At.pickT rfl rfl rfl ?_
                    refine At.ops0 ?_
                    exact fun a ha => ⟨ha, rfl⟩
                  refine At.wpcZ ?_
                  refine At.thenN ?_
                  refine At.condT rfl ?_
                  refine At.seq ?_
                  refine At.region ?_
                  refine At.assign rfl rfl ?_
                  refine At.ops0 ?_
                  refine At.thenN ?_
                  refine At.retc ?_
                  refine At.thenR ?_
                  refine At.inR ?_
                  refine At.thenR ?_
                  refine At.thenR ?_
                  refine At.inR ?_
                  refine At.inR ?_
                  refine At.thenR ?_
                  refine At.thenR ?_
                  refine At.inR ?_
                  refine At.thenR ?_
                  refine At.doneR (ResV.tmp rfl ResV.nil) ?_
                  have hgood0 : (decide (uEff.nm = (⟨#[]⟩ : ByteArray)) || memB uEff.nm ([con_] ++ (p.effs.take k).map Eff.nm)) = false := by rw [memB_con]; have e1 := hg1; have e2 : decide (uEff.nm = con_) = false := hg2; have e3 := hc3; simp only [e1, e2, e3, Bool.or_self]
                  have hbad : ((decide (xEff.nm = (⟨#[]⟩ : ByteArray)) || memB xEff.nm (((p.effs.take k).flatMap fun e => e.ops.map Op.nm) ++ (uEff.ops.take j).map Op.nm)) || !(knownT p.dats xEff.arg && knownT p.dats xEff.res)) = true := by have e0 := hg3; have e1 := hg4; (try simp only [Bool.not_eq_true', Bool.not_eq_false', Bool.not_not] at e0 e1 ⊢); simp only [e0, e1, Bool.true_or, Bool.or_true, Bool.not_false, Bool.false_and, Bool.and_false]
                  have hno : effsB p.dats [con_] [] p.effs = false := by rw [← hnEff, effsB_step huEff hgood0, ← hniEff, opsB_bad hxEff hbad]; rfl
                  exact ⟨congrArg Ending.returned (congrArg (Value.int .i64) (Eq.symm (declR_effs hc1 hno))), hB⟩
                · skip
                  refine At.cases ((!(knownT p.dats xEff.arg))) (fun hg5 => ?_) (fun hg5 => ?_)
                  · skip
                    refine At.drawG (n := 39) mixed (by kernel_rfl) rfl (PanicOk.then (PanicOk.then (PanicOk.block (PanicOk.then (PanicOk.then (PanicOk.block (PanicOk.block (PanicOk.then (PanicOk.then (PanicOk.block (PanicOk.then PanicOk.body))))))))))) ?_
                    have hB := Below.drewB hB
                    have hb1 : _ := (show w7.drew.heap[b1]? = _ from hb1)
                    have hb2 : _ := (show w7.drew.heap[b2]? = _ from hb2)
                    have hO1 := hO1.drew
                    have hrCEff := hrCEff.drew
                    refine At.wpcS (i := 0) (d := 55) (.pointer (some ⟨b2, 0 + 1, none⟩)) (by kernel_rfl) rfl rfl rfl (fun Lx => ?_) ?_
                    · skip
                      refine At.fieldAddr rfl fo43_1 rfl ?_
                      refine At.ops0 ?_
                      exact fun a ha => ⟨ha, rfl⟩
                    refine At.wpcS (i := 1) (d := 56) (uEff.ov) (by kernel_rfl) rfl rfl rfl (fun Lx => ?_) ?_
                    · skip
                      refine At.load rfl (Ld.ownCell ag41 hb2 (((hp).eff huEff)).c1) rfl ?_
                      refine At.ops0 ?_
                      exact fun a ha => ⟨ha, rfl⟩
                    refine At.wpcS (i := 2) (d := 57) (.int .i64 (j : Int)) (by kernel_rfl) rfl rfl rfl (fun Lx => ?_) ?_
                    · skip
                      refine At.move rfl rfl ?_
                      refine At.ops0 ?_
                      exact fun a ha => ⟨ha, rfl⟩
                    refine At.wpcS (i := 3) (d := 58) (.pointer (some ⟨vBlock uEff.ov, vOff uEff.ov + j * 13, none⟩)) (by kernel_rfl) rfl rfl rfl (fun Lx => ?_) ?_
                    · skip
                      refine At.indexAddr (i := j) rfl rfl ((((hp).eff huEff)).opsAt).okL (lt_of_some hxEff) el41 sz45 rfl ?_
                      refine At.ops0 ?_
                      exact fun a ha => ⟨ha, rfl⟩
                    refine At.wpcS (i := 4) (d := 59) (.pointer (some ⟨vBlock uEff.ov, vOff uEff.ov + j * 13 + 0, none⟩)) (by kernel_rfl) rfl rfl rfl (fun Lx => ?_) ?_
                    · skip
                      refine At.fieldAddr rfl fo45_0 rfl ?_
                      refine At.ops0 ?_
                      exact fun a ha => ⟨ha, rfl⟩
                    refine At.wpcS (i := 5) (d := 60) (.string xEff.nm) (by kernel_rfl) rfl rfl rfl (fun Lx => ?_) ?_
                    · skip
                      refine At.load rfl (Ld.cell ag9 (cell_keep ((((((hp).eff huEff)).opsAt).row hxEff).get (((((hp).eff huEff)).op hxEff)).c0) hB)) rfl ?_
                      refine At.ops0 ?_
                      exact fun a ha => ⟨ha, rfl⟩
                    refine At.wpcS (i := 6) (d := 61) (.bool (decide (xEff.nm = (⟨#[]⟩ : ByteArray)))) (by kernel_rfl) rfl rfl rfl (fun Lx => ?_) ?_
                    · skip
                      refine At.eqS rfl rfl rfl ?_
                      refine At.ops0 ?_
                      exact fun a ha => ⟨ha, rfl⟩
                    refine At.set (d := 61) (u := .bool false) rfl (congrArg Value.bool hg3) ?_
                    refine At.wpcS (i := 7) (d := 62) (.bool false) (by kernel_rfl) rfl rfl rfl (fun Lx => ?_) ?_
                    · skip
                      refine At.move rfl rfl ?_
                      refine At.ops0 ?_
                      exact fun a ha => ⟨ha, rfl⟩
                    refine At.wpcS (i := 8) (d := 63) (vCEff) (by kernel_rfl) rfl rfl rfl (fun Lx => ?_) ?_
                    · skip
                      refine At.yes rfl rfl rfl rfl ?_
                      refine At.move rfl rfl ?_
                      refine At.ops0 ?_
                      exact fun a ha => ⟨ha, rfl⟩
                    refine At.wpcS (i := 9) (d := 64) (.pointer (some ⟨b2, 0 + 1, none⟩)) (by kernel_rfl) rfl rfl rfl (fun Lx => ?_) ?_
                    · skip
                      refine At.yes rfl rfl rfl rfl ?_
                      refine At.fieldAddr rfl fo43_1 rfl ?_
                      refine At.ops0 ?_
                      exact fun a ha => ⟨ha, rfl⟩
                    refine At.wpcS (i := 10) (d := 65) (uEff.ov) (by kernel_rfl) rfl rfl rfl (fun Lx => ?_) ?_
                    · skip
                      refine At.yes rfl rfl rfl rfl ?_
                      refine At.load rfl (Ld.ownCell ag41 hb2 (((hp).eff huEff)).c1) rfl ?_
                      refine At.ops0 ?_
                      exact fun a ha => ⟨ha, rfl⟩
                    refine At.wpcS (i := 11) (d := 66) (.int .i64 (j : Int)) (by kernel_rfl) rfl rfl rfl (fun Lx => ?_) ?_
                    · skip
                      refine At.yes rfl rfl rfl rfl ?_
                      refine At.move rfl rfl ?_
                      refine At.ops0 ?_
                      exact fun a ha => ⟨ha, rfl⟩
                    refine At.wpcS (i := 12) (d := 67) (.pointer (some ⟨vBlock uEff.ov, vOff uEff.ov + j * 13, none⟩)) (by kernel_rfl) rfl rfl rfl (fun Lx => ?_) ?_
                    · skip
                      refine At.yes rfl rfl rfl rfl ?_
                      refine At.indexAddr (i := j) rfl rfl ((((hp).eff huEff)).opsAt).okL (lt_of_some hxEff) el41 sz45 rfl ?_
                      refine At.ops0 ?_
                      exact fun a ha => ⟨ha, rfl⟩
                    refine At.wpcS (i := 13) (d := 68) (.pointer (some ⟨vBlock uEff.ov, vOff uEff.ov + j * 13 + 0, none⟩)) (by kernel_rfl) rfl rfl rfl (fun Lx => ?_) ?_
                    · skip
                      refine At.yes rfl rfl rfl rfl ?_
                      refine At.fieldAddr rfl fo45_0 rfl ?_
                      refine At.ops0 ?_
                      exact fun a ha => ⟨ha, rfl⟩
                    refine At.wpcS (i := 14) (d := 69) (.string xEff.nm) (by kernel_rfl) rfl rfl rfl (fun Lx => ?_) ?_
                    · skip
                      refine At.yes rfl rfl rfl rfl ?_
                      refine At.load rfl (Ld.cell ag9 (cell_keep ((((((hp).eff huEff)).opsAt).row hxEff).get (((((hp).eff huEff)).op hxEff)).c0) hB)) rfl ?_
                      refine At.ops0 ?_
                      exact fun a ha => ⟨ha, rfl⟩
                    refine At.wpcE [15] (by kernel_rfl) (by kernel_rfl) (.cons [] rfl (by kernel_rfl) ?_ .nil)
                    refine At.yes rfl rfl rfl rfl ?_
                    refine At.call en44 rfl rfl (in_any vCEff (((p.effs.take k).flatMap fun e => e.ops.map Op.nm) ++ (uEff.ops.take j).map Op.nm) xEff.nm _ ((hrCEff.strs).keep (Below.refl _ _)) (by simp only [List.length_append, List.length_map, List.length_take]; omega)) (fun e w' hR => ?_)
                    obtain ⟨rfl, rfl⟩ := hR
                    refine ⟨_, rfl, ?_⟩
                    refine At.ops0 ?_
                    refine At.wpcN .nil ?_
                    refine At.wpcS (i := 16) (d := 71) (.bool (memB xEff.nm (((p.effs.take k).flatMap fun e => e.ops.map Op.nm) ++ (uEff.ops.take j).map Op.nm))) (by kernel_rfl) rfl rfl rfl (fun Lx => ?_) ?_
                    · skip
                      refine At.pickF rfl rfl rfl ?_
                      refine At.ops0 ?_
                      exact fun a ha => ⟨ha, rfl⟩
                    refine At.set (d := 71) (u := .bool false) rfl (congrArg Value.bool hg4) ?_
                    refine At.wpcS (i := 17) (d := 72) (.bool false) (by kernel_rfl) rfl rfl rfl (fun Lx => ?_) ?_
                    · skip
                      refine At.move rfl rfl ?_
                      refine At.ops0 ?_
                      exact fun a ha => ⟨ha, rfl⟩
                    refine At.wpcS (i := 18) (d := 73) (.agg p.cs) (by kernel_rfl) rfl rfl rfl (fun Lx => ?_) ?_
                    · skip
                      refine At.yes rfl rfl rfl rfl ?_
                      refine At.load rfl (Ld.own ag35 (sz35.trans (congrArg some (hp).size.symm)) hb1) rfl ?_
                      refine At.ops0 ?_
                      exact fun a ha => ⟨ha, rfl⟩
                    refine At.wpcS (i := 19) (d := 74) (.pointer (some ⟨b2, 0 + 1, none⟩)) (by kernel_rfl) rfl rfl rfl (fun Lx => ?_) ?_
                    · skip
                      refine At.yes rfl rfl rfl rfl ?_
                      refine At.fieldAddr rfl fo43_1 rfl ?_
                      refine At.ops0 ?_
                      exact fun a ha => ⟨ha, rfl⟩
                    refine At.wpcS (i := 20) (d := 75) (uEff.ov) (by kernel_rfl) rfl rfl rfl (fun Lx => ?_) ?_
                    · skip
                      refine At.yes rfl rfl rfl rfl ?_
                      refine At.load rfl (Ld.ownCell ag41 hb2 (((hp).eff huEff)).c1) rfl ?_
                      refine At.ops0 ?_
                      exact fun a ha => ⟨ha, rfl⟩
                    refine At.wpcS (i := 21) (d := 76) (.int .i64 (j : Int)) (by kernel_rfl) rfl rfl rfl (fun Lx => ?_) ?_
                    · skip
                      refine At.yes rfl rfl rfl rfl ?_
                      refine At.move rfl rfl ?_
                      refine At.ops0 ?_
                      exact fun a ha => ⟨ha, rfl⟩
                    refine At.wpcS (i := 22) (d := 77) (.pointer (some ⟨vBlock uEff.ov, vOff uEff.ov + j * 13, none⟩)) (by kernel_rfl) rfl rfl rfl (fun Lx => ?_) ?_
                    · skip
                      refine At.yes rfl rfl rfl rfl ?_
                      refine At.indexAddr (i := j) rfl rfl ((((hp).eff huEff)).opsAt).okL (lt_of_some hxEff) el41 sz45 rfl ?_
                      refine At.ops0 ?_
                      exact fun a ha => ⟨ha, rfl⟩
                    refine At.wpcS (i := 23) (d := 78) (.pointer (some ⟨vBlock uEff.ov, vOff uEff.ov + j * 13 + 1, none⟩)) (by kernel_rfl) rfl rfl rfl (fun Lx => ?_) ?_
                    · skip
                      refine At.yes rfl rfl rfl rfl ?_
                      refine At.fieldAddr rfl fo45_1 rfl ?_
                      refine At.ops0 ?_
                      exact fun a ha => ⟨ha, rfl⟩
                    refine At.wpcS (i := 24) (d := 79) (.agg xEff.arg.cs) (by kernel_rfl) rfl rfl rfl (fun Lx => ?_) ?_
                    · skip
                      refine At.yes rfl rfl rfl rfl ?_
                      refine At.load rfl (Ld.row ag31 (sz31.trans (congrArg some ((((((hp).eff huEff)).op hxEff)).argOk).size.symm)) (((((((hp).eff huEff)).opsAt).row hxEff).part 1 (((((hp).eff huEff)).op hxEff)).argCs).keep hB)) rfl ?_
                      refine At.ops0 ?_
                      exact fun a ha => ⟨ha, rfl⟩
                    refine At.wpcE [25] (by kernel_rfl) (by kernel_rfl) (.cons [] rfl (by kernel_rfl) ?_ .nil)
                    refine At.yes rfl rfl rfl rfl ?_
                    refine At.call en45 rfl rfl (first_any p xEff.arg _ ((hp).keep hB) ((((((hp).eff huEff)).op hxEff)).argOk)) (fun e w8 hR => ?_)
                    obtain ⟨rfl, hbl1⟩ := hR
                    refine ⟨_, rfl, ?_⟩
                    replace hb1 := Below.old hbl1 hb1
                    replace hb2 := Below.old hbl1 hb2
                    replace hO1 := hO1.below hbl1
                    replace hrCEff := hrCEff.below hbl1
                    replace hB := Below.andThen hB hbl1
                    refine At.ops0 ?_
                    refine At.wpcN .nil ?_
                    refine At.wpcS (i := 26) (d := 81) (.bool (!(knownT p.dats xEff.arg))) (by kernel_rfl) rfl rfl rfl (fun Lx => ?_) ?_
                    · skip
                      refine At.yes rfl rfl rfl rfl ?_
                      refine At.not rfl rfl ?_
                      refine At.ops0 ?_
                      exact fun a ha => ⟨ha, rfl⟩
                    refine At.set (d := 81) (u := .bool true) rfl (congrArg Value.bool hg5) ?_
                    refine At.wpcS (i := 27) (d := 82) (.bool true) (by kernel_rfl) rfl rfl rfl (fun Lx => ?_) ?_
                    · skip
                      refine At.pickF rfl rfl rfl ?_
                      refine At.ops0 ?_
                      exact fun a ha => ⟨ha, rfl⟩
                    refine At.wpcS (i := 28) (d := 83) (.bool true) (by kernel_rfl) rfl rfl rfl (fun Lx => ?_) ?_
                    · skip
                      refine At.move rfl rfl ?_
                      refine At.ops0 ?_
                      exact fun a ha => ⟨ha, rfl⟩
                    refine At.wpcS (i := 29) (d := 84) (undef) (by kernel_rfl) rfl rfl rfl (fun Lx => ?_) ?_
                    · skip
                      refine At.no rfl rfl rfl rfl rfl rfl rfl ?_
                      refine At.ops0 ?_
                      exact fun a ha => ⟨ha, rfl⟩
                    refine At.wpcS (i := 30) (d := 85) (undef) (by kernel_rfl) rfl rfl rfl (fun Lx => ?_) ?_
                    · skip
                      refine At.no rfl rfl rfl rfl rfl rfl rfl ?_
                      refine At.ops0 ?_
                      exact fun a ha => ⟨ha, rfl⟩
                    refine At.wpcS (i := 31) (d := 86) (undef) (by kernel_rfl) rfl rfl rfl (fun Lx => ?_) ?_
                    · skip
                      refine At.no rfl rfl rfl rfl rfl rfl rfl ?_
                      refine At.ops0 ?_
                      exact fun a ha => ⟨ha, rfl⟩
                    refine At.wpcS (i := 32) (d := 87) (undef) (by kernel_rfl) rfl rfl rfl (fun Lx => ?_) ?_
                    · skip
                      refine At.no rfl rfl rfl rfl rfl rfl rfl ?_
                      refine At.ops0 ?_
                      exact fun a ha => ⟨ha, rfl⟩
                    refine At.wpcS (i := 33) (d := 88) (undef) (by kernel_rfl) rfl rfl rfl (fun Lx => ?_) ?_
                    · skip
                      refine At.no rfl rfl rfl rfl rfl rfl rfl ?_
                      refine At.ops0 ?_
                      exact fun a ha => ⟨ha, rfl⟩
                    refine At.wpcS (i := 34) (d := 89) (undef) (by kernel_rfl) rfl rfl rfl (fun Lx => ?_) ?_
                    · skip
                      refine At.no rfl rfl rfl rfl rfl rfl rfl ?_
                      refine At.ops0 ?_
                      exact fun a ha => ⟨ha, rfl⟩
                    refine At.wpcS (i := 35) (d := 90) (undef) (by kernel_rfl) rfl rfl rfl (fun Lx => ?_) ?_
                    · skip
                      refine At.no rfl rfl rfl rfl rfl rfl rfl ?_
                      refine At.ops0 ?_
                      exact fun a ha => ⟨ha, rfl⟩
                    refine At.wpcE [36] (by kernel_rfl) (by kernel_rfl) (.cons [] rfl (by kernel_rfl) ?_ .nil)
                    refine At.no rfl rfl rfl rfl rfl rfl rfl ?_
                    refine At.ops0 ?_
                    refine At.wpcN .nil ?_
                    refine At.wpcS (i := 37) (d := 92) (undef) (by kernel_rfl) rfl rfl rfl (fun Lx => ?_) ?_
                    · skip
                      refine At.no rfl rfl rfl rfl rfl rfl rfl ?_
                      refine At.ops0 ?_
                      exact fun a ha => ⟨ha, rfl⟩
                    refine At.wpcS (i := 38) (d := 93) (.bool true) (by kernel_rfl) rfl rfl rfl (fun Lx => ?_) ?_
                    · skip
                      refine At.pickT rfl rfl rfl ?_
                      refine At.ops0 ?_
                      exact fun a ha => ⟨ha, rfl⟩
                    refine At.wpcZ ?_
                    refine At.thenN ?_
                    refine At.condT rfl ?_
                    refine At.seq ?_
                    refine At.region ?_
                    refine At.assign rfl rfl ?_
                    refine At.ops0 ?_
                    refine At.thenN ?_
                    refine At.retc ?_
                    refine At.thenR ?_
                    refine At.inR ?_
                    refine At.thenR ?_
                    refine At.thenR ?_
                    refine At.inR ?_
                    refine At.inR ?_
                    refine At.thenR ?_
                    refine At.thenR ?_
                    refine At.inR ?_
                    refine At.thenR ?_
                    refine At.doneR (ResV.tmp rfl ResV.nil) ?_
                    have hgood0 : (decide (uEff.nm = (⟨#[]⟩ : ByteArray)) || memB uEff.nm ([con_] ++ (p.effs.take k).map Eff.nm)) = false := by rw [memB_con]; have e1 := hg1; have e2 : decide (uEff.nm = con_) = false := hg2; have e3 := hc3; simp only [e1, e2, e3, Bool.or_self]
                    have hbad : ((decide (xEff.nm = (⟨#[]⟩ : ByteArray)) || memB xEff.nm (((p.effs.take k).flatMap fun e => e.ops.map Op.nm) ++ (uEff.ops.take j).map Op.nm)) || !(knownT p.dats xEff.arg && knownT p.dats xEff.res)) = true := by have e0 := hg3; have e1 := hg4; have e2 := hg5; (try simp only [Bool.not_eq_true', Bool.not_eq_false', Bool.not_not] at e0 e1 e2 ⊢); simp only [e0, e1, e2, Bool.true_or, Bool.or_true, Bool.not_false, Bool.false_and, Bool.and_false]
                    have hno : effsB p.dats [con_] [] p.effs = false := by rw [← hnEff, effsB_step huEff hgood0, ← hniEff, opsB_bad hxEff hbad]; rfl
                    exact ⟨congrArg Ending.returned (congrArg (Value.int .i64) (Eq.symm (declR_effs hc1 hno))), hB⟩
                  · skip
                    refine At.drawG (n := 39) mixed (by kernel_rfl) rfl (PanicOk.then (PanicOk.then (PanicOk.block (PanicOk.then (PanicOk.then (PanicOk.block (PanicOk.block (PanicOk.then (PanicOk.then (PanicOk.block (PanicOk.then PanicOk.body))))))))))) ?_
                    have hB := Below.drewB hB
                    have hb1 : _ := (show w7.drew.heap[b1]? = _ from hb1)
                    have hb2 : _ := (show w7.drew.heap[b2]? = _ from hb2)
                    have hO1 := hO1.drew
                    have hrCEff := hrCEff.drew
                    refine At.wpcS (i := 0) (d := 55) (.pointer (some ⟨b2, 0 + 1, none⟩)) (by kernel_rfl) rfl rfl rfl (fun Lx => ?_) ?_
                    · skip
                      refine At.fieldAddr rfl fo43_1 rfl ?_
                      refine At.ops0 ?_
                      exact fun a ha => ⟨ha, rfl⟩
                    refine At.wpcS (i := 1) (d := 56) (uEff.ov) (by kernel_rfl) rfl rfl rfl (fun Lx => ?_) ?_
                    · skip
                      refine At.load rfl (Ld.ownCell ag41 hb2 (((hp).eff huEff)).c1) rfl ?_
                      refine At.ops0 ?_
                      exact fun a ha => ⟨ha, rfl⟩
                    refine At.wpcS (i := 2) (d := 57) (.int .i64 (j : Int)) (by kernel_rfl) rfl rfl rfl (fun Lx => ?_) ?_
                    · skip
                      refine At.move rfl rfl ?_
                      refine At.ops0 ?_
                      exact fun a ha => ⟨ha, rfl⟩
                    refine At.wpcS (i := 3) (d := 58) (.pointer (some ⟨vBlock uEff.ov, vOff uEff.ov + j * 13, none⟩)) (by kernel_rfl) rfl rfl rfl (fun Lx => ?_) ?_
                    · skip
                      refine At.indexAddr (i := j) rfl rfl ((((hp).eff huEff)).opsAt).okL (lt_of_some hxEff) el41 sz45 rfl ?_
                      refine At.ops0 ?_
                      exact fun a ha => ⟨ha, rfl⟩
                    refine At.wpcS (i := 4) (d := 59) (.pointer (some ⟨vBlock uEff.ov, vOff uEff.ov + j * 13 + 0, none⟩)) (by kernel_rfl) rfl rfl rfl (fun Lx => ?_) ?_
                    · skip
                      refine At.fieldAddr rfl fo45_0 rfl ?_
                      refine At.ops0 ?_
                      exact fun a ha => ⟨ha, rfl⟩
                    refine At.wpcS (i := 5) (d := 60) (.string xEff.nm) (by kernel_rfl) rfl rfl rfl (fun Lx => ?_) ?_
                    · skip
                      refine At.load rfl (Ld.cell ag9 (cell_keep ((((((hp).eff huEff)).opsAt).row hxEff).get (((((hp).eff huEff)).op hxEff)).c0) hB)) rfl ?_
                      refine At.ops0 ?_
                      exact fun a ha => ⟨ha, rfl⟩
                    refine At.wpcS (i := 6) (d := 61) (.bool (decide (xEff.nm = (⟨#[]⟩ : ByteArray)))) (by kernel_rfl) rfl rfl rfl (fun Lx => ?_) ?_
                    · skip
                      refine At.eqS rfl rfl rfl ?_
                      refine At.ops0 ?_
                      exact fun a ha => ⟨ha, rfl⟩
                    refine At.set (d := 61) (u := .bool false) rfl (congrArg Value.bool hg3) ?_
                    refine At.wpcS (i := 7) (d := 62) (.bool false) (by kernel_rfl) rfl rfl rfl (fun Lx => ?_) ?_
                    · skip
                      refine At.move rfl rfl ?_
                      refine At.ops0 ?_
                      exact fun a ha => ⟨ha, rfl⟩
                    refine At.wpcS (i := 8) (d := 63) (vCEff) (by kernel_rfl) rfl rfl rfl (fun Lx => ?_) ?_
                    · skip
                      refine At.yes rfl rfl rfl rfl ?_
                      refine At.move rfl rfl ?_
                      refine At.ops0 ?_
                      exact fun a ha => ⟨ha, rfl⟩
                    refine At.wpcS (i := 9) (d := 64) (.pointer (some ⟨b2, 0 + 1, none⟩)) (by kernel_rfl) rfl rfl rfl (fun Lx => ?_) ?_
                    · skip
                      refine At.yes rfl rfl rfl rfl ?_
                      refine At.fieldAddr rfl fo43_1 rfl ?_
                      refine At.ops0 ?_
                      exact fun a ha => ⟨ha, rfl⟩
                    refine At.wpcS (i := 10) (d := 65) (uEff.ov) (by kernel_rfl) rfl rfl rfl (fun Lx => ?_) ?_
                    · skip
                      refine At.yes rfl rfl rfl rfl ?_
                      refine At.load rfl (Ld.ownCell ag41 hb2 (((hp).eff huEff)).c1) rfl ?_
                      refine At.ops0 ?_
                      exact fun a ha => ⟨ha, rfl⟩
                    refine At.wpcS (i := 11) (d := 66) (.int .i64 (j : Int)) (by kernel_rfl) rfl rfl rfl (fun Lx => ?_) ?_
                    · skip
                      refine At.yes rfl rfl rfl rfl ?_
                      refine At.move rfl rfl ?_
                      refine At.ops0 ?_
                      exact fun a ha => ⟨ha, rfl⟩
                    refine At.wpcS (i := 12) (d := 67) (.pointer (some ⟨vBlock uEff.ov, vOff uEff.ov + j * 13, none⟩)) (by kernel_rfl) rfl rfl rfl (fun Lx => ?_) ?_
                    · skip
                      refine At.yes rfl rfl rfl rfl ?_
                      refine At.indexAddr (i := j) rfl rfl ((((hp).eff huEff)).opsAt).okL (lt_of_some hxEff) el41 sz45 rfl ?_
                      refine At.ops0 ?_
                      exact fun a ha => ⟨ha, rfl⟩
                    refine At.wpcS (i := 13) (d := 68) (.pointer (some ⟨vBlock uEff.ov, vOff uEff.ov + j * 13 + 0, none⟩)) (by kernel_rfl) rfl rfl rfl (fun Lx => ?_) ?_
                    · skip
                      refine At.yes rfl rfl rfl rfl ?_
                      refine At.fieldAddr rfl fo45_0 rfl ?_
                      refine At.ops0 ?_
                      exact fun a ha => ⟨ha, rfl⟩
                    refine At.wpcS (i := 14) (d := 69) (.string xEff.nm) (by kernel_rfl) rfl rfl rfl (fun Lx => ?_) ?_
                    · skip
                      refine At.yes rfl rfl rfl rfl ?_
                      refine At.load rfl (Ld.cell ag9 (cell_keep ((((((hp).eff huEff)).opsAt).row hxEff).get (((((hp).eff huEff)).op hxEff)).c0) hB)) rfl ?_
                      refine At.ops0 ?_
                      exact fun a ha => ⟨ha, rfl⟩
                    refine At.wpcE [15] (by kernel_rfl) (by kernel_rfl) (.cons [] rfl (by kernel_rfl) ?_ .nil)
                    refine At.yes rfl rfl rfl rfl ?_
                    refine At.call en44 rfl rfl (in_any vCEff (((p.effs.take k).flatMap fun e => e.ops.map Op.nm) ++ (uEff.ops.take j).map Op.nm) xEff.nm _ ((hrCEff.strs).keep (Below.refl _ _)) (by simp only [List.length_append, List.length_map, List.length_take]; omega)) (fun e w' hR => ?_)
                    obtain ⟨rfl, rfl⟩ := hR
                    refine ⟨_, rfl, ?_⟩
                    refine At.ops0 ?_
                    refine At.wpcN .nil ?_
                    refine At.wpcS (i := 16) (d := 71) (.bool (memB xEff.nm (((p.effs.take k).flatMap fun e => e.ops.map Op.nm) ++ (uEff.ops.take j).map Op.nm))) (by kernel_rfl) rfl rfl rfl (fun Lx => ?_) ?_
                    · skip
                      refine At.pickF rfl rfl rfl ?_
                      refine At.ops0 ?_
                      exact fun a ha => ⟨ha, rfl⟩
                    refine At.set (d := 71) (u := .bool false) rfl (congrArg Value.bool hg4) ?_
                    refine At.wpcS (i := 17) (d := 72) (.bool false) (by kernel_rfl) rfl rfl rfl (fun Lx => ?_) ?_
                    · skip
                      refine At.move rfl rfl ?_
                      refine At.ops0 ?_
                      exact fun a ha => ⟨ha, rfl⟩
                    refine At.wpcS (i := 18) (d := 73) (.agg p.cs) (by kernel_rfl) rfl rfl rfl (fun Lx => ?_) ?_
                    · skip
                      refine At.yes rfl rfl rfl rfl ?_
                      refine At.load rfl (Ld.own ag35 (sz35.trans (congrArg some (hp).size.symm)) hb1) rfl ?_
                      refine At.ops0 ?_
                      exact fun a ha => ⟨ha, rfl⟩
                    refine At.wpcS (i := 19) (d := 74) (.pointer (some ⟨b2, 0 + 1, none⟩)) (by kernel_rfl) rfl rfl rfl (fun Lx => ?_) ?_
                    · skip
                      refine At.yes rfl rfl rfl rfl ?_
                      refine At.fieldAddr rfl fo43_1 rfl ?_
                      refine At.ops0 ?_
                      exact fun a ha => ⟨ha, rfl⟩
                    refine At.wpcS (i := 20) (d := 75) (uEff.ov) (by kernel_rfl) rfl rfl rfl (fun Lx => ?_) ?_
                    · skip
                      refine At.yes rfl rfl rfl rfl ?_
                      refine At.load rfl (Ld.ownCell ag41 hb2 (((hp).eff huEff)).c1) rfl ?_
                      refine At.ops0 ?_
                      exact fun a ha => ⟨ha, rfl⟩
                    refine At.wpcS (i := 21) (d := 76) (.int .i64 (j : Int)) (by kernel_rfl) rfl rfl rfl (fun Lx => ?_) ?_
                    · skip
                      refine At.yes rfl rfl rfl rfl ?_
                      refine At.move rfl rfl ?_
                      refine At.ops0 ?_
                      exact fun a ha => ⟨ha, rfl⟩
                    refine At.wpcS (i := 22) (d := 77) (.pointer (some ⟨vBlock uEff.ov, vOff uEff.ov + j * 13, none⟩)) (by kernel_rfl) rfl rfl rfl (fun Lx => ?_) ?_
                    · skip
                      refine At.yes rfl rfl rfl rfl ?_
                      refine At.indexAddr (i := j) rfl rfl ((((hp).eff huEff)).opsAt).okL (lt_of_some hxEff) el41 sz45 rfl ?_
                      refine At.ops0 ?_
                      exact fun a ha => ⟨ha, rfl⟩
                    refine At.wpcS (i := 23) (d := 78) (.pointer (some ⟨vBlock uEff.ov, vOff uEff.ov + j * 13 + 1, none⟩)) (by kernel_rfl) rfl rfl rfl (fun Lx => ?_) ?_
                    · skip
                      refine At.yes rfl rfl rfl rfl ?_
                      refine At.fieldAddr rfl fo45_1 rfl ?_
                      refine At.ops0 ?_
                      exact fun a ha => ⟨ha, rfl⟩
                    refine At.wpcS (i := 24) (d := 79) (.agg xEff.arg.cs) (by kernel_rfl) rfl rfl rfl (fun Lx => ?_) ?_
                    · skip
                      refine At.yes rfl rfl rfl rfl ?_
                      refine At.load rfl (Ld.row ag31 (sz31.trans (congrArg some ((((((hp).eff huEff)).op hxEff)).argOk).size.symm)) (((((((hp).eff huEff)).opsAt).row hxEff).part 1 (((((hp).eff huEff)).op hxEff)).argCs).keep hB)) rfl ?_
                      refine At.ops0 ?_
                      exact fun a ha => ⟨ha, rfl⟩
                    refine At.wpcE [25] (by kernel_rfl) (by kernel_rfl) (.cons [] rfl (by kernel_rfl) ?_ .nil)
                    refine At.yes rfl rfl rfl rfl ?_
                    refine At.call en45 rfl rfl (first_any p xEff.arg _ ((hp).keep hB) ((((((hp).eff huEff)).op hxEff)).argOk)) (fun e w9 hR => ?_)
                    obtain ⟨rfl, hbl2⟩ := hR
                    refine ⟨_, rfl, ?_⟩
                    replace hb1 := Below.old hbl2 hb1
                    replace hb2 := Below.old hbl2 hb2
                    replace hO1 := hO1.below hbl2
                    replace hrCEff := hrCEff.below hbl2
                    replace hB := Below.andThen hB hbl2
                    refine At.ops0 ?_
                    refine At.wpcN .nil ?_
                    refine At.wpcS (i := 26) (d := 81) (.bool (!(knownT p.dats xEff.arg))) (by kernel_rfl) rfl rfl rfl (fun Lx => ?_) ?_
                    · skip
                      refine At.yes rfl rfl rfl rfl ?_
                      refine At.not rfl rfl ?_
                      refine At.ops0 ?_
                      exact fun a ha => ⟨ha, rfl⟩
                    refine At.set (d := 81) (u := .bool false) rfl (congrArg Value.bool hg5) ?_
                    refine At.wpcS (i := 27) (d := 82) (.bool false) (by kernel_rfl) rfl rfl rfl (fun Lx => ?_) ?_
                    · skip
                      refine At.pickF rfl rfl rfl ?_
                      refine At.ops0 ?_
                      exact fun a ha => ⟨ha, rfl⟩
                    refine At.wpcS (i := 28) (d := 83) (.bool false) (by kernel_rfl) rfl rfl rfl (fun Lx => ?_) ?_
                    · skip
                      refine At.move rfl rfl ?_
                      refine At.ops0 ?_
                      exact fun a ha => ⟨ha, rfl⟩
                    refine At.wpcS (i := 29) (d := 84) (.agg p.cs) (by kernel_rfl) rfl rfl rfl (fun Lx => ?_) ?_
                    · skip
                      refine At.yes rfl rfl rfl rfl ?_
                      refine At.load rfl (Ld.own ag35 (sz35.trans (congrArg some (hp).size.symm)) hb1) rfl ?_
                      refine At.ops0 ?_
                      exact fun a ha => ⟨ha, rfl⟩
                    refine At.wpcS (i := 30) (d := 85) (.pointer (some ⟨b2, 0 + 1, none⟩)) (by kernel_rfl) rfl rfl rfl (fun Lx => ?_) ?_
                    · skip
                      refine At.yes rfl rfl rfl rfl ?_
                      refine At.fieldAddr rfl fo43_1 rfl ?_
                      refine At.ops0 ?_
                      exact fun a ha => ⟨ha, rfl⟩
                    refine At.wpcS (i := 31) (d := 86) (uEff.ov) (by kernel_rfl) rfl rfl rfl (fun Lx => ?_) ?_
                    · skip
                      refine At.yes rfl rfl rfl rfl ?_
                      refine At.load rfl (Ld.ownCell ag41 hb2 (((hp).eff huEff)).c1) rfl ?_
                      refine At.ops0 ?_
                      exact fun a ha => ⟨ha, rfl⟩
                    refine At.wpcS (i := 32) (d := 87) (.int .i64 (j : Int)) (by kernel_rfl) rfl rfl rfl (fun Lx => ?_) ?_
                    · skip
                      refine At.yes rfl rfl rfl rfl ?_
                      refine At.move rfl rfl ?_
                      refine At.ops0 ?_
                      exact fun a ha => ⟨ha, rfl⟩
                    refine At.wpcS (i := 33) (d := 88) (.pointer (some ⟨vBlock uEff.ov, vOff uEff.ov + j * 13, none⟩)) (by kernel_rfl) rfl rfl rfl (fun Lx => ?_) ?_
                    · skip
                      refine At.yes rfl rfl rfl rfl ?_
                      refine At.indexAddr (i := j) rfl rfl ((((hp).eff huEff)).opsAt).okL (lt_of_some hxEff) el41 sz45 rfl ?_
                      refine At.ops0 ?_
                      exact fun a ha => ⟨ha, rfl⟩
                    refine At.wpcS (i := 34) (d := 89) (.pointer (some ⟨vBlock uEff.ov, vOff uEff.ov + j * 13 + 7, none⟩)) (by kernel_rfl) rfl rfl rfl (fun Lx => ?_) ?_
                    · skip
                      refine At.yes rfl rfl rfl rfl ?_
                      refine At.fieldAddr rfl fo45_2 rfl ?_
                      refine At.ops0 ?_
                      exact fun a ha => ⟨ha, rfl⟩
                    refine At.wpcS (i := 35) (d := 90) (.agg xEff.res.cs) (by kernel_rfl) rfl rfl rfl (fun Lx => ?_) ?_
                    · skip
                      refine At.yes rfl rfl rfl rfl ?_
                      refine At.load rfl (Ld.row ag31 (sz31.trans (congrArg some ((((((hp).eff huEff)).op hxEff)).resOk).size.symm)) (((((((hp).eff huEff)).opsAt).row hxEff).part 7 (((((hp).eff huEff)).op hxEff)).resCs).keep hB)) rfl ?_
                      refine At.ops0 ?_
                      exact fun a ha => ⟨ha, rfl⟩
                    refine At.wpcE [36] (by kernel_rfl) (by kernel_rfl) (.cons [] rfl (by kernel_rfl) ?_ .nil)
                    refine At.yes rfl rfl rfl rfl ?_
                    refine At.call en45 rfl rfl (first_any p xEff.res _ ((hp).keep hB) ((((((hp).eff huEff)).op hxEff)).resOk)) (fun e w10 hR => ?_)
                    obtain ⟨rfl, hbl3⟩ := hR
                    refine ⟨_, rfl, ?_⟩
                    replace hb1 := Below.old hbl3 hb1
                    replace hb2 := Below.old hbl3 hb2
                    replace hO1 := hO1.below hbl3
                    replace hrCEff := hrCEff.below hbl3
                    replace hB := Below.andThen hB hbl3
                    refine At.ops0 ?_
                    refine At.wpcN .nil ?_
                    refine At.wpcS (i := 37) (d := 92) (.bool (!(knownT p.dats xEff.res))) (by kernel_rfl) rfl rfl rfl (fun Lx => ?_) ?_
                    · skip
                      refine At.yes rfl rfl rfl rfl ?_
                      refine At.not rfl rfl ?_
                      refine At.ops0 ?_
                      exact fun a ha => ⟨ha, rfl⟩
                    refine At.wpcS (i := 38) (d := 93) (.bool (!(knownT p.dats xEff.res))) (by kernel_rfl) rfl rfl rfl (fun Lx => ?_) ?_
                    · skip
                      refine At.pickF rfl rfl rfl ?_
                      refine At.ops0 ?_
                      exact fun a ha => ⟨ha, rfl⟩
                    refine At.wpcZ ?_
                    refine At.thenN ?_
                    refine At.cond (b := (!(knownT p.dats xEff.res))) rfl (fun hc5 => ?_) (fun hc5 => ?_)
                    · skip
                      refine At.seq ?_
                      refine At.region ?_
                      refine At.assign rfl rfl ?_
                      refine At.ops0 ?_
                      refine At.thenN ?_
                      refine At.retc ?_
                      refine At.thenR ?_
                      refine At.inR ?_
                      refine At.thenR ?_
                      refine At.thenR ?_
                      refine At.inR ?_
                      refine At.inR ?_
                      refine At.thenR ?_
                      refine At.thenR ?_
                      refine At.inR ?_
                      refine At.thenR ?_
                      refine At.doneR (ResV.tmp rfl ResV.nil) ?_
                      have hgood0 : (decide (uEff.nm = (⟨#[]⟩ : ByteArray)) || memB uEff.nm ([con_] ++ (p.effs.take k).map Eff.nm)) = false := by rw [memB_con]; have e1 := hg1; have e2 : decide (uEff.nm = con_) = false := hg2; have e3 := hc3; simp only [e1, e2, e3, Bool.or_self]
                      have hbad : ((decide (xEff.nm = (⟨#[]⟩ : ByteArray)) || memB xEff.nm (((p.effs.take k).flatMap fun e => e.ops.map Op.nm) ++ (uEff.ops.take j).map Op.nm)) || !(knownT p.dats xEff.arg && knownT p.dats xEff.res)) = true := by have e0 := hg3; have e1 := hg4; have e2 := hg5; have e3 := hc5; (try simp only [Bool.not_eq_true', Bool.not_eq_false', Bool.not_not] at e0 e1 e2 e3 ⊢); simp only [e0, e1, e2, e3, Bool.true_or, Bool.or_true, Bool.not_false, Bool.false_and, Bool.and_false]
                      have hno : effsB p.dats [con_] [] p.effs = false := by rw [← hnEff, effsB_step huEff hgood0, ← hniEff, opsB_bad hxEff hbad]; rfl
                      exact ⟨congrArg Ending.returned (congrArg (Value.int .i64) (Eq.symm (declR_effs hc1 hno))), hB⟩
                    · skip
                      refine At.skip ?_
                      refine At.thenN ?_
                      refine At.region ?_
                      refine At.move rfl rfl ?_
                      refine At.fieldAddr rfl fo43_1 rfl ?_
                      refine At.load rfl (Ld.ownCell ag41 hb2 (((hp).eff huEff)).c1) rfl ?_
                      refine At.move rfl rfl ?_
                      refine At.indexAddr (i := j) rfl rfl ((((hp).eff huEff)).opsAt).okL (lt_of_some hxEff) el41 sz45 rfl ?_
                      refine At.fieldAddr rfl fo45_0 rfl ?_
                      refine At.load rfl (Ld.cell ag9 (cell_keep ((((((hp).eff huEff)).opsAt).row hxEff).get (((((hp).eff huEff)).op hxEff)).c0) hB)) rfl ?_
                      refine At.buildSlice (xs := [.tmp 100]) rfl rfl el27 sz9 ze9 (by intro v hv; simp only [List.mem_cons, List.not_mem_nil, or_false] at hv; rcases hv with rfl <;> first | rfl | simp [Value.cells, Value.cells]) rfl (by decide) rfl (fun b4 w11 F4 => ?_)
                      have n_b1_b4 : b1 ≠ b4 := Nat.ne_of_lt (F4.lt hb1)
                      have n_b2_b4 : b2 ≠ b4 := Nat.ne_of_lt (F4.lt hb2)
                      have gb4 := F4.ge hB
                      replace hb1 := F4.old hb1
                      replace hb2 := F4.old hb2
                      replace hO1 := hO1.fresh F4
                      replace hrCEff := hrCEff.fresh F4
                      have hb4 : w11.heap[b4]? = some (.cells #[.string xEff.nm] 9) := F4.new
                      replace hB := F4.below' hB
                      have hs2 : StrsAt w11 (.slice (some ⟨b4, 0, none⟩) 1 1) [xEff.nm] := StrsAt.own (ss := [xEff.nm]) hb4 rfl (by decide)
                      refine At.appendS (ss := (((p.effs.take k).flatMap fun e => e.ops.map Op.nm) ++ (uEff.ops.take j).map Op.nm)) rfl rfl el27 el27 sz9 by9 ze9 rfl hrCEff (hs2) (by first | omega | (have := hz.ops _ (List.mem_of_getElem? huEff); omega) | (have := hz.cons _ (List.mem_of_getElem? huDat); omega) | (simp only [List.length_append, List.length_map, List.length_take, List.length_cons, List.length_nil]; omega)) rfl (fun va2 w12 hO2 hA2 => ?_)
                      replace hb1 := hA2.old hb1 (hrCEff.neT hb1 rfl)
                      replace hb2 := hA2.old hb2 (hrCEff.neT hb2 rfl)
                      clear hb4
                      have ap_hO2_hO1 := Apart.app (Apart.symm apCEff) hA2 hO1
                      replace hO1 := AppR.apart hA2 hO1 (apCEff)
                      have ghO2 := hA2.ge hB.size gCEff
                      replace hB := hA2.below hB hB.size gCEff
                      refine At.assign rfl rfl ?_
                      refine At.ops0 ?_
                      refine At.inN ?_
                      refine At.thenN ?_
                      refine At.region ?_
                      refine At.move rfl rfl ?_
                      refine At.addI rfl rfl rfl (by first | omega | (have := hz.ops _ (List.mem_of_getElem? huEff); omega) | (have := hz.cons _ (List.mem_of_getElem? huDat); omega) | (simp only [List.length_append, List.length_map, List.length_take, List.length_cons, List.length_nil]; omega)) ?_
                      refine At.assign rfl rfl ?_
                      refine At.ops0 ?_
                      refine At.thenN ?_
                      have hgood : ((decide (xEff.nm = (⟨#[]⟩ : ByteArray)) || memB xEff.nm (((p.effs.take k).flatMap fun e => e.ops.map Op.nm) ++ (uEff.ops.take j).map Op.nm)) || !(knownT p.dats xEff.arg && knownT p.dats xEff.res)) = false := by have e0 := hg3; have e1 := hg4; have e2 := hg5; have e3 := hc5; (try simp only [Bool.not_eq_true', Bool.not_eq_false', Bool.not_not] at e0 e1 e2 e3 ⊢); simp only [e0, e1, e2, e3, Bool.or_self, Bool.and_self, Bool.not_true]
                      exact fun a ha => ⟨((j + 1), va2), ha.sub (Sub.cons rfl (Sub.cons rfl (Sub.cons rfl (Sub.cons rfl (Sub.cons rfl (Sub.cons rfl Sub.nil)))))), ⟨hB, hb1, hb2, hO1, (take_snoc Op.nm _ hxEff ▸ hO2), (ghO2), (Apart.symm ap_hO2_hO1), (by omega), (by rw [take_snoc Op.nm _ hxEff, ← hniEff, opsB_step hxEff hgood])⟩, by first | omega | (dsimp only; omega)⟩
            · skip
              have hc4' := of_decide_eq_false hc4
              refine At.exit ?_
              refine At.thenE ?_
              refine At.thenE ?_
              refine At.inE ?_
              refine At.inN ?_
              refine At.thenN ?_
              refine At.region ?_
              refine At.move rfl rfl ?_
              refine At.addI rfl rfl rfl (by first | omega | (have := hz.ops _ (List.mem_of_getElem? huEff); omega) | (have := hz.cons _ (List.mem_of_getElem? huDat); omega) | (simp only [List.length_append, List.length_map, List.length_take, List.length_cons, List.length_nil]; omega)) ?_
              refine At.assign rfl rfl ?_
              refine At.ops0 ?_
              refine At.thenN ?_
              have hend : opsB p.dats ((p.effs.take k).flatMap fun e => e.ops.map Op.nm) uEff.ops = true := by rw [← hniEff, List.drop_eq_nil_of_le (by omega)]; rfl
              have hgood : (decide (uEff.nm = (⟨#[]⟩ : ByteArray)) || memB uEff.nm ([con_] ++ (p.effs.take k).map Eff.nm)) = false := by rw [memB_con]; have e1 := hg1; have e2 : decide (uEff.nm = con_) = false := hg2; have e3 := hc3; simp only [e1, e2, e3, Bool.or_self]
              exact fun a ha => ⟨((k + 1), va1, vCEff), ha.sub (Sub.cons rfl (Sub.cons rfl (Sub.cons rfl (Sub.cons rfl Sub.nil)))), ⟨hB, hb1, (map_snoc Eff.nm huEff ▸ hO1), (by have q := hrCEff; rw [List.take_of_length_le (show uEff.ops.length ≤ j from by omega)] at q; rw [flat_snoc (fun e : Eff => e.ops.map Op.nm) huEff]; exact q), (ghO1), (gCEff), (apCEff), (by omega), (by rw [take_snoc Eff.nm _ huEff, flat_snoc (fun e : Eff => e.ops.map Op.nm) huEff, ← hnEff, effsB_step huEff hgood, hend]; rfl)⟩, by first | omega | (dsimp only; omega)⟩
    · skip
      have hc2' := of_decide_eq_false hc2
      refine At.exit ?_
      refine At.thenE ?_
      refine At.thenE ?_
      refine At.inE ?_
      refine At.thenN ?_
      refine At.seq ?_
      refine At.region ?_
      refine At.assign rfl rfl ?_
      refine At.ops0 ?_
      refine At.thenN ?_
      refine At.seq ?_
      refine At.region ?_
      refine At.assign rfl rfl ?_
      refine At.ops0 ?_
      refine At.thenN ?_
      refine At.seq ?_
      refine At.seq ?_
      refine At.region ?_
      refine At.assign rfl rfl ?_
      refine At.ops0 ?_
      refine At.thenN ?_
      refine At.block ?_
      have heff : effsB p.dats [con_] [] p.effs = true := by rw [← hnEff, List.drop_eq_nil_of_le (by omega)]; rfl
      have hrADat : OwnS 9 w2 (.slice none 0 0) [] := OwnS.nil _ _
      have gADat : ∀ g, Value.ownBlock (.slice none 0 0) = some g → w.heap.size ≤ g := fun g h => by cases h
      have hrBDat : OwnS 9 w2 (.slice none 0 0) [] := OwnS.nil _ _
      have gBDat : ∀ g, Value.ownBlock (.slice none 0 0) = some g → w.heap.size ≤ g := fun g h => by cases h
      refine At.loop (Nat × Value × Value) (fun (k, vADat, vBDat) => [(1, .pointer (some ⟨b1, 0, none⟩)), (3, vADat), (8, vBDat), (9, .int .i64 (k : Int))]) (fun (k, vADat, vBDat) w13 => Below w.heap.size w w13 ∧ w13.heap[b1]? = some (.cells p.cs 35) ∧ OwnS 9 w13 vADat ((p.dats.take k).map Dat.nm) ∧ OwnS 9 w13 vBDat ((p.dats.take k).flatMap fun e => e.cons.map Cn.nm) ∧ (∀ g, vADat.ownBlock = some g → w.heap.size ≤ g) ∧ (∀ g, vBDat.ownBlock = some g → w.heap.size ≤ g) ∧ (Apart vADat vBDat) ∧ (k ≤ p.dats.length) ∧ (datsB p.dats ([con_] ++ (p.dats.take k).map Dat.nm) ((p.dats.take k).flatMap fun e => e.cons.map Cn.nm) (p.dats.drop k) = datsB p.dats [con_] [] p.dats)) (fun (k, vADat, vBDat) => p.dats.length - k) (0, .slice none 0 0, .slice none 0 0) (Sub.cons rfl (Sub.cons rfl (Sub.cons rfl (Sub.cons rfl Sub.nil)))) ⟨hB, hb1, hrADat, hrBDat, (gADat), (gBDat), (Apart.nil _), (Nat.zero_le _), (rfl)⟩ (fun gh w13 hI => ?_)
      obtain ⟨k, vADat, vBDat⟩ := gh
      clear hB hb1
      obtain ⟨hB, hb1, hrADat, hrBDat, gADat, gBDat, apDat, hkb, hnDat⟩ := hI
      show At _ _ [(1, .pointer (some ⟨b1, 0, none⟩)), (3, vADat), (8, vBDat), (9, .int .i64 (k : Int))] _ _
      refine At.seq ?_
      refine At.seq ?_
      refine At.region ?_
      refine At.move rfl rfl ?_
      refine At.fieldAddr rfl fo35_1 rfl ?_
      refine At.load rfl (Ld.ownCell ag23 hb1 (hp).c1) rfl ?_
      refine At.lenSl rfl ((hp).datsAt).okL el23 rfl ?_
      refine At.lss rfl rfl rfl ?_
      refine At.ops0 ?_
      refine At.thenN ?_
      refine At.cond (b := decide ((k : Int) < (p.dats.length : Int))) rfl (fun hc6 => ?_) (fun hc6 => ?_)
      · skip
        have hc6' := of_decide_eq_true hc6
        refine At.skip ?_
        refine At.thenN ?_
        refine At.seq ?_
        refine At.block ?_
        refine At.seq ?_
        obtain ⟨uDat, huDat⟩ := some_of_lt (l := p.dats) (i := k) (by omega)
        refine At.region ?_
        refine At.fieldAddr rfl fo35_1 rfl ?_
        refine At.load rfl (Ld.ownCell ag23 hb1 (hp).c1) rfl ?_
        refine At.move rfl rfl ?_
        refine At.indexAddr (i := k) rfl rfl ((hp).datsAt).okL (lt_of_some huDat) el23 sz52 rfl ?_
        refine At.load rfl (Ld.row ag52 (sz52.trans (congrArg some (((hp).dat huDat)).size.symm)) ((((hp).datsAt).row huDat).keep hB)) rfl ?_
        refine At.alloc ze52 rfl (fun b5 w14 F5 => ?_)
        have n_b1_b5 : b1 ≠ b5 := Nat.ne_of_lt (F5.lt hb1)
        have gb5 := F5.ge hB
        replace hb1 := F5.old hb1
        replace hrADat := hrADat.fresh F5
        replace hrBDat := hrBDat.fresh F5
        have hb5 : w14.heap[b5]? = some (.cells #[.string (⟨#[]⟩ : ByteArray), (.slice none 0 0)] 52) := F5.new
        replace hB := F5.below' hB
        refine At.storeAll rfl rfl hb5 (sz52.trans (congrArg some (((hp).dat huDat)).size.symm)) (((hp).dat huDat)).size.symm (((hp).dat huDat)).one (fun w15 S2 => ?_)
        replace hb1 := S2.other hb1 n_b1_b5
        replace hrADat := hrADat.set S2 (hrADat.neT hb5 rfl)
        replace hrBDat := hrBDat.set S2 (hrBDat.neT hb5 rfl)
        replace hb5 : w15.heap[b5]? = some (.cells uDat.cs 52) := S2.new
        replace hB := S2.below' hB gb5
        refine At.ops0 ?_
        refine At.thenN ?_
        refine At.seq ?_
        refine At.seq ?_
        refine At.region ?_
        refine At.fieldAddr rfl fo52_0 rfl ?_
        refine At.load rfl (Ld.ownCell ag9 hb5 (((hp).dat huDat)).c0) rfl ?_
        refine At.eqS rfl rfl rfl ?_
        refine At.move rfl rfl ?_
        refine At.cases (decide (uDat.nm = (⟨#[]⟩ : ByteArray))) (fun hg6 => ?_) (fun hg6 => ?_)
        · skip
          refine At.set (d := 118) (u := .bool true) rfl (congrArg Value.bool hg6) ?_
          have hg6' := of_decide_eq_true hg6
          refine At.no rfl rfl rfl rfl rfl rfl rfl ?_
          refine At.no rfl rfl rfl rfl rfl rfl rfl ?_
          refine At.no rfl rfl rfl rfl rfl rfl rfl ?_
          refine At.pickT rfl rfl rfl ?_
          refine At.move rfl rfl ?_
          refine At.no rfl rfl rfl rfl rfl rfl rfl ?_
          refine At.no rfl rfl rfl rfl rfl rfl rfl ?_
          refine At.no rfl rfl rfl rfl rfl rfl rfl ?_
          refine At.no rfl rfl rfl rfl rfl rfl rfl ?_
          refine At.pickT rfl rfl rfl ?_
          refine At.ops0 ?_
          refine At.thenN ?_
          refine At.condT rfl ?_
          refine At.seq ?_
          refine At.region ?_
          refine At.assign rfl rfl ?_
          refine At.ops0 ?_
          refine At.thenN ?_
          refine At.retc ?_
          refine At.thenR ?_
          refine At.inR ?_
          refine At.thenR ?_
          refine At.thenR ?_
          refine At.inR ?_
          refine At.thenR ?_
          refine At.doneR (ResV.tmp rfl ResV.nil) ?_
          have hbad : (decide (uDat.nm = (⟨#[]⟩ : ByteArray)) || memB uDat.nm ([con_] ++ (p.dats.take k).map Dat.nm)) = true := by rw [memB_con]; have e0 := hg6; simp only [e0, Bool.true_or, Bool.or_true]
          have hno : datsB p.dats [con_] [] p.dats = false := by rw [← hnDat, datsB_bad huDat hbad]
          exact ⟨congrArg Ending.returned (congrArg (Value.int .i64) (Eq.symm (declR_dats hc1 heff hno))), hB⟩
        · skip
          refine At.set (d := 118) (u := .bool false) rfl (congrArg Value.bool hg6) ?_
          have hg6' := of_decide_eq_false hg6
          refine At.yes rfl rfl rfl rfl ?_
          refine At.fieldAddr rfl fo52_0 rfl ?_
          refine At.yes rfl rfl rfl rfl ?_
          refine At.load rfl (Ld.ownCell ag9 hb5 (((hp).dat huDat)).c0) rfl ?_
          refine At.yes rfl rfl rfl rfl ?_
          refine At.eqS rfl rfl rfl ?_
          refine At.pickF rfl rfl rfl ?_
          refine At.move rfl rfl ?_
          refine At.cases (decide (uDat.nm = (⟨#[99, 111, 110, 115, 111, 108, 101]⟩ : ByteArray))) (fun hg7 => ?_) (fun hg7 => ?_)
          · skip
            refine At.set (d := 123) (u := .bool true) rfl (congrArg Value.bool hg7) ?_
            have hg7' := of_decide_eq_true hg7
            refine At.no rfl rfl rfl rfl rfl rfl rfl ?_
            refine At.no rfl rfl rfl rfl rfl rfl rfl ?_
            refine At.no rfl rfl rfl rfl rfl rfl rfl ?_
            refine At.no rfl rfl rfl rfl rfl rfl rfl ?_
            refine At.pickT rfl rfl rfl ?_
            refine At.ops0 ?_
            refine At.thenN ?_
            refine At.condT rfl ?_
            refine At.seq ?_
            refine At.region ?_
            refine At.assign rfl rfl ?_
            refine At.ops0 ?_
            refine At.thenN ?_
            refine At.retc ?_
            refine At.thenR ?_
            refine At.inR ?_
            refine At.thenR ?_
            refine At.thenR ?_
            refine At.inR ?_
            refine At.thenR ?_
            refine At.doneR (ResV.tmp rfl ResV.nil) ?_
            have hbad : (decide (uDat.nm = (⟨#[]⟩ : ByteArray)) || memB uDat.nm ([con_] ++ (p.dats.take k).map Dat.nm)) = true := by rw [memB_con]; have e0 := hg6; have e1 : decide (uDat.nm = con_) = true := hg7; simp only [e0, e1, Bool.true_or, Bool.or_true]
            have hno : datsB p.dats [con_] [] p.dats = false := by rw [← hnDat, datsB_bad huDat hbad]
            exact ⟨congrArg Ending.returned (congrArg (Value.int .i64) (Eq.symm (declR_dats hc1 heff hno))), hB⟩
          · skip
            refine At.set (d := 123) (u := .bool false) rfl (congrArg Value.bool hg7) ?_
            have hg7' := of_decide_eq_false hg7
            refine At.yes rfl rfl rfl rfl ?_
            refine At.move rfl rfl ?_
            refine At.yes rfl rfl rfl rfl ?_
            refine At.fieldAddr rfl fo52_0 rfl ?_
            refine At.yes rfl rfl rfl rfl ?_
            refine At.load rfl (Ld.ownCell ag9 hb5 (((hp).dat huDat)).c0) rfl ?_
            refine At.yes rfl rfl rfl rfl ?_
            refine At.call en44 rfl rfl (in_any vADat ((p.dats.take k).map Dat.nm) uDat.nm _ ((hrADat.strs).keep (Below.refl _ _)) (by simp only [List.length_append, List.length_map, List.length_take]; omega)) (fun e w' hR => ?_)
            obtain ⟨rfl, rfl⟩ := hR
            refine ⟨_, rfl, ?_⟩
            refine At.pickF rfl rfl rfl ?_
            refine At.ops0 ?_
            refine At.thenN ?_
            refine At.cond (b := (memB uDat.nm ((p.dats.take k).map Dat.nm))) rfl (fun hc7 => ?_) (fun hc7 => ?_)
            · skip
              refine At.seq ?_
              refine At.region ?_
              refine At.assign rfl rfl ?_
              refine At.ops0 ?_
              refine At.thenN ?_
              refine At.retc ?_
              refine At.thenR ?_
              refine At.inR ?_
              refine At.thenR ?_
              refine At.thenR ?_
              refine At.inR ?_
              refine At.thenR ?_
              refine At.doneR (ResV.tmp rfl ResV.nil) ?_
              have hbad : (decide (uDat.nm = (⟨#[]⟩ : ByteArray)) || memB uDat.nm ([con_] ++ (p.dats.take k).map Dat.nm)) = true := by rw [memB_con]; have e0 := hg6; have e1 : decide (uDat.nm = con_) = false := hg7; have e2 := hc7; simp only [e0, e1, e2, Bool.true_or, Bool.or_true]
              have hno : datsB p.dats [con_] [] p.dats = false := by rw [← hnDat, datsB_bad huDat hbad]
              exact ⟨congrArg Ending.returned (congrArg (Value.int .i64) (Eq.symm (declR_dats hc1 heff hno))), hB⟩
            · skip
              refine At.skip ?_
              refine At.thenN ?_
              refine At.seq ?_
              refine At.region ?_
              refine At.move rfl rfl ?_
              refine At.fieldAddr rfl fo52_0 rfl ?_
              refine At.load rfl (Ld.ownCell ag9 hb5 (((hp).dat huDat)).c0) rfl ?_
              refine At.buildSlice (xs := [.tmp 131]) rfl rfl el27 sz9 ze9 (by intro v hv; simp only [List.mem_cons, List.not_mem_nil, or_false] at hv; rcases hv with rfl <;> first | rfl | simp [Value.cells, Value.cells]) rfl (by decide) rfl (fun b6 w16 F6 => ?_)
              have n_b1_b6 : b1 ≠ b6 := Nat.ne_of_lt (F6.lt hb1)
              have n_b5_b6 : b5 ≠ b6 := Nat.ne_of_lt (F6.lt hb5)
              have gb6 := F6.ge hB
              replace hb1 := F6.old hb1
              replace hb5 := F6.old hb5
              replace hrADat := hrADat.fresh F6
              replace hrBDat := hrBDat.fresh F6
              have hb6 : w16.heap[b6]? = some (.cells #[.string uDat.nm] 9) := F6.new
              replace hB := F6.below' hB
              have hs3 : StrsAt w16 (.slice (some ⟨b6, 0, none⟩) 1 1) [uDat.nm] := StrsAt.own (ss := [uDat.nm]) hb6 rfl (by decide)
              refine At.appendS (ss := ((p.dats.take k).map Dat.nm)) rfl rfl el27 el27 sz9 by9 ze9 rfl hrADat (hs3) (by first | omega | (have := hz.ops _ (List.mem_of_getElem? huEff); omega) | (have := hz.cons _ (List.mem_of_getElem? huDat); omega) | (simp only [List.length_append, List.length_map, List.length_take, List.length_cons, List.length_nil]; omega)) rfl (fun va3 w17 hO3 hA3 => ?_)
              replace hb1 := hA3.old hb1 (hrADat.neT hb1 rfl)
              replace hb5 := hA3.old hb5 (hrADat.neT hb5 rfl)
              clear hb6
              have ap_hO3_hrBDat := Apart.app (apDat) hA3 hrBDat
              replace hrBDat := AppR.apart hA3 hrBDat (Apart.symm apDat)
              have ghO3 := hA3.ge hB.size gADat
              replace hB := hA3.below hB hB.size gADat
              refine At.assign rfl rfl ?_
              refine At.ops0 ?_
              refine At.thenN ?_
              refine At.seq ?_
              refine At.region ?_
              refine At.assign rfl rfl ?_
              refine At.ops0 ?_
              refine At.thenN ?_
              refine At.block ?_
              have hfl := flat_le1 (fun e : Dat => e.cons.map Cn.nm) huDat
              have hsum := hz.consAll
              simp only [List.length_map] at hfl
              refine At.loop (Nat × Value) (fun (j, vCDat) => [(1, .pointer (some ⟨b1, 0, none⟩)), (3, va3), (8, vCDat), (9, .int .i64 (k : Int)), (10, .pointer (some ⟨b5, 0, none⟩)), (11, .int .i64 (j : Int))]) (fun (j, vCDat) w18 => Below w.heap.size w w18 ∧ w18.heap[b1]? = some (.cells p.cs 35) ∧ w18.heap[b5]? = some (.cells uDat.cs 52) ∧ OwnS 9 w18 va3 (((p.dats.take k).map Dat.nm) ++ [uDat.nm]) ∧ OwnS 9 w18 vCDat (((p.dats.take k).flatMap fun e => e.cons.map Cn.nm) ++ (uDat.cons.take j).map Cn.nm) ∧ (∀ g, vCDat.ownBlock = some g → w.heap.size ≤ g) ∧ (Apart va3 vCDat) ∧ (j ≤ uDat.cons.length) ∧ (consB p.dats (((p.dats.take k).flatMap fun e => e.cons.map Cn.nm) ++ (uDat.cons.take j).map Cn.nm) (uDat.cons.drop j) = consB p.dats ((p.dats.take k).flatMap fun e => e.cons.map Cn.nm) uDat.cons)) (fun (j, vCDat) => uDat.cons.length - j) (0, vBDat) (Sub.cons rfl (Sub.cons rfl (Sub.cons rfl (Sub.cons rfl (Sub.cons rfl (Sub.cons rfl Sub.nil)))))) ⟨hB, hb1, hb5, hO3, (by rw [List.take_zero, List.map_nil, List.append_nil]; exact hrBDat), (gBDat), (ap_hO3_hrBDat), (Nat.zero_le _), (by rw [List.take_zero, List.map_nil, List.append_nil]; rfl)⟩ (fun gh w18 hI => ?_)
              obtain ⟨j, vCDat⟩ := gh
              clear hB hb1 hb5 hrBDat hO3
              obtain ⟨hB, hb1, hb5, hO3, hrCDat, gCDat, apCDat, hjb, hniDat⟩ := hI
              show At _ _ [(1, .pointer (some ⟨b1, 0, none⟩)), (3, va3), (8, vCDat), (9, .int .i64 (k : Int)), (10, .pointer (some ⟨b5, 0, none⟩)), (11, .int .i64 (j : Int))] _ _
              refine At.seq ?_
              refine At.seq ?_
              refine At.region ?_
              refine At.move rfl rfl ?_
              refine At.fieldAddr rfl fo52_1 rfl ?_
              refine At.load rfl (Ld.ownCell ag50 hb5 (((hp).dat huDat)).c1) rfl ?_
              refine At.lenSl rfl ((((hp).dat huDat)).consAt).okL el50 rfl ?_
              refine At.lss rfl rfl rfl ?_
              refine At.ops0 ?_
              refine At.thenN ?_
              refine At.cond (b := decide ((j : Int) < (uDat.cons.length : Int))) rfl (fun hc8 => ?_) (fun hc8 => ?_)
              · skip
                have hc8' := of_decide_eq_true hc8
                refine At.skip ?_
                refine At.thenN ?_
                refine At.seq ?_
                refine At.block ?_
                refine At.seq ?_
                refine At.seq ?_
                obtain ⟨xDat, hxDat⟩ := some_of_lt (l := uDat.cons) (i := j) (by omega)
                have hfl6 := (((hp.dat huDat).con hxDat).fieldsAt).lenL
                refine At.region ?_
                refine At.fieldAddr rfl fo52_1 rfl ?_
                refine At.load rfl (Ld.ownCell ag50 hb5 (((hp).dat huDat)).c1) rfl ?_
                refine At.move rfl rfl ?_
                refine At.indexAddr (i := j) rfl rfl ((((hp).dat huDat)).consAt).okL (lt_of_some hxDat) el50 sz54 rfl ?_
                refine At.fieldAddr rfl fo54_0 rfl ?_
                refine At.load rfl (Ld.cell ag9 (cell_keep ((((((hp).dat huDat)).consAt).row hxDat).get (((((hp).dat huDat)).con hxDat)).c0) hB)) rfl ?_
                refine At.eqS rfl rfl rfl ?_
                refine At.move rfl rfl ?_
                refine At.cases (decide (xDat.nm = (⟨#[]⟩ : ByteArray))) (fun hg8 => ?_) (fun hg8 => ?_)
                · skip
                  refine At.set (d := 148) (u := .bool true) rfl (congrArg Value.bool hg8) ?_
                  have hg8' := of_decide_eq_true hg8
                  refine At.no rfl rfl rfl rfl rfl rfl rfl ?_
                  refine At.no rfl rfl rfl rfl rfl rfl rfl ?_
                  refine At.no rfl rfl rfl rfl rfl rfl rfl ?_
                  refine At.no rfl rfl rfl rfl rfl rfl rfl ?_
                  refine At.no rfl rfl rfl rfl rfl rfl rfl ?_
                  refine At.no rfl rfl rfl rfl rfl rfl rfl ?_
                  refine At.no rfl rfl rfl rfl rfl rfl rfl ?_
                  refine At.no rfl rfl rfl rfl rfl rfl rfl ?_
                  refine At.pickT rfl rfl rfl ?_
                  refine At.ops0 ?_
                  refine At.thenN ?_
                  refine At.condT rfl ?_
                  refine At.seq ?_
                  refine At.region ?_
                  refine At.assign rfl rfl ?_
                  refine At.ops0 ?_
                  refine At.thenN ?_
                  refine At.retc ?_
                  refine At.thenR ?_
                  refine At.inR ?_
                  refine At.thenR ?_
                  refine At.thenR ?_
                  refine At.inR ?_
                  refine At.inR ?_
                  refine At.thenR ?_
                  refine At.thenR ?_
                  refine At.inR ?_
                  refine At.thenR ?_
                  refine At.doneR (ResV.tmp rfl ResV.nil) ?_
                  have hgood0 : (decide (uDat.nm = (⟨#[]⟩ : ByteArray)) || memB uDat.nm ([con_] ++ (p.dats.take k).map Dat.nm)) = false := by rw [memB_con]; have e1 := hg6; have e2 : decide (uDat.nm = con_) = false := hg7; have e3 := hc7; simp only [e1, e2, e3, Bool.or_self]
                  have hbad : ((decide (xDat.nm = (⟨#[]⟩ : ByteArray)) || memB xDat.nm (((p.dats.take k).flatMap fun e => e.cons.map Cn.nm) ++ (uDat.cons.take j).map Cn.nm)) || !(xDat.fields.all (knownT p.dats))) = true := by have e0 := hg8; (try simp only [Bool.not_eq_true', Bool.not_eq_false', Bool.not_not] at e0 ⊢); simp only [e0, Bool.true_or, Bool.or_true, Bool.not_false, Bool.false_and, Bool.and_false]
                  have hno : datsB p.dats [con_] [] p.dats = false := by rw [← hnDat, datsB_step huDat hgood0, ← hniDat, consB_bad hxDat hbad]; rfl
                  exact ⟨congrArg Ending.returned (congrArg (Value.int .i64) (Eq.symm (declR_dats hc1 heff hno))), hB⟩
                · skip
                  refine At.set (d := 148) (u := .bool false) rfl (congrArg Value.bool hg8) ?_
                  have hg8' := of_decide_eq_false hg8
                  refine At.yes rfl rfl rfl rfl ?_
                  refine At.move rfl rfl ?_
                  refine At.yes rfl rfl rfl rfl ?_
                  refine At.fieldAddr rfl fo52_1 rfl ?_
                  refine At.yes rfl rfl rfl rfl ?_
                  refine At.load rfl (Ld.ownCell ag50 hb5 (((hp).dat huDat)).c1) rfl ?_
                  refine At.yes rfl rfl rfl rfl ?_
                  refine At.move rfl rfl ?_
                  refine At.yes rfl rfl rfl rfl ?_
                  refine At.indexAddr (i := j) rfl rfl ((((hp).dat huDat)).consAt).okL (lt_of_some hxDat) el50 sz54 rfl ?_
                  refine At.yes rfl rfl rfl rfl ?_
                  refine At.fieldAddr rfl fo54_0 rfl ?_
                  refine At.yes rfl rfl rfl rfl ?_
                  refine At.load rfl (Ld.cell ag9 (cell_keep ((((((hp).dat huDat)).consAt).row hxDat).get (((((hp).dat huDat)).con hxDat)).c0) hB)) rfl ?_
                  refine At.yes rfl rfl rfl rfl ?_
                  refine At.call en44 rfl rfl (in_any vCDat (((p.dats.take k).flatMap fun e => e.cons.map Cn.nm) ++ (uDat.cons.take j).map Cn.nm) xDat.nm _ ((hrCDat.strs).keep (Below.refl _ _)) (by simp only [List.length_append, List.length_map, List.length_take]; omega)) (fun e w' hR => ?_)
                  obtain ⟨rfl, rfl⟩ := hR
                  refine ⟨_, rfl, ?_⟩
                  refine At.pickF rfl rfl rfl ?_
                  refine At.ops0 ?_
                  refine At.thenN ?_
                  refine At.cond (b := (memB xDat.nm (((p.dats.take k).flatMap fun e => e.cons.map Cn.nm) ++ (uDat.cons.take j).map Cn.nm))) rfl (fun hc9 => ?_) (fun hc9 => ?_)
                  · skip
                    refine At.seq ?_
                    refine At.region ?_
                    refine At.assign rfl rfl ?_
                    refine At.ops0 ?_
                    refine At.thenN ?_
                    refine At.retc ?_
                    refine At.thenR ?_
                    refine At.inR ?_
                    refine At.thenR ?_
                    refine At.thenR ?_
                    refine At.inR ?_
                    refine At.inR ?_
                    refine At.thenR ?_
                    refine At.thenR ?_
                    refine At.inR ?_
                    refine At.thenR ?_
                    refine At.doneR (ResV.tmp rfl ResV.nil) ?_
                    have hgood0 : (decide (uDat.nm = (⟨#[]⟩ : ByteArray)) || memB uDat.nm ([con_] ++ (p.dats.take k).map Dat.nm)) = false := by rw [memB_con]; have e1 := hg6; have e2 : decide (uDat.nm = con_) = false := hg7; have e3 := hc7; simp only [e1, e2, e3, Bool.or_self]
                    have hbad : ((decide (xDat.nm = (⟨#[]⟩ : ByteArray)) || memB xDat.nm (((p.dats.take k).flatMap fun e => e.cons.map Cn.nm) ++ (uDat.cons.take j).map Cn.nm)) || !(xDat.fields.all (knownT p.dats))) = true := by have e0 := hg8; have e1 := hc9; (try simp only [Bool.not_eq_true', Bool.not_eq_false', Bool.not_not] at e0 e1 ⊢); simp only [e0, e1, Bool.true_or, Bool.or_true, Bool.not_false, Bool.false_and, Bool.and_false]
                    have hno : datsB p.dats [con_] [] p.dats = false := by rw [← hnDat, datsB_step huDat hgood0, ← hniDat, consB_bad hxDat hbad]; rfl
                    exact ⟨congrArg Ending.returned (congrArg (Value.int .i64) (Eq.symm (declR_dats hc1 heff hno))), hB⟩
                  · skip
                    refine At.skip ?_
                    refine At.thenN ?_
                    refine At.seq ?_
                    refine At.region ?_
                    refine At.move rfl rfl ?_
                    refine At.fieldAddr rfl fo52_1 rfl ?_
                    refine At.load rfl (Ld.ownCell ag50 hb5 (((hp).dat huDat)).c1) rfl ?_
                    refine At.move rfl rfl ?_
                    refine At.indexAddr (i := j) rfl rfl ((((hp).dat huDat)).consAt).okL (lt_of_some hxDat) el50 sz54 rfl ?_
                    refine At.fieldAddr rfl fo54_0 rfl ?_
                    refine At.load rfl (Ld.cell ag9 (cell_keep ((((((hp).dat huDat)).consAt).row hxDat).get (((((hp).dat huDat)).con hxDat)).c0) hB)) rfl ?_
                    refine At.buildSlice (xs := [.tmp 164]) rfl rfl el27 sz9 ze9 (by intro v hv; simp only [List.mem_cons, List.not_mem_nil, or_false] at hv; rcases hv with rfl <;> first | rfl | simp [Value.cells, Value.cells]) rfl (by decide) rfl (fun b7 w19 F7 => ?_)
                    have n_b1_b7 : b1 ≠ b7 := Nat.ne_of_lt (F7.lt hb1)
                    have n_b5_b7 : b5 ≠ b7 := Nat.ne_of_lt (F7.lt hb5)
                    have gb7 := F7.ge hB
                    replace hb1 := F7.old hb1
                    replace hb5 := F7.old hb5
                    replace hO3 := hO3.fresh F7
                    replace hrCDat := hrCDat.fresh F7
                    have hb7 : w19.heap[b7]? = some (.cells #[.string xDat.nm] 9) := F7.new
                    replace hB := F7.below' hB
                    have hs4 : StrsAt w19 (.slice (some ⟨b7, 0, none⟩) 1 1) [xDat.nm] := StrsAt.own (ss := [xDat.nm]) hb7 rfl (by decide)
                    refine At.appendS (ss := (((p.dats.take k).flatMap fun e => e.cons.map Cn.nm) ++ (uDat.cons.take j).map Cn.nm)) rfl rfl el27 el27 sz9 by9 ze9 rfl hrCDat (hs4) (by first | omega | (have := hz.ops _ (List.mem_of_getElem? huEff); omega) | (have := hz.cons _ (List.mem_of_getElem? huDat); omega) | (simp only [List.length_append, List.length_map, List.length_take, List.length_cons, List.length_nil]; omega)) rfl (fun va4 w20 hO4 hA4 => ?_)
                    replace hb1 := hA4.old hb1 (hrCDat.neT hb1 rfl)
                    replace hb5 := hA4.old hb5 (hrCDat.neT hb5 rfl)
                    clear hb7
                    have ap_hO4_hO3 := Apart.app (Apart.symm apCDat) hA4 hO3
                    replace hO3 := AppR.apart hA4 hO3 (apCDat)
                    have ghO4 := hA4.ge hB.size gCDat
                    replace hB := hA4.below hB hB.size gCDat
                    refine At.assign rfl rfl ?_
                    refine At.ops0 ?_
                    refine At.thenN ?_
                    refine At.seq ?_
                    refine At.region ?_
                    refine At.assign rfl rfl ?_
                    refine At.ops0 ?_
                    refine At.thenN ?_
                    refine At.block ?_
                    refine At.loop (Nat) (fun n => [(1, .pointer (some ⟨b1, 0, none⟩)), (3, va3), (8, va4), (9, .int .i64 (k : Int)), (10, .pointer (some ⟨b5, 0, none⟩)), (11, .int .i64 (j : Int)), (12, .int .i64 (n : Int))]) (fun n w21 => Below w.heap.size w w21 ∧ w21.heap[b1]? = some (.cells p.cs 35) ∧ w21.heap[b5]? = some (.cells uDat.cs 52) ∧ OwnS 9 w21 va3 (((p.dats.take k).map Dat.nm) ++ [uDat.nm]) ∧ OwnS 9 w21 va4 ((((p.dats.take k).flatMap fun e => e.cons.map Cn.nm) ++ (uDat.cons.take j).map Cn.nm) ++ [xDat.nm]) ∧ (n ≤ xDat.fields.length) ∧ ((xDat.fields.drop n).all (knownT p.dats) = xDat.fields.all (knownT p.dats))) (fun n => xDat.fields.length - n) (0 : Nat) (Sub.cons rfl (Sub.cons rfl (Sub.cons rfl (Sub.cons rfl (Sub.cons rfl (Sub.cons rfl (Sub.cons rfl Sub.nil))))))) ⟨hB, hb1, hb5, hO3, hO4, (Nat.zero_le _), (rfl)⟩ (fun n w21 hI => ?_)
                    clear hB hb1 hb5 hO3 hO4
                    obtain ⟨hB, hb1, hb5, hO3, hO4, hnb, hnf⟩ := hI
                    show At _ _ [(1, .pointer (some ⟨b1, 0, none⟩)), (3, va3), (8, va4), (9, .int .i64 (k : Int)), (10, .pointer (some ⟨b5, 0, none⟩)), (11, .int .i64 (j : Int)), (12, .int .i64 (n : Int))] _ _
                    refine At.seq ?_
                    refine At.seq ?_
                    refine At.region ?_
                    refine At.move rfl rfl ?_
                    refine At.fieldAddr rfl fo52_1 rfl ?_
                    refine At.load rfl (Ld.ownCell ag50 hb5 (((hp).dat huDat)).c1) rfl ?_
                    refine At.move rfl rfl ?_
                    refine At.indexAddr (i := j) rfl rfl ((((hp).dat huDat)).consAt).okL (lt_of_some hxDat) el50 sz54 rfl ?_
                    refine At.fieldAddr rfl fo54_1 rfl ?_
                    refine At.load rfl (Ld.cell ag26 (cell_keep ((((((hp).dat huDat)).consAt).row hxDat).get (((((hp).dat huDat)).con hxDat)).c1) hB)) rfl ?_
                    refine At.lenSl rfl ((((((hp).dat huDat)).con hxDat)).fieldsAt).okL el26 rfl ?_
                    refine At.lss rfl rfl rfl ?_
                    refine At.ops0 ?_
                    refine At.thenN ?_
                    refine At.cond (b := decide ((n : Int) < (xDat.fields.length : Int))) rfl (fun hc10 => ?_) (fun hc10 => ?_)
                    · skip
                      have hc10' := of_decide_eq_true hc10
                      refine At.skip ?_
                      refine At.thenN ?_
                      refine At.seq ?_
                      refine At.block ?_
                      refine At.seq ?_
                      obtain ⟨yF, hyF⟩ := some_of_lt (l := xDat.fields) (i := n) (by omega)
                      refine At.drawG (n := 12) mixed (by kernel_rfl) rfl (PanicOk.then (PanicOk.block (PanicOk.then (PanicOk.then (PanicOk.block (PanicOk.block (PanicOk.then (PanicOk.then (PanicOk.block (PanicOk.block (PanicOk.then (PanicOk.then (PanicOk.block (PanicOk.then PanicOk.body)))))))))))))) ?_
                      have hB := Below.drewB hB
                      have hb1 : _ := (show w21.drew.heap[b1]? = _ from hb1)
                      have hb5 : _ := (show w21.drew.heap[b5]? = _ from hb5)
                      have hO3 := hO3.drew
                      have hO4 := hO4.drew
                      refine At.wpcS (i := 0) (d := 178) (.agg p.cs) (by kernel_rfl) rfl rfl rfl (fun Lx => ?_) ?_
                      · skip
                        refine At.load rfl (Ld.own ag35 (sz35.trans (congrArg some (hp).size.symm)) hb1) rfl ?_
                        refine At.ops0 ?_
                        exact fun a ha => ⟨ha, rfl⟩
                      refine At.wpcS (i := 1) (d := 179) (.pointer (some ⟨b5, 0 + 1, none⟩)) (by kernel_rfl) rfl rfl rfl (fun Lx => ?_) ?_
                      · skip
                        refine At.fieldAddr rfl fo52_1 rfl ?_
                        refine At.ops0 ?_
                        exact fun a ha => ⟨ha, rfl⟩
                      refine At.wpcS (i := 2) (d := 180) (uDat.cv) (by kernel_rfl) rfl rfl rfl (fun Lx => ?_) ?_
                      · skip
                        refine At.load rfl (Ld.ownCell ag50 hb5 (((hp).dat huDat)).c1) rfl ?_
                        refine At.ops0 ?_
                        exact fun a ha => ⟨ha, rfl⟩
                      refine At.wpcS (i := 3) (d := 181) (.int .i64 (j : Int)) (by kernel_rfl) rfl rfl rfl (fun Lx => ?_) ?_
                      · skip
                        refine At.move rfl rfl ?_
                        refine At.ops0 ?_
                        exact fun a ha => ⟨ha, rfl⟩
                      refine At.wpcS (i := 4) (d := 182) (.pointer (some ⟨vBlock uDat.cv, vOff uDat.cv + j * 2, none⟩)) (by kernel_rfl) rfl rfl rfl (fun Lx => ?_) ?_
                      · skip
                        refine At.indexAddr (i := j) rfl rfl ((((hp).dat huDat)).consAt).okL (lt_of_some hxDat) el50 sz54 rfl ?_
                        refine At.ops0 ?_
                        exact fun a ha => ⟨ha, rfl⟩
                      refine At.wpcS (i := 5) (d := 183) (.pointer (some ⟨vBlock uDat.cv, vOff uDat.cv + j * 2 + 1, none⟩)) (by kernel_rfl) rfl rfl rfl (fun Lx => ?_) ?_
                      · skip
                        refine At.fieldAddr rfl fo54_1 rfl ?_
                        refine At.ops0 ?_
                        exact fun a ha => ⟨ha, rfl⟩
                      refine At.wpcS (i := 6) (d := 184) (xDat.fv) (by kernel_rfl) rfl rfl rfl (fun Lx => ?_) ?_
                      · skip
                        refine At.load rfl (Ld.cell ag26 (cell_keep ((((((hp).dat huDat)).consAt).row hxDat).get (((((hp).dat huDat)).con hxDat)).c1) hB)) rfl ?_
                        refine At.ops0 ?_
                        exact fun a ha => ⟨ha, rfl⟩
                      refine At.wpcS (i := 7) (d := 185) (.int .i64 (n : Int)) (by kernel_rfl) rfl rfl rfl (fun Lx => ?_) ?_
                      · skip
                        refine At.move rfl rfl ?_
                        refine At.ops0 ?_
                        exact fun a ha => ⟨ha, rfl⟩
                      refine At.wpcS (i := 8) (d := 186) (.pointer (some ⟨vBlock xDat.fv, vOff xDat.fv + n * 6, none⟩)) (by kernel_rfl) rfl rfl rfl (fun Lx => ?_) ?_
                      · skip
                        refine At.indexAddr (i := n) rfl rfl ((((((hp).dat huDat)).con hxDat)).fieldsAt).okL (lt_of_some hyF) el26 sz31 rfl ?_
                        refine At.ops0 ?_
                        exact fun a ha => ⟨ha, rfl⟩
                      refine At.wpcS (i := 9) (d := 187) (.agg yF.cs) (by kernel_rfl) rfl rfl rfl (fun Lx => ?_) ?_
                      · skip
                        refine At.load rfl (Ld.row ag31 (sz31.trans (congrArg some (((((((hp).dat huDat)).con hxDat)).field hyF)).size.symm)) ((((((((hp).dat huDat)).con hxDat)).fieldsAt).row hyF).keep hB)) rfl ?_
                        refine At.ops0 ?_
                        exact fun a ha => ⟨ha, rfl⟩
                      refine At.wpcE [10] (by kernel_rfl) (by kernel_rfl) (.cons [] rfl (by kernel_rfl) ?_ .nil)
                      refine At.call en45 rfl rfl (first_any p yF _ ((hp).keep hB) (((((((hp).dat huDat)).con hxDat)).field hyF))) (fun e w22 hR => ?_)
                      obtain ⟨rfl, hbl4⟩ := hR
                      refine ⟨_, rfl, ?_⟩
                      replace hb1 := Below.old hbl4 hb1
                      replace hb5 := Below.old hbl4 hb5
                      replace hO3 := hO3.below hbl4
                      replace hO4 := hO4.below hbl4
                      replace hB := Below.andThen hB hbl4
                      refine At.ops0 ?_
                      refine At.wpcN .nil ?_
                      refine At.wpcS (i := 11) (d := 189) (.bool (!(knownT p.dats yF))) (by kernel_rfl) rfl rfl rfl (fun Lx => ?_) ?_
                      · skip
                        refine At.not rfl rfl ?_
                        refine At.ops0 ?_
                        exact fun a ha => ⟨ha, rfl⟩
                      refine At.wpcZ ?_
                      refine At.thenN ?_
                      refine At.cond (b := (!(knownT p.dats yF))) rfl (fun hc11 => ?_) (fun hc11 => ?_)
                      · skip
                        refine At.seq ?_
                        refine At.region ?_
                        refine At.assign rfl rfl ?_
                        refine At.ops0 ?_
                        refine At.thenN ?_
                        refine At.retc ?_
                        refine At.inR ?_
                        refine At.thenR ?_
                        refine At.thenR ?_
                        refine At.inR ?_
                        refine At.inR ?_
                        refine At.thenR ?_
                        refine At.thenR ?_
                        refine At.inR ?_
                        refine At.inR ?_
                        refine At.thenR ?_
                        refine At.thenR ?_
                        refine At.inR ?_
                        refine At.thenR ?_
                        refine At.doneR (ResV.tmp rfl ResV.nil) ?_
                        have hgood0 : (decide (uDat.nm = (⟨#[]⟩ : ByteArray)) || memB uDat.nm ([con_] ++ (p.dats.take k).map Dat.nm)) = false := by rw [memB_con]; have e1 := hg6; have e2 : decide (uDat.nm = con_) = false := hg7; have e3 := hc7; simp only [e1, e2, e3, Bool.or_self]
                        have hf9 : xDat.fields.all (knownT p.dats) = false := by rw [← hnf, drop_cons hyF, List.all_cons, show knownT p.dats yF = false by simpa using hc11]; rfl
                        have hbad : ((decide (xDat.nm = (⟨#[]⟩ : ByteArray)) || memB xDat.nm (((p.dats.take k).flatMap fun e => e.cons.map Cn.nm) ++ (uDat.cons.take j).map Cn.nm)) || !(xDat.fields.all (knownT p.dats))) = true := by rw [hf9]; simp
                        have hno : datsB p.dats [con_] [] p.dats = false := by rw [← hnDat, datsB_step huDat hgood0, ← hniDat, consB_bad hxDat hbad]; rfl
                        exact ⟨congrArg Ending.returned (congrArg (Value.int .i64) (Eq.symm (declR_dats hc1 heff hno))), hB⟩
                      · skip
                        refine At.skip ?_
                        refine At.inN ?_
                        refine At.thenN ?_
                        refine At.region ?_
                        refine At.move rfl rfl ?_
                        refine At.addI rfl rfl rfl (by first | omega | (have := hz.ops _ (List.mem_of_getElem? huEff); omega) | (have := hz.cons _ (List.mem_of_getElem? huDat); omega) | (simp only [List.length_append, List.length_map, List.length_take, List.length_cons, List.length_nil]; omega)) ?_
                        refine At.assign rfl rfl ?_
                        refine At.ops0 ?_
                        refine At.thenN ?_
                        exact fun a ha => ⟨(n + 1), ha.sub (Sub.cons rfl (Sub.cons rfl (Sub.cons rfl (Sub.cons rfl (Sub.cons rfl (Sub.cons rfl (Sub.cons rfl Sub.nil))))))), ⟨hB, hb1, hb5, hO3, hO4, (by omega), (by rw [← hnf, drop_cons hyF, List.all_cons, show knownT p.dats yF = true by simpa using hc11, Bool.true_and])⟩, by first | omega | (dsimp only; omega)⟩
                    · skip
                      have hc10' := of_decide_eq_false hc10
                      refine At.exit ?_
                      refine At.thenE ?_
                      refine At.thenE ?_
                      refine At.inE ?_
                      refine At.inN ?_
                      refine At.thenN ?_
                      refine At.region ?_
                      refine At.move rfl rfl ?_
                      refine At.addI rfl rfl rfl (by first | omega | (have := hz.ops _ (List.mem_of_getElem? huEff); omega) | (have := hz.cons _ (List.mem_of_getElem? huDat); omega) | (simp only [List.length_append, List.length_map, List.length_take, List.length_cons, List.length_nil]; omega)) ?_
                      refine At.assign rfl rfl ?_
                      refine At.ops0 ?_
                      refine At.thenN ?_
                      have hgood : ((decide (xDat.nm = (⟨#[]⟩ : ByteArray)) || memB xDat.nm (((p.dats.take k).flatMap fun e => e.cons.map Cn.nm) ++ (uDat.cons.take j).map Cn.nm)) || !(xDat.fields.all (knownT p.dats))) = false := by have e0 := hg8; have e1 := hc9; have e2 := hc10; have e9 : xDat.fields.all (knownT p.dats) = true := (by rw [← hnf, List.drop_eq_nil_of_le (by omega)] <;> rfl); (try simp only [Bool.not_eq_true', Bool.not_eq_false', Bool.not_not] at e0 e1 e2 ⊢); simp only [e0, e1, e2, e9, Bool.or_self, Bool.and_self, Bool.not_true]
                      exact fun a ha => ⟨((j + 1), va4), ha.sub (Sub.cons rfl (Sub.cons rfl (Sub.cons rfl (Sub.cons rfl (Sub.cons rfl (Sub.cons rfl Sub.nil)))))), ⟨hB, hb1, hb5, hO3, (take_snoc Cn.nm _ hxDat ▸ hO4), (ghO4), (Apart.symm ap_hO4_hO3), (by omega), (by rw [take_snoc Cn.nm _ hxDat, ← hniDat, consB_step hxDat hgood])⟩, by first | omega | (dsimp only; omega)⟩
              · skip
                have hc8' := of_decide_eq_false hc8
                refine At.exit ?_
                refine At.thenE ?_
                refine At.thenE ?_
                refine At.inE ?_
                refine At.inN ?_
                refine At.thenN ?_
                refine At.region ?_
                refine At.move rfl rfl ?_
                refine At.addI rfl rfl rfl (by first | omega | (have := hz.ops _ (List.mem_of_getElem? huEff); omega) | (have := hz.cons _ (List.mem_of_getElem? huDat); omega) | (simp only [List.length_append, List.length_map, List.length_take, List.length_cons, List.length_nil]; omega)) ?_
                refine At.assign rfl rfl ?_
                refine At.ops0 ?_
                refine At.thenN ?_
                have hend : consB p.dats ((p.dats.take k).flatMap fun e => e.cons.map Cn.nm) uDat.cons = true := by rw [← hniDat, List.drop_eq_nil_of_le (by omega)]; rfl
                have hgood : (decide (uDat.nm = (⟨#[]⟩ : ByteArray)) || memB uDat.nm ([con_] ++ (p.dats.take k).map Dat.nm)) = false := by rw [memB_con]; have e1 := hg6; have e2 : decide (uDat.nm = con_) = false := hg7; have e3 := hc7; simp only [e1, e2, e3, Bool.or_self]
                exact fun a ha => ⟨((k + 1), va3, vCDat), ha.sub (Sub.cons rfl (Sub.cons rfl (Sub.cons rfl (Sub.cons rfl Sub.nil)))), ⟨hB, hb1, (map_snoc Dat.nm huDat ▸ hO3), (by have q := hrCDat; rw [List.take_of_length_le (show uDat.cons.length ≤ j from by omega)] at q; rw [flat_snoc (fun e : Dat => e.cons.map Cn.nm) huDat]; exact q), (ghO3), (gCDat), (apCDat), (by omega), (by rw [take_snoc Dat.nm _ huDat, flat_snoc (fun e : Dat => e.cons.map Cn.nm) huDat, ← hnDat, datsB_step huDat hgood, hend]; rfl)⟩, by first | omega | (dsimp only; omega)⟩
      · skip
        have hc6' := of_decide_eq_false hc6
        refine At.exit ?_
        refine At.thenE ?_
        refine At.thenE ?_
        refine At.inE ?_
        refine At.thenN ?_
        refine At.seq ?_
        refine At.region ?_
        refine At.assign rfl rfl ?_
        refine At.ops0 ?_
        refine At.thenN ?_
        refine At.retc ?_
        refine At.doneR (ResV.tmp rfl ResV.nil) ?_
        have hdat : datsB p.dats [con_] [] p.dats = true := by rw [← hnDat, List.drop_eq_nil_of_le (by omega)]; rfl
        exact ⟨congrArg Ending.returned (congrArg (Value.int .i64) (Eq.symm (declR_ok hc1 heff hdat))), hB⟩
theorem refCheck_any (p : Pr) (w : World) (hp : PrOk w p) (hz : PrSz p) (hl : wtT p.body ≤ 4398046511104) :
    Calls Try.prog 13 ([.agg p.cs] : List Value).toArray w fun e w' => e = .returned (checkV (checkP p)) ∧ Below w.heap.size w w' := by
  have hB := Below.refl w.heap.size w
  refine At.enter (N := 22) Try.func13 rfl rfl (by simp) [(0, .agg p.cs)] (by simp) ?_
  refine At.seq ?_
  refine At.region ?_
  refine At.box rfl rfl (fun b1 w1 F1 => ?_)
  have gb1 := F1.ge hB
  have hb1 : w1.heap[b1]? = some (.cells p.cs 35) := F1.new
  replace hB := F1.below' hB
  refine At.assign rfl rfl ?_
  refine At.assign rfl rfl ?_
  refine At.ops0 ?_
  refine At.thenN ?_
  refine At.seq ?_
  refine At.region ?_
  refine At.load rfl (Ld.own ag35 (sz35.trans (congrArg some (hp).size.symm)) hb1) rfl ?_
  refine At.call en29 rfl rfl (declared_any p _ ((hp).keep hB) hz) (fun e w2 hR => ?_)
  obtain ⟨rfl, hbl1⟩ := hR
  refine ⟨_, rfl, ?_⟩
  replace hb1 := Below.old hbl1 hb1
  replace hB := Below.andThen hB hbl1
  refine At.assign rfl rfl ?_
  refine At.ops0 ?_
  refine At.thenN ?_
  refine At.seq ?_
  refine At.seq ?_
  refine At.region ?_
  refine At.move rfl rfl ?_
  refine At.neI rfl rfl rfl ?_
  refine At.ops0 ?_
  refine At.thenN ?_
  refine At.cond (b := (!decide ((declR p) = 0))) rfl (fun hc1 => ?_) (fun hc1 => ?_)
  · skip
    have hc1' := hc1; simp only [Bool.not_eq_true', Bool.not_eq_false', decide_eq_true_eq, decide_eq_false_iff_not] at hc1'
    refine At.seq ?_
    refine At.region ?_
    refine At.move rfl rfl ?_
    refine At.assign rfl rfl ?_
    refine At.assign rfl rfl ?_
    refine At.ops0 ?_
    refine At.thenN ?_
    refine At.retc ?_
    refine At.thenR ?_
    refine At.doneR (ResV.tmp rfl (ResV.tmp rfl ResV.nil)) ?_
    exact ⟨congrArg Ending.returned (by rw [check_same, if_neg (by simpa using hc1)]; rfl), hB⟩
  · skip
    have hc1' := hc1; simp only [Bool.not_eq_true', Bool.not_eq_false', decide_eq_true_eq, decide_eq_false_iff_not] at hc1'
    refine At.skip ?_
    refine At.thenN ?_
    refine At.seq ?_
    refine At.region ?_
    refine At.load rfl (Ld.own ag35 (sz35.trans (congrArg some (hp).size.symm)) hb1) rfl ?_
    refine At.fieldAddr rfl fo35_2 rfl ?_
    refine At.load rfl (Ld.ownPart ag33 (sz33.trans (congrArg some ((hp).bodyOk).size.symm)) hb1 (hp).bodyCs) rfl ?_
    refine At.call en30 rfl rfl (refTerm_any p hz p.body (.slice none 0 0) ([] : List ByteArray) _ ((hp).keep hB) (((hp).bodyOk).keep hB) (((StrsAt.nil _)).keep hB) (by simpa using hl)) (fun e w3 hR => ?_)
    obtain ⟨rfl, hbl2⟩ := hR
    refine ⟨_, rfl, ?_⟩
    replace hb1 := Below.old hbl2 hb1
    replace hB := Below.andThen hB hbl2
    refine At.move rfl rfl ?_
    refine At.extract rfl rfl rfl ?_
    refine At.extract rfl rfl rfl ?_
    refine At.assign rfl rfl ?_
    refine At.assign rfl rfl ?_
    refine At.ops0 ?_
    refine At.thenN ?_
    refine At.seq ?_
    refine At.seq ?_
    refine At.region ?_
    refine At.move rfl rfl ?_
    refine At.not rfl rfl ?_
    refine At.ops0 ?_
    refine At.thenN ?_
    refine At.cond (b := (!(okE (termS p ([] : List ByteArray) p.body)))) rfl (fun hc2 => ?_) (fun hc2 => ?_)
    · skip
      refine At.seq ?_
      refine At.region ?_
      refine At.move rfl rfl ?_
      refine At.assign rfl rfl ?_
      refine At.assign rfl rfl ?_
      refine At.ops0 ?_
      refine At.thenN ?_
      refine At.retc ?_
      refine At.thenR ?_
      refine At.doneR (ResV.tmp rfl (ResV.tmp rfl ResV.nil)) ?_
      exact ⟨congrArg Ending.returned (by rw [check_same, if_pos (by simpa using hc1)]; have hg := hc2; rw [Bool.not_eq_true'] at hg; cases hq : termS p [] p.body with | none => rw [hq] at hg; cases hg | some a => rfl), hB⟩
    · skip
      refine At.skip ?_
      refine At.thenN ?_
      refine At.seq ?_
      refine At.region ?_
      refine At.assign rfl rfl ?_
      refine At.assign rfl rfl ?_
      refine At.ops0 ?_
      refine At.thenN ?_
      refine At.retc ?_
      refine At.doneR (ResV.tmp rfl (ResV.tmp rfl ResV.nil)) ?_
      exact ⟨congrArg Ending.returned (by rw [check_same, if_pos (by simpa using hc1)]; have hg := hc2; rw [Bool.not_eq_false'] at hg; rw [atE_none hg]; rfl), hB⟩
theorem scopeChecks_any (p : Pr) (w : World) (hp : PrOk w p) (hz : PrSz p) (hwp : wtT p.body ≤ 1048576) :
    Calls Try.prog 3 ([.agg p.cs] : List Value).toArray w fun e w' => e = .returned (.bool true) ∧ Below w.heap.size w w' := by
  have hB := Below.refl w.heap.size w
  refine At.enter (N := 33) Try.func3 rfl rfl (by simp) [(0, .agg p.cs)] (by simp) ?_
  refine At.seq ?_
  refine At.region ?_
  refine At.box rfl rfl (fun b1 w1 F1 => ?_)
  have gb1 := F1.ge hB
  have hb1 : w1.heap[b1]? = some (.cells p.cs 35) := F1.new
  replace hB := F1.below' hB
  refine At.assign rfl rfl ?_
  refine At.ops0 ?_
  refine At.thenN ?_
  refine At.seq ?_
  refine At.region ?_
  refine At.call en10 rfl rfl (shown_any _) (fun e w2 hR => ?_)
  obtain ⟨rfl, hbl1⟩ := hR
  refine ⟨_, rfl, ?_⟩
  replace hb1 := Below.old hbl1 hb1
  replace hB := Below.andThen hB hbl1
  refine At.assign rfl rfl ?_
  refine At.ops0 ?_
  refine At.thenN ?_
  refine At.seq ?_
  refine At.seq ?_
  refine At.region ?_
  refine At.load rfl (Ld.own ag35 (sz35.trans (congrArg some (hp).size.symm)) hb1) rfl ?_
  refine At.call en11 rfl rfl (large_any p _ ((hp).keep hB)) (fun e w3 hR => ?_)
  obtain ⟨rfl, hbl2⟩ := hR
  refine ⟨_, rfl, ?_⟩
  replace hb1 := Below.old hbl2 hb1
  replace hB := Below.andThen hB hbl2
  refine At.ops0 ?_
  refine At.thenN ?_
  refine At.cond (b := (largeB p)) rfl (fun hc1 => ?_) (fun hc1 => ?_)
  · skip
    refine At.seq ?_
    refine At.region ?_
    refine At.move rfl rfl ?_
    refine At.assign rfl rfl ?_
    refine At.ops0 ?_
    refine At.thenN ?_
    refine At.retc ?_
    refine At.thenR ?_
    refine At.doneR (ResV.tmp rfl ResV.nil) ?_
    exact ⟨rfl, hB⟩
  · skip
    refine At.skip ?_
    refine At.thenN ?_
    refine At.seq ?_
    refine At.region ?_
    refine At.load rfl (Ld.own ag35 (sz35.trans (congrArg some (hp).size.symm)) hb1) rfl ?_
    refine At.call en12 rfl rfl (check_any p _ ((hp).keep hB) (PrSz.of_eq (p := p) rfl rfl hz) (Nat.le_trans (show wtT (Pr.body p) ≤ 4194304 by exact Nat.le_trans hwp (by decide)) (by decide))) (fun e w4 hR => ?_)
    obtain ⟨rfl, hbl3⟩ := hR
    refine ⟨_, rfl, ?_⟩
    replace hb1 := Below.old hbl3 hb1
    replace hB := Below.andThen hB hbl3
    refine At.move rfl rfl ?_
    refine At.extract rfl rfl rfl ?_
    refine At.extract rfl rfl rfl ?_
    refine At.assign rfl rfl ?_
    refine At.assign rfl rfl ?_
    refine At.ops0 ?_
    refine At.thenN ?_
    refine At.seq ?_
    refine At.region ?_
    refine At.load rfl (Ld.own ag35 (sz35.trans (congrArg some (hp).size.symm)) hb1) rfl ?_
    refine At.call en13 rfl rfl (refCheck_any p _ ((hp).keep hB) hz (Nat.le_trans hwp (by decide))) (fun e w5 hR => ?_)
    obtain ⟨rfl, hbl4⟩ := hR
    refine ⟨_, rfl, ?_⟩
    replace hb1 := Below.old hbl4 hb1
    replace hB := Below.andThen hB hbl4
    refine At.move rfl rfl ?_
    refine At.extract rfl rfl rfl ?_
    refine At.extract rfl rfl rfl ?_
    refine At.assign rfl rfl ?_
    refine At.assign rfl rfl ?_
    refine At.ops0 ?_
    refine At.thenN ?_
    refine At.seq ?_
    refine At.region ?_
    refine At.move rfl rfl ?_
    refine At.move rfl rfl ?_
    refine At.yes rfl rfl rfl rfl ?_
    refine At.move rfl rfl ?_
    refine At.yes rfl rfl rfl rfl ?_
    refine At.move rfl rfl ?_
    refine At.yes rfl rfl rfl rfl ?_
    refine At.eqI rfl rfl rfl ?_
    refine At.set (d := 26) (u := .bool true) rfl (congrArg Value.bool (by simp)) ?_
    refine At.pickT rfl rfl rfl ?_
    refine At.move rfl rfl ?_
    refine At.yes rfl rfl rfl rfl ?_
    refine At.move rfl rfl ?_
    refine At.yes rfl rfl rfl rfl ?_
    refine At.move rfl rfl ?_
    refine At.yes rfl rfl rfl rfl ?_
    refine At.eqI rfl rfl rfl ?_
    refine At.set (d := 31) (u := .bool true) rfl (congrArg Value.bool (by simp)) ?_
    refine At.pickT rfl rfl rfl ?_
    refine At.assign rfl rfl ?_
    refine At.ops0 ?_
    refine At.thenN ?_
    refine At.retc ?_
    refine At.doneR (ResV.tmp rfl ResV.nil) ?_
    exact ⟨rfl, hB⟩
end Go.Proofs.Ytkclfcdppnlkbaa
