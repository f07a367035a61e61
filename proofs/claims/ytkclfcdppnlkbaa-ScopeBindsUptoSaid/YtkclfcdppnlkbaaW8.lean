/-
  The walk of ScopeBinds: what the call does, for every argument that lies so in memory. Written by a program of ours.
-/
import Derived.Test.YtkclfcdppnlkbaaW6
import Derived.Test.YtkclfcdppnlkbaaS7
set_option linter.unusedVariables false
set_option linter.unusedSimpArgs false
namespace Go.Proofs.Ytkclfcdppnlkbaa
open Go.RowKit

theorem scopeBinds_any (p : Pr) (x y : ByteArray) (w : World) (hp : PrOk w p) (hz : PrSz p) (hwp : wtT p.body ≤ 1048576) :
    Calls Try.prog 7 ([.agg p.cs, .string x, .string y] : List Value).toArray w fun e w' => e = .returned (.bool true) ∧ Below w.heap.size w w' := by
  have hB := Below.refl w.heap.size w
  refine At.enter (N := 128) Try.func7 rfl rfl (by simp) [(0, .agg p.cs), (1, .string x), (2, .string y)] (by simp) ?_
  refine At.seq ?_
  refine At.region ?_
  refine At.box rfl rfl (fun b1 w1 F1 => ?_)
  have gb1 := F1.ge hB
  have hb1 : w1.heap[b1]? = some (.cells p.cs 35) := F1.new
  replace hB := F1.below' hB
  refine At.assign rfl rfl ?_
  refine At.ops0 ?_
  refine At.thenN ?_
  refine At.seq ?_
  refine At.region ?_
  refine At.call en10 rfl rfl (shown_any _) (fun e w2 hR => ?_)
  obtain ⟨rfl, hbl1⟩ := hR
  refine ⟨_, rfl, ?_⟩
  replace hb1 := Below.old hbl1 hb1
  replace hB := Below.andThen hB hbl1
  refine At.assign rfl rfl ?_
  refine At.ops0 ?_
  refine At.thenN ?_
  refine At.seq ?_
  refine At.seq ?_
  refine At.region ?_
  refine At.load rfl (Ld.own ag35 (sz35.trans (congrArg some (hp).size.symm)) hb1) rfl ?_
  refine At.call en11 rfl rfl (large_any p _ ((hp).keep hB)) (fun e w3 hR => ?_)
  obtain ⟨rfl, hbl2⟩ := hR
  refine ⟨_, rfl, ?_⟩
  replace hb1 := Below.old hbl2 hb1
  replace hB := Below.andThen hB hbl2
  refine At.move rfl rfl ?_
  refine At.cases ((largeB p)) (fun hg1 => ?_) (fun hg1 => ?_)
  · skip
    refine At.set (d := 23) (u := .bool true) rfl (congrArg Value.bool hg1) ?_
    refine At.no rfl rfl rfl rfl rfl rfl rfl ?_
    refine At.no rfl rfl rfl rfl rfl rfl rfl ?_
    refine At.no rfl rfl rfl rfl rfl rfl rfl ?_
    refine At.no rfl rfl rfl rfl rfl rfl rfl ?_
    refine At.pickT rfl rfl rfl ?_
    refine At.move rfl rfl ?_
    refine At.no rfl rfl rfl rfl rfl rfl rfl ?_
    refine At.no rfl rfl rfl rfl rfl rfl rfl ?_
    refine At.pickT rfl rfl rfl ?_
    refine At.move rfl rfl ?_
    refine At.no rfl rfl rfl rfl rfl rfl rfl ?_
    refine At.no rfl rfl rfl rfl rfl rfl rfl ?_
    refine At.pickT rfl rfl rfl ?_
    refine At.ops0 ?_
    refine At.thenN ?_
    refine At.condT rfl ?_
    refine At.seq ?_
    refine At.region ?_
    refine At.move rfl rfl ?_
    refine At.assign rfl rfl ?_
    refine At.ops0 ?_
    refine At.thenN ?_
    refine At.retc ?_
    refine At.thenR ?_
    refine At.doneR (ResV.tmp rfl ResV.nil) ?_
    exact ⟨rfl, hB⟩
  · skip
    refine At.set (d := 23) (u := .bool false) rfl (congrArg Value.bool hg1) ?_
    refine At.yes rfl rfl rfl rfl ?_
    refine At.fieldAddr rfl fo35_2 rfl ?_
    refine At.yes rfl rfl rfl rfl ?_
    refine At.load rfl (Ld.ownPart ag33 (sz33.trans (congrArg some ((hp).bodyOk).size.symm)) hb1 (hp).bodyCs) rfl ?_
    refine At.yes rfl rfl rfl rfl ?_
    refine At.call en23 rfl rfl (count_any p.body _ (((hp).bodyOk).keep hB)) (fun e w4 hR => ?_)
    obtain ⟨rfl, hbl3⟩ := hR
    refine ⟨_, rfl, ?_⟩
    replace hb1 := Below.old hbl3 hb1
    replace hB := Below.andThen hB hbl3
    refine At.yes rfl rfl rfl rfl ?_
    refine At.gtr rfl rfl rfl ?_
    refine At.pickF rfl rfl rfl ?_
    refine At.move rfl rfl ?_
    refine At.cases (decide (100 < (countS p.body))) (fun hg2 => ?_) (fun hg2 => ?_)
    · skip
      refine At.set (d := 29) (u := .bool true) rfl (congrArg Value.bool hg2) ?_
      have hg2' := of_decide_eq_true hg2
      refine At.no rfl rfl rfl rfl rfl rfl rfl ?_
      refine At.no rfl rfl rfl rfl rfl rfl rfl ?_
      refine At.pickT rfl rfl rfl ?_
      refine At.move rfl rfl ?_
      refine At.no rfl rfl rfl rfl rfl rfl rfl ?_
      refine At.no rfl rfl rfl rfl rfl rfl rfl ?_
      refine At.pickT rfl rfl rfl ?_
      refine At.ops0 ?_
      refine At.thenN ?_
      refine At.condT rfl ?_
      refine At.seq ?_
      refine At.region ?_
      refine At.move rfl rfl ?_
      refine At.assign rfl rfl ?_
      refine At.ops0 ?_
      refine At.thenN ?_
      refine At.retc ?_
      refine At.thenR ?_
      refine At.doneR (ResV.tmp rfl ResV.nil) ?_
      exact ⟨rfl, hB⟩
    · skip
      refine At.set (d := 29) (u := .bool false) rfl (congrArg Value.bool hg2) ?_
      have hg2' := of_decide_eq_false hg2
      refine At.yes rfl rfl rfl rfl ?_
      refine At.move rfl rfl ?_
      refine At.yes rfl rfl rfl rfl ?_
      refine At.eqS rfl rfl rfl ?_
      refine At.pickF rfl rfl rfl ?_
      refine At.move rfl rfl ?_
      refine At.cases (decide (x = (⟨#[95]⟩ : ByteArray))) (fun hg3 => ?_) (fun hg3 => ?_)
      · skip
        refine At.set (d := 33) (u := .bool true) rfl (congrArg Value.bool hg3) ?_
        have hg3' := of_decide_eq_true hg3
        refine At.no rfl rfl rfl rfl rfl rfl rfl ?_
        refine At.no rfl rfl rfl rfl rfl rfl rfl ?_
        refine At.pickT rfl rfl rfl ?_
        refine At.ops0 ?_
        refine At.thenN ?_
        refine At.condT rfl ?_
        refine At.seq ?_
        refine At.region ?_
        refine At.move rfl rfl ?_
        refine At.assign rfl rfl ?_
        refine At.ops0 ?_
        refine At.thenN ?_
        refine At.retc ?_
        refine At.thenR ?_
        refine At.doneR (ResV.tmp rfl ResV.nil) ?_
        exact ⟨rfl, hB⟩
      · skip
        refine At.set (d := 33) (u := .bool false) rfl (congrArg Value.bool hg3) ?_
        have hg3' := of_decide_eq_false hg3
        refine At.yes rfl rfl rfl rfl ?_
        refine At.move rfl rfl ?_
        refine At.yes rfl rfl rfl rfl ?_
        refine At.eqS rfl rfl rfl ?_
        refine At.pickF rfl rfl rfl ?_
        refine At.ops0 ?_
        refine At.thenN ?_
        refine At.cond (b := decide (y = (⟨#[95]⟩ : ByteArray))) rfl (fun hc1 => ?_) (fun hc1 => ?_)
        · skip
          have hc1' := of_decide_eq_true hc1
          refine At.seq ?_
          refine At.region ?_
          refine At.move rfl rfl ?_
          refine At.assign rfl rfl ?_
          refine At.ops0 ?_
          refine At.thenN ?_
          refine At.retc ?_
          refine At.thenR ?_
          refine At.doneR (ResV.tmp rfl ResV.nil) ?_
          exact ⟨rfl, hB⟩
        · skip
          have hc1' := of_decide_eq_false hc1
          refine At.skip ?_
          refine At.thenN ?_
          refine At.seq ?_
          refine At.region ?_
          refine At.load rfl (Ld.own ag35 (sz35.trans (congrArg some (hp).size.symm)) hb1) rfl ?_
          refine At.call en12 rfl rfl (check_any p _ ((hp).keep hB) (PrSz.of_eq (p := p) rfl rfl hz) (Nat.le_trans (show wtT (Pr.body p) ≤ 4194304 by first | exact Nat.le_trans hwp (by decide) | (have q := binds_wt (List.mem_of_getElem? hu1); simp only [Pr.withBody]; omega) | (simp only [Pr.withBody, ownTm, wtT, wtL, wtA]; omega)) (by decide))) (fun e w5 hR => ?_)
          obtain ⟨rfl, hbl4⟩ := hR
          refine ⟨_, rfl, ?_⟩
          replace hb1 := Below.old hbl4 hb1
          replace hB := Below.andThen hB hbl4
          refine At.move rfl rfl ?_
          refine At.extract rfl rfl rfl ?_
          refine At.extract rfl rfl rfl ?_
          refine At.assign rfl rfl ?_
          refine At.assign rfl rfl ?_
          refine At.ops0 ?_
          refine At.thenN ?_
          refine At.seq ?_
          refine At.seq ?_
          refine At.region ?_
          refine At.move rfl rfl ?_
          refine At.neI rfl rfl rfl ?_
          refine At.ops0 ?_
          refine At.thenN ?_
          refine At.cond (b := (!decide ((checkP p).2 = 0))) rfl (fun hc2 => ?_) (fun hc2 => ?_)
          · skip
            have hc2' := hc2; simp only [Bool.not_eq_true', Bool.not_eq_false', decide_eq_true_eq, decide_eq_false_iff_not] at hc2'
            refine At.seq ?_
            refine At.region ?_
            refine At.move rfl rfl ?_
            refine At.assign rfl rfl ?_
            refine At.ops0 ?_
            refine At.thenN ?_
            refine At.retc ?_
            refine At.thenR ?_
            refine At.doneR (ResV.tmp rfl ResV.nil) ?_
            exact ⟨rfl, hB⟩
          · skip
            have hc2' := hc2; simp only [Bool.not_eq_true', Bool.not_eq_false', decide_eq_true_eq, decide_eq_false_iff_not] at hc2'
            refine At.skip ?_
            refine At.thenN ?_
            refine At.seq ?_
            have hok : (checkP p).2 = 0 := by simpa using hc2
            have hx : ¬ x = us_ := by simpa [us_] using hg3
            have hy : ¬ y = us_ := by simpa [us_] using hc1
            refine At.region ?_
            refine At.move rfl rfl ?_
            refine At.build (C := #[.int .i64 1, .int .i64 0, .string y, .string (⟨#[]⟩ : ByteArray), .int .i64 0, (.slice none 0 0), (.slice none 0 0), .int .i64 0, .string (⟨#[]⟩ : ByteArray), .int .i64 0, (.slice none 0 0), (.slice none 0 0), .int .i64 0, (.slice none 0 0), .int .i64 0, .int .i64 0, .string (⟨#[]⟩ : ByteArray), .int .i64 0, (.slice none 0 0), (.slice none 0 0), .int .i64 0]) sd33 ze33 rfl (Bld.cons fo33_0 rfl (by first | decide | exact Nat.le_of_ble_eq_true rfl) (Bld.cons fo33_2 rfl (by first | decide | exact Nat.le_of_ble_eq_true rfl) (Bld.nil _))) rfl ?_
            refine At.alloc ze33 rfl (fun b2 w6 F2 => ?_)
            have n_b1_b2 : b1 ≠ b2 := Nat.ne_of_lt (F2.lt hb1)
            have gb2 := F2.ge hB
            replace hb1 := F2.old hb1
            have hb2 : w6.heap[b2]? = some (.cells #[.int .i64 0, .int .i64 0, .string (⟨#[]⟩ : ByteArray), .string (⟨#[]⟩ : ByteArray), .int .i64 0, (.slice none 0 0), (.slice none 0 0), .int .i64 0, .string (⟨#[]⟩ : ByteArray), .int .i64 0, (.slice none 0 0), (.slice none 0 0), .int .i64 0, (.slice none 0 0), .int .i64 0, .int .i64 0, .string (⟨#[]⟩ : ByteArray), .int .i64 0, (.slice none 0 0), (.slice none 0 0), .int .i64 0] 33) := F2.new
            replace hB := F2.below' hB
            refine At.storeAll rfl rfl hb2 sz33 rfl (by simp [Value.oneCell', ((SlOk.nil)).one, ((SlOk.nil)).one, ((SlOk.nil)).one, ((SlOk.nil)).one, ((SlOk.nil)).one, ((SlOk.nil)).one, ((SlOk.nil)).one]) (fun w7 S1 => ?_)
            replace hb1 := S1.other hb1 n_b1_b2
            replace hb2 : w7.heap[b2]? = some (.cells #[.int .i64 1, .int .i64 0, .string y, .string (⟨#[]⟩ : ByteArray), .int .i64 0, (.slice none 0 0), (.slice none 0 0), .int .i64 0, .string (⟨#[]⟩ : ByteArray), .int .i64 0, (.slice none 0 0), (.slice none 0 0), .int .i64 0, (.slice none 0 0), .int .i64 0, .int .i64 0, .string (⟨#[]⟩ : ByteArray), .int .i64 0, (.slice none 0 0), (.slice none 0 0), .int .i64 0] 33) := S1.new
            replace hB := S1.below' hB gb2
            refine At.ops0 ?_
            refine At.thenN ?_
            refine At.seq ?_
            refine At.region ?_
            refine At.fieldAddr rfl fo35_2 rfl ?_
            refine At.load rfl (Ld.ownPart ag33 (sz33.trans (congrArg some ((hp).bodyOk).size.symm)) hb1 (hp).bodyCs) rfl ?_
            refine At.alloc ze33 rfl (fun b3 w8 F3 => ?_)
            have n_b1_b3 : b1 ≠ b3 := Nat.ne_of_lt (F3.lt hb1)
            have n_b2_b3 : b2 ≠ b3 := Nat.ne_of_lt (F3.lt hb2)
            have gb3 := F3.ge hB
            replace hb1 := F3.old hb1
            replace hb2 := F3.old hb2
            have hb3 : w8.heap[b3]? = some (.cells #[.int .i64 0, .int .i64 0, .string (⟨#[]⟩ : ByteArray), .string (⟨#[]⟩ : ByteArray), .int .i64 0, (.slice none 0 0), (.slice none 0 0), .int .i64 0, .string (⟨#[]⟩ : ByteArray), .int .i64 0, (.slice none 0 0), (.slice none 0 0), .int .i64 0, (.slice none 0 0), .int .i64 0, .int .i64 0, .string (⟨#[]⟩ : ByteArray), .int .i64 0, (.slice none 0 0), (.slice none 0 0), .int .i64 0] 33) := F3.new
            replace hB := F3.below' hB
            refine At.storeAll rfl rfl hb3 (sz33.trans (congrArg some ((hp).bodyOk).size.symm)) ((hp).bodyOk).size.symm ((hp).bodyOk).one (fun w9 S2 => ?_)
            replace hb1 := S2.other hb1 n_b1_b3
            replace hb2 := S2.other hb2 n_b2_b3
            replace hb3 : w9.heap[b3]? = some (.cells p.body.cs 33) := S2.new
            replace hB := S2.below' hB gb3
            refine At.ops0 ?_
            refine At.thenN ?_
            refine At.seq ?_
            refine At.region ?_
            refine At.move rfl rfl ?_
            refine At.load rfl (Ld.own (C := #[.int .i64 1, .int .i64 0, .string y, .string (⟨#[]⟩ : ByteArray), .int .i64 0, (.slice none 0 0), (.slice none 0 0), .int .i64 0, .string (⟨#[]⟩ : ByteArray), .int .i64 0, (.slice none 0 0), (.slice none 0 0), .int .i64 0, (.slice none 0 0), .int .i64 0, .int .i64 0, .string (⟨#[]⟩ : ByteArray), .int .i64 0, (.slice none 0 0), (.slice none 0 0), .int .i64 0]) ag33 sz33 hb2) rfl ?_
            refine At.buildSlice (xs := [.tmp 51]) rfl rfl el24 sz33 ze33 (by intro v hv; simp only [List.mem_cons, List.not_mem_nil, or_false] at hv; rcases hv with rfl <;> first | rfl | simp [Value.cells, ((ownTm_leaf _ 1 0 y (⟨#[]⟩ : ByteArray) 0)).size]) rfl (by decide) rfl (fun b4 w10 F4 => ?_)
            have n_b1_b4 : b1 ≠ b4 := Nat.ne_of_lt (F4.lt hb1)
            have n_b2_b4 : b2 ≠ b4 := Nat.ne_of_lt (F4.lt hb2)
            have n_b3_b4 : b3 ≠ b4 := Nat.ne_of_lt (F4.lt hb3)
            have gb4 := F4.ge hB
            replace hb1 := F4.old hb1
            replace hb2 := F4.old hb2
            replace hb3 := F4.old hb3
            have hb4 : w10.heap[b4]? = some (.cells (([(ownTm 1 0 y (⟨#[]⟩ : ByteArray) 0 (.slice none 0 0) [])].map Tm.cs).flatMap (·.toList)).toArray 33) := F4.new
            replace hB := F4.below' hB
            refine At.build (C := #[.int .i64 5, .int .i64 0, .string x, .string (⟨#[]⟩ : ByteArray), .int .i64 0, (.slice (some ⟨b4, 0, none⟩) 1 1), (.slice none 0 0), .int .i64 0, .string (⟨#[]⟩ : ByteArray), .int .i64 0, (.slice none 0 0), (.slice none 0 0), .int .i64 0, (.slice none 0 0), .int .i64 0, .int .i64 0, .string (⟨#[]⟩ : ByteArray), .int .i64 0, (.slice none 0 0), (.slice none 0 0), .int .i64 0]) sd33 ze33 rfl (Bld.cons fo33_0 rfl (by first | decide | exact Nat.le_of_ble_eq_true rfl) (Bld.cons fo33_2 rfl (by first | decide | exact Nat.le_of_ble_eq_true rfl) (Bld.cons fo33_5 rfl (by first | decide | exact Nat.le_of_ble_eq_true rfl) (Bld.nil _)))) rfl ?_
            refine At.move rfl rfl ?_
            refine At.load rfl (Ld.own ag33 (sz33.trans (congrArg some ((hp).bodyOk).size.symm)) hb3) rfl ?_
            refine At.load rfl (Ld.own (C := #[.int .i64 1, .int .i64 0, .string y, .string (⟨#[]⟩ : ByteArray), .int .i64 0, (.slice none 0 0), (.slice none 0 0), .int .i64 0, .string (⟨#[]⟩ : ByteArray), .int .i64 0, (.slice none 0 0), (.slice none 0 0), .int .i64 0, (.slice none 0 0), .int .i64 0, .int .i64 0, .string (⟨#[]⟩ : ByteArray), .int .i64 0, (.slice none 0 0), (.slice none 0 0), .int .i64 0]) ag33 sz33 hb2) rfl ?_
            refine At.buildSlice (xs := [.tmp 55, .tmp 56]) rfl rfl el24 sz33 ze33 (by intro v hv; simp only [List.mem_cons, List.not_mem_nil, or_false] at hv; rcases hv with rfl | rfl <;> first | rfl | simp [Value.cells, ((hp).bodyOk).size, ((ownTm_leaf _ 1 0 y (⟨#[]⟩ : ByteArray) 0)).size]) rfl (by decide) rfl (fun b5 w11 F5 => ?_)
            have n_b1_b5 : b1 ≠ b5 := Nat.ne_of_lt (F5.lt hb1)
            have n_b2_b5 : b2 ≠ b5 := Nat.ne_of_lt (F5.lt hb2)
            have n_b3_b5 : b3 ≠ b5 := Nat.ne_of_lt (F5.lt hb3)
            have n_b4_b5 : b4 ≠ b5 := Nat.ne_of_lt (F5.lt hb4)
            have gb5 := F5.ge hB
            replace hb1 := F5.old hb1
            replace hb2 := F5.old hb2
            replace hb3 := F5.old hb3
            replace hb4 := F5.old hb4
            have hb5 : w11.heap[b5]? = some (.cells (([p.body, (ownTm 1 0 y (⟨#[]⟩ : ByteArray) 0 (.slice none 0 0) [])].map Tm.cs).flatMap (·.toList)).toArray 33) := F5.new
            replace hB := F5.below' hB
            refine At.build (C := #[.int .i64 7, .int .i64 0, .string x, .string (⟨#[]⟩ : ByteArray), .int .i64 0, (.slice (some ⟨b5, 0, none⟩) 2 2), (.slice none 0 0), .int .i64 0, .string (⟨#[]⟩ : ByteArray), .int .i64 0, (.slice none 0 0), (.slice none 0 0), .int .i64 0, (.slice none 0 0), .int .i64 0, .int .i64 0, .string (⟨#[]⟩ : ByteArray), .int .i64 0, (.slice none 0 0), (.slice none 0 0), .int .i64 0]) sd33 ze33 rfl (Bld.cons fo33_0 rfl (by first | decide | exact Nat.le_of_ble_eq_true rfl) (Bld.cons fo33_2 rfl (by first | decide | exact Nat.le_of_ble_eq_true rfl) (Bld.cons fo33_5 rfl (by first | decide | exact Nat.le_of_ble_eq_true rfl) (Bld.nil _)))) rfl ?_
            refine At.move rfl rfl ?_
            refine At.load rfl (Ld.own (C := #[.int .i64 1, .int .i64 0, .string y, .string (⟨#[]⟩ : ByteArray), .int .i64 0, (.slice none 0 0), (.slice none 0 0), .int .i64 0, .string (⟨#[]⟩ : ByteArray), .int .i64 0, (.slice none 0 0), (.slice none 0 0), .int .i64 0, (.slice none 0 0), .int .i64 0, .int .i64 0, .string (⟨#[]⟩ : ByteArray), .int .i64 0, (.slice none 0 0), (.slice none 0 0), .int .i64 0]) ag33 sz33 hb2) rfl ?_
            refine At.load rfl (Ld.own ag33 (sz33.trans (congrArg some ((hp).bodyOk).size.symm)) hb3) rfl ?_
            refine At.buildSlice (xs := [.tmp 60, .tmp 61]) rfl rfl el24 sz33 ze33 (by intro v hv; simp only [List.mem_cons, List.not_mem_nil, or_false] at hv; rcases hv with rfl | rfl <;> first | rfl | simp [Value.cells, ((ownTm_leaf _ 1 0 y (⟨#[]⟩ : ByteArray) 0)).size, ((hp).bodyOk).size]) rfl (by decide) rfl (fun b6 w12 F6 => ?_)
            have n_b1_b6 : b1 ≠ b6 := Nat.ne_of_lt (F6.lt hb1)
            have n_b2_b6 : b2 ≠ b6 := Nat.ne_of_lt (F6.lt hb2)
            have n_b3_b6 : b3 ≠ b6 := Nat.ne_of_lt (F6.lt hb3)
            have n_b4_b6 : b4 ≠ b6 := Nat.ne_of_lt (F6.lt hb4)
            have n_b5_b6 : b5 ≠ b6 := Nat.ne_of_lt (F6.lt hb5)
            have gb6 := F6.ge hB
            replace hb1 := F6.old hb1
            replace hb2 := F6.old hb2
            replace hb3 := F6.old hb3
            replace hb4 := F6.old hb4
            replace hb5 := F6.old hb5
            have hb6 : w12.heap[b6]? = some (.cells (([(ownTm 1 0 y (⟨#[]⟩ : ByteArray) 0 (.slice none 0 0) []), p.body].map Tm.cs).flatMap (·.toList)).toArray 33) := F6.new
            replace hB := F6.below' hB
            refine At.build (C := #[.int .i64 8, .int .i64 0, .string x, .string (⟨#[95]⟩ : ByteArray), .int .i64 0, (.slice (some ⟨b6, 0, none⟩) 2 2), (.slice none 0 0), .int .i64 0, .string (⟨#[]⟩ : ByteArray), .int .i64 0, (.slice none 0 0), (.slice none 0 0), .int .i64 0, (.slice none 0 0), .int .i64 0, .int .i64 0, .string (⟨#[]⟩ : ByteArray), .int .i64 0, (.slice none 0 0), (.slice none 0 0), .int .i64 0]) sd33 ze33 rfl (Bld.cons fo33_0 rfl (by first | decide | exact Nat.le_of_ble_eq_true rfl) (Bld.cons fo33_2 rfl (by first | decide | exact Nat.le_of_ble_eq_true rfl) (Bld.cons fo33_3 rfl (by first | decide | exact Nat.le_of_ble_eq_true rfl) (Bld.cons fo33_5 rfl (by first | decide | exact Nat.le_of_ble_eq_true rfl) (Bld.nil _))))) rfl ?_
            refine At.move rfl rfl ?_
            refine At.load rfl (Ld.own (C := #[.int .i64 1, .int .i64 0, .string y, .string (⟨#[]⟩ : ByteArray), .int .i64 0, (.slice none 0 0), (.slice none 0 0), .int .i64 0, .string (⟨#[]⟩ : ByteArray), .int .i64 0, (.slice none 0 0), (.slice none 0 0), .int .i64 0, (.slice none 0 0), .int .i64 0, .int .i64 0, .string (⟨#[]⟩ : ByteArray), .int .i64 0, (.slice none 0 0), (.slice none 0 0), .int .i64 0]) ag33 sz33 hb2) rfl ?_
            refine At.load rfl (Ld.own ag33 (sz33.trans (congrArg some ((hp).bodyOk).size.symm)) hb3) rfl ?_
            refine At.buildSlice (xs := [.tmp 65, .tmp 66]) rfl rfl el24 sz33 ze33 (by intro v hv; simp only [List.mem_cons, List.not_mem_nil, or_false] at hv; rcases hv with rfl | rfl <;> first | rfl | simp [Value.cells, ((ownTm_leaf _ 1 0 y (⟨#[]⟩ : ByteArray) 0)).size, ((hp).bodyOk).size]) rfl (by decide) rfl (fun b7 w13 F7 => ?_)
            have n_b1_b7 : b1 ≠ b7 := Nat.ne_of_lt (F7.lt hb1)
            have n_b2_b7 : b2 ≠ b7 := Nat.ne_of_lt (F7.lt hb2)
            have n_b3_b7 : b3 ≠ b7 := Nat.ne_of_lt (F7.lt hb3)
            have n_b4_b7 : b4 ≠ b7 := Nat.ne_of_lt (F7.lt hb4)
            have n_b5_b7 : b5 ≠ b7 := Nat.ne_of_lt (F7.lt hb5)
            have n_b6_b7 : b6 ≠ b7 := Nat.ne_of_lt (F7.lt hb6)
            have gb7 := F7.ge hB
            replace hb1 := F7.old hb1
            replace hb2 := F7.old hb2
            replace hb3 := F7.old hb3
            replace hb4 := F7.old hb4
            replace hb5 := F7.old hb5
            replace hb6 := F7.old hb6
            have hb7 : w13.heap[b7]? = some (.cells (([(ownTm 1 0 y (⟨#[]⟩ : ByteArray) 0 (.slice none 0 0) []), p.body].map Tm.cs).flatMap (·.toList)).toArray 33) := F7.new
            replace hB := F7.below' hB
            refine At.build (C := #[.int .i64 8, .int .i64 0, .string (⟨#[95]⟩ : ByteArray), .string x, .int .i64 0, (.slice (some ⟨b7, 0, none⟩) 2 2), (.slice none 0 0), .int .i64 0, .string (⟨#[]⟩ : ByteArray), .int .i64 0, (.slice none 0 0), (.slice none 0 0), .int .i64 0, (.slice none 0 0), .int .i64 0, .int .i64 0, .string (⟨#[]⟩ : ByteArray), .int .i64 0, (.slice none 0 0), (.slice none 0 0), .int .i64 0]) sd33 ze33 rfl (Bld.cons fo33_0 rfl (by first | decide | exact Nat.le_of_ble_eq_true rfl) (Bld.cons fo33_2 rfl (by first | decide | exact Nat.le_of_ble_eq_true rfl) (Bld.cons fo33_3 rfl (by first | decide | exact Nat.le_of_ble_eq_true rfl) (Bld.cons fo33_5 rfl (by first | decide | exact Nat.le_of_ble_eq_true rfl) (Bld.nil _))))) rfl ?_
            refine At.move rfl rfl ?_
            refine At.load rfl (Ld.own ag33 (sz33.trans (congrArg some ((hp).bodyOk).size.symm)) hb3) rfl ?_
            refine At.load rfl (Ld.own (C := #[.int .i64 1, .int .i64 0, .string y, .string (⟨#[]⟩ : ByteArray), .int .i64 0, (.slice none 0 0), (.slice none 0 0), .int .i64 0, .string (⟨#[]⟩ : ByteArray), .int .i64 0, (.slice none 0 0), (.slice none 0 0), .int .i64 0, (.slice none 0 0), .int .i64 0, .int .i64 0, .string (⟨#[]⟩ : ByteArray), .int .i64 0, (.slice none 0 0), (.slice none 0 0), .int .i64 0]) ag33 sz33 hb2) rfl ?_
            refine At.buildSlice (xs := [.tmp 70, .tmp 71]) rfl rfl el24 sz33 ze33 (by intro v hv; simp only [List.mem_cons, List.not_mem_nil, or_false] at hv; rcases hv with rfl | rfl <;> first | rfl | simp [Value.cells, ((hp).bodyOk).size, ((ownTm_leaf _ 1 0 y (⟨#[]⟩ : ByteArray) 0)).size]) rfl (by decide) rfl (fun b8 w14 F8 => ?_)
            have n_b1_b8 : b1 ≠ b8 := Nat.ne_of_lt (F8.lt hb1)
            have n_b2_b8 : b2 ≠ b8 := Nat.ne_of_lt (F8.lt hb2)
            have n_b3_b8 : b3 ≠ b8 := Nat.ne_of_lt (F8.lt hb3)
            have n_b4_b8 : b4 ≠ b8 := Nat.ne_of_lt (F8.lt hb4)
            have n_b5_b8 : b5 ≠ b8 := Nat.ne_of_lt (F8.lt hb5)
            have n_b6_b8 : b6 ≠ b8 := Nat.ne_of_lt (F8.lt hb6)
            have n_b7_b8 : b7 ≠ b8 := Nat.ne_of_lt (F8.lt hb7)
            have gb8 := F8.ge hB
            replace hb1 := F8.old hb1
            replace hb2 := F8.old hb2
            replace hb3 := F8.old hb3
            replace hb4 := F8.old hb4
            replace hb5 := F8.old hb5
            replace hb6 := F8.old hb6
            replace hb7 := F8.old hb7
            have hb8 : w14.heap[b8]? = some (.cells (([p.body, (ownTm 1 0 y (⟨#[]⟩ : ByteArray) 0 (.slice none 0 0) [])].map Tm.cs).flatMap (·.toList)).toArray 33) := F8.new
            replace hB := F8.below' hB
            refine At.build (C := #[.int .i64 8, .int .i64 0, .string x, .string (⟨#[95]⟩ : ByteArray), .int .i64 0, (.slice (some ⟨b8, 0, none⟩) 2 2), (.slice none 0 0), .int .i64 0, .string (⟨#[]⟩ : ByteArray), .int .i64 0, (.slice none 0 0), (.slice none 0 0), .int .i64 0, (.slice none 0 0), .int .i64 0, .int .i64 0, .string (⟨#[]⟩ : ByteArray), .int .i64 0, (.slice none 0 0), (.slice none 0 0), .int .i64 0]) sd33 ze33 rfl (Bld.cons fo33_0 rfl (by first | decide | exact Nat.le_of_ble_eq_true rfl) (Bld.cons fo33_2 rfl (by first | decide | exact Nat.le_of_ble_eq_true rfl) (Bld.cons fo33_3 rfl (by first | decide | exact Nat.le_of_ble_eq_true rfl) (Bld.cons fo33_5 rfl (by first | decide | exact Nat.le_of_ble_eq_true rfl) (Bld.nil _))))) rfl ?_
            refine At.buildSlice (xs := [.tmp 53, .tmp 58, .tmp 63, .tmp 68, .tmp 73]) rfl rfl el24 sz33 ze33 (by intro v hv; simp only [List.mem_cons, List.not_mem_nil, or_false] at hv; rcases hv with rfl | rfl | rfl | rfl | rfl <;> first | rfl | simp [Value.cells, ((ownTm_ok (m := 1) 5 0 x (⟨#[]⟩ : ByteArray) 0 hb4 (mem1 (((ownTm_leaf _ 1 0 y (⟨#[]⟩ : ByteArray) 0)).keep (Below.refl _ _))) rfl (by decide))).size, ((ownTm_ok (m := 2) 7 0 x (⟨#[]⟩ : ByteArray) 0 hb5 (mem2 (((hp).bodyOk).keep hB) (((ownTm_leaf _ 1 0 y (⟨#[]⟩ : ByteArray) 0)).keep (Below.refl _ _))) rfl (by decide))).size, ((ownTm_ok (m := 2) 8 0 x (⟨#[95]⟩ : ByteArray) 0 hb6 (mem2 (((ownTm_leaf _ 1 0 y (⟨#[]⟩ : ByteArray) 0)).keep (Below.refl _ _)) (((hp).bodyOk).keep hB)) rfl (by decide))).size, ((ownTm_ok (m := 2) 8 0 (⟨#[95]⟩ : ByteArray) x 0 hb7 (mem2 (((ownTm_leaf _ 1 0 y (⟨#[]⟩ : ByteArray) 0)).keep (Below.refl _ _)) (((hp).bodyOk).keep hB)) rfl (by decide))).size, ((ownTm_ok (m := 2) 8 0 x (⟨#[95]⟩ : ByteArray) 0 hb8 (mem2 (((hp).bodyOk).keep hB) (((ownTm_leaf _ 1 0 y (⟨#[]⟩ : ByteArray) 0)).keep (Below.refl _ _))) rfl (by decide))).size]) rfl (by decide) rfl (fun b9 w15 F9 => ?_)
            have n_b1_b9 : b1 ≠ b9 := Nat.ne_of_lt (F9.lt hb1)
            have n_b2_b9 : b2 ≠ b9 := Nat.ne_of_lt (F9.lt hb2)
            have n_b3_b9 : b3 ≠ b9 := Nat.ne_of_lt (F9.lt hb3)
            have n_b4_b9 : b4 ≠ b9 := Nat.ne_of_lt (F9.lt hb4)
            have n_b5_b9 : b5 ≠ b9 := Nat.ne_of_lt (F9.lt hb5)
            have n_b6_b9 : b6 ≠ b9 := Nat.ne_of_lt (F9.lt hb6)
            have n_b7_b9 : b7 ≠ b9 := Nat.ne_of_lt (F9.lt hb7)
            have n_b8_b9 : b8 ≠ b9 := Nat.ne_of_lt (F9.lt hb8)
            have gb9 := F9.ge hB
            replace hb1 := F9.old hb1
            replace hb2 := F9.old hb2
            replace hb3 := F9.old hb3
            replace hb4 := F9.old hb4
            replace hb5 := F9.old hb5
            replace hb6 := F9.old hb6
            replace hb7 := F9.old hb7
            replace hb8 := F9.old hb8
            have hb9 : w15.heap[b9]? = some (.cells (([(ownTm 5 0 x (⟨#[]⟩ : ByteArray) 0 (.slice (some ⟨b4, 0, none⟩) 1 1) [(ownTm 1 0 y (⟨#[]⟩ : ByteArray) 0 (.slice none 0 0) [])]), (ownTm 7 0 x (⟨#[]⟩ : ByteArray) 0 (.slice (some ⟨b5, 0, none⟩) 2 2) [p.body, (ownTm 1 0 y (⟨#[]⟩ : ByteArray) 0 (.slice none 0 0) [])]), (ownTm 8 0 x (⟨#[95]⟩ : ByteArray) 0 (.slice (some ⟨b6, 0, none⟩) 2 2) [(ownTm 1 0 y (⟨#[]⟩ : ByteArray) 0 (.slice none 0 0) []), p.body]), (ownTm 8 0 (⟨#[95]⟩ : ByteArray) x 0 (.slice (some ⟨b7, 0, none⟩) 2 2) [(ownTm 1 0 y (⟨#[]⟩ : ByteArray) 0 (.slice none 0 0) []), p.body]), (ownTm 8 0 x (⟨#[95]⟩ : ByteArray) 0 (.slice (some ⟨b8, 0, none⟩) 2 2) [p.body, (ownTm 1 0 y (⟨#[]⟩ : ByteArray) 0 (.slice none 0 0) [])])].map Tm.cs).flatMap (·.toList)).toArray 33) := F9.new
            replace hB := F9.below' hB
            refine At.assign rfl rfl ?_
            refine At.ops0 ?_
            refine At.thenN ?_
            refine At.seq ?_
            refine At.seq ?_
            refine At.region ?_
            refine At.assign rfl rfl ?_
            refine At.ops0 ?_
            refine At.thenN ?_
            refine At.block ?_
            have hb1' := hb1
            rw [← withBody_self hp] at hb1'
            replace hb1 := hb1'
            clear hb1'
            refine At.loop (Nat × Tm) (fun (k, bd) => [(1, .string x), (2, .string y), (3, .pointer (some ⟨b1, 0, none⟩)), (7, .bool true), (10, .pointer (some ⟨b2, 0, none⟩)), (11, .pointer (some ⟨b3, 0, none⟩)), (12, (.slice (some ⟨b9, 0, none⟩) 5 5)), (13, .int .i64 (k : Int))]) (fun (k, bd) w16 => Below w.heap.size w w16 ∧ w16.heap[b1]? = some (.cells (Pr.withBody p bd).cs 35) ∧ w16.heap[b2]? = some (.cells #[.int .i64 1, .int .i64 0, .string y, .string (⟨#[]⟩ : ByteArray), .int .i64 0, (.slice none 0 0), (.slice none 0 0), .int .i64 0, .string (⟨#[]⟩ : ByteArray), .int .i64 0, (.slice none 0 0), (.slice none 0 0), .int .i64 0, (.slice none 0 0), .int .i64 0, .int .i64 0, .string (⟨#[]⟩ : ByteArray), .int .i64 0, (.slice none 0 0), (.slice none 0 0), .int .i64 0] 33) ∧ w16.heap[b3]? = some (.cells p.body.cs 33) ∧ w16.heap[b4]? = some (.cells (([(ownTm 1 0 y (⟨#[]⟩ : ByteArray) 0 (.slice none 0 0) [])].map Tm.cs).flatMap (·.toList)).toArray 33) ∧ w16.heap[b5]? = some (.cells (([p.body, (ownTm 1 0 y (⟨#[]⟩ : ByteArray) 0 (.slice none 0 0) [])].map Tm.cs).flatMap (·.toList)).toArray 33) ∧ w16.heap[b6]? = some (.cells (([(ownTm 1 0 y (⟨#[]⟩ : ByteArray) 0 (.slice none 0 0) []), p.body].map Tm.cs).flatMap (·.toList)).toArray 33) ∧ w16.heap[b7]? = some (.cells (([(ownTm 1 0 y (⟨#[]⟩ : ByteArray) 0 (.slice none 0 0) []), p.body].map Tm.cs).flatMap (·.toList)).toArray 33) ∧ w16.heap[b8]? = some (.cells (([p.body, (ownTm 1 0 y (⟨#[]⟩ : ByteArray) 0 (.slice none 0 0) [])].map Tm.cs).flatMap (·.toList)).toArray 33) ∧ w16.heap[b9]? = some (.cells (([(ownTm 5 0 x (⟨#[]⟩ : ByteArray) 0 (.slice (some ⟨b4, 0, none⟩) 1 1) [(ownTm 1 0 y (⟨#[]⟩ : ByteArray) 0 (.slice none 0 0) [])]), (ownTm 7 0 x (⟨#[]⟩ : ByteArray) 0 (.slice (some ⟨b5, 0, none⟩) 2 2) [p.body, (ownTm 1 0 y (⟨#[]⟩ : ByteArray) 0 (.slice none 0 0) [])]), (ownTm 8 0 x (⟨#[95]⟩ : ByteArray) 0 (.slice (some ⟨b6, 0, none⟩) 2 2) [(ownTm 1 0 y (⟨#[]⟩ : ByteArray) 0 (.slice none 0 0) []), p.body]), (ownTm 8 0 (⟨#[95]⟩ : ByteArray) x 0 (.slice (some ⟨b7, 0, none⟩) 2 2) [(ownTm 1 0 y (⟨#[]⟩ : ByteArray) 0 (.slice none 0 0) []), p.body]), (ownTm 8 0 x (⟨#[95]⟩ : ByteArray) 0 (.slice (some ⟨b8, 0, none⟩) 2 2) [p.body, (ownTm 1 0 y (⟨#[]⟩ : ByteArray) 0 (.slice none 0 0) [])])].map Tm.cs).flatMap (·.toList)).toArray 33) ∧ (k ≤ 5) ∧ (bd.cs.size = 21)) (fun (k, bd) => 5 - k) (0, p.body) (Sub.cons rfl (Sub.cons rfl (Sub.cons rfl (Sub.cons rfl (Sub.cons rfl (Sub.cons rfl (Sub.cons rfl (Sub.cons rfl Sub.nil)))))))) ⟨hB, hb1, hb2, hb3, hb4, hb5, hb6, hb7, hb8, hb9, (by decide), (hp.bodyOk.size)⟩ (fun gh w16 hI => ?_)
            obtain ⟨k, bd⟩ := gh
            clear hB hb1 hb2 hb3 hb4 hb5 hb6 hb7 hb8 hb9
            obtain ⟨hB, hb1, hb2, hb3, hb4, hb5, hb6, hb7, hb8, hb9, hkb, hbd⟩ := hI
            show At _ _ [(1, .string x), (2, .string y), (3, .pointer (some ⟨b1, 0, none⟩)), (7, .bool true), (10, .pointer (some ⟨b2, 0, none⟩)), (11, .pointer (some ⟨b3, 0, none⟩)), (12, (.slice (some ⟨b9, 0, none⟩) 5 5)), (13, .int .i64 (k : Int))] _ _
            refine At.seq ?_
            refine At.seq ?_
            refine At.region ?_
            refine At.move rfl rfl ?_
            refine At.move rfl rfl ?_
            refine At.lenSl rfl ((rows_tm (m := 5) hb9 (mem5 (Q := fun u => TmOk w16 u) (((ownTm_ok (m := 1) 5 0 x (⟨#[]⟩ : ByteArray) 0 hb4 (mem1 (((ownTm_leaf _ 1 0 y (⟨#[]⟩ : ByteArray) 0)).keep (Below.refl _ _))) rfl (by decide))).keep (Below.refl _ _)) (((ownTm_ok (m := 2) 7 0 x (⟨#[]⟩ : ByteArray) 0 hb5 (mem2 (((hp).bodyOk).keep hB) (((ownTm_leaf _ 1 0 y (⟨#[]⟩ : ByteArray) 0)).keep (Below.refl _ _))) rfl (by decide))).keep (Below.refl _ _)) (((ownTm_ok (m := 2) 8 0 x (⟨#[95]⟩ : ByteArray) 0 hb6 (mem2 (((ownTm_leaf _ 1 0 y (⟨#[]⟩ : ByteArray) 0)).keep (Below.refl _ _)) (((hp).bodyOk).keep hB)) rfl (by decide))).keep (Below.refl _ _)) (((ownTm_ok (m := 2) 8 0 (⟨#[95]⟩ : ByteArray) x 0 hb7 (mem2 (((ownTm_leaf _ 1 0 y (⟨#[]⟩ : ByteArray) 0)).keep (Below.refl _ _)) (((hp).bodyOk).keep hB)) rfl (by decide))).keep (Below.refl _ _)) (((ownTm_ok (m := 2) 8 0 x (⟨#[95]⟩ : ByteArray) 0 hb8 (mem2 (((hp).bodyOk).keep hB) (((ownTm_leaf _ 1 0 y (⟨#[]⟩ : ByteArray) 0)).keep (Below.refl _ _))) rfl (by decide))).keep (Below.refl _ _))) rfl (by decide))).okL el24 rfl ?_
            refine At.lss rfl rfl rfl ?_
            refine At.ops0 ?_
            refine At.thenN ?_
            refine At.cond (b := decide ((k : Int) < 5)) rfl (fun hc3 => ?_) (fun hc3 => ?_)
            · skip
              have hc3' := of_decide_eq_true hc3
              refine At.skip ?_
              refine At.thenN ?_
              refine At.seq ?_
              refine At.block ?_
              refine At.seq ?_
              refine At.region ?_
              refine At.move rfl rfl ?_
              refine At.move rfl rfl ?_
              obtain ⟨u1, hu1⟩ := some_of_lt (l := [(ownTm 5 0 x (⟨#[]⟩ : ByteArray) 0 (.slice (some ⟨b4, 0, none⟩) 1 1) [(ownTm 1 0 y (⟨#[]⟩ : ByteArray) 0 (.slice none 0 0) [])]), (ownTm 7 0 x (⟨#[]⟩ : ByteArray) 0 (.slice (some ⟨b5, 0, none⟩) 2 2) [p.body, (ownTm 1 0 y (⟨#[]⟩ : ByteArray) 0 (.slice none 0 0) [])]), (ownTm 8 0 x (⟨#[95]⟩ : ByteArray) 0 (.slice (some ⟨b6, 0, none⟩) 2 2) [(ownTm 1 0 y (⟨#[]⟩ : ByteArray) 0 (.slice none 0 0) []), p.body]), (ownTm 8 0 (⟨#[95]⟩ : ByteArray) x 0 (.slice (some ⟨b7, 0, none⟩) 2 2) [(ownTm 1 0 y (⟨#[]⟩ : ByteArray) 0 (.slice none 0 0) []), p.body]), (ownTm 8 0 x (⟨#[95]⟩ : ByteArray) 0 (.slice (some ⟨b8, 0, none⟩) 2 2) [p.body, (ownTm 1 0 y (⟨#[]⟩ : ByteArray) 0 (.slice none 0 0) [])])]) (i := k) (by first | omega | (simp only [List.length_cons, List.length_nil]; omega))
              refine At.indexAddr (i := k) rfl rfl ((rows_tm (m := 5) hb9 (mem5 (Q := fun u => TmOk w16 u) (((ownTm_ok (m := 1) 5 0 x (⟨#[]⟩ : ByteArray) 0 hb4 (mem1 (((ownTm_leaf _ 1 0 y (⟨#[]⟩ : ByteArray) 0)).keep (Below.refl _ _))) rfl (by decide))).keep (Below.refl _ _)) (((ownTm_ok (m := 2) 7 0 x (⟨#[]⟩ : ByteArray) 0 hb5 (mem2 (((hp).bodyOk).keep hB) (((ownTm_leaf _ 1 0 y (⟨#[]⟩ : ByteArray) 0)).keep (Below.refl _ _))) rfl (by decide))).keep (Below.refl _ _)) (((ownTm_ok (m := 2) 8 0 x (⟨#[95]⟩ : ByteArray) 0 hb6 (mem2 (((ownTm_leaf _ 1 0 y (⟨#[]⟩ : ByteArray) 0)).keep (Below.refl _ _)) (((hp).bodyOk).keep hB)) rfl (by decide))).keep (Below.refl _ _)) (((ownTm_ok (m := 2) 8 0 (⟨#[95]⟩ : ByteArray) x 0 hb7 (mem2 (((ownTm_leaf _ 1 0 y (⟨#[]⟩ : ByteArray) 0)).keep (Below.refl _ _)) (((hp).bodyOk).keep hB)) rfl (by decide))).keep (Below.refl _ _)) (((ownTm_ok (m := 2) 8 0 x (⟨#[95]⟩ : ByteArray) 0 hb8 (mem2 (((hp).bodyOk).keep hB) (((ownTm_leaf _ 1 0 y (⟨#[]⟩ : ByteArray) 0)).keep (Below.refl _ _))) rfl (by decide))).keep (Below.refl _ _))) rfl (by decide))).okL (lt_of_some hu1) el24 sz33 rfl ?_
              refine At.load rfl (Ld.row ag33 (sz33.trans (congrArg some (((mem5 (Q := fun u => TmOk w16 u) (((ownTm_ok (m := 1) 5 0 x (⟨#[]⟩ : ByteArray) 0 hb4 (mem1 (((ownTm_leaf _ 1 0 y (⟨#[]⟩ : ByteArray) 0)).keep (Below.refl _ _))) rfl (by decide))).keep (Below.refl _ _)) (((ownTm_ok (m := 2) 7 0 x (⟨#[]⟩ : ByteArray) 0 hb5 (mem2 (((hp).bodyOk).keep hB) (((ownTm_leaf _ 1 0 y (⟨#[]⟩ : ByteArray) 0)).keep (Below.refl _ _))) rfl (by decide))).keep (Below.refl _ _)) (((ownTm_ok (m := 2) 8 0 x (⟨#[95]⟩ : ByteArray) 0 hb6 (mem2 (((ownTm_leaf _ 1 0 y (⟨#[]⟩ : ByteArray) 0)).keep (Below.refl _ _)) (((hp).bodyOk).keep hB)) rfl (by decide))).keep (Below.refl _ _)) (((ownTm_ok (m := 2) 8 0 (⟨#[95]⟩ : ByteArray) x 0 hb7 (mem2 (((ownTm_leaf _ 1 0 y (⟨#[]⟩ : ByteArray) 0)).keep (Below.refl _ _)) (((hp).bodyOk).keep hB)) rfl (by decide))).keep (Below.refl _ _)) (((ownTm_ok (m := 2) 8 0 x (⟨#[95]⟩ : ByteArray) 0 hb8 (mem2 (((hp).bodyOk).keep hB) (((ownTm_leaf _ 1 0 y (⟨#[]⟩ : ByteArray) 0)).keep (Below.refl _ _))) rfl (by decide))).keep (Below.refl _ _))) u1 (List.mem_of_getElem? hu1))).size.symm)) ((((rows_tm (m := 5) hb9 (mem5 (Q := fun u => TmOk w16 u) (((ownTm_ok (m := 1) 5 0 x (⟨#[]⟩ : ByteArray) 0 hb4 (mem1 (((ownTm_leaf _ 1 0 y (⟨#[]⟩ : ByteArray) 0)).keep (Below.refl _ _))) rfl (by decide))).keep (Below.refl _ _)) (((ownTm_ok (m := 2) 7 0 x (⟨#[]⟩ : ByteArray) 0 hb5 (mem2 (((hp).bodyOk).keep hB) (((ownTm_leaf _ 1 0 y (⟨#[]⟩ : ByteArray) 0)).keep (Below.refl _ _))) rfl (by decide))).keep (Below.refl _ _)) (((ownTm_ok (m := 2) 8 0 x (⟨#[95]⟩ : ByteArray) 0 hb6 (mem2 (((ownTm_leaf _ 1 0 y (⟨#[]⟩ : ByteArray) 0)).keep (Below.refl _ _)) (((hp).bodyOk).keep hB)) rfl (by decide))).keep (Below.refl _ _)) (((ownTm_ok (m := 2) 8 0 (⟨#[95]⟩ : ByteArray) x 0 hb7 (mem2 (((ownTm_leaf _ 1 0 y (⟨#[]⟩ : ByteArray) 0)).keep (Below.refl _ _)) (((hp).bodyOk).keep hB)) rfl (by decide))).keep (Below.refl _ _)) (((ownTm_ok (m := 2) 8 0 x (⟨#[95]⟩ : ByteArray) 0 hb8 (mem2 (((hp).bodyOk).keep hB) (((ownTm_leaf _ 1 0 y (⟨#[]⟩ : ByteArray) 0)).keep (Below.refl _ _))) rfl (by decide))).keep (Below.refl _ _))) rfl (by decide))).row hu1).keep (Below.refl _ _))) rfl ?_
              refine At.fieldAddr rfl fo35_2 rfl ?_
              have htw1 := withBody_twice (hp).size hbd (((mem5 (Q := fun u => TmOk w16 u) (((ownTm_ok (m := 1) 5 0 x (⟨#[]⟩ : ByteArray) 0 hb4 (mem1 (((ownTm_leaf _ 1 0 y (⟨#[]⟩ : ByteArray) 0)).keep (Below.refl _ _))) rfl (by decide))).keep (Below.refl _ _)) (((ownTm_ok (m := 2) 7 0 x (⟨#[]⟩ : ByteArray) 0 hb5 (mem2 (((hp).bodyOk).keep hB) (((ownTm_leaf _ 1 0 y (⟨#[]⟩ : ByteArray) 0)).keep (Below.refl _ _))) rfl (by decide))).keep (Below.refl _ _)) (((ownTm_ok (m := 2) 8 0 x (⟨#[95]⟩ : ByteArray) 0 hb6 (mem2 (((ownTm_leaf _ 1 0 y (⟨#[]⟩ : ByteArray) 0)).keep (Below.refl _ _)) (((hp).bodyOk).keep hB)) rfl (by decide))).keep (Below.refl _ _)) (((ownTm_ok (m := 2) 8 0 (⟨#[95]⟩ : ByteArray) x 0 hb7 (mem2 (((ownTm_leaf _ 1 0 y (⟨#[]⟩ : ByteArray) 0)).keep (Below.refl _ _)) (((hp).bodyOk).keep hB)) rfl (by decide))).keep (Below.refl _ _)) (((ownTm_ok (m := 2) 8 0 x (⟨#[95]⟩ : ByteArray) 0 hb8 (mem2 (((hp).bodyOk).keep hB) (((ownTm_leaf _ 1 0 y (⟨#[]⟩ : ByteArray) 0)).keep (Below.refl _ _))) rfl (by decide))).keep (Below.refl _ _))) u1 (List.mem_of_getElem? hu1))).size
              refine At.storePart (cs := u1.cs) rfl rfl hb1 (sz33.trans (congrArg some (((mem5 (Q := fun u => TmOk w16 u) (((ownTm_ok (m := 1) 5 0 x (⟨#[]⟩ : ByteArray) 0 hb4 (mem1 (((ownTm_leaf _ 1 0 y (⟨#[]⟩ : ByteArray) 0)).keep (Below.refl _ _))) rfl (by decide))).keep (Below.refl _ _)) (((ownTm_ok (m := 2) 7 0 x (⟨#[]⟩ : ByteArray) 0 hb5 (mem2 (((hp).bodyOk).keep hB) (((ownTm_leaf _ 1 0 y (⟨#[]⟩ : ByteArray) 0)).keep (Below.refl _ _))) rfl (by decide))).keep (Below.refl _ _)) (((ownTm_ok (m := 2) 8 0 x (⟨#[95]⟩ : ByteArray) 0 hb6 (mem2 (((ownTm_leaf _ 1 0 y (⟨#[]⟩ : ByteArray) 0)).keep (Below.refl _ _)) (((hp).bodyOk).keep hB)) rfl (by decide))).keep (Below.refl _ _)) (((ownTm_ok (m := 2) 8 0 (⟨#[95]⟩ : ByteArray) x 0 hb7 (mem2 (((ownTm_leaf _ 1 0 y (⟨#[]⟩ : ByteArray) 0)).keep (Below.refl _ _)) (((hp).bodyOk).keep hB)) rfl (by decide))).keep (Below.refl _ _)) (((ownTm_ok (m := 2) 8 0 x (⟨#[95]⟩ : ByteArray) 0 hb8 (mem2 (((hp).bodyOk).keep hB) (((ownTm_leaf _ 1 0 y (⟨#[]⟩ : ByteArray) 0)).keep (Below.refl _ _))) rfl (by decide))).keep (Below.refl _ _))) u1 (List.mem_of_getElem? hu1))).size.symm)) (by rw [(((mem5 (Q := fun u => TmOk w16 u) (((ownTm_ok (m := 1) 5 0 x (⟨#[]⟩ : ByteArray) 0 hb4 (mem1 (((ownTm_leaf _ 1 0 y (⟨#[]⟩ : ByteArray) 0)).keep (Below.refl _ _))) rfl (by decide))).keep (Below.refl _ _)) (((ownTm_ok (m := 2) 7 0 x (⟨#[]⟩ : ByteArray) 0 hb5 (mem2 (((hp).bodyOk).keep hB) (((ownTm_leaf _ 1 0 y (⟨#[]⟩ : ByteArray) 0)).keep (Below.refl _ _))) rfl (by decide))).keep (Below.refl _ _)) (((ownTm_ok (m := 2) 8 0 x (⟨#[95]⟩ : ByteArray) 0 hb6 (mem2 (((ownTm_leaf _ 1 0 y (⟨#[]⟩ : ByteArray) 0)).keep (Below.refl _ _)) (((hp).bodyOk).keep hB)) rfl (by decide))).keep (Below.refl _ _)) (((ownTm_ok (m := 2) 8 0 (⟨#[95]⟩ : ByteArray) x 0 hb7 (mem2 (((ownTm_leaf _ 1 0 y (⟨#[]⟩ : ByteArray) 0)).keep (Below.refl _ _)) (((hp).bodyOk).keep hB)) rfl (by decide))).keep (Below.refl _ _)) (((ownTm_ok (m := 2) 8 0 x (⟨#[95]⟩ : ByteArray) 0 hb8 (mem2 (((hp).bodyOk).keep hB) (((ownTm_leaf _ 1 0 y (⟨#[]⟩ : ByteArray) 0)).keep (Below.refl _ _))) rfl (by decide))).keep (Below.refl _ _))) u1 (List.mem_of_getElem? hu1))).size, withBody_size (hp).size hbd]; decide) (((mem5 (Q := fun u => TmOk w16 u) (((ownTm_ok (m := 1) 5 0 x (⟨#[]⟩ : ByteArray) 0 hb4 (mem1 (((ownTm_leaf _ 1 0 y (⟨#[]⟩ : ByteArray) 0)).keep (Below.refl _ _))) rfl (by decide))).keep (Below.refl _ _)) (((ownTm_ok (m := 2) 7 0 x (⟨#[]⟩ : ByteArray) 0 hb5 (mem2 (((hp).bodyOk).keep hB) (((ownTm_leaf _ 1 0 y (⟨#[]⟩ : ByteArray) 0)).keep (Below.refl _ _))) rfl (by decide))).keep (Below.refl _ _)) (((ownTm_ok (m := 2) 8 0 x (⟨#[95]⟩ : ByteArray) 0 hb6 (mem2 (((ownTm_leaf _ 1 0 y (⟨#[]⟩ : ByteArray) 0)).keep (Below.refl _ _)) (((hp).bodyOk).keep hB)) rfl (by decide))).keep (Below.refl _ _)) (((ownTm_ok (m := 2) 8 0 (⟨#[95]⟩ : ByteArray) x 0 hb7 (mem2 (((ownTm_leaf _ 1 0 y (⟨#[]⟩ : ByteArray) 0)).keep (Below.refl _ _)) (((hp).bodyOk).keep hB)) rfl (by decide))).keep (Below.refl _ _)) (((ownTm_ok (m := 2) 8 0 x (⟨#[95]⟩ : ByteArray) 0 hb8 (mem2 (((hp).bodyOk).keep hB) (((ownTm_leaf _ 1 0 y (⟨#[]⟩ : ByteArray) 0)).keep (Below.refl _ _))) rfl (by decide))).keep (Below.refl _ _))) u1 (List.mem_of_getElem? hu1))).one (fun w17 S3 => ?_)
              replace hb2 := S3.other hb2 n_b1_b2.symm
              replace hb3 := S3.other hb3 n_b1_b3.symm
              replace hb4 := S3.other hb4 n_b1_b4.symm
              replace hb5 := S3.other hb5 n_b1_b5.symm
              replace hb6 := S3.other hb6 n_b1_b6.symm
              replace hb7 := S3.other hb7 n_b1_b7.symm
              replace hb8 := S3.other hb8 n_b1_b8.symm
              replace hb9 := S3.other hb9 n_b1_b9.symm
              replace hb1 : w17.heap[b1]? = some (.cells (Pr.withBody p u1).cs 35) := (by have q := S3.new; rw [htw1] at q; exact q)
              replace hB := S3.below' hB gb1
              refine At.ops0 ?_
              refine At.thenN ?_
              refine At.seq ?_
              refine At.region ?_
              refine At.load rfl (Ld.own ag35 (sz35.trans (congrArg some ((PrOk.withBody ((hp).keep hB) ((((mem5 (Q := fun u => TmOk w17 u) (((ownTm_ok (m := 1) 5 0 x (⟨#[]⟩ : ByteArray) 0 hb4 (mem1 (((ownTm_leaf _ 1 0 y (⟨#[]⟩ : ByteArray) 0)).keep (Below.refl _ _))) rfl (by decide))).keep (Below.refl _ _)) (((ownTm_ok (m := 2) 7 0 x (⟨#[]⟩ : ByteArray) 0 hb5 (mem2 (((hp).bodyOk).keep hB) (((ownTm_leaf _ 1 0 y (⟨#[]⟩ : ByteArray) 0)).keep (Below.refl _ _))) rfl (by decide))).keep (Below.refl _ _)) (((ownTm_ok (m := 2) 8 0 x (⟨#[95]⟩ : ByteArray) 0 hb6 (mem2 (((ownTm_leaf _ 1 0 y (⟨#[]⟩ : ByteArray) 0)).keep (Below.refl _ _)) (((hp).bodyOk).keep hB)) rfl (by decide))).keep (Below.refl _ _)) (((ownTm_ok (m := 2) 8 0 (⟨#[95]⟩ : ByteArray) x 0 hb7 (mem2 (((ownTm_leaf _ 1 0 y (⟨#[]⟩ : ByteArray) 0)).keep (Below.refl _ _)) (((hp).bodyOk).keep hB)) rfl (by decide))).keep (Below.refl _ _)) (((ownTm_ok (m := 2) 8 0 x (⟨#[95]⟩ : ByteArray) 0 hb8 (mem2 (((hp).bodyOk).keep hB) (((ownTm_leaf _ 1 0 y (⟨#[]⟩ : ByteArray) 0)).keep (Below.refl _ _))) rfl (by decide))).keep (Below.refl _ _))) u1 (List.mem_of_getElem? hu1))).keep (Below.refl _ _)))).size.symm)) hb1) rfl ?_
              refine At.call en12 rfl rfl (check_any (Pr.withBody p u1) _ (((PrOk.withBody ((hp).keep hB) ((((mem5 (Q := fun u => TmOk w17 u) (((ownTm_ok (m := 1) 5 0 x (⟨#[]⟩ : ByteArray) 0 hb4 (mem1 (((ownTm_leaf _ 1 0 y (⟨#[]⟩ : ByteArray) 0)).keep (Below.refl _ _))) rfl (by decide))).keep (Below.refl _ _)) (((ownTm_ok (m := 2) 7 0 x (⟨#[]⟩ : ByteArray) 0 hb5 (mem2 (((hp).bodyOk).keep hB) (((ownTm_leaf _ 1 0 y (⟨#[]⟩ : ByteArray) 0)).keep (Below.refl _ _))) rfl (by decide))).keep (Below.refl _ _)) (((ownTm_ok (m := 2) 8 0 x (⟨#[95]⟩ : ByteArray) 0 hb6 (mem2 (((ownTm_leaf _ 1 0 y (⟨#[]⟩ : ByteArray) 0)).keep (Below.refl _ _)) (((hp).bodyOk).keep hB)) rfl (by decide))).keep (Below.refl _ _)) (((ownTm_ok (m := 2) 8 0 (⟨#[95]⟩ : ByteArray) x 0 hb7 (mem2 (((ownTm_leaf _ 1 0 y (⟨#[]⟩ : ByteArray) 0)).keep (Below.refl _ _)) (((hp).bodyOk).keep hB)) rfl (by decide))).keep (Below.refl _ _)) (((ownTm_ok (m := 2) 8 0 x (⟨#[95]⟩ : ByteArray) 0 hb8 (mem2 (((hp).bodyOk).keep hB) (((ownTm_leaf _ 1 0 y (⟨#[]⟩ : ByteArray) 0)).keep (Below.refl _ _))) rfl (by decide))).keep (Below.refl _ _))) u1 (List.mem_of_getElem? hu1))).keep (Below.refl _ _)))).keep (Below.refl _ _)) (PrSz.of_eq (p := p) rfl rfl hz) (Nat.le_trans (show wtT (Pr.body (Pr.withBody p u1)) ≤ 4194304 by first | exact Nat.le_trans hwp (by decide) | (have q := binds_wt (List.mem_of_getElem? hu1); simp only [Pr.withBody]; omega) | (simp only [Pr.withBody, ownTm, wtT, wtL, wtA]; omega)) (by decide))) (fun e w18 hR => ?_)
              obtain ⟨rfl, hbl5⟩ := hR
              refine ⟨_, rfl, ?_⟩
              replace hb1 := Below.old hbl5 hb1
              replace hb2 := Below.old hbl5 hb2
              replace hb3 := Below.old hbl5 hb3
              replace hb4 := Below.old hbl5 hb4
              replace hb5 := Below.old hbl5 hb5
              replace hb6 := Below.old hbl5 hb6
              replace hb7 := Below.old hbl5 hb7
              replace hb8 := Below.old hbl5 hb8
              replace hb9 := Below.old hbl5 hb9
              replace hB := Below.andThen hB hbl5
              refine At.move rfl rfl ?_
              refine At.extract rfl rfl rfl ?_
              refine At.extract rfl rfl rfl ?_
              refine At.assign rfl rfl ?_
              refine At.assign rfl rfl ?_
              refine At.ops0 ?_
              refine At.thenN ?_
              refine At.seq ?_
              refine At.region ?_
              refine At.move rfl rfl ?_
              refine At.eqI rfl rfl rfl ?_
              refine At.move rfl rfl ?_
              refine At.move rfl rfl ?_
              refine At.eqS rfl rfl rfl ?_
              refine At.neB rfl rfl bo4 rfl ?_
              refine At.ops0 ?_
              refine At.thenN ?_
              have hb : ((!decide (decide ((checkP (Pr.withBody p u1)).2 = 0) = decide (x = y)))) = false := by rw [binds_five hok hx hy (List.mem_of_getElem? hu1)]; simp
              refine At.set (d := 96) (u := .bool false) rfl (congrArg Value.bool hb) ?_
              refine At.condF rfl ?_
              refine At.skip ?_
              refine At.inN ?_
              refine At.thenN ?_
              refine At.region ?_
              refine At.move rfl rfl ?_
              refine At.addI rfl rfl rfl (by first | omega | (simp only [List.length_cons, List.length_nil]; omega)) ?_
              refine At.assign rfl rfl ?_
              refine At.ops0 ?_
              refine At.thenN ?_
              exact fun a ha => ⟨((k + 1), u1), ha.sub (Sub.cons rfl (Sub.cons rfl (Sub.cons rfl (Sub.cons rfl (Sub.cons rfl (Sub.cons rfl (Sub.cons rfl (Sub.cons rfl Sub.nil)))))))), ⟨hB, hb1, hb2, hb3, hb4, hb5, hb6, hb7, hb8, hb9, (by omega), ((((mem5 (Q := fun u => TmOk w18 u) (((ownTm_ok (m := 1) 5 0 x (⟨#[]⟩ : ByteArray) 0 hb4 (mem1 (((ownTm_leaf _ 1 0 y (⟨#[]⟩ : ByteArray) 0)).keep (Below.refl _ _))) rfl (by decide))).keep (Below.refl _ _)) (((ownTm_ok (m := 2) 7 0 x (⟨#[]⟩ : ByteArray) 0 hb5 (mem2 (((hp).bodyOk).keep hB) (((ownTm_leaf _ 1 0 y (⟨#[]⟩ : ByteArray) 0)).keep (Below.refl _ _))) rfl (by decide))).keep (Below.refl _ _)) (((ownTm_ok (m := 2) 8 0 x (⟨#[95]⟩ : ByteArray) 0 hb6 (mem2 (((ownTm_leaf _ 1 0 y (⟨#[]⟩ : ByteArray) 0)).keep (Below.refl _ _)) (((hp).bodyOk).keep hB)) rfl (by decide))).keep (Below.refl _ _)) (((ownTm_ok (m := 2) 8 0 (⟨#[95]⟩ : ByteArray) x 0 hb7 (mem2 (((ownTm_leaf _ 1 0 y (⟨#[]⟩ : ByteArray) 0)).keep (Below.refl _ _)) (((hp).bodyOk).keep hB)) rfl (by decide))).keep (Below.refl _ _)) (((ownTm_ok (m := 2) 8 0 x (⟨#[95]⟩ : ByteArray) 0 hb8 (mem2 (((hp).bodyOk).keep hB) (((ownTm_leaf _ 1 0 y (⟨#[]⟩ : ByteArray) 0)).keep (Below.refl _ _))) rfl (by decide))).keep (Below.refl _ _))) u1 (List.mem_of_getElem? hu1))).size)⟩, by first | omega | (dsimp only; omega)⟩
            · skip
              have hc3' := of_decide_eq_false hc3
              refine At.exit ?_
              refine At.thenE ?_
              refine At.thenE ?_
              refine At.inE ?_
              refine At.thenN ?_
              refine At.seq ?_
              refine At.region ?_
              refine At.move rfl rfl ?_
              refine At.load rfl (Ld.own (C := #[.int .i64 1, .int .i64 0, .string y, .string (⟨#[]⟩ : ByteArray), .int .i64 0, (.slice none 0 0), (.slice none 0 0), .int .i64 0, .string (⟨#[]⟩ : ByteArray), .int .i64 0, (.slice none 0 0), (.slice none 0 0), .int .i64 0, (.slice none 0 0), .int .i64 0, .int .i64 0, .string (⟨#[]⟩ : ByteArray), .int .i64 0, (.slice none 0 0), (.slice none 0 0), .int .i64 0]) ag33 sz33 hb2) rfl ?_
              refine At.load rfl (Ld.own ag33 (sz33.trans (congrArg some ((hp).bodyOk).size.symm)) hb3) rfl ?_
              refine At.buildSlice (xs := [.tmp 98, .tmp 99]) rfl rfl el24 sz33 ze33 (by intro v hv; simp only [List.mem_cons, List.not_mem_nil, or_false] at hv; rcases hv with rfl | rfl <;> first | rfl | simp [Value.cells, ((ownTm_leaf _ 1 0 y (⟨#[]⟩ : ByteArray) 0)).size, ((hp).bodyOk).size]) rfl (by decide) rfl (fun b10 w19 F10 => ?_)
              have n_b1_b10 : b1 ≠ b10 := Nat.ne_of_lt (F10.lt hb1)
              have n_b2_b10 : b2 ≠ b10 := Nat.ne_of_lt (F10.lt hb2)
              have n_b3_b10 : b3 ≠ b10 := Nat.ne_of_lt (F10.lt hb3)
              have n_b4_b10 : b4 ≠ b10 := Nat.ne_of_lt (F10.lt hb4)
              have n_b5_b10 : b5 ≠ b10 := Nat.ne_of_lt (F10.lt hb5)
              have n_b6_b10 : b6 ≠ b10 := Nat.ne_of_lt (F10.lt hb6)
              have n_b7_b10 : b7 ≠ b10 := Nat.ne_of_lt (F10.lt hb7)
              have n_b8_b10 : b8 ≠ b10 := Nat.ne_of_lt (F10.lt hb8)
              have n_b9_b10 : b9 ≠ b10 := Nat.ne_of_lt (F10.lt hb9)
              have gb10 := F10.ge hB
              replace hb1 := F10.old hb1
              replace hb2 := F10.old hb2
              replace hb3 := F10.old hb3
              replace hb4 := F10.old hb4
              replace hb5 := F10.old hb5
              replace hb6 := F10.old hb6
              replace hb7 := F10.old hb7
              replace hb8 := F10.old hb8
              replace hb9 := F10.old hb9
              have hb10 : w19.heap[b10]? = some (.cells (([(ownTm 1 0 y (⟨#[]⟩ : ByteArray) 0 (.slice none 0 0) []), p.body].map Tm.cs).flatMap (·.toList)).toArray 33) := F10.new
              replace hB := F10.below' hB
              refine At.build (C := #[.int .i64 7, .int .i64 0, .string x, .string (⟨#[]⟩ : ByteArray), .int .i64 0, (.slice (some ⟨b10, 0, none⟩) 2 2), (.slice none 0 0), .int .i64 0, .string (⟨#[]⟩ : ByteArray), .int .i64 0, (.slice none 0 0), (.slice none 0 0), .int .i64 0, (.slice none 0 0), .int .i64 0, .int .i64 0, .string (⟨#[]⟩ : ByteArray), .int .i64 0, (.slice none 0 0), (.slice none 0 0), .int .i64 0]) sd33 ze33 rfl (Bld.cons fo33_0 rfl (by first | decide | exact Nat.le_of_ble_eq_true rfl) (Bld.cons fo33_2 rfl (by first | decide | exact Nat.le_of_ble_eq_true rfl) (Bld.cons fo33_5 rfl (by first | decide | exact Nat.le_of_ble_eq_true rfl) (Bld.nil _)))) rfl ?_
              refine At.fieldAddr rfl fo35_2 rfl ?_
              have htw2 := withBody_twice (hp).size hbd ((ownTm_ok (m := 2) 7 0 x (⟨#[]⟩ : ByteArray) 0 hb10 (mem2 (((ownTm_leaf _ 1 0 y (⟨#[]⟩ : ByteArray) 0)).keep (Below.refl _ _)) (((hp).bodyOk).keep hB)) rfl (by decide))).size
              refine At.storePart (cs := (ownTm 7 0 x (⟨#[]⟩ : ByteArray) 0 (.slice (some ⟨b10, 0, none⟩) 2 2) [(ownTm 1 0 y (⟨#[]⟩ : ByteArray) 0 (.slice none 0 0) []), p.body]).cs) rfl rfl hb1 (sz33.trans (congrArg some ((ownTm_ok (m := 2) 7 0 x (⟨#[]⟩ : ByteArray) 0 hb10 (mem2 (((ownTm_leaf _ 1 0 y (⟨#[]⟩ : ByteArray) 0)).keep (Below.refl _ _)) (((hp).bodyOk).keep hB)) rfl (by decide))).size.symm)) (by rw [((ownTm_ok (m := 2) 7 0 x (⟨#[]⟩ : ByteArray) 0 hb10 (mem2 (((ownTm_leaf _ 1 0 y (⟨#[]⟩ : ByteArray) 0)).keep (Below.refl _ _)) (((hp).bodyOk).keep hB)) rfl (by decide))).size, withBody_size (hp).size hbd]; decide) ((ownTm_ok (m := 2) 7 0 x (⟨#[]⟩ : ByteArray) 0 hb10 (mem2 (((ownTm_leaf _ 1 0 y (⟨#[]⟩ : ByteArray) 0)).keep (Below.refl _ _)) (((hp).bodyOk).keep hB)) rfl (by decide))).one (fun w20 S4 => ?_)
              replace hb2 := S4.other hb2 n_b1_b2.symm
              replace hb3 := S4.other hb3 n_b1_b3.symm
              replace hb4 := S4.other hb4 n_b1_b4.symm
              replace hb5 := S4.other hb5 n_b1_b5.symm
              replace hb6 := S4.other hb6 n_b1_b6.symm
              replace hb7 := S4.other hb7 n_b1_b7.symm
              replace hb8 := S4.other hb8 n_b1_b8.symm
              replace hb9 := S4.other hb9 n_b1_b9.symm
              replace hb10 := S4.other hb10 n_b1_b10.symm
              replace hb1 : w20.heap[b1]? = some (.cells (Pr.withBody p (ownTm 7 0 x (⟨#[]⟩ : ByteArray) 0 (.slice (some ⟨b10, 0, none⟩) 2 2) [(ownTm 1 0 y (⟨#[]⟩ : ByteArray) 0 (.slice none 0 0) []), p.body])).cs 35) := (by have q := S4.new; rw [htw2] at q; exact q)
              replace hB := S4.below' hB gb1
              refine At.ops0 ?_
              refine At.thenN ?_
              refine At.seq ?_
              refine At.region ?_
              refine At.load rfl (Ld.own ag35 (sz35.trans (congrArg some ((PrOk.withBody ((hp).keep hB) (((ownTm_ok (m := 2) 7 0 x (⟨#[]⟩ : ByteArray) 0 hb10 (mem2 (((ownTm_leaf _ 1 0 y (⟨#[]⟩ : ByteArray) 0)).keep (Below.refl _ _)) (((hp).bodyOk).keep hB)) rfl (by decide))).keep (Below.refl _ _)))).size.symm)) hb1) rfl ?_
              refine At.call en12 rfl rfl (check_any (Pr.withBody p (ownTm 7 0 x (⟨#[]⟩ : ByteArray) 0 (.slice (some ⟨b10, 0, none⟩) 2 2) [(ownTm 1 0 y (⟨#[]⟩ : ByteArray) 0 (.slice none 0 0) []), p.body])) _ (((PrOk.withBody ((hp).keep hB) (((ownTm_ok (m := 2) 7 0 x (⟨#[]⟩ : ByteArray) 0 hb10 (mem2 (((ownTm_leaf _ 1 0 y (⟨#[]⟩ : ByteArray) 0)).keep (Below.refl _ _)) (((hp).bodyOk).keep hB)) rfl (by decide))).keep (Below.refl _ _)))).keep (Below.refl _ _)) (PrSz.of_eq (p := p) rfl rfl hz) (Nat.le_trans (show wtT (Pr.body (Pr.withBody p (ownTm 7 0 x (⟨#[]⟩ : ByteArray) 0 (.slice (some ⟨b10, 0, none⟩) 2 2) [(ownTm 1 0 y (⟨#[]⟩ : ByteArray) 0 (.slice none 0 0) []), p.body]))) ≤ 4194304 by first | exact Nat.le_trans hwp (by decide) | (have q := binds_wt (List.mem_of_getElem? hu1); simp only [Pr.withBody]; omega) | (simp only [Pr.withBody, ownTm, wtT, wtL, wtA]; omega)) (by decide))) (fun e w21 hR => ?_)
              obtain ⟨rfl, hbl6⟩ := hR
              refine ⟨_, rfl, ?_⟩
              replace hb1 := Below.old hbl6 hb1
              replace hb2 := Below.old hbl6 hb2
              replace hb3 := Below.old hbl6 hb3
              replace hb4 := Below.old hbl6 hb4
              replace hb5 := Below.old hbl6 hb5
              replace hb6 := Below.old hbl6 hb6
              replace hb7 := Below.old hbl6 hb7
              replace hb8 := Below.old hbl6 hb8
              replace hb9 := Below.old hbl6 hb9
              replace hb10 := Below.old hbl6 hb10
              replace hB := Below.andThen hB hbl6
              refine At.move rfl rfl ?_
              refine At.extract rfl rfl rfl ?_
              refine At.extract rfl rfl rfl ?_
              refine At.assign rfl rfl ?_
              refine At.assign rfl rfl ?_
              refine At.ops0 ?_
              refine At.thenN ?_
              refine At.seq ?_
              refine At.region ?_
              refine At.move rfl rfl ?_
              refine At.load rfl (Ld.own ag33 (sz33.trans (congrArg some ((hp).bodyOk).size.symm)) hb3) rfl ?_
              refine At.load rfl (Ld.own (C := #[.int .i64 1, .int .i64 0, .string y, .string (⟨#[]⟩ : ByteArray), .int .i64 0, (.slice none 0 0), (.slice none 0 0), .int .i64 0, .string (⟨#[]⟩ : ByteArray), .int .i64 0, (.slice none 0 0), (.slice none 0 0), .int .i64 0, (.slice none 0 0), .int .i64 0, .int .i64 0, .string (⟨#[]⟩ : ByteArray), .int .i64 0, (.slice none 0 0), (.slice none 0 0), .int .i64 0]) ag33 sz33 hb2) rfl ?_
              refine At.buildSlice (xs := [.tmp 109, .tmp 110]) rfl rfl el24 sz33 ze33 (by intro v hv; simp only [List.mem_cons, List.not_mem_nil, or_false] at hv; rcases hv with rfl | rfl <;> first | rfl | simp [Value.cells, ((hp).bodyOk).size, ((ownTm_leaf _ 1 0 y (⟨#[]⟩ : ByteArray) 0)).size]) rfl (by decide) rfl (fun b11 w22 F11 => ?_)
              have n_b1_b11 : b1 ≠ b11 := Nat.ne_of_lt (F11.lt hb1)
              have n_b2_b11 : b2 ≠ b11 := Nat.ne_of_lt (F11.lt hb2)
              have n_b3_b11 : b3 ≠ b11 := Nat.ne_of_lt (F11.lt hb3)
              have n_b4_b11 : b4 ≠ b11 := Nat.ne_of_lt (F11.lt hb4)
              have n_b5_b11 : b5 ≠ b11 := Nat.ne_of_lt (F11.lt hb5)
              have n_b6_b11 : b6 ≠ b11 := Nat.ne_of_lt (F11.lt hb6)
              have n_b7_b11 : b7 ≠ b11 := Nat.ne_of_lt (F11.lt hb7)
              have n_b8_b11 : b8 ≠ b11 := Nat.ne_of_lt (F11.lt hb8)
              have n_b9_b11 : b9 ≠ b11 := Nat.ne_of_lt (F11.lt hb9)
              have n_b10_b11 : b10 ≠ b11 := Nat.ne_of_lt (F11.lt hb10)
              have gb11 := F11.ge hB
              replace hb1 := F11.old hb1
              replace hb2 := F11.old hb2
              replace hb3 := F11.old hb3
              replace hb4 := F11.old hb4
              replace hb5 := F11.old hb5
              replace hb6 := F11.old hb6
              replace hb7 := F11.old hb7
              replace hb8 := F11.old hb8
              replace hb9 := F11.old hb9
              replace hb10 := F11.old hb10
              have hb11 : w22.heap[b11]? = some (.cells (([p.body, (ownTm 1 0 y (⟨#[]⟩ : ByteArray) 0 (.slice none 0 0) [])].map Tm.cs).flatMap (·.toList)).toArray 33) := F11.new
              replace hB := F11.below' hB
              refine At.build (C := #[.int .i64 8, .int .i64 0, .string (⟨#[95]⟩ : ByteArray), .string x, .int .i64 0, (.slice (some ⟨b11, 0, none⟩) 2 2), (.slice none 0 0), .int .i64 0, .string (⟨#[]⟩ : ByteArray), .int .i64 0, (.slice none 0 0), (.slice none 0 0), .int .i64 0, (.slice none 0 0), .int .i64 0, .int .i64 0, .string (⟨#[]⟩ : ByteArray), .int .i64 0, (.slice none 0 0), (.slice none 0 0), .int .i64 0]) sd33 ze33 rfl (Bld.cons fo33_0 rfl (by first | decide | exact Nat.le_of_ble_eq_true rfl) (Bld.cons fo33_2 rfl (by first | decide | exact Nat.le_of_ble_eq_true rfl) (Bld.cons fo33_3 rfl (by first | decide | exact Nat.le_of_ble_eq_true rfl) (Bld.cons fo33_5 rfl (by first | decide | exact Nat.le_of_ble_eq_true rfl) (Bld.nil _))))) rfl ?_
              refine At.fieldAddr rfl fo35_2 rfl ?_
              have htw3 := withBody_twice (hp).size ((ownTm_ok (m := 2) 7 0 x (⟨#[]⟩ : ByteArray) 0 hb10 (mem2 (((ownTm_leaf _ 1 0 y (⟨#[]⟩ : ByteArray) 0)).keep (Below.refl _ _)) (((hp).bodyOk).keep hB)) rfl (by decide))).size ((ownTm_ok (m := 2) 8 0 (⟨#[95]⟩ : ByteArray) x 0 hb11 (mem2 (((hp).bodyOk).keep hB) (((ownTm_leaf _ 1 0 y (⟨#[]⟩ : ByteArray) 0)).keep (Below.refl _ _))) rfl (by decide))).size
              refine At.storePart (cs := (ownTm 8 0 (⟨#[95]⟩ : ByteArray) x 0 (.slice (some ⟨b11, 0, none⟩) 2 2) [p.body, (ownTm 1 0 y (⟨#[]⟩ : ByteArray) 0 (.slice none 0 0) [])]).cs) rfl rfl hb1 (sz33.trans (congrArg some ((ownTm_ok (m := 2) 8 0 (⟨#[95]⟩ : ByteArray) x 0 hb11 (mem2 (((hp).bodyOk).keep hB) (((ownTm_leaf _ 1 0 y (⟨#[]⟩ : ByteArray) 0)).keep (Below.refl _ _))) rfl (by decide))).size.symm)) (by rw [((ownTm_ok (m := 2) 8 0 (⟨#[95]⟩ : ByteArray) x 0 hb11 (mem2 (((hp).bodyOk).keep hB) (((ownTm_leaf _ 1 0 y (⟨#[]⟩ : ByteArray) 0)).keep (Below.refl _ _))) rfl (by decide))).size, withBody_size (hp).size ((ownTm_ok (m := 2) 7 0 x (⟨#[]⟩ : ByteArray) 0 hb10 (mem2 (((ownTm_leaf _ 1 0 y (⟨#[]⟩ : ByteArray) 0)).keep (Below.refl _ _)) (((hp).bodyOk).keep hB)) rfl (by decide))).size]; decide) ((ownTm_ok (m := 2) 8 0 (⟨#[95]⟩ : ByteArray) x 0 hb11 (mem2 (((hp).bodyOk).keep hB) (((ownTm_leaf _ 1 0 y (⟨#[]⟩ : ByteArray) 0)).keep (Below.refl _ _))) rfl (by decide))).one (fun w23 S5 => ?_)
              replace hb2 := S5.other hb2 n_b1_b2.symm
              replace hb3 := S5.other hb3 n_b1_b3.symm
              replace hb4 := S5.other hb4 n_b1_b4.symm
              replace hb5 := S5.other hb5 n_b1_b5.symm
              replace hb6 := S5.other hb6 n_b1_b6.symm
              replace hb7 := S5.other hb7 n_b1_b7.symm
              replace hb8 := S5.other hb8 n_b1_b8.symm
              replace hb9 := S5.other hb9 n_b1_b9.symm
              replace hb10 := S5.other hb10 n_b1_b10.symm
              replace hb11 := S5.other hb11 n_b1_b11.symm
              replace hb1 : w23.heap[b1]? = some (.cells (Pr.withBody p (ownTm 8 0 (⟨#[95]⟩ : ByteArray) x 0 (.slice (some ⟨b11, 0, none⟩) 2 2) [p.body, (ownTm 1 0 y (⟨#[]⟩ : ByteArray) 0 (.slice none 0 0) [])])).cs 35) := (by have q := S5.new; rw [htw3] at q; exact q)
              replace hB := S5.below' hB gb1
              refine At.ops0 ?_
              refine At.thenN ?_
              refine At.seq ?_
              refine At.region ?_
              refine At.load rfl (Ld.own ag35 (sz35.trans (congrArg some ((PrOk.withBody ((hp).keep hB) (((ownTm_ok (m := 2) 8 0 (⟨#[95]⟩ : ByteArray) x 0 hb11 (mem2 (((hp).bodyOk).keep hB) (((ownTm_leaf _ 1 0 y (⟨#[]⟩ : ByteArray) 0)).keep (Below.refl _ _))) rfl (by decide))).keep (Below.refl _ _)))).size.symm)) hb1) rfl ?_
              refine At.call en12 rfl rfl (check_any (Pr.withBody p (ownTm 8 0 (⟨#[95]⟩ : ByteArray) x 0 (.slice (some ⟨b11, 0, none⟩) 2 2) [p.body, (ownTm 1 0 y (⟨#[]⟩ : ByteArray) 0 (.slice none 0 0) [])])) _ (((PrOk.withBody ((hp).keep hB) (((ownTm_ok (m := 2) 8 0 (⟨#[95]⟩ : ByteArray) x 0 hb11 (mem2 (((hp).bodyOk).keep hB) (((ownTm_leaf _ 1 0 y (⟨#[]⟩ : ByteArray) 0)).keep (Below.refl _ _))) rfl (by decide))).keep (Below.refl _ _)))).keep (Below.refl _ _)) (PrSz.of_eq (p := p) rfl rfl hz) (Nat.le_trans (show wtT (Pr.body (Pr.withBody p (ownTm 8 0 (⟨#[95]⟩ : ByteArray) x 0 (.slice (some ⟨b11, 0, none⟩) 2 2) [p.body, (ownTm 1 0 y (⟨#[]⟩ : ByteArray) 0 (.slice none 0 0) [])]))) ≤ 4194304 by first | exact Nat.le_trans hwp (by decide) | (have q := binds_wt (List.mem_of_getElem? hu1); simp only [Pr.withBody]; omega) | (simp only [Pr.withBody, ownTm, wtT, wtL, wtA]; omega)) (by decide))) (fun e w24 hR => ?_)
              obtain ⟨rfl, hbl7⟩ := hR
              refine ⟨_, rfl, ?_⟩
              replace hb1 := Below.old hbl7 hb1
              replace hb2 := Below.old hbl7 hb2
              replace hb3 := Below.old hbl7 hb3
              replace hb4 := Below.old hbl7 hb4
              replace hb5 := Below.old hbl7 hb5
              replace hb6 := Below.old hbl7 hb6
              replace hb7 := Below.old hbl7 hb7
              replace hb8 := Below.old hbl7 hb8
              replace hb9 := Below.old hbl7 hb9
              replace hb10 := Below.old hbl7 hb10
              replace hb11 := Below.old hbl7 hb11
              replace hB := Below.andThen hB hbl7
              refine At.move rfl rfl ?_
              refine At.extract rfl rfl rfl ?_
              refine At.extract rfl rfl rfl ?_
              refine At.assign rfl rfl ?_
              refine At.assign rfl rfl ?_
              refine At.ops0 ?_
              refine At.thenN ?_
              refine At.seq ?_
              refine At.set (d := 17) (u := .int .i64 4) rfl (congrArg (Value.int .i64) (binds_six hok hy)) ?_
              refine At.set (d := 19) (u := .int .i64 4) rfl (congrArg (Value.int .i64) (binds_seven hok hy)) ?_
              refine At.region ?_
              refine At.move rfl rfl ?_
              refine At.move rfl rfl ?_
              refine At.yes rfl rfl rfl rfl ?_
              refine At.move rfl rfl ?_
              refine At.yes rfl rfl rfl rfl ?_
              refine At.eqI rfl rfl rfl ?_
              refine At.set (d := 122) (u := .bool true) rfl (congrArg Value.bool (by simp)) ?_
              refine At.pickT rfl rfl rfl ?_
              refine At.move rfl rfl ?_
              refine At.yes rfl rfl rfl rfl ?_
              refine At.move rfl rfl ?_
              refine At.yes rfl rfl rfl rfl ?_
              refine At.eqI rfl rfl rfl ?_
              refine At.set (d := 126) (u := .bool true) rfl (congrArg Value.bool (by simp)) ?_
              refine At.pickT rfl rfl rfl ?_
              refine At.assign rfl rfl ?_
              refine At.ops0 ?_
              refine At.thenN ?_
              refine At.retc ?_
              refine At.doneR (ResV.tmp rfl ResV.nil) ?_
              exact ⟨rfl, hB⟩
end Go.Proofs.Ytkclfcdppnlkbaa
