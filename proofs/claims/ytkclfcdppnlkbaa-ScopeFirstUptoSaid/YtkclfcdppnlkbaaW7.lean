/-
  The walk of ScopeFirst: what the call does, for every argument that lies so in memory. Written by a program of ours.
-/
import Derived.Test.YtkclfcdppnlkbaaW6
import Derived.Test.YtkclfcdppnlkbaaS6
set_option linter.unusedVariables false
set_option linter.unusedSimpArgs false
namespace Go.Proofs.Ytkclfcdppnlkbaa
open Go.RowKit
theorem sz22 : sizeB Try.prog 22 = some 1 := by kernel_rfl
theorem sz23 : sizeB Try.prog 23 = some 1 := by kernel_rfl
theorem scopeFirst_any (p q : Pr) (sw : Bool) (w : World) (hp : PrOk w p) (hq : PrOk w q) (hz : PrSz p) (hwp : wtT p.body ≤ 1048576) (hwq : wtT q.body ≤ 1048576) :
    Calls Try.prog 6 ([.agg p.cs, .agg q.cs, .bool sw] : List Value).toArray w fun e w' => e = .returned (.bool true) ∧ Below w.heap.size w w' := by
  have hB := Below.refl w.heap.size w
  refine At.enter (N := 79) Try.func6 rfl rfl (by simp) [(0, .agg p.cs), (1, .agg q.cs), (2, .bool sw)] (by simp) ?_
  refine At.seq ?_
  refine At.region ?_
  refine At.box rfl rfl (fun b1 w1 F1 => ?_)
  have gb1 := F1.ge hB
  have hb1 : w1.heap[b1]? = some (.cells p.cs 35) := F1.new
  replace hB := F1.below' hB
  refine At.box rfl rfl (fun b2 w2 F2 => ?_)
  have n_b1_b2 : b1 ≠ b2 := Nat.ne_of_lt (F2.lt hb1)
  have gb2 := F2.ge hB
  replace hb1 := F2.old hb1
  have hb2 : w2.heap[b2]? = some (.cells q.cs 35) := F2.new
  replace hB := F2.below' hB
  refine At.assign rfl rfl ?_
  refine At.ops0 ?_
  refine At.thenN ?_
  refine At.seq ?_
  refine At.region ?_
  refine At.call en10 rfl rfl (shown_any _) (fun e w3 hR => ?_)
  obtain ⟨rfl, hbl1⟩ := hR
  refine ⟨_, rfl, ?_⟩
  replace hb1 := Below.old hbl1 hb1
  replace hb2 := Below.old hbl1 hb2
  replace hB := Below.andThen hB hbl1
  refine At.assign rfl rfl ?_
  refine At.ops0 ?_
  refine At.thenN ?_
  refine At.seq ?_
  refine At.seq ?_
  refine At.region ?_
  refine At.load rfl (Ld.own ag35 (sz35.trans (congrArg some (hp).size.symm)) hb1) rfl ?_
  refine At.call en11 rfl rfl (large_any p _ ((hp).keep hB)) (fun e w4 hR => ?_)
  obtain ⟨rfl, hbl2⟩ := hR
  refine ⟨_, rfl, ?_⟩
  replace hb1 := Below.old hbl2 hb1
  replace hb2 := Below.old hbl2 hb2
  replace hB := Below.andThen hB hbl2
  refine At.move rfl rfl ?_
  refine At.cases ((largeB p)) (fun hg1 => ?_) (fun hg1 => ?_)
  · skip
    refine At.set (d := 18) (u := .bool true) rfl (congrArg Value.bool hg1) ?_
    refine At.no rfl rfl rfl rfl rfl rfl rfl ?_
    refine At.no rfl rfl rfl rfl rfl rfl rfl ?_
    refine At.pickT rfl rfl rfl ?_
    refine At.ops0 ?_
    refine At.thenN ?_
    refine At.condT rfl ?_
    refine At.seq ?_
    refine At.region ?_
    refine At.move rfl rfl ?_
    refine At.assign rfl rfl ?_
    refine At.ops0 ?_
    refine At.thenN ?_
    refine At.retc ?_
    refine At.thenR ?_
    refine At.doneR (ResV.tmp rfl ResV.nil) ?_
    exact ⟨rfl, hB⟩
  · skip
    refine At.set (d := 18) (u := .bool false) rfl (congrArg Value.bool hg1) ?_
    refine At.yes rfl rfl rfl rfl ?_
    refine At.load rfl (Ld.own ag35 (sz35.trans (congrArg some (hq).size.symm)) hb2) rfl ?_
    refine At.yes rfl rfl rfl rfl ?_
    refine At.call en11 rfl rfl (large_any q _ ((hq).keep hB)) (fun e w5 hR => ?_)
    obtain ⟨rfl, hbl3⟩ := hR
    refine ⟨_, rfl, ?_⟩
    replace hb1 := Below.old hbl3 hb1
    replace hb2 := Below.old hbl3 hb2
    replace hB := Below.andThen hB hbl3
    refine At.pickF rfl rfl rfl ?_
    refine At.ops0 ?_
    refine At.thenN ?_
    refine At.cond (b := (largeB q)) rfl (fun hc1 => ?_) (fun hc1 => ?_)
    · skip
      refine At.seq ?_
      refine At.region ?_
      refine At.move rfl rfl ?_
      refine At.assign rfl rfl ?_
      refine At.ops0 ?_
      refine At.thenN ?_
      refine At.retc ?_
      refine At.thenR ?_
      refine At.doneR (ResV.tmp rfl ResV.nil) ?_
      exact ⟨rfl, hB⟩
    · skip
      refine At.skip ?_
      refine At.thenN ?_
      refine At.seq ?_
      refine At.region ?_
      refine At.fieldAddr rfl fo35_0 rfl ?_
      refine At.load rfl (Ld.ownCell ag22 hb1 (hp).c0) rfl ?_
      refine At.fieldAddr rfl fo35_0 rfl ?_
      refine At.store1 rfl rfl hb2 sz22 (by rw [(hq).size]; decide) (((hp).effsAt).okL).one (fun w6 S1 => ?_)
      replace hb1 := S1.other hb1 n_b1_b2
      replace hb2 : w6.heap[b2]? = some (.cells (Pr.withEffs q p.ev p.effs).cs 35) := S1.new
      replace hB := S1.below' hB gb2
      refine At.ops0 ?_
      refine At.thenN ?_
      refine At.seq ?_
      refine At.region ?_
      refine At.fieldAddr rfl fo35_1 rfl ?_
      refine At.load rfl (Ld.ownCell ag23 hb1 (hp).c1) rfl ?_
      refine At.fieldAddr rfl fo35_1 rfl ?_
      refine At.store1 rfl rfl hb2 sz23 (by rw [((PrOk.withEffs ((hq).keep hB) (((hp).effsAt).keep hB) (fun u hu => ((hp).effOk u hu).keep hB))).size]; decide) (((hp).datsAt).okL).one (fun w7 S2 => ?_)
      replace hb1 := S2.other hb1 n_b1_b2
      replace hb2 : w7.heap[b2]? = some (.cells (Pr.withDats (Pr.withEffs q p.ev p.effs) p.dv p.dats).cs 35) := S2.new
      replace hB := S2.below' hB gb2
      refine At.ops0 ?_
      refine At.thenN ?_
      refine At.seq ?_
      refine At.seq ?_
      refine At.region ?_
      refine At.move rfl rfl ?_
      refine At.ops0 ?_
      refine At.thenN ?_
      refine At.cond (b := sw) rfl (fun hc2 => ?_) (fun hc2 => ?_)
      · skip
        refine At.region ?_
        refine At.load rfl (Ld.own ag35 (sz35.trans (congrArg some ((PrOk.withDats (((PrOk.withEffs ((hq).keep hB) (((hp).effsAt).keep hB) (fun u hu => ((hp).effOk u hu).keep hB))).keep (Below.refl _ _)) (((hp).datsAt).keep hB) (fun u hu => ((hp).datOk u hu).keep hB))).size.symm)) hb2) rfl ?_
        refine At.load rfl (Ld.own ag35 (sz35.trans (congrArg some (hp).size.symm)) hb1) rfl ?_
        refine At.storeAll rfl rfl hb1 (sz35.trans (congrArg some ((PrOk.withDats (((PrOk.withEffs ((hq).keep hB) (((hp).effsAt).keep hB) (fun u hu => ((hp).effOk u hu).keep hB))).keep (Below.refl _ _)) (((hp).datsAt).keep hB) (fun u hu => ((hp).datOk u hu).keep hB))).size.symm)) ((hp).size.trans ((PrOk.withDats (((PrOk.withEffs ((hq).keep hB) (((hp).effsAt).keep hB) (fun u hu => ((hp).effOk u hu).keep hB))).keep (Below.refl _ _)) (((hp).datsAt).keep hB) (fun u hu => ((hp).datOk u hu).keep hB))).size.symm) ((PrOk.withDats (((PrOk.withEffs ((hq).keep hB) (((hp).effsAt).keep hB) (fun u hu => ((hp).effOk u hu).keep hB))).keep (Below.refl _ _)) (((hp).datsAt).keep hB) (fun u hu => ((hp).datOk u hu).keep hB))).one (fun w8 S3 => ?_)
        replace hb2 := S3.other hb2 n_b1_b2.symm
        replace hb1 : w8.heap[b1]? = some (.cells (Pr.withDats (Pr.withEffs q p.ev p.effs) p.dv p.dats).cs 35) := S3.new
        replace hB := S3.below' hB gb1
        refine At.storeAll rfl rfl hb2 (sz35.trans (congrArg some (hp).size.symm)) (((PrOk.withDats (((PrOk.withEffs ((hq).keep hB) (((hp).effsAt).keep hB) (fun u hu => ((hp).effOk u hu).keep hB))).keep (Below.refl _ _)) (((hp).datsAt).keep hB) (fun u hu => ((hp).datOk u hu).keep hB))).size.trans (hp).size.symm) (hp).one (fun w9 S4 => ?_)
        replace hb1 := S4.other hb1 n_b1_b2
        replace hb2 : w9.heap[b2]? = some (.cells p.cs 35) := S4.new
        replace hB := S4.below' hB gb2
        refine At.ops0 ?_
        refine At.thenN ?_
        refine At.seq ?_
        refine At.region ?_
        refine At.load rfl (Ld.own ag35 (sz35.trans (congrArg some ((PrOk.withDats (((PrOk.withEffs ((hq).keep hB) (((hp).effsAt).keep hB) (fun u hu => ((hp).effOk u hu).keep hB))).keep (Below.refl _ _)) (((hp).datsAt).keep hB) (fun u hu => ((hp).datOk u hu).keep hB))).size.symm)) hb1) rfl ?_
        refine At.alloc ze35 rfl (fun b3 w10 F3 => ?_)
        have n_b1_b3 : b1 ≠ b3 := Nat.ne_of_lt (F3.lt hb1)
        have n_b2_b3 : b2 ≠ b3 := Nat.ne_of_lt (F3.lt hb2)
        have gb3 := F3.ge hB
        replace hb1 := F3.old hb1
        replace hb2 := F3.old hb2
        have hb3 : w10.heap[b3]? = some (.cells #[(.slice none 0 0), (.slice none 0 0), .int .i64 0, .int .i64 0, .string (⟨#[]⟩ : ByteArray), .string (⟨#[]⟩ : ByteArray), .int .i64 0, (.slice none 0 0), (.slice none 0 0), .int .i64 0, .string (⟨#[]⟩ : ByteArray), .int .i64 0, (.slice none 0 0), (.slice none 0 0), .int .i64 0, (.slice none 0 0), .int .i64 0, .int .i64 0, .string (⟨#[]⟩ : ByteArray), .int .i64 0, (.slice none 0 0), (.slice none 0 0), .int .i64 0] 35) := F3.new
        replace hB := F3.below' hB
        refine At.storeAll rfl rfl hb3 (sz35.trans (congrArg some ((PrOk.withDats (((PrOk.withEffs ((hq).keep hB) (((hp).effsAt).keep hB) (fun u hu => ((hp).effOk u hu).keep hB))).keep (Below.refl _ _)) (((hp).datsAt).keep hB) (fun u hu => ((hp).datOk u hu).keep hB))).size.symm)) ((PrOk.withDats (((PrOk.withEffs ((hq).keep hB) (((hp).effsAt).keep hB) (fun u hu => ((hp).effOk u hu).keep hB))).keep (Below.refl _ _)) (((hp).datsAt).keep hB) (fun u hu => ((hp).datOk u hu).keep hB))).size.symm ((PrOk.withDats (((PrOk.withEffs ((hq).keep hB) (((hp).effsAt).keep hB) (fun u hu => ((hp).effOk u hu).keep hB))).keep (Below.refl _ _)) (((hp).datsAt).keep hB) (fun u hu => ((hp).datOk u hu).keep hB))).one (fun w11 S5 => ?_)
        replace hb1 := S5.other hb1 n_b1_b3
        replace hb2 := S5.other hb2 n_b2_b3
        replace hb3 : w11.heap[b3]? = some (.cells (Pr.withDats (Pr.withEffs q p.ev p.effs) p.dv p.dats).cs 35) := S5.new
        replace hB := S5.below' hB gb3
        refine At.ops0 ?_
        refine At.thenN ?_
        refine At.seq ?_
        refine At.region ?_
        refine At.fieldAddr rfl fo35_2 rfl ?_
        refine At.load rfl (Ld.ownPart ag33 (sz33.trans (congrArg some (((PrOk.withDats (((PrOk.withEffs ((hq).keep hB) (((hp).effsAt).keep hB) (fun u hu => ((hp).effOk u hu).keep hB))).keep (Below.refl _ _)) (((hp).datsAt).keep hB) (fun u hu => ((hp).datOk u hu).keep hB))).bodyOk).size.symm)) hb1 ((PrOk.withDats (((PrOk.withEffs ((hq).keep hB) (((hp).effsAt).keep hB) (fun u hu => ((hp).effOk u hu).keep hB))).keep (Below.refl _ _)) (((hp).datsAt).keep hB) (fun u hu => ((hp).datOk u hu).keep hB))).bodyCs) rfl ?_
        refine At.fieldAddr rfl fo35_2 rfl ?_
        refine At.load rfl (Ld.ownPart ag33 (sz33.trans (congrArg some ((hp).bodyOk).size.symm)) hb2 (hp).bodyCs) rfl ?_
        refine At.buildSlice (xs := [.tmp 34, .tmp 36]) rfl rfl el24 sz33 ze33 (by intro v hv; simp only [List.mem_cons, List.not_mem_nil, or_false] at hv; rcases hv with rfl | rfl <;> first | rfl | simp [Value.cells, (((PrOk.withDats (((PrOk.withEffs ((hq).keep hB) (((hp).effsAt).keep hB) (fun u hu => ((hp).effOk u hu).keep hB))).keep (Below.refl _ _)) (((hp).datsAt).keep hB) (fun u hu => ((hp).datOk u hu).keep hB))).bodyOk).size, ((hp).bodyOk).size]) rfl (by decide) rfl (fun b4 w12 F4 => ?_)
        have n_b1_b4 : b1 ≠ b4 := Nat.ne_of_lt (F4.lt hb1)
        have n_b2_b4 : b2 ≠ b4 := Nat.ne_of_lt (F4.lt hb2)
        have n_b3_b4 : b3 ≠ b4 := Nat.ne_of_lt (F4.lt hb3)
        have gb4 := F4.ge hB
        replace hb1 := F4.old hb1
        replace hb2 := F4.old hb2
        replace hb3 := F4.old hb3
        have hb4 : w12.heap[b4]? = some (.cells (([(Pr.withDats (Pr.withEffs q p.ev p.effs) p.dv p.dats).body, p.body].map Tm.cs).flatMap (·.toList)).toArray 33) := F4.new
        replace hB := F4.below' hB
        refine At.build (C := #[.int .i64 6, .int .i64 0, .string (⟨#[]⟩ : ByteArray), .string (⟨#[]⟩ : ByteArray), .int .i64 0, (.slice (some ⟨b4, 0, none⟩) 2 2), (.slice none 0 0), .int .i64 0, .string (⟨#[]⟩ : ByteArray), .int .i64 0, (.slice none 0 0), (.slice none 0 0), .int .i64 0, (.slice none 0 0), .int .i64 0, .int .i64 0, .string (⟨#[]⟩ : ByteArray), .int .i64 0, (.slice none 0 0), (.slice none 0 0), .int .i64 0]) sd33 ze33 rfl (Bld.cons fo33_0 rfl (by decide) (Bld.cons fo33_5 rfl (by decide) (Bld.nil _))) rfl ?_
        refine At.fieldAddr rfl fo35_2 rfl ?_
        refine At.storePart (cs := (ownTm 6 0 (⟨#[]⟩ : ByteArray) (⟨#[]⟩ : ByteArray) 0 (.slice (some ⟨b4, 0, none⟩) 2 2) [(Pr.withDats (Pr.withEffs q p.ev p.effs) p.dv p.dats).body, p.body]).cs) rfl rfl hb3 (sz33.trans (congrArg some ((ownTm_ok (m := 2) 6 0 (⟨#[]⟩ : ByteArray) (⟨#[]⟩ : ByteArray) 0 hb4 (mem2 ((((PrOk.withDats (((PrOk.withEffs ((hq).keep hB) (((hp).effsAt).keep hB) (fun u hu => ((hp).effOk u hu).keep hB))).keep (Below.refl _ _)) (((hp).datsAt).keep hB) (fun u hu => ((hp).datOk u hu).keep hB))).bodyOk).keep (Below.refl _ _)) (((hp).bodyOk).keep hB)) rfl (by decide))).size.symm)) (by rw [((ownTm_ok (m := 2) 6 0 (⟨#[]⟩ : ByteArray) (⟨#[]⟩ : ByteArray) 0 hb4 (mem2 ((((PrOk.withDats (((PrOk.withEffs ((hq).keep hB) (((hp).effsAt).keep hB) (fun u hu => ((hp).effOk u hu).keep hB))).keep (Below.refl _ _)) (((hp).datsAt).keep hB) (fun u hu => ((hp).datOk u hu).keep hB))).bodyOk).keep (Below.refl _ _)) (((hp).bodyOk).keep hB)) rfl (by decide))).size, ((PrOk.withDats (((PrOk.withEffs ((hq).keep hB) (((hp).effsAt).keep hB) (fun u hu => ((hp).effOk u hu).keep hB))).keep (Below.refl _ _)) (((hp).datsAt).keep hB) (fun u hu => ((hp).datOk u hu).keep hB))).size]; first | done | decide) ((ownTm_ok (m := 2) 6 0 (⟨#[]⟩ : ByteArray) (⟨#[]⟩ : ByteArray) 0 hb4 (mem2 ((((PrOk.withDats (((PrOk.withEffs ((hq).keep hB) (((hp).effsAt).keep hB) (fun u hu => ((hp).effOk u hu).keep hB))).keep (Below.refl _ _)) (((hp).datsAt).keep hB) (fun u hu => ((hp).datOk u hu).keep hB))).bodyOk).keep (Below.refl _ _)) (((hp).bodyOk).keep hB)) rfl (by decide))).one (fun w13 S6 => ?_)
        replace hb1 := S6.other hb1 n_b1_b3
        replace hb2 := S6.other hb2 n_b2_b3
        replace hb4 := S6.other hb4 n_b3_b4.symm
        replace hb3 : w13.heap[b3]? = some (.cells (Pr.withBody (Pr.withDats (Pr.withEffs q p.ev p.effs) p.dv p.dats) (ownTm 6 0 (⟨#[]⟩ : ByteArray) (⟨#[]⟩ : ByteArray) 0 (.slice (some ⟨b4, 0, none⟩) 2 2) [(Pr.withDats (Pr.withEffs q p.ev p.effs) p.dv p.dats).body, p.body])).cs 35) := S6.new
        replace hB := S6.below' hB gb3
        refine At.ops0 ?_
        refine At.thenN ?_
        refine At.seq ?_
        refine At.region ?_
        refine At.load rfl (Ld.own ag35 (sz35.trans (congrArg some ((PrOk.withDats (((PrOk.withEffs ((hq).keep hB) (((hp).effsAt).keep hB) (fun u hu => ((hp).effOk u hu).keep hB))).keep (Below.refl _ _)) (((hp).datsAt).keep hB) (fun u hu => ((hp).datOk u hu).keep hB))).size.symm)) hb1) rfl ?_
        refine At.call en12 rfl rfl (check_any (Pr.withDats (Pr.withEffs q p.ev p.effs) p.dv p.dats) _ (((PrOk.withDats (((PrOk.withEffs ((hq).keep hB) (((hp).effsAt).keep hB) (fun u hu => ((hp).effOk u hu).keep hB))).keep (Below.refl _ _)) (((hp).datsAt).keep hB) (fun u hu => ((hp).datOk u hu).keep hB))).keep (Below.refl _ _)) (PrSz.of_eq (p := p) rfl rfl hz) (Nat.le_trans (show wtT (Pr.body (Pr.withDats (Pr.withEffs q p.ev p.effs) p.dv p.dats)) ≤ 4194304 by first | exact Nat.le_trans hwp (by decide) | exact Nat.le_trans hwq (by decide) | (simp only [Pr.withBody, Pr.withEffs, Pr.withDats, ownTm, wtT, wtL, wtA]; omega)) (by decide))) (fun e w14 hR => ?_)
        obtain ⟨rfl, hbl4⟩ := hR
        refine ⟨_, rfl, ?_⟩
        replace hb1 := Below.old hbl4 hb1
        replace hb2 := Below.old hbl4 hb2
        replace hb3 := Below.old hbl4 hb3
        replace hb4 := Below.old hbl4 hb4
        replace hB := Below.andThen hB hbl4
        refine At.move rfl rfl ?_
        refine At.extract rfl rfl rfl ?_
        refine At.extract rfl rfl rfl ?_
        refine At.assign rfl rfl ?_
        refine At.assign rfl rfl ?_
        refine At.ops0 ?_
        refine At.thenN ?_
        refine At.seq ?_
        refine At.region ?_
        refine At.load rfl (Ld.own ag35 (sz35.trans (congrArg some (hp).size.symm)) hb2) rfl ?_
        refine At.call en12 rfl rfl (check_any p _ ((hp).keep hB) (PrSz.of_eq (p := p) rfl rfl hz) (Nat.le_trans (show wtT (Pr.body p) ≤ 4194304 by first | exact Nat.le_trans hwp (by decide) | exact Nat.le_trans hwq (by decide) | (simp only [Pr.withBody, Pr.withEffs, Pr.withDats, ownTm, wtT, wtL, wtA]; omega)) (by decide))) (fun e w15 hR => ?_)
        obtain ⟨rfl, hbl5⟩ := hR
        refine ⟨_, rfl, ?_⟩
        replace hb1 := Below.old hbl5 hb1
        replace hb2 := Below.old hbl5 hb2
        replace hb3 := Below.old hbl5 hb3
        replace hb4 := Below.old hbl5 hb4
        replace hB := Below.andThen hB hbl5
        refine At.move rfl rfl ?_
        refine At.extract rfl rfl rfl ?_
        refine At.extract rfl rfl rfl ?_
        refine At.assign rfl rfl ?_
        refine At.assign rfl rfl ?_
        refine At.ops0 ?_
        refine At.thenN ?_
        refine At.seq ?_
        refine At.region ?_
        refine At.load rfl (Ld.own ag35 (sz35.trans (congrArg some ((PrOk.withBody (((PrOk.withDats (((PrOk.withEffs ((hq).keep hB) (((hp).effsAt).keep hB) (fun u hu => ((hp).effOk u hu).keep hB))).keep (Below.refl _ _)) (((hp).datsAt).keep hB) (fun u hu => ((hp).datOk u hu).keep hB))).keep (Below.refl _ _)) (((ownTm_ok (m := 2) 6 0 (⟨#[]⟩ : ByteArray) (⟨#[]⟩ : ByteArray) 0 hb4 (mem2 ((((PrOk.withDats (((PrOk.withEffs ((hq).keep hB) (((hp).effsAt).keep hB) (fun u hu => ((hp).effOk u hu).keep hB))).keep (Below.refl _ _)) (((hp).datsAt).keep hB) (fun u hu => ((hp).datOk u hu).keep hB))).bodyOk).keep (Below.refl _ _)) (((hp).bodyOk).keep hB)) rfl (by decide))).keep (Below.refl _ _)))).size.symm)) hb3) rfl ?_
        refine At.call en12 rfl rfl (check_any (Pr.withBody (Pr.withDats (Pr.withEffs q p.ev p.effs) p.dv p.dats) (ownTm 6 0 (⟨#[]⟩ : ByteArray) (⟨#[]⟩ : ByteArray) 0 (.slice (some ⟨b4, 0, none⟩) 2 2) [(Pr.withDats (Pr.withEffs q p.ev p.effs) p.dv p.dats).body, p.body])) _ (((PrOk.withBody (((PrOk.withDats (((PrOk.withEffs ((hq).keep hB) (((hp).effsAt).keep hB) (fun u hu => ((hp).effOk u hu).keep hB))).keep (Below.refl _ _)) (((hp).datsAt).keep hB) (fun u hu => ((hp).datOk u hu).keep hB))).keep (Below.refl _ _)) (((ownTm_ok (m := 2) 6 0 (⟨#[]⟩ : ByteArray) (⟨#[]⟩ : ByteArray) 0 hb4 (mem2 ((((PrOk.withDats (((PrOk.withEffs ((hq).keep hB) (((hp).effsAt).keep hB) (fun u hu => ((hp).effOk u hu).keep hB))).keep (Below.refl _ _)) (((hp).datsAt).keep hB) (fun u hu => ((hp).datOk u hu).keep hB))).bodyOk).keep (Below.refl _ _)) (((hp).bodyOk).keep hB)) rfl (by decide))).keep (Below.refl _ _)))).keep (Below.refl _ _)) (PrSz.of_eq (p := p) rfl rfl hz) (Nat.le_trans (show wtT (Pr.body (Pr.withBody (Pr.withDats (Pr.withEffs q p.ev p.effs) p.dv p.dats) (ownTm 6 0 (⟨#[]⟩ : ByteArray) (⟨#[]⟩ : ByteArray) 0 (.slice (some ⟨b4, 0, none⟩) 2 2) [(Pr.withDats (Pr.withEffs q p.ev p.effs) p.dv p.dats).body, p.body]))) ≤ 4194304 by first | exact Nat.le_trans hwp (by decide) | exact Nat.le_trans hwq (by decide) | (simp only [Pr.withBody, Pr.withEffs, Pr.withDats, ownTm, wtT, wtL, wtA]; omega)) (by decide))) (fun e w16 hR => ?_)
        obtain ⟨rfl, hbl6⟩ := hR
        refine ⟨_, rfl, ?_⟩
        replace hb1 := Below.old hbl6 hb1
        replace hb2 := Below.old hbl6 hb2
        replace hb3 := Below.old hbl6 hb3
        replace hb4 := Below.old hbl6 hb4
        replace hB := Below.andThen hB hbl6
        refine At.move rfl rfl ?_
        refine At.extract rfl rfl rfl ?_
        refine At.extract rfl rfl rfl ?_
        refine At.assign rfl rfl ?_
        refine At.assign rfl rfl ?_
        refine At.ops0 ?_
        refine At.thenN ?_
        refine At.seq ?_
        refine At.seq ?_
        refine At.region ?_
        refine At.move rfl rfl ?_
        refine At.neI rfl rfl rfl ?_
        refine At.ops0 ?_
        refine At.thenN ?_
        refine At.cond (b := (!decide ((checkP (Pr.withDats (Pr.withEffs q p.ev p.effs) p.dv p.dats)).2 = 0))) rfl (fun hc3 => ?_) (fun hc3 => ?_)
        · skip
          have hc3' := hc3; simp only [Bool.not_eq_true', Bool.not_eq_false', decide_eq_true_eq, decide_eq_false_iff_not] at hc3'
          refine At.seq ?_
          have hlaw := first_law (p := (Pr.withDats (Pr.withEffs q p.ev p.effs) p.dv p.dats)) (q := p) (b := (Pr.withBody (Pr.withDats (Pr.withEffs q p.ev p.effs) p.dv p.dats) (ownTm 6 0 (⟨#[]⟩ : ByteArray) (⟨#[]⟩ : ByteArray) 0 (.slice (some ⟨b4, 0, none⟩) 2 2) [(Pr.withDats (Pr.withEffs q p.ev p.effs) p.dv p.dats).body, p.body]))) rfl rfl rfl rfl rfl
          rw [if_neg (by simpa using hc3)] at hlaw
          refine At.set (d := 13) (u := .int .i64 (checkP (Pr.withDats (Pr.withEffs q p.ev p.effs) p.dv p.dats)).1) rfl (congrArg (Value.int .i64) (congrArg (fun x : Int × Int => x.1) hlaw)) ?_
          refine At.set (d := 14) (u := .int .i64 (checkP (Pr.withDats (Pr.withEffs q p.ev p.effs) p.dv p.dats)).2) rfl (congrArg (Value.int .i64) (congrArg (fun x : Int × Int => x.2) hlaw)) ?_
          refine At.region ?_
          refine At.move rfl rfl ?_
          refine At.move rfl rfl ?_
          refine At.yes rfl rfl rfl rfl ?_
          refine At.move rfl rfl ?_
          refine At.yes rfl rfl rfl rfl ?_
          refine At.move rfl rfl ?_
          refine At.yes rfl rfl rfl rfl ?_
          refine At.eqI rfl rfl rfl ?_
          refine At.set (d := 61) (u := .bool true) rfl (congrArg Value.bool (by simp)) ?_
          refine At.pickT rfl rfl rfl ?_
          refine At.move rfl rfl ?_
          refine At.yes rfl rfl rfl rfl ?_
          refine At.move rfl rfl ?_
          refine At.yes rfl rfl rfl rfl ?_
          refine At.move rfl rfl ?_
          refine At.yes rfl rfl rfl rfl ?_
          refine At.eqI rfl rfl rfl ?_
          refine At.set (d := 66) (u := .bool true) rfl (congrArg Value.bool (by simp)) ?_
          refine At.pickT rfl rfl rfl ?_
          refine At.assign rfl rfl ?_
          refine At.ops0 ?_
          refine At.thenN ?_
          refine At.retc ?_
          refine At.thenR ?_
          refine At.doneR (ResV.tmp rfl ResV.nil) ?_
          exact ⟨rfl, hB⟩
        · skip
          have hc3' := hc3; simp only [Bool.not_eq_true', Bool.not_eq_false', decide_eq_true_eq, decide_eq_false_iff_not] at hc3'
          refine At.skip ?_
          refine At.thenN ?_
          refine At.seq ?_
          have hlaw := first_law (p := (Pr.withDats (Pr.withEffs q p.ev p.effs) p.dv p.dats)) (q := p) (b := (Pr.withBody (Pr.withDats (Pr.withEffs q p.ev p.effs) p.dv p.dats) (ownTm 6 0 (⟨#[]⟩ : ByteArray) (⟨#[]⟩ : ByteArray) 0 (.slice (some ⟨b4, 0, none⟩) 2 2) [(Pr.withDats (Pr.withEffs q p.ev p.effs) p.dv p.dats).body, p.body]))) rfl rfl rfl rfl rfl
          rw [if_pos (by simpa using hc3)] at hlaw
          refine At.set (d := 13) (u := .int .i64 (checkP p).1) rfl (congrArg (Value.int .i64) (congrArg (fun x : Int × Int => x.1) hlaw)) ?_
          refine At.set (d := 14) (u := .int .i64 (checkP p).2) rfl (congrArg (Value.int .i64) (congrArg (fun x : Int × Int => x.2) hlaw)) ?_
          refine At.region ?_
          refine At.move rfl rfl ?_
          refine At.move rfl rfl ?_
          refine At.yes rfl rfl rfl rfl ?_
          refine At.move rfl rfl ?_
          refine At.yes rfl rfl rfl rfl ?_
          refine At.move rfl rfl ?_
          refine At.yes rfl rfl rfl rfl ?_
          refine At.eqI rfl rfl rfl ?_
          refine At.set (d := 72) (u := .bool true) rfl (congrArg Value.bool (by simp)) ?_
          refine At.pickT rfl rfl rfl ?_
          refine At.move rfl rfl ?_
          refine At.yes rfl rfl rfl rfl ?_
          refine At.move rfl rfl ?_
          refine At.yes rfl rfl rfl rfl ?_
          refine At.move rfl rfl ?_
          refine At.yes rfl rfl rfl rfl ?_
          refine At.eqI rfl rfl rfl ?_
          refine At.set (d := 77) (u := .bool true) rfl (congrArg Value.bool (by simp)) ?_
          refine At.pickT rfl rfl rfl ?_
          refine At.assign rfl rfl ?_
          refine At.ops0 ?_
          refine At.thenN ?_
          refine At.retc ?_
          refine At.doneR (ResV.tmp rfl ResV.nil) ?_
          exact ⟨rfl, hB⟩
      · skip
        refine At.skip ?_
        refine At.thenN ?_
        refine At.seq ?_
        refine At.region ?_
        refine At.load rfl (Ld.own ag35 (sz35.trans (congrArg some (hp).size.symm)) hb1) rfl ?_
        refine At.alloc ze35 rfl (fun b5 w17 F5 => ?_)
        have n_b1_b5 : b1 ≠ b5 := Nat.ne_of_lt (F5.lt hb1)
        have n_b2_b5 : b2 ≠ b5 := Nat.ne_of_lt (F5.lt hb2)
        have gb5 := F5.ge hB
        replace hb1 := F5.old hb1
        replace hb2 := F5.old hb2
        have hb5 : w17.heap[b5]? = some (.cells #[(.slice none 0 0), (.slice none 0 0), .int .i64 0, .int .i64 0, .string (⟨#[]⟩ : ByteArray), .string (⟨#[]⟩ : ByteArray), .int .i64 0, (.slice none 0 0), (.slice none 0 0), .int .i64 0, .string (⟨#[]⟩ : ByteArray), .int .i64 0, (.slice none 0 0), (.slice none 0 0), .int .i64 0, (.slice none 0 0), .int .i64 0, .int .i64 0, .string (⟨#[]⟩ : ByteArray), .int .i64 0, (.slice none 0 0), (.slice none 0 0), .int .i64 0] 35) := F5.new
        replace hB := F5.below' hB
        refine At.storeAll rfl rfl hb5 (sz35.trans (congrArg some (hp).size.symm)) (hp).size.symm (hp).one (fun w18 S7 => ?_)
        replace hb1 := S7.other hb1 n_b1_b5
        replace hb2 := S7.other hb2 n_b2_b5
        replace hb5 : w18.heap[b5]? = some (.cells p.cs 35) := S7.new
        replace hB := S7.below' hB gb5
        refine At.ops0 ?_
        refine At.thenN ?_
        refine At.seq ?_
        refine At.region ?_
        refine At.fieldAddr rfl fo35_2 rfl ?_
        refine At.load rfl (Ld.ownPart ag33 (sz33.trans (congrArg some ((hp).bodyOk).size.symm)) hb1 (hp).bodyCs) rfl ?_
        refine At.fieldAddr rfl fo35_2 rfl ?_
        refine At.load rfl (Ld.ownPart ag33 (sz33.trans (congrArg some (((PrOk.withDats (((PrOk.withEffs ((hq).keep hB) (((hp).effsAt).keep hB) (fun u hu => ((hp).effOk u hu).keep hB))).keep (Below.refl _ _)) (((hp).datsAt).keep hB) (fun u hu => ((hp).datOk u hu).keep hB))).bodyOk).size.symm)) hb2 ((PrOk.withDats (((PrOk.withEffs ((hq).keep hB) (((hp).effsAt).keep hB) (fun u hu => ((hp).effOk u hu).keep hB))).keep (Below.refl _ _)) (((hp).datsAt).keep hB) (fun u hu => ((hp).datOk u hu).keep hB))).bodyCs) rfl ?_
        refine At.buildSlice (xs := [.tmp 34, .tmp 36]) rfl rfl el24 sz33 ze33 (by intro v hv; simp only [List.mem_cons, List.not_mem_nil, or_false] at hv; rcases hv with rfl | rfl <;> first | rfl | simp [Value.cells, ((hp).bodyOk).size, (((PrOk.withDats (((PrOk.withEffs ((hq).keep hB) (((hp).effsAt).keep hB) (fun u hu => ((hp).effOk u hu).keep hB))).keep (Below.refl _ _)) (((hp).datsAt).keep hB) (fun u hu => ((hp).datOk u hu).keep hB))).bodyOk).size]) rfl (by decide) rfl (fun b6 w19 F6 => ?_)
        have n_b1_b6 : b1 ≠ b6 := Nat.ne_of_lt (F6.lt hb1)
        have n_b2_b6 : b2 ≠ b6 := Nat.ne_of_lt (F6.lt hb2)
        have n_b5_b6 : b5 ≠ b6 := Nat.ne_of_lt (F6.lt hb5)
        have gb6 := F6.ge hB
        replace hb1 := F6.old hb1
        replace hb2 := F6.old hb2
        replace hb5 := F6.old hb5
        have hb6 : w19.heap[b6]? = some (.cells (([p.body, (Pr.withDats (Pr.withEffs q p.ev p.effs) p.dv p.dats).body].map Tm.cs).flatMap (·.toList)).toArray 33) := F6.new
        replace hB := F6.below' hB
        refine At.build (C := #[.int .i64 6, .int .i64 0, .string (⟨#[]⟩ : ByteArray), .string (⟨#[]⟩ : ByteArray), .int .i64 0, (.slice (some ⟨b6, 0, none⟩) 2 2), (.slice none 0 0), .int .i64 0, .string (⟨#[]⟩ : ByteArray), .int .i64 0, (.slice none 0 0), (.slice none 0 0), .int .i64 0, (.slice none 0 0), .int .i64 0, .int .i64 0, .string (⟨#[]⟩ : ByteArray), .int .i64 0, (.slice none 0 0), (.slice none 0 0), .int .i64 0]) sd33 ze33 rfl (Bld.cons fo33_0 rfl (by decide) (Bld.cons fo33_5 rfl (by decide) (Bld.nil _))) rfl ?_
        refine At.fieldAddr rfl fo35_2 rfl ?_
        refine At.storePart (cs := (ownTm 6 0 (⟨#[]⟩ : ByteArray) (⟨#[]⟩ : ByteArray) 0 (.slice (some ⟨b6, 0, none⟩) 2 2) [p.body, (Pr.withDats (Pr.withEffs q p.ev p.effs) p.dv p.dats).body]).cs) rfl rfl hb5 (sz33.trans (congrArg some ((ownTm_ok (m := 2) 6 0 (⟨#[]⟩ : ByteArray) (⟨#[]⟩ : ByteArray) 0 hb6 (mem2 (((hp).bodyOk).keep hB) ((((PrOk.withDats (((PrOk.withEffs ((hq).keep hB) (((hp).effsAt).keep hB) (fun u hu => ((hp).effOk u hu).keep hB))).keep (Below.refl _ _)) (((hp).datsAt).keep hB) (fun u hu => ((hp).datOk u hu).keep hB))).bodyOk).keep (Below.refl _ _))) rfl (by decide))).size.symm)) (by rw [((ownTm_ok (m := 2) 6 0 (⟨#[]⟩ : ByteArray) (⟨#[]⟩ : ByteArray) 0 hb6 (mem2 (((hp).bodyOk).keep hB) ((((PrOk.withDats (((PrOk.withEffs ((hq).keep hB) (((hp).effsAt).keep hB) (fun u hu => ((hp).effOk u hu).keep hB))).keep (Below.refl _ _)) (((hp).datsAt).keep hB) (fun u hu => ((hp).datOk u hu).keep hB))).bodyOk).keep (Below.refl _ _))) rfl (by decide))).size, (hp).size]; first | done | decide) ((ownTm_ok (m := 2) 6 0 (⟨#[]⟩ : ByteArray) (⟨#[]⟩ : ByteArray) 0 hb6 (mem2 (((hp).bodyOk).keep hB) ((((PrOk.withDats (((PrOk.withEffs ((hq).keep hB) (((hp).effsAt).keep hB) (fun u hu => ((hp).effOk u hu).keep hB))).keep (Below.refl _ _)) (((hp).datsAt).keep hB) (fun u hu => ((hp).datOk u hu).keep hB))).bodyOk).keep (Below.refl _ _))) rfl (by decide))).one (fun w20 S8 => ?_)
        replace hb1 := S8.other hb1 n_b1_b5
        replace hb2 := S8.other hb2 n_b2_b5
        replace hb6 := S8.other hb6 n_b5_b6.symm
        replace hb5 : w20.heap[b5]? = some (.cells (Pr.withBody p (ownTm 6 0 (⟨#[]⟩ : ByteArray) (⟨#[]⟩ : ByteArray) 0 (.slice (some ⟨b6, 0, none⟩) 2 2) [p.body, (Pr.withDats (Pr.withEffs q p.ev p.effs) p.dv p.dats).body])).cs 35) := S8.new
        replace hB := S8.below' hB gb5
        refine At.ops0 ?_
        refine At.thenN ?_
        refine At.seq ?_
        refine At.region ?_
        refine At.load rfl (Ld.own ag35 (sz35.trans (congrArg some (hp).size.symm)) hb1) rfl ?_
        refine At.call en12 rfl rfl (check_any p _ ((hp).keep hB) (PrSz.of_eq (p := p) rfl rfl hz) (Nat.le_trans (show wtT (Pr.body p) ≤ 4194304 by first | exact Nat.le_trans hwp (by decide) | exact Nat.le_trans hwq (by decide) | (simp only [Pr.withBody, Pr.withEffs, Pr.withDats, ownTm, wtT, wtL, wtA]; omega)) (by decide))) (fun e w21 hR => ?_)
        obtain ⟨rfl, hbl7⟩ := hR
        refine ⟨_, rfl, ?_⟩
        replace hb1 := Below.old hbl7 hb1
        replace hb2 := Below.old hbl7 hb2
        replace hb5 := Below.old hbl7 hb5
        replace hb6 := Below.old hbl7 hb6
        replace hB := Below.andThen hB hbl7
        refine At.move rfl rfl ?_
        refine At.extract rfl rfl rfl ?_
        refine At.extract rfl rfl rfl ?_
        refine At.assign rfl rfl ?_
        refine At.assign rfl rfl ?_
        refine At.ops0 ?_
        refine At.thenN ?_
        refine At.seq ?_
        refine At.region ?_
        refine At.load rfl (Ld.own ag35 (sz35.trans (congrArg some ((PrOk.withDats (((PrOk.withEffs ((hq).keep hB) (((hp).effsAt).keep hB) (fun u hu => ((hp).effOk u hu).keep hB))).keep (Below.refl _ _)) (((hp).datsAt).keep hB) (fun u hu => ((hp).datOk u hu).keep hB))).size.symm)) hb2) rfl ?_
        refine At.call en12 rfl rfl (check_any (Pr.withDats (Pr.withEffs q p.ev p.effs) p.dv p.dats) _ (((PrOk.withDats (((PrOk.withEffs ((hq).keep hB) (((hp).effsAt).keep hB) (fun u hu => ((hp).effOk u hu).keep hB))).keep (Below.refl _ _)) (((hp).datsAt).keep hB) (fun u hu => ((hp).datOk u hu).keep hB))).keep (Below.refl _ _)) (PrSz.of_eq (p := p) rfl rfl hz) (Nat.le_trans (show wtT (Pr.body (Pr.withDats (Pr.withEffs q p.ev p.effs) p.dv p.dats)) ≤ 4194304 by first | exact Nat.le_trans hwp (by decide) | exact Nat.le_trans hwq (by decide) | (simp only [Pr.withBody, Pr.withEffs, Pr.withDats, ownTm, wtT, wtL, wtA]; omega)) (by decide))) (fun e w22 hR => ?_)
        obtain ⟨rfl, hbl8⟩ := hR
        refine ⟨_, rfl, ?_⟩
        replace hb1 := Below.old hbl8 hb1
        replace hb2 := Below.old hbl8 hb2
        replace hb5 := Below.old hbl8 hb5
        replace hb6 := Below.old hbl8 hb6
        replace hB := Below.andThen hB hbl8
        refine At.move rfl rfl ?_
        refine At.extract rfl rfl rfl ?_
        refine At.extract rfl rfl rfl ?_
        refine At.assign rfl rfl ?_
        refine At.assign rfl rfl ?_
        refine At.ops0 ?_
        refine At.thenN ?_
        refine At.seq ?_
        refine At.region ?_
        refine At.load rfl (Ld.own ag35 (sz35.trans (congrArg some ((PrOk.withBody ((hp).keep hB) (((ownTm_ok (m := 2) 6 0 (⟨#[]⟩ : ByteArray) (⟨#[]⟩ : ByteArray) 0 hb6 (mem2 (((hp).bodyOk).keep hB) ((((PrOk.withDats (((PrOk.withEffs ((hq).keep hB) (((hp).effsAt).keep hB) (fun u hu => ((hp).effOk u hu).keep hB))).keep (Below.refl _ _)) (((hp).datsAt).keep hB) (fun u hu => ((hp).datOk u hu).keep hB))).bodyOk).keep (Below.refl _ _))) rfl (by decide))).keep (Below.refl _ _)))).size.symm)) hb5) rfl ?_
        refine At.call en12 rfl rfl (check_any (Pr.withBody p (ownTm 6 0 (⟨#[]⟩ : ByteArray) (⟨#[]⟩ : ByteArray) 0 (.slice (some ⟨b6, 0, none⟩) 2 2) [p.body, (Pr.withDats (Pr.withEffs q p.ev p.effs) p.dv p.dats).body])) _ (((PrOk.withBody ((hp).keep hB) (((ownTm_ok (m := 2) 6 0 (⟨#[]⟩ : ByteArray) (⟨#[]⟩ : ByteArray) 0 hb6 (mem2 (((hp).bodyOk).keep hB) ((((PrOk.withDats (((PrOk.withEffs ((hq).keep hB) (((hp).effsAt).keep hB) (fun u hu => ((hp).effOk u hu).keep hB))).keep (Below.refl _ _)) (((hp).datsAt).keep hB) (fun u hu => ((hp).datOk u hu).keep hB))).bodyOk).keep (Below.refl _ _))) rfl (by decide))).keep (Below.refl _ _)))).keep (Below.refl _ _)) (PrSz.of_eq (p := p) rfl rfl hz) (Nat.le_trans (show wtT (Pr.body (Pr.withBody p (ownTm 6 0 (⟨#[]⟩ : ByteArray) (⟨#[]⟩ : ByteArray) 0 (.slice (some ⟨b6, 0, none⟩) 2 2) [p.body, (Pr.withDats (Pr.withEffs q p.ev p.effs) p.dv p.dats).body]))) ≤ 4194304 by first | exact Nat.le_trans hwp (by decide) | exact Nat.le_trans hwq (by decide) | (simp only [Pr.withBody, Pr.withEffs, Pr.withDats, ownTm, wtT, wtL, wtA]; omega)) (by decide))) (fun e w23 hR => ?_)
        obtain ⟨rfl, hbl9⟩ := hR
        refine ⟨_, rfl, ?_⟩
        replace hb1 := Below.old hbl9 hb1
        replace hb2 := Below.old hbl9 hb2
        replace hb5 := Below.old hbl9 hb5
        replace hb6 := Below.old hbl9 hb6
        replace hB := Below.andThen hB hbl9
        refine At.move rfl rfl ?_
        refine At.extract rfl rfl rfl ?_
        refine At.extract rfl rfl rfl ?_
        refine At.assign rfl rfl ?_
        refine At.assign rfl rfl ?_
        refine At.ops0 ?_
        refine At.thenN ?_
        refine At.seq ?_
        refine At.seq ?_
        refine At.region ?_
        refine At.move rfl rfl ?_
        refine At.neI rfl rfl rfl ?_
        refine At.ops0 ?_
        refine At.thenN ?_
        refine At.cond (b := (!decide ((checkP p).2 = 0))) rfl (fun hc4 => ?_) (fun hc4 => ?_)
        · skip
          have hc4' := hc4; simp only [Bool.not_eq_true', Bool.not_eq_false', decide_eq_true_eq, decide_eq_false_iff_not] at hc4'
          refine At.seq ?_
          have hlaw := first_law (p := p) (q := (Pr.withDats (Pr.withEffs q p.ev p.effs) p.dv p.dats)) (b := (Pr.withBody p (ownTm 6 0 (⟨#[]⟩ : ByteArray) (⟨#[]⟩ : ByteArray) 0 (.slice (some ⟨b6, 0, none⟩) 2 2) [p.body, (Pr.withDats (Pr.withEffs q p.ev p.effs) p.dv p.dats).body]))) rfl rfl rfl rfl rfl
          rw [if_neg (by simpa using hc4)] at hlaw
          refine At.set (d := 13) (u := .int .i64 (checkP p).1) rfl (congrArg (Value.int .i64) (congrArg (fun x : Int × Int => x.1) hlaw)) ?_
          refine At.set (d := 14) (u := .int .i64 (checkP p).2) rfl (congrArg (Value.int .i64) (congrArg (fun x : Int × Int => x.2) hlaw)) ?_
          refine At.region ?_
          refine At.move rfl rfl ?_
          refine At.move rfl rfl ?_
          refine At.yes rfl rfl rfl rfl ?_
          refine At.move rfl rfl ?_
          refine At.yes rfl rfl rfl rfl ?_
          refine At.move rfl rfl ?_
          refine At.yes rfl rfl rfl rfl ?_
          refine At.eqI rfl rfl rfl ?_
          refine At.set (d := 61) (u := .bool true) rfl (congrArg Value.bool (by simp)) ?_
          refine At.pickT rfl rfl rfl ?_
          refine At.move rfl rfl ?_
          refine At.yes rfl rfl rfl rfl ?_
          refine At.move rfl rfl ?_
          refine At.yes rfl rfl rfl rfl ?_
          refine At.move rfl rfl ?_
          refine At.yes rfl rfl rfl rfl ?_
          refine At.eqI rfl rfl rfl ?_
          refine At.set (d := 66) (u := .bool true) rfl (congrArg Value.bool (by simp)) ?_
          refine At.pickT rfl rfl rfl ?_
          refine At.assign rfl rfl ?_
          refine At.ops0 ?_
          refine At.thenN ?_
          refine At.retc ?_
          refine At.thenR ?_
          refine At.doneR (ResV.tmp rfl ResV.nil) ?_
          exact ⟨rfl, hB⟩
        · skip
          have hc4' := hc4; simp only [Bool.not_eq_true', Bool.not_eq_false', decide_eq_true_eq, decide_eq_false_iff_not] at hc4'
          refine At.skip ?_
          refine At.thenN ?_
          refine At.seq ?_
          have hlaw := first_law (p := p) (q := (Pr.withDats (Pr.withEffs q p.ev p.effs) p.dv p.dats)) (b := (Pr.withBody p (ownTm 6 0 (⟨#[]⟩ : ByteArray) (⟨#[]⟩ : ByteArray) 0 (.slice (some ⟨b6, 0, none⟩) 2 2) [p.body, (Pr.withDats (Pr.withEffs q p.ev p.effs) p.dv p.dats).body]))) rfl rfl rfl rfl rfl
          rw [if_pos (by simpa using hc4)] at hlaw
          refine At.set (d := 13) (u := .int .i64 (checkP (Pr.withDats (Pr.withEffs q p.ev p.effs) p.dv p.dats)).1) rfl (congrArg (Value.int .i64) (congrArg (fun x : Int × Int => x.1) hlaw)) ?_
          refine At.set (d := 14) (u := .int .i64 (checkP (Pr.withDats (Pr.withEffs q p.ev p.effs) p.dv p.dats)).2) rfl (congrArg (Value.int .i64) (congrArg (fun x : Int × Int => x.2) hlaw)) ?_
          refine At.region ?_
          refine At.move rfl rfl ?_
          refine At.move rfl rfl ?_
          refine At.yes rfl rfl rfl rfl ?_
          refine At.move rfl rfl ?_
          refine At.yes rfl rfl rfl rfl ?_
          refine At.move rfl rfl ?_
          refine At.yes rfl rfl rfl rfl ?_
          refine At.eqI rfl rfl rfl ?_
          refine At.set (d := 72) (u := .bool true) rfl (congrArg Value.bool (by simp)) ?_
          refine At.pickT rfl rfl rfl ?_
          refine At.move rfl rfl ?_
          refine At.yes rfl rfl rfl rfl ?_
          refine At.move rfl rfl ?_
          refine At.yes rfl rfl rfl rfl ?_
          refine At.move rfl rfl ?_
          refine At.yes rfl rfl rfl rfl ?_
          refine At.eqI rfl rfl rfl ?_
          refine At.set (d := 77) (u := .bool true) rfl (congrArg Value.bool (by simp)) ?_
          refine At.pickT rfl rfl rfl ?_
          refine At.assign rfl rfl ?_
          refine At.ops0 ?_
          refine At.thenN ?_
          refine At.retc ?_
          refine At.doneR (ResV.tmp rfl ResV.nil) ?_
          exact ⟨rfl, hB⟩
end Go.Proofs.Ytkclfcdppnlkbaa
