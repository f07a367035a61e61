/-
 The walks of Right, typ, count, large. Written by a program of ours.
-/
import Derived.Test.YtkclecfbjfdfkaaGreatDoorQ2
import Derived.Test.YtkclecfbjfdfkaaGreatDoorP2
set_option linter.unusedVariables false
set_option linter.unusedSimpArgs false
namespace Go.Proofs.YtkclecfbjfdfkaaGreatDoor
open Go.RowKit
theorem ag22 : aggB Tryz.prog 22 = some false := by kernel_rfl
theorem ag23 : aggB Tryz.prog 23 = some false := by kernel_rfl
theorem ag56 : aggB Tryz.prog 56 = some false := by kernel_rfl
theorem ag58 : aggB Tryz.prog 58 = some true := by kernel_rfl
theorem ag59 : aggB Tryz.prog 59 = some false := by kernel_rfl
theorem ag61 : aggB Tryz.prog 61 = some true := by kernel_rfl
theorem ag63 : aggB Tryz.prog 63 = some true := by kernel_rfl
theorem ag72 : aggB Tryz.prog 72 = some true := by kernel_rfl
theorem el22 : elemB Tryz.prog 22 = some 58 := by kernel_rfl
theorem el23 : elemB Tryz.prog 23 = some 61 := by kernel_rfl
theorem el56 : elemB Tryz.prog 56 = some 72 := by kernel_rfl
theorem el59 : elemB Tryz.prog 59 = some 63 := by kernel_rfl
theorem en18 : entB Tryz.prog 18 = true := by kernel_rfl
theorem en19 : entB Tryz.prog 19 = true := by kernel_rfl
theorem en28 : entB Tryz.prog 28 = true := by kernel_rfl
theorem en29 : entB Tryz.prog 29 = true := by kernel_rfl
theorem fo35_0 : fieldB Tryz.prog 35 0 = some (0, 1) := by kernel_rfl
theorem fo35_1 : fieldB Tryz.prog 35 1 = some (1, 1) := by kernel_rfl
theorem fo35_2 : fieldB Tryz.prog 35 2 = some (2, 21) := by kernel_rfl
theorem fo58_0 : fieldB Tryz.prog 58 0 = some (0, 1) := by kernel_rfl
theorem fo58_1 : fieldB Tryz.prog 58 1 = some (1, 1) := by kernel_rfl
theorem fo61_0 : fieldB Tryz.prog 61 0 = some (0, 1) := by kernel_rfl
theorem fo61_1 : fieldB Tryz.prog 61 1 = some (1, 1) := by kernel_rfl
theorem fo63_0 : fieldB Tryz.prog 63 0 = some (0, 1) := by kernel_rfl
theorem fo63_1 : fieldB Tryz.prog 63 1 = some (1, 1) := by kernel_rfl
theorem fo72_0 : fieldB Tryz.prog 72 0 = some (0, 1) := by kernel_rfl
theorem fo72_1 : fieldB Tryz.prog 72 1 = some (1, 6) := by kernel_rfl
theorem fo72_2 : fieldB Tryz.prog 72 2 = some (7, 6) := by kernel_rfl
theorem sz58 : sizeB Tryz.prog 58 = some 2 := by kernel_rfl
theorem sz61 : sizeB Tryz.prog 61 = some 2 := by kernel_rfl
theorem sz63 : sizeB Tryz.prog 63 = some 2 := by kernel_rfl
theorem sz72 : sizeB Tryz.prog 72 = some 13 := by kernel_rfl
theorem ze31 : zeroB Tryz.prog 31 = some (.agg #[.int .i64 0, .string (⟨#[]⟩ : ByteArray), .int .i64 0, (.slice none 0 0), (.slice none 0 0), .int .i64 0]) := by kernel_rfl
theorem ze58 : zeroB Tryz.prog 58 = some (.agg #[.string (⟨#[]⟩ : ByteArray), (.slice none 0 0)]) := by kernel_rfl
theorem ze61 : zeroB Tryz.prog 61 = some (.agg #[.string (⟨#[]⟩ : ByteArray), (.slice none 0 0)]) := by kernel_rfl
theorem ze63 : zeroB Tryz.prog 63 = some (.agg #[.string (⟨#[]⟩ : ByteArray), (.slice none 0 0)]) := by kernel_rfl
theorem ze72 : zeroB Tryz.prog 72 = some (.agg #[.string (⟨#[]⟩ : ByteArray), .int .i64 0, .string (⟨#[]⟩ : ByteArray), .int .i64 0, (.slice none 0 0), (.slice none 0 0), .int .i64 0, .int .i64 0, .string (⟨#[]⟩ : ByteArray), .int .i64 0, (.slice none 0 0), (.slice none 0 0), .int .i64 0]) := by kernel_rfl
theorem Right_any (p : Pr) (m : Int) (w : World) (hp : PrOk w p) (hz : SzP p) (hm : w.cell? ⟨0, 0, none⟩ = some (.int .i64 m)) :
  Calls Tryz.prog 10 ([.agg p.cs] : List Value).toArray w fun e w' => e = .returned (.bool (RightB p)) ∧ Below w.heap.size w w' := by
 have hlp := hp.effsAt.lenL; have hlq := hp.datsAt.lenL
 have hB := Below.refl w.heap.size w
 refine At.enter (N := 81) Tryz.func10 rfl rfl (by simp) [(0, .agg p.cs)] (by simp) ?_
 refine At.seq ?_
 refine At.region ?_
 refine At.box rfl rfl (fun b1 w1 F1 => ?_)
 have gb1 := F1.ge hB
 have hb1 : w1.heap[b1]? = some (.cells p.cs 35) := F1.new
 replace hB := F1.below' hB
 refine At.assign rfl rfl ?_
 refine At.ops0 ?_
 refine At.thenN ?_
 refine At.seq ?_
 refine At.seq ?_
 refine At.region ?_
 refine At.fieldAddr rfl fo35_0 rfl ?_
 refine At.load rfl (Ld.ownCell ag22 hb1 (hp).c0) rfl ?_
 refine At.lenSl rfl ((hp).effsAt).okL el22 rfl ?_
 refine At.move rfl rfl ?_
 refine At.ops0 ?_
 refine At.thenN ?_
 refine At.block ?_
 refine At.loop (Nat) (fun k => [(1, .pointer (some ⟨b1, 0, none⟩)), (12, p.ev), (13, .int .i64 (p.effs.length : Int)), (14, .int .i64 (k : Int))]) (fun k w2 => Below w.heap.size w w2 ∧ w2.heap[b1]? = some (.cells p.cs 35) ∧ (k ≤ p.effs.length) ∧ (∀ i x, i < k → p.effs[i]? = some x → effNo x = false)) (fun k => p.effs.length - k) (0 : Nat) (Sub.cons rfl (Sub.cons rfl (Sub.cons rfl (Sub.cons rfl Sub.nil)))) ⟨hB, hb1, (Nat.zero_le _), (fun j x hj => absurd hj (Nat.not_lt_zero j))⟩ (fun k w2 hI => ?_)
 clear hB hb1
 obtain ⟨hB, hb1, hk, hn⟩ := hI
 show At _ _ [(1, .pointer (some ⟨b1, 0, none⟩)), (12, p.ev), (13, .int .i64 (p.effs.length : Int)), (14, .int .i64 (k : Int))] _ _
 have hlp := hp.effsAt.lenL; have hlq := hp.datsAt.lenL
 refine At.seq ?_
 refine At.region ?_
 refine At.lss rfl rfl rfl ?_
 refine At.ops0 ?_
 refine At.thenN ?_
 refine At.seq ?_
 refine At.cond (b := decide ((k : Int) < (p.effs.length : Int))) rfl (fun hc1 => ?_) (fun hc1 => ?_)
 ·skip
  have hc1' := of_decide_eq_true hc1
  refine At.skip ?_
  refine At.thenN ?_
  refine At.seq ?_
  refine At.block ?_
  refine At.seq ?_
  obtain ⟨x1, hx1⟩ := some_of_lt (l := p.effs) (i := k) (by omega)
  obtain ⟨hz1, hz2⟩ := hz.effs x1 (List.mem_of_getElem? hx1); have hl1 := (hp.effOk x1 (List.mem_of_getElem? hx1)).opsAt.lenL
  refine At.region ?_
  refine At.indexAddr (i := k) rfl rfl ((hp).effsAt).okL (lt_of_some hx1) el22 sz58 rfl ?_
  refine At.load rfl (Ld.row ag58 (sz58.trans (congrArg some (((hp).eff hx1)).size.symm)) ((((hp).effsAt).row hx1).keep hB)) rfl ?_
  refine At.alloc ze58 rfl (fun b2 w3 F2 => ?_)
  have n_b1_b2 : b1 ≠ b2 := Nat.ne_of_lt (F2.lt hb1)
  have gb2 := F2.ge hB
  replace hb1 := F2.old hb1
  have hb2 : w3.heap[b2]? = some (.cells #[.string (⟨#[]⟩ : ByteArray), (.slice none 0 0)] 58) := F2.new
  replace hB := F2.below' hB
  refine At.storeAll rfl rfl hb2 (sz58.trans (congrArg some (((hp).eff hx1)).size.symm)) (((hp).eff hx1)).size.symm (((hp).eff hx1)).one (fun w4 S1 => ?_)
  replace hb1 := S1.other hb1 n_b1_b2
  replace hb2 : w4.heap[b2]? = some (.cells x1.cs 58) := S1.new
  replace hB := S1.below' hB gb2
  refine At.ops0 ?_
  refine At.thenN ?_
  refine At.seq ?_
  refine At.seq ?_
  refine At.region ?_
  refine At.fieldAddr rfl fo58_0 rfl ?_
  refine At.load rfl (Ld.ownCell ag9 hb2 (((hp).eff hx1)).c0) rfl ?_
  refine At.buildSlice (xs := [.tmp 19]) rfl rfl el27 sz9 ze9 (by intro v hv; simp only [List.mem_cons, List.not_mem_nil, or_false] at hv; rcases hv with rfl <;> first | rfl | simp [Value.cells, Value.cells]) rfl (by decide) rfl (fun b3 w5 F3 => ?_)
  have n_b1_b3 : b1 ≠ b3 := Nat.ne_of_lt (F3.lt hb1)
  have n_b2_b3 : b2 ≠ b3 := Nat.ne_of_lt (F3.lt hb2)
  have gb3 := F3.ge hB
  replace hb1 := F3.old hb1
  replace hb2 := F3.old hb2
  have hb3 : w5.heap[b3]? = some (.cells #[.string x1.nm] 9) := F3.new
  replace hB := F3.below' hB
  refine At.call en27 rfl rfl (named_any 3 (.slice (some ⟨b3, 0, none⟩) 1 1) ([x1.nm]) m _ (StrsAt.own (ss := [x1.nm]) hb3 rfl (by decide) : StrsAt _ (.slice (some ⟨b3, 0, none⟩) 1 1) [x1.nm]) (by simp) ((fun s hs => by rw [List.mem_singleton] at hs; subst hs; first | assumption | omega)) (cell_keep hm hB)) (fun e w6 hR => ?_)
  obtain ⟨rfl, hbl1⟩ := hR
  refine ⟨_, rfl, ?_⟩
  replace hb1 := Below.old hbl1 hb1
  replace hb2 := Below.old hbl1 hb2
  replace hb3 := Below.old hbl1 hb3
  replace hB := Below.andThen hB hbl1
  refine At.not rfl rfl ?_
  refine At.ops0 ?_
  refine At.thenN ?_
  refine At.cond (b := (!(nmsB 3 ([x1.nm])))) rfl (fun hc2 => ?_) (fun hc2 => ?_)
  ·skip
   refine At.seq ?_
   refine At.region ?_
   refine At.assign rfl rfl ?_
   refine At.ops0 ?_
   refine At.thenN ?_
   refine At.retc ?_
   refine At.thenR ?_
   refine At.inR ?_
   refine At.thenR ?_
   refine At.thenR ?_
   refine At.inR ?_
   refine At.thenR ?_
   refine At.doneR (ResV.tmp rfl ResV.nil) ?_
   have he : p.effs.any effNo = true := any_yes hx1 (show effNo x1 = true by first | (simp only [effNo, ← nms_one, hc2, Bool.true_or, Bool.or_true, Bool.false_or, Bool.or_false, Bool.true_and, Bool.and_true, Bool.false_and, Bool.and_false, Bool.not_true, Bool.not_false, cond_true, cond_false]; done) | (simp [effNo, ← nms_one, hc2]; done))
   exact ⟨congrArg Ending.returned (congrArg Value.bool (by simp only [RightB, he, Bool.not_true, Bool.false_and])), hB⟩
  ·skip
   refine At.skip ?_
   refine At.thenN ?_
   refine At.seq ?_
   refine At.region ?_
   refine At.fieldAddr rfl fo58_1 rfl ?_
   refine At.load rfl (Ld.ownCell ag56 hb2 (((hp).eff hx1)).c1) rfl ?_
   refine At.lenSl rfl ((((hp).eff hx1)).opsAt).okL el56 rfl ?_
   refine At.move rfl rfl ?_
   refine At.ops0 ?_
   refine At.thenN ?_
   refine At.block ?_
   refine At.loop (Nat) (fun j => [(1, .pointer (some ⟨b1, 0, none⟩)), (12, p.ev), (13, .int .i64 (p.effs.length : Int)), (14, .int .i64 (k : Int)), (24, x1.ov), (25, .int .i64 (x1.ops.length : Int)), (26, .int .i64 (j : Int))]) (fun j w7 => Below w.heap.size w w7 ∧ w7.heap[b1]? = some (.cells p.cs 35) ∧ (j ≤ x1.ops.length) ∧ (∀ i x, i < j → x1.ops[i]? = some x → opNo x = false)) (fun j => x1.ops.length - j) (0 : Nat) (Sub.cons rfl (Sub.cons rfl (Sub.cons rfl (Sub.cons rfl (Sub.cons rfl (Sub.cons rfl (Sub.cons rfl Sub.nil))))))) ⟨hB, hb1, (Nat.zero_le _), (fun j x hj => absurd hj (Nat.not_lt_zero j))⟩ (fun j w7 hI => ?_)
   clear hB hb1 hb2 hb3
   obtain ⟨hB, hb1, hk2, hn2⟩ := hI
   show At _ _ [(1, .pointer (some ⟨b1, 0, none⟩)), (12, p.ev), (13, .int .i64 (p.effs.length : Int)), (14, .int .i64 (k : Int)), (24, x1.ov), (25, .int .i64 (x1.ops.length : Int)), (26, .int .i64 (j : Int))] _ _
   have hlp := hp.effsAt.lenL; have hlq := hp.datsAt.lenL
   refine At.seq ?_
   refine At.region ?_
   refine At.lss rfl rfl rfl ?_
   refine At.ops0 ?_
   refine At.thenN ?_
   refine At.seq ?_
   refine At.cond (b := decide ((j : Int) < (x1.ops.length : Int))) rfl (fun hc3 => ?_) (fun hc3 => ?_)
   ·skip
    have hc3' := of_decide_eq_true hc3
    refine At.skip ?_
    refine At.thenN ?_
    refine At.seq ?_
    refine At.block ?_
    refine At.seq ?_
    obtain ⟨x2, hx2⟩ := some_of_lt (l := x1.ops) (i := j) (by omega)
    obtain ⟨hz3, hz4, hz5⟩ := hz2 x2 (List.mem_of_getElem? hx2)
    refine At.region ?_
    refine At.indexAddr (i := j) rfl rfl ((((hp).eff hx1)).opsAt).okL (lt_of_some hx2) el56 sz72 rfl ?_
    refine At.load rfl (Ld.row ag72 (sz72.trans (congrArg some (((((hp).eff hx1)).op hx2)).size.symm)) ((((((hp).eff hx1)).opsAt).row hx2).keep hB)) rfl ?_
    refine At.alloc ze72 rfl (fun b4 w8 F4 => ?_)
    have n_b1_b4 : b1 ≠ b4 := Nat.ne_of_lt (F4.lt hb1)
    have gb4 := F4.ge hB
    replace hb1 := F4.old hb1
    have hb4 : w8.heap[b4]? = some (.cells #[.string (⟨#[]⟩ : ByteArray), .int .i64 0, .string (⟨#[]⟩ : ByteArray), .int .i64 0, (.slice none 0 0), (.slice none 0 0), .int .i64 0, .int .i64 0, .string (⟨#[]⟩ : ByteArray), .int .i64 0, (.slice none 0 0), (.slice none 0 0), .int .i64 0] 72) := F4.new
    replace hB := F4.below' hB
    refine At.storeAll rfl rfl hb4 (sz72.trans (congrArg some (((((hp).eff hx1)).op hx2)).size.symm)) (((((hp).eff hx1)).op hx2)).size.symm (((((hp).eff hx1)).op hx2)).one (fun w9 S2 => ?_)
    replace hb1 := S2.other hb1 n_b1_b4
    replace hb4 : w9.heap[b4]? = some (.cells x2.cs 72) := S2.new
    replace hB := S2.below' hB gb4
    refine At.ops0 ?_
    refine At.thenN ?_
    refine At.seq ?_
    refine At.region ?_
    refine At.fieldAddr rfl fo72_0 rfl ?_
    refine At.load rfl (Ld.ownCell ag9 hb4 (((((hp).eff hx1)).op hx2)).c0) rfl ?_
    refine At.buildSlice (xs := [.tmp 31]) rfl rfl el27 sz9 ze9 (by intro v hv; simp only [List.mem_cons, List.not_mem_nil, or_false] at hv; rcases hv with rfl <;> first | rfl | simp [Value.cells, Value.cells]) rfl (by decide) rfl (fun b5 w10 F5 => ?_)
    have n_b1_b5 : b1 ≠ b5 := Nat.ne_of_lt (F5.lt hb1)
    have n_b4_b5 : b4 ≠ b5 := Nat.ne_of_lt (F5.lt hb4)
    have gb5 := F5.ge hB
    replace hb1 := F5.old hb1
    replace hb4 := F5.old hb4
    have hb5 : w10.heap[b5]? = some (.cells #[.string x2.nm] 9) := F5.new
    replace hB := F5.below' hB
    refine At.call en27 rfl rfl (named_any 2 (.slice (some ⟨b5, 0, none⟩) 1 1) ([x2.nm]) m _ (StrsAt.own (ss := [x2.nm]) hb5 rfl (by decide) : StrsAt _ (.slice (some ⟨b5, 0, none⟩) 1 1) [x2.nm]) (by simp) ((fun s hs => by rw [List.mem_singleton] at hs; subst hs; first | assumption | omega)) (cell_keep hm hB)) (fun e w11 hR => ?_)
    obtain ⟨rfl, hbl2⟩ := hR
    refine ⟨_, rfl, ?_⟩
    replace hb1 := Below.old hbl2 hb1
    replace hb4 := Below.old hbl2 hb4
    replace hb5 := Below.old hbl2 hb5
    replace hB := Below.andThen hB hbl2
    refine At.not rfl rfl ?_
    refine At.move rfl rfl ?_
    refine At.cases ((!(nmsB 2 ([x2.nm])))) (fun hg1 => ?_) (fun hg1 => ?_)
    ·skip
     refine At.set (d := 35) (u := .bool true) rfl (congrArg Value.bool hg1) ?_
     refine At.no rfl rfl rfl rfl rfl rfl rfl ?_
     refine At.no rfl rfl rfl rfl rfl rfl rfl ?_
     refine At.no rfl rfl rfl rfl rfl rfl rfl ?_
     refine At.no rfl rfl rfl rfl rfl rfl rfl ?_
     refine At.no rfl rfl rfl rfl rfl rfl rfl ?_
     refine At.no rfl rfl rfl rfl rfl rfl rfl ?_
     refine At.no rfl rfl rfl rfl rfl rfl rfl ?_
     refine At.pickT rfl rfl rfl ?_
     refine At.ops0 ?_
     refine At.thenN ?_
     refine At.condT rfl ?_
     refine At.seq ?_
     refine At.region ?_
     refine At.assign rfl rfl ?_
     refine At.ops0 ?_
     refine At.thenN ?_
     refine At.retc ?_
     refine At.inR ?_
     refine At.thenR ?_
     refine At.thenR ?_
     refine At.inR ?_
     refine At.inR ?_
     refine At.thenR ?_
     refine At.thenR ?_
     refine At.inR ?_
     refine At.thenR ?_
     refine At.doneR (ResV.tmp rfl ResV.nil) ?_
     have he : p.effs.any effNo = true := any_yes hx1 (show effNo x1 = true by first | (simp only [effNo, ← nms_one, hc2, any_yes hx2 (show opNo x2 = true by first | (simp only [opNo, ← nms_one, hg1, Bool.true_or, Bool.or_true, Bool.false_or, Bool.or_false, Bool.true_and, Bool.and_true, Bool.false_and, Bool.and_false, Bool.not_true, Bool.not_false, cond_true, cond_false]; done) | (simp [opNo, ← nms_one, hg1]; done)), Bool.true_or, Bool.or_true, Bool.false_or, Bool.or_false, Bool.true_and, Bool.and_true, Bool.false_and, Bool.and_false, Bool.not_true, Bool.not_false, cond_true, cond_false]; done) | (simp [effNo, ← nms_one, hc2, any_yes hx2 (show opNo x2 = true by first | (simp only [opNo, ← nms_one, hg1, Bool.true_or, Bool.or_true, Bool.false_or, Bool.or_false, Bool.true_and, Bool.and_true, Bool.false_and, Bool.and_false, Bool.not_true, Bool.not_false, cond_true, cond_false]; done) | (simp [opNo, ← nms_one, hg1]; done))]; done))
     exact ⟨congrArg Ending.returned (congrArg Value.bool (by simp only [RightB, he, Bool.not_true, Bool.false_and])), hB⟩
    ·skip
     refine At.set (d := 35) (u := .bool false) rfl (congrArg Value.bool hg1) ?_
     refine At.yes rfl rfl rfl rfl ?_
     refine At.fieldAddr rfl fo72_1 rfl ?_
     refine At.yes rfl rfl rfl rfl ?_
     refine At.load rfl (Ld.ownPart ag31 (sz31.trans (congrArg some ((((((hp).eff hx1)).op hx2)).argOk).size.symm)) hb4 (((((hp).eff hx1)).op hx2)).argCs) rfl ?_
     refine At.yes rfl rfl rfl rfl ?_
     refine At.fieldAddr rfl fo72_2 rfl ?_
     refine At.yes rfl rfl rfl rfl ?_
     refine At.load rfl (Ld.ownPart ag31 (sz31.trans (congrArg some ((((((hp).eff hx1)).op hx2)).resOk).size.symm)) hb4 (((((hp).eff hx1)).op hx2)).resCs) rfl ?_
     refine At.yes rfl rfl rfl rfl ?_
     refine At.buildSlice (xs := [.tmp 37, .tmp 39]) rfl rfl el26 sz31 ze31 (by intro v hv; simp only [List.mem_cons, List.not_mem_nil, or_false] at hv; rcases hv with rfl | rfl <;> first | rfl | simp [Value.cells, ((((((hp).eff hx1)).op hx2)).argOk).size, ((((((hp).eff hx1)).op hx2)).resOk).size]) rfl (by decide) rfl (fun b6 w12 F6 => ?_)
     have n_b1_b6 : b1 ≠ b6 := Nat.ne_of_lt (F6.lt hb1)
     have n_b4_b6 : b4 ≠ b6 := Nat.ne_of_lt (F6.lt hb4)
     have n_b5_b6 : b5 ≠ b6 := Nat.ne_of_lt (F6.lt hb5)
     have gb6 := F6.ge hB
     replace hb1 := F6.old hb1
     replace hb4 := F6.old hb4
     replace hb5 := F6.old hb5
     have hb6 : w12.heap[b6]? = some (.cells (([x2.arg, x2.res].map Ty.cs).flatMap (·.toList)).toArray 31) := F6.new
     replace hB := F6.below' hB
     refine At.yes rfl rfl rfl rfl ?_
     refine At.call en28 rfl rfl (typed_any (.slice (some ⟨b6, 0, none⟩) 2 2) ([x2.arg, x2.res]) m _ (rows_own (f := Ty.cs) (m := 2) hb6 (fun u hu => ((mem2 (Q := fun u => TyOk u) (((((hp).eff hx1)).op hx2)).argOk (((((hp).eff hx1)).op hx2)).resOk) u hu).size) rfl (by decide)) ((mem2 (Q := fun u => TyOk u) (((((hp).eff hx1)).op hx2)).argOk (((((hp).eff hx1)).op hx2)).resOk)) (by simp) (fun u hu => by simp only [List.mem_cons, List.not_mem_nil, or_false] at hu; rcases hu with rfl | rfl <;> assumption) (cell_keep hm hB)) (fun e w13 hR => ?_)
     obtain ⟨rfl, hbl3⟩ := hR
     refine ⟨_, rfl, ?_⟩
     replace hb1 := Below.old hbl3 hb1
     replace hb4 := Below.old hbl3 hb4
     replace hb5 := Below.old hbl3 hb5
     replace hb6 := Below.old hbl3 hb6
     replace hB := Below.andThen hB hbl3
     refine At.yes rfl rfl rfl rfl ?_
     refine At.not rfl rfl ?_
     refine At.pickF rfl rfl rfl ?_
     refine At.ops0 ?_
     refine At.thenN ?_
     refine At.cond (b := (!(tysB ([x2.arg, x2.res])))) rfl (fun hc4 => ?_) (fun hc4 => ?_)
     ·skip
      refine At.seq ?_
      refine At.region ?_
      refine At.assign rfl rfl ?_
      refine At.ops0 ?_
      refine At.thenN ?_
      refine At.retc ?_
      refine At.inR ?_
      refine At.thenR ?_
      refine At.thenR ?_
      refine At.inR ?_
      refine At.inR ?_
      refine At.thenR ?_
      refine At.thenR ?_
      refine At.inR ?_
      refine At.thenR ?_
      refine At.doneR (ResV.tmp rfl ResV.nil) ?_
      have he : p.effs.any effNo = true := any_yes hx1 (show effNo x1 = true by first | (simp only [effNo, ← nms_one, hc2, any_yes hx2 (show opNo x2 = true by first | (simp only [opNo, ← nms_one, hg1, hc4, Bool.true_or, Bool.or_true, Bool.false_or, Bool.or_false, Bool.true_and, Bool.and_true, Bool.false_and, Bool.and_false, Bool.not_true, Bool.not_false, cond_true, cond_false]; done) | (simp [opNo, ← nms_one, hg1, hc4]; done)), Bool.true_or, Bool.or_true, Bool.false_or, Bool.or_false, Bool.true_and, Bool.and_true, Bool.false_and, Bool.and_false, Bool.not_true, Bool.not_false, cond_true, cond_false]; done) | (simp [effNo, ← nms_one, hc2, any_yes hx2 (show opNo x2 = true by first | (simp only [opNo, ← nms_one, hg1, hc4, Bool.true_or, Bool.or_true, Bool.false_or, Bool.or_false, Bool.true_and, Bool.and_true, Bool.false_and, Bool.and_false, Bool.not_true, Bool.not_false, cond_true, cond_false]; done) | (simp [opNo, ← nms_one, hg1, hc4]; done))]; done))
      exact ⟨congrArg Ending.returned (congrArg Value.bool (by simp only [RightB, he, Bool.not_true, Bool.false_and])), hB⟩
     ·skip
      refine At.skip ?_
      refine At.inN ?_
      refine At.thenN ?_
      refine At.region ?_
      refine At.addI rfl rfl rfl (by omega) ?_
      refine At.move rfl rfl ?_
      refine At.ops0 ?_
      refine At.thenN ?_
      exact fun act_ hact_ => ⟨(j + 1), hact_.sub (Sub.cons rfl (Sub.cons rfl (Sub.cons rfl (Sub.cons rfl (Sub.cons rfl (Sub.cons rfl (Sub.cons rfl Sub.nil))))))), ⟨hB, hb1, (by omega), (next_no hn2 hx2 (show opNo x2 = false by first | (simp only [opNo, ← nms_one, hg1, hc4, Bool.true_or, Bool.or_true, Bool.false_or, Bool.or_false, Bool.true_and, Bool.and_true, Bool.false_and, Bool.and_false, Bool.not_true, Bool.not_false, cond_true, cond_false]; done) | (simp [opNo, ← nms_one, hg1, hc4]; done)))⟩, by first | omega | (dsimp only; omega)⟩
   ·skip
    have hc3' := of_decide_eq_false hc3
    refine At.exit ?_
    refine At.thenE ?_
    refine At.thenE ?_
    refine At.inE ?_
    refine At.inN ?_
    refine At.thenN ?_
    refine At.region ?_
    refine At.addI rfl rfl rfl (by omega) ?_
    refine At.move rfl rfl ?_
    refine At.ops0 ?_
    refine At.thenN ?_
    exact fun act_ hact_ => ⟨(k + 1), hact_.sub (Sub.cons rfl (Sub.cons rfl (Sub.cons rfl (Sub.cons rfl Sub.nil)))), ⟨hB, hb1, (by omega), (next_no hn hx1 (show effNo x1 = false by first | (simp only [effNo, ← nms_one, hc2, any_no (by omega) hn2, Bool.true_or, Bool.or_true, Bool.false_or, Bool.or_false, Bool.true_and, Bool.and_true, Bool.false_and, Bool.and_false, Bool.not_true, Bool.not_false, cond_true, cond_false]; done) | (simp [effNo, ← nms_one, hc2, any_no (by omega) hn2]; done)))⟩, by first | omega | (dsimp only; omega)⟩
 ·skip
  have hc1' := of_decide_eq_false hc1
  refine At.exit ?_
  refine At.thenE ?_
  refine At.thenE ?_
  refine At.inE ?_
  refine At.thenN ?_
  refine At.seq ?_
  refine At.seq ?_
  refine At.region ?_
  refine At.fieldAddr rfl fo35_1 rfl ?_
  refine At.load rfl (Ld.ownCell ag23 hb1 (hp).c1) rfl ?_
  refine At.lenSl rfl ((hp).datsAt).okL el23 rfl ?_
  refine At.move rfl rfl ?_
  refine At.ops0 ?_
  refine At.thenN ?_
  refine At.block ?_
  refine At.loop (Nat) (fun q => [(1, .pointer (some ⟨b1, 0, none⟩)), (47, p.dv), (48, .int .i64 (p.dats.length : Int)), (49, .int .i64 (q : Int))]) (fun q w14 => Below w.heap.size w w14 ∧ w14.heap[b1]? = some (.cells p.cs 35) ∧ (q ≤ p.dats.length) ∧ (∀ i x, i < q → p.dats[i]? = some x → datNo x = false)) (fun q => p.dats.length - q) (0 : Nat) (Sub.cons rfl (Sub.cons rfl (Sub.cons rfl (Sub.cons rfl Sub.nil)))) ⟨hB, hb1, (Nat.zero_le _), (fun j x hj => absurd hj (Nat.not_lt_zero j))⟩ (fun q w14 hI => ?_)
  clear hB hb1
  obtain ⟨hB, hb1, hk3, hn3⟩ := hI
  show At _ _ [(1, .pointer (some ⟨b1, 0, none⟩)), (47, p.dv), (48, .int .i64 (p.dats.length : Int)), (49, .int .i64 (q : Int))] _ _
  have hlp := hp.effsAt.lenL; have hlq := hp.datsAt.lenL
  refine At.seq ?_
  refine At.region ?_
  refine At.lss rfl rfl rfl ?_
  refine At.ops0 ?_
  refine At.thenN ?_
  refine At.seq ?_
  refine At.cond (b := decide ((q : Int) < (p.dats.length : Int))) rfl (fun hc5 => ?_) (fun hc5 => ?_)
  ·skip
   have hc5' := of_decide_eq_true hc5
   refine At.skip ?_
   refine At.thenN ?_
   refine At.seq ?_
   refine At.block ?_
   refine At.seq ?_
   obtain ⟨y1, hy1⟩ := some_of_lt (l := p.dats) (i := q) (by omega)
   obtain ⟨hz1, hz2⟩ := hz.dats y1 (List.mem_of_getElem? hy1); have hl1 := (hp.datOk y1 (List.mem_of_getElem? hy1)).consAt.lenL
   refine At.region ?_
   refine At.indexAddr (i := q) rfl rfl ((hp).datsAt).okL (lt_of_some hy1) el23 sz61 rfl ?_
   refine At.load rfl (Ld.row ag61 (sz61.trans (congrArg some (((hp).dat hy1)).size.symm)) ((((hp).datsAt).row hy1).keep hB)) rfl ?_
   refine At.alloc ze61 rfl (fun b7 w15 F7 => ?_)
   have n_b1_b7 : b1 ≠ b7 := Nat.ne_of_lt (F7.lt hb1)
   have gb7 := F7.ge hB
   replace hb1 := F7.old hb1
   have hb7 : w15.heap[b7]? = some (.cells #[.string (⟨#[]⟩ : ByteArray), (.slice none 0 0)] 61) := F7.new
   replace hB := F7.below' hB
   refine At.storeAll rfl rfl hb7 (sz61.trans (congrArg some (((hp).dat hy1)).size.symm)) (((hp).dat hy1)).size.symm (((hp).dat hy1)).one (fun w16 S3 => ?_)
   replace hb1 := S3.other hb1 n_b1_b7
   replace hb7 : w16.heap[b7]? = some (.cells y1.cs 61) := S3.new
   replace hB := S3.below' hB gb7
   refine At.ops0 ?_
   refine At.thenN ?_
   refine At.seq ?_
   refine At.seq ?_
   refine At.region ?_
   refine At.fieldAddr rfl fo61_0 rfl ?_
   refine At.load rfl (Ld.ownCell ag9 hb7 (((hp).dat hy1)).c0) rfl ?_
   refine At.buildSlice (xs := [.tmp 54]) rfl rfl el27 sz9 ze9 (by intro v hv; simp only [List.mem_cons, List.not_mem_nil, or_false] at hv; rcases hv with rfl <;> first | rfl | simp [Value.cells, Value.cells]) rfl (by decide) rfl (fun b8 w17 F8 => ?_)
   have n_b1_b8 : b1 ≠ b8 := Nat.ne_of_lt (F8.lt hb1)
   have n_b7_b8 : b7 ≠ b8 := Nat.ne_of_lt (F8.lt hb7)
   have gb8 := F8.ge hB
   replace hb1 := F8.old hb1
   replace hb7 := F8.old hb7
   have hb8 : w17.heap[b8]? = some (.cells #[.string y1.nm] 9) := F8.new
   replace hB := F8.below' hB
   refine At.call en27 rfl rfl (named_any 3 (.slice (some ⟨b8, 0, none⟩) 1 1) ([y1.nm]) m _ (StrsAt.own (ss := [y1.nm]) hb8 rfl (by decide) : StrsAt _ (.slice (some ⟨b8, 0, none⟩) 1 1) [y1.nm]) (by simp) ((fun s hs => by rw [List.mem_singleton] at hs; subst hs; first | assumption | omega)) (cell_keep hm hB)) (fun e w18 hR => ?_)
   obtain ⟨rfl, hbl4⟩ := hR
   refine ⟨_, rfl, ?_⟩
   replace hb1 := Below.old hbl4 hb1
   replace hb7 := Below.old hbl4 hb7
   replace hb8 := Below.old hbl4 hb8
   replace hB := Below.andThen hB hbl4
   refine At.not rfl rfl ?_
   refine At.ops0 ?_
   refine At.thenN ?_
   refine At.cond (b := (!(nmsB 3 ([y1.nm])))) rfl (fun hc6 => ?_) (fun hc6 => ?_)
   ·skip
    refine At.seq ?_
    refine At.region ?_
    refine At.assign rfl rfl ?_
    refine At.ops0 ?_
    refine At.thenN ?_
    refine At.retc ?_
    refine At.thenR ?_
    refine At.inR ?_
    refine At.thenR ?_
    refine At.thenR ?_
    refine At.inR ?_
    refine At.thenR ?_
    refine At.doneR (ResV.tmp rfl ResV.nil) ?_
    have he : p.effs.any effNo = false := any_no (by omega) hn
    have hd : p.dats.any datNo = true := any_yes hy1 (show datNo y1 = true by first | (simp only [datNo, ← nms_one, hc6, Bool.true_or, Bool.or_true, Bool.false_or, Bool.or_false, Bool.true_and, Bool.and_true, Bool.false_and, Bool.and_false, Bool.not_true, Bool.not_false, cond_true, cond_false]; done) | (simp [datNo, ← nms_one, hc6]; done))
    exact ⟨congrArg Ending.returned (congrArg Value.bool (by simp only [RightB, he, hd, Bool.not_true, Bool.false_and, Bool.and_false])), hB⟩
   ·skip
    refine At.skip ?_
    refine At.thenN ?_
    refine At.seq ?_
    refine At.region ?_
    refine At.fieldAddr rfl fo61_1 rfl ?_
    refine At.load rfl (Ld.ownCell ag59 hb7 (((hp).dat hy1)).c1) rfl ?_
    refine At.lenSl rfl ((((hp).dat hy1)).consAt).okL el59 rfl ?_
    refine At.move rfl rfl ?_
    refine At.ops0 ?_
    refine At.thenN ?_
    refine At.block ?_
    refine At.loop (Nat) (fun n4 => [(1, .pointer (some ⟨b1, 0, none⟩)), (47, p.dv), (48, .int .i64 (p.dats.length : Int)), (49, .int .i64 (q : Int)), (59, y1.cv), (60, .int .i64 (y1.cons.length : Int)), (61, .int .i64 (n4 : Int))]) (fun n4 w19 => Below w.heap.size w w19 ∧ w19.heap[b1]? = some (.cells p.cs 35) ∧ (n4 ≤ y1.cons.length) ∧ (∀ i x, i < n4 → y1.cons[i]? = some x → cnNo x = false)) (fun n4 => y1.cons.length - n4) (0 : Nat) (Sub.cons rfl (Sub.cons rfl (Sub.cons rfl (Sub.cons rfl (Sub.cons rfl (Sub.cons rfl (Sub.cons rfl Sub.nil))))))) ⟨hB, hb1, (Nat.zero_le _), (fun j x hj => absurd hj (Nat.not_lt_zero j))⟩ (fun n4 w19 hI => ?_)
    clear hB hb1 hb7 hb8
    obtain ⟨hB, hb1, hk4, hn4⟩ := hI
    show At _ _ [(1, .pointer (some ⟨b1, 0, none⟩)), (47, p.dv), (48, .int .i64 (p.dats.length : Int)), (49, .int .i64 (q : Int)), (59, y1.cv), (60, .int .i64 (y1.cons.length : Int)), (61, .int .i64 (n4 : Int))] _ _
    have hlp := hp.effsAt.lenL; have hlq := hp.datsAt.lenL
    refine At.seq ?_
    refine At.region ?_
    refine At.lss rfl rfl rfl ?_
    refine At.ops0 ?_
    refine At.thenN ?_
    refine At.seq ?_
    refine At.cond (b := decide ((n4 : Int) < (y1.cons.length : Int))) rfl (fun hc7 => ?_) (fun hc7 => ?_)
    ·skip
     have hc7' := of_decide_eq_true hc7
     refine At.skip ?_
     refine At.thenN ?_
     refine At.seq ?_
     refine At.block ?_
     refine At.seq ?_
     obtain ⟨y2, hy2⟩ := some_of_lt (l := y1.cons) (i := n4) (by omega)
     obtain ⟨hz3, hz4⟩ := hz2 y2 (List.mem_of_getElem? hy2); have hl2 := ((hp.datOk y1 (List.mem_of_getElem? hy1)).conOk y2 (List.mem_of_getElem? hy2)).fieldsAt.lenL
     refine At.region ?_
     refine At.indexAddr (i := n4) rfl rfl ((((hp).dat hy1)).consAt).okL (lt_of_some hy2) el59 sz63 rfl ?_
     refine At.load rfl (Ld.row ag63 (sz63.trans (congrArg some (((((hp).dat hy1)).con hy2)).size.symm)) ((((((hp).dat hy1)).consAt).row hy2).keep hB)) rfl ?_
     refine At.alloc ze63 rfl (fun b9 w20 F9 => ?_)
     have n_b1_b9 : b1 ≠ b9 := Nat.ne_of_lt (F9.lt hb1)
     have gb9 := F9.ge hB
     replace hb1 := F9.old hb1
     have hb9 : w20.heap[b9]? = some (.cells #[.string (⟨#[]⟩ : ByteArray), (.slice none 0 0)] 63) := F9.new
     replace hB := F9.below' hB
     refine At.storeAll rfl rfl hb9 (sz63.trans (congrArg some (((((hp).dat hy1)).con hy2)).size.symm)) (((((hp).dat hy1)).con hy2)).size.symm (((((hp).dat hy1)).con hy2)).one (fun w21 S4 => ?_)
     replace hb1 := S4.other hb1 n_b1_b9
     replace hb9 : w21.heap[b9]? = some (.cells y2.cs 63) := S4.new
     replace hB := S4.below' hB gb9
     refine At.ops0 ?_
     refine At.thenN ?_
     refine At.seq ?_
     refine At.region ?_
     refine At.fieldAddr rfl fo63_0 rfl ?_
     refine At.load rfl (Ld.ownCell ag9 hb9 (((((hp).dat hy1)).con hy2)).c0) rfl ?_
     refine At.buildSlice (xs := [.tmp 66]) rfl rfl el27 sz9 ze9 (by intro v hv; simp only [List.mem_cons, List.not_mem_nil, or_false] at hv; rcases hv with rfl <;> first | rfl | simp [Value.cells, Value.cells]) rfl (by decide) rfl (fun b10 w22 F10 => ?_)
     have n_b1_b10 : b1 ≠ b10 := Nat.ne_of_lt (F10.lt hb1)
     have n_b9_b10 : b9 ≠ b10 := Nat.ne_of_lt (F10.lt hb9)
     have gb10 := F10.ge hB
     replace hb1 := F10.old hb1
     replace hb9 := F10.old hb9
     have hb10 : w22.heap[b10]? = some (.cells #[.string y2.nm] 9) := F10.new
     replace hB := F10.below' hB
     refine At.call en27 rfl rfl (named_any 3 (.slice (some ⟨b10, 0, none⟩) 1 1) ([y2.nm]) m _ (StrsAt.own (ss := [y2.nm]) hb10 rfl (by decide) : StrsAt _ (.slice (some ⟨b10, 0, none⟩) 1 1) [y2.nm]) (by simp) ((fun s hs => by rw [List.mem_singleton] at hs; subst hs; first | assumption | omega)) (cell_keep hm hB)) (fun e w23 hR => ?_)
     obtain ⟨rfl, hbl5⟩ := hR
     refine ⟨_, rfl, ?_⟩
     replace hb1 := Below.old hbl5 hb1
     replace hb9 := Below.old hbl5 hb9
     replace hb10 := Below.old hbl5 hb10
     replace hB := Below.andThen hB hbl5
     refine At.not rfl rfl ?_
     refine At.move rfl rfl ?_
     refine At.cases ((!(nmsB 3 ([y2.nm])))) (fun hg2 => ?_) (fun hg2 => ?_)
     ·skip
      refine At.set (d := 70) (u := .bool true) rfl (congrArg Value.bool hg2) ?_
      refine At.no rfl rfl rfl rfl rfl rfl rfl ?_
      refine At.no rfl rfl rfl rfl rfl rfl rfl ?_
      refine At.no rfl rfl rfl rfl rfl rfl rfl ?_
      refine At.no rfl rfl rfl rfl rfl rfl rfl ?_
      refine At.pickT rfl rfl rfl ?_
      refine At.ops0 ?_
      refine At.thenN ?_
      refine At.condT rfl ?_
      refine At.seq ?_
      refine At.region ?_
      refine At.assign rfl rfl ?_
      refine At.ops0 ?_
      refine At.thenN ?_
      refine At.retc ?_
      refine At.inR ?_
      refine At.thenR ?_
      refine At.thenR ?_
      refine At.inR ?_
      refine At.inR ?_
      refine At.thenR ?_
      refine At.thenR ?_
      refine At.inR ?_
      refine At.thenR ?_
      refine At.doneR (ResV.tmp rfl ResV.nil) ?_
      have he : p.effs.any effNo = false := any_no (by omega) hn
      have hd : p.dats.any datNo = true := any_yes hy1 (show datNo y1 = true by first | (simp only [datNo, ← nms_one, hc6, any_yes hy2 (show cnNo y2 = true by first | (simp only [cnNo, ← nms_one, hg2, Bool.true_or, Bool.or_true, Bool.false_or, Bool.or_false, Bool.true_and, Bool.and_true, Bool.false_and, Bool.and_false, Bool.not_true, Bool.not_false, cond_true, cond_false]; done) | (simp [cnNo, ← nms_one, hg2]; done)), Bool.true_or, Bool.or_true, Bool.false_or, Bool.or_false, Bool.true_and, Bool.and_true, Bool.false_and, Bool.and_false, Bool.not_true, Bool.not_false, cond_true, cond_false]; done) | (simp [datNo, ← nms_one, hc6, any_yes hy2 (show cnNo y2 = true by first | (simp only [cnNo, ← nms_one, hg2, Bool.true_or, Bool.or_true, Bool.false_or, Bool.or_false, Bool.true_and, Bool.and_true, Bool.false_and, Bool.and_false, Bool.not_true, Bool.not_false, cond_true, cond_false]; done) | (simp [cnNo, ← nms_one, hg2]; done))]; done))
      exact ⟨congrArg Ending.returned (congrArg Value.bool (by simp only [RightB, he, hd, Bool.not_true, Bool.false_and, Bool.and_false])), hB⟩
     ·skip
      refine At.set (d := 70) (u := .bool false) rfl (congrArg Value.bool hg2) ?_
      refine At.yes rfl rfl rfl rfl ?_
      refine At.fieldAddr rfl fo63_1 rfl ?_
      refine At.yes rfl rfl rfl rfl ?_
      refine At.load rfl (Ld.ownCell ag26 hb9 (((((hp).dat hy1)).con hy2)).c1) rfl ?_
      refine At.yes rfl rfl rfl rfl ?_
      refine At.call en28 rfl rfl (typed_any y2.fv y2.fields m _ (((((((hp).dat hy1)).con hy2)).fieldsAt).keep hB) ((((((hp).dat hy1)).con hy2)).fieldOk) (hl2) (hz4) (cell_keep hm hB)) (fun e w24 hR => ?_)
      obtain ⟨rfl, hbl6⟩ := hR
      refine ⟨_, rfl, ?_⟩
      replace hb1 := Below.old hbl6 hb1
      replace hb9 := Below.old hbl6 hb9
      replace hb10 := Below.old hbl6 hb10
      replace hB := Below.andThen hB hbl6
      refine At.yes rfl rfl rfl rfl ?_
      refine At.not rfl rfl ?_
      refine At.pickF rfl rfl rfl ?_
      refine At.ops0 ?_
      refine At.thenN ?_
      refine At.cond (b := (!(tysB y2.fields))) rfl (fun hc8 => ?_) (fun hc8 => ?_)
      ·skip
       refine At.seq ?_
       refine At.region ?_
       refine At.assign rfl rfl ?_
       refine At.ops0 ?_
       refine At.thenN ?_
       refine At.retc ?_
       refine At.inR ?_
       refine At.thenR ?_
       refine At.thenR ?_
       refine At.inR ?_
       refine At.inR ?_
       refine At.thenR ?_
       refine At.thenR ?_
       refine At.inR ?_
       refine At.thenR ?_
       refine At.doneR (ResV.tmp rfl ResV.nil) ?_
       have he : p.effs.any effNo = false := any_no (by omega) hn
       have hd : p.dats.any datNo = true := any_yes hy1 (show datNo y1 = true by first | (simp only [datNo, ← nms_one, hc6, any_yes hy2 (show cnNo y2 = true by first | (simp only [cnNo, ← nms_one, hg2, hc8, Bool.true_or, Bool.or_true, Bool.false_or, Bool.or_false, Bool.true_and, Bool.and_true, Bool.false_and, Bool.and_false, Bool.not_true, Bool.not_false, cond_true, cond_false]; done) | (simp [cnNo, ← nms_one, hg2, hc8]; done)), Bool.true_or, Bool.or_true, Bool.false_or, Bool.or_false, Bool.true_and, Bool.and_true, Bool.false_and, Bool.and_false, Bool.not_true, Bool.not_false, cond_true, cond_false]; done) | (simp [datNo, ← nms_one, hc6, any_yes hy2 (show cnNo y2 = true by first | (simp only [cnNo, ← nms_one, hg2, hc8, Bool.true_or, Bool.or_true, Bool.false_or, Bool.or_false, Bool.true_and, Bool.and_true, Bool.false_and, Bool.and_false, Bool.not_true, Bool.not_false, cond_true, cond_false]; done) | (simp [cnNo, ← nms_one, hg2, hc8]; done))]; done))
       exact ⟨congrArg Ending.returned (congrArg Value.bool (by simp only [RightB, he, hd, Bool.not_true, Bool.false_and, Bool.and_false])), hB⟩
      ·skip
       refine At.skip ?_
       refine At.inN ?_
       refine At.thenN ?_
       refine At.region ?_
       refine At.addI rfl rfl rfl (by omega) ?_
       refine At.move rfl rfl ?_
       refine At.ops0 ?_
       refine At.thenN ?_
       exact fun act_ hact_ => ⟨(n4 + 1), hact_.sub (Sub.cons rfl (Sub.cons rfl (Sub.cons rfl (Sub.cons rfl (Sub.cons rfl (Sub.cons rfl (Sub.cons rfl Sub.nil))))))), ⟨hB, hb1, (by omega), (next_no hn4 hy2 (show cnNo y2 = false by first | (simp only [cnNo, ← nms_one, hg2, hc8, Bool.true_or, Bool.or_true, Bool.false_or, Bool.or_false, Bool.true_and, Bool.and_true, Bool.false_and, Bool.and_false, Bool.not_true, Bool.not_false, cond_true, cond_false]; done) | (simp [cnNo, ← nms_one, hg2, hc8]; done)))⟩, by first | omega | (dsimp only; omega)⟩
    ·skip
     have hc7' := of_decide_eq_false hc7
     refine At.exit ?_
     refine At.thenE ?_
     refine At.thenE ?_
     refine At.inE ?_
     refine At.inN ?_
     refine At.thenN ?_
     refine At.region ?_
     refine At.addI rfl rfl rfl (by omega) ?_
     refine At.move rfl rfl ?_
     refine At.ops0 ?_
     refine At.thenN ?_
     exact fun act_ hact_ => ⟨(q + 1), hact_.sub (Sub.cons rfl (Sub.cons rfl (Sub.cons rfl (Sub.cons rfl Sub.nil)))), ⟨hB, hb1, (by omega), (next_no hn3 hy1 (show datNo y1 = false by first | (simp only [datNo, ← nms_one, hc6, any_no (by omega) hn4, Bool.true_or, Bool.or_true, Bool.false_or, Bool.or_false, Bool.true_and, Bool.and_true, Bool.false_and, Bool.and_false, Bool.not_true, Bool.not_false, cond_true, cond_false]; done) | (simp [datNo, ← nms_one, hc6, any_no (by omega) hn4]; done)))⟩, by first | omega | (dsimp only; omega)⟩
  ·skip
   have hc5' := of_decide_eq_false hc5
   refine At.exit ?_
   refine At.thenE ?_
   refine At.thenE ?_
   refine At.inE ?_
   refine At.thenN ?_
   refine At.seq ?_
   refine At.region ?_
   refine At.fieldAddr rfl fo35_2 rfl ?_
   refine At.load rfl (Ld.ownPart ag33 (sz33.trans (congrArg some ((hp).bodyOk).size.symm)) hb1 (hp).bodyCs) rfl ?_
   refine At.call en29 rfl rfl (written_any p.body m _ (((hp).bodyOk).keep hB) hz.body (cell_keep hm hB)) (fun e w25 hR => ?_)
   obtain ⟨rfl, hbl7⟩ := hR
   refine ⟨_, rfl, ?_⟩
   replace hb1 := Below.old hbl7 hb1
   replace hB := Below.andThen hB hbl7
   refine At.assign rfl rfl ?_
   refine At.ops0 ?_
   refine At.thenN ?_
   refine At.retc ?_
   refine At.doneR (ResV.tmp rfl ResV.nil) ?_
   have he : p.effs.any effNo = false := any_no (by omega) hn
   have hd : p.dats.any datNo = false := any_no (by omega) hn3
   exact ⟨congrArg Ending.returned (congrArg Value.bool (by simp only [RightB, he, hd, Bool.not_false, Bool.true_and])), hB⟩
theorem typ_any (t : Ty) (w : World) (ht : TyOk t) (hr : t.k ≠ 4 → 1 ≤ t.k ∧ t.k ≤ 3) :
  Calls Tryz.prog 23 ([.agg t.cs] : List Value).toArray w fun e w' => e = .returned (.string (typW t)) ∧ Below w.heap.size w w' := by
 have hB := Below.refl w.heap.size w
 refine At.enter (N := 14) Tryz.func23 rfl rfl (by simp) [(0, .agg t.cs)] (by simp) ?_
 refine At.seq ?_
 refine At.region ?_
 refine At.box rfl rfl (fun b1 w1 F1 => ?_)
 have gb1 := F1.ge hB
 have hb1 : w1.heap[b1]? = some (.cells t.cs 31) := F1.new
 replace hB := F1.below' hB
 refine At.assign rfl rfl ?_
 refine At.ops0 ?_
 refine At.thenN ?_
 refine At.seq ?_
 refine At.seq ?_
 refine At.region ?_
 refine At.fieldAddr rfl fo31_0 rfl ?_
 refine At.load rfl (Ld.ownCell ag3 hb1 (ht).c0) rfl ?_
 refine At.eqI rfl rfl rfl ?_
 refine At.ops0 ?_
 refine At.thenN ?_
 refine At.cond (b := decide (t.k = 4)) rfl (fun hc1 => ?_) (fun hc1 => ?_)
 ·skip
  have hc1' := of_decide_eq_true hc1
  refine At.seq ?_
  refine At.region ?_
  refine At.fieldAddr rfl fo31_1 rfl ?_
  refine At.load rfl (Ld.ownCell ag9 hb1 (ht).c1) rfl ?_
  refine At.assign rfl rfl ?_
  refine At.ops0 ?_
  refine At.thenN ?_
  refine At.retc ?_
  refine At.thenR ?_
  refine At.doneR (ResV.tmp rfl ResV.nil) ?_
  exact ⟨congrArg Ending.returned (congrArg Value.string (by unfold typW; rw [if_pos hc1'])), hB⟩
 ·skip
  have hc1' := of_decide_eq_false hc1
  refine At.skip ?_
  refine At.thenN ?_
  refine At.seq ?_
  obtain ⟨kn, hkn, hkl⟩ : ∃ kn : Nat, t.k - 1 = (kn : Int) ∧ kn < 3 := ⟨(t.k - 1).toNat, by have := hr (by simpa using hc1); omega, by have := hr (by simpa using hc1); omega⟩
  refine At.region ?_
  refine At.buildSlice (xs := [.const (.string (⟨#[105, 110, 116]⟩ : ByteArray)), .const (.string (⟨#[98, 111, 111, 108]⟩ : ByteArray)), .const (.string (⟨#[117, 110, 105, 116]⟩ : ByteArray))]) rfl rfl el27 sz9 ze9 (by intro v hv; simp only [List.mem_cons, List.not_mem_nil, or_false] at hv; rcases hv with rfl | rfl | rfl <;> first | rfl | simp [Value.cells, Value.cells]) rfl (by decide) rfl (fun b2 w2 F2 => ?_)
  have n_b1_b2 : b1 ≠ b2 := Nat.ne_of_lt (F2.lt hb1)
  have gb2 := F2.ge hB
  replace hb1 := F2.old hb1
  have hb2 : w2.heap[b2]? = some (.cells #[.string (⟨#[105, 110, 116]⟩ : ByteArray), .string (⟨#[98, 111, 111, 108]⟩ : ByteArray), .string (⟨#[117, 110, 105, 116]⟩ : ByteArray)] 9) := F2.new
  replace hB := F2.below' hB
  refine At.fieldAddr rfl fo31_0 rfl ?_
  refine At.load rfl (Ld.ownCell ag3 hb1 (ht).c0) rfl ?_
  refine At.subI rfl rfl rfl (by first | omega | (simp; omega)) ?_
  refine At.set (d := 11) (u := .int .i64 (kn : Int)) rfl (congrArg (Value.int .i64) hkn) ?_
  obtain ⟨u1, hu1⟩ := some_of_lt (l := [(⟨#[105, 110, 116]⟩ : ByteArray), (⟨#[98, 111, 111, 108]⟩ : ByteArray), (⟨#[117, 110, 105, 116]⟩ : ByteArray)]) (i := kn) (by first | omega | (simp; omega))
  refine At.indexAddr (i := kn) rfl rfl ((StrsAt.own (ss := [(⟨#[105, 110, 116]⟩ : ByteArray), (⟨#[98, 111, 111, 108]⟩ : ByteArray), (⟨#[117, 110, 105, 116]⟩ : ByteArray)]) hb2 rfl (by decide) : StrsAt _ (.slice (some ⟨b2, 0, none⟩) 3 3) [(⟨#[105, 110, 116]⟩ : ByteArray), (⟨#[98, 111, 111, 108]⟩ : ByteArray), (⟨#[117, 110, 105, 116]⟩ : ByteArray)])).ok (lt_of_some hu1) el27 sz9 rfl ?_
  refine At.load rfl (Ld.cell ag9 (cell_keep (((StrsAt.own (ss := [(⟨#[105, 110, 116]⟩ : ByteArray), (⟨#[98, 111, 111, 108]⟩ : ByteArray), (⟨#[117, 110, 105, 116]⟩ : ByteArray)]) hb2 rfl (by decide) : StrsAt _ (.slice (some ⟨b2, 0, none⟩) 3 3) [(⟨#[105, 110, 116]⟩ : ByteArray), (⟨#[98, 111, 111, 108]⟩ : ByteArray), (⟨#[117, 110, 105, 116]⟩ : ByteArray)])).get hu1) (Below.refl _ _))) rfl ?_
  refine At.assign rfl rfl ?_
  refine At.ops0 ?_
  refine At.thenN ?_
  refine At.retc ?_
  refine At.doneR (ResV.tmp rfl ResV.nil) ?_
  exact ⟨congrArg Ending.returned (congrArg Value.string (by unfold typW; rw [if_neg hc1', hkn, Int.toNat_natCast, List.getD_eq_getElem?_getD, hu1]; rfl)), hB⟩
theorem count_step (t : Tm) (w : World) (ht : TmOk w t)
  (ih : ∀ (u : Tm), wtT u < wtT t → ∀ (w : World), TmOk w u → Calls Tryz.prog 19 ([.agg u.cs] : List Value).toArray w fun e w' => ∃ n : Nat, e = .returned (.int .i64 (n : Int)) ∧ Below w.heap.size w w' ∧ 1 ≤ n ∧ n ≤ 2001) :
  Calls Tryz.prog 19 ([.agg t.cs] : List Value).toArray w fun e w' => ∃ n : Nat, e = .returned (.int .i64 (n : Int)) ∧ Below w.heap.size w w' ∧ 1 ≤ n ∧ n ≤ 2001 := by
 have hB := Below.refl w.heap.size w
 refine At.enter (N := 56) Tryz.func19 rfl rfl (by simp) [(0, .agg t.cs)] (by simp) ?_
 refine At.seq ?_
 refine At.region ?_
 refine At.box rfl rfl (fun b1 w1 F1 => ?_)
 have gb1 := F1.ge hB
 have hb1 : w1.heap[b1]? = some (.cells t.cs 33) := F1.new
 replace hB := F1.below' hB
 refine At.assign rfl rfl ?_
 refine At.ops0 ?_
 refine At.thenN ?_
 refine At.seq ?_
 refine At.region ?_
 refine At.assign rfl rfl ?_
 refine At.ops0 ?_
 refine At.thenN ?_
 refine At.seq ?_
 refine At.seq ?_
 refine At.region ?_
 refine At.assign rfl rfl ?_
 refine At.ops0 ?_
 refine At.thenN ?_
 refine At.block ?_
 refine At.loop (Nat × Nat) (fun (k, n) => [(1, .pointer (some ⟨b1, 0, none⟩)), (3, .int .i64 (n : Int)), (4, .int .i64 (k : Int))]) (fun (k, n) w2 => Below w.heap.size w w2 ∧ w2.heap[b1]? = some (.cells t.cs 33) ∧ (k ≤ t.kids.length) ∧ (1 ≤ n) ∧ (n ≤ 6002)) (fun (k, n) => t.kids.length - k) (0, 1) (Sub.cons rfl (Sub.cons rfl (Sub.cons rfl Sub.nil))) ⟨hB, hb1, (Nat.zero_le _), (by omega), (by omega)⟩ (fun gh w2 hI => ?_)
 obtain ⟨k, n⟩ := gh
 clear hB hb1
 obtain ⟨hB, hb1, hkb, hn1, hn2⟩ := hI
 show At _ _ [(1, .pointer (some ⟨b1, 0, none⟩)), (3, .int .i64 (n : Int)), (4, .int .i64 (k : Int))] _ _
 have hkl := ht.kidsAt.lenL
 refine At.seq ?_
 refine At.seq ?_
 refine At.region ?_
 refine At.move rfl rfl ?_
 refine At.fieldAddr rfl fo33_5 rfl ?_
 refine At.load rfl (Ld.ownCell ag24 hb1 (ht).c5) rfl ?_
 refine At.lenSl rfl ((ht).kidsAt).okL el24 rfl ?_
 refine At.lss rfl rfl rfl ?_
 refine At.move rfl rfl ?_
 refine At.cases (decide ((k : Int) < (t.kids.length : Int))) (fun hg1 => ?_) (fun hg1 => ?_)
 ·skip
  refine At.set (d := 11) (u := .bool true) rfl (congrArg Value.bool hg1) ?_
  have hg1' := of_decide_eq_true hg1
  refine At.yes rfl rfl rfl rfl ?_
  refine At.move rfl rfl ?_
  refine At.yes rfl rfl rfl rfl ?_
  refine At.leq rfl rfl rfl ?_
  refine At.pickT rfl rfl rfl ?_
  refine At.ops0 ?_
  refine At.thenN ?_
  refine At.cond (b := decide ((n : Int) ≤ 2000)) rfl (fun hc1 => ?_) (fun hc1 => ?_)
  ·skip
   have hc1' := of_decide_eq_true hc1
   refine At.skip ?_
   refine At.thenN ?_
   refine At.seq ?_
   refine At.block ?_
   obtain ⟨u1, hu1⟩ := some_of_lt (l := t.kids) (i := k) (by omega)
   refine At.region ?_
   refine At.move rfl rfl ?_
   refine At.fieldAddr rfl fo33_5 rfl ?_
   refine At.load rfl (Ld.ownCell ag24 hb1 (ht).c5) rfl ?_
   refine At.move rfl rfl ?_
   refine At.indexAddr (i := k) rfl rfl ((ht).kidsAt).okL (lt_of_some hu1) el24 sz33 rfl ?_
   refine At.load rfl (Ld.row ag33 (sz33.trans (congrArg some (((ht).kid hu1)).size.symm)) ((((ht).kidsAt).row hu1).keep hB)) rfl ?_
   refine At.call en19 rfl rfl (ih u1 (by have := wt_kid (List.mem_of_getElem? hu1); omega) _ ((((ht).kid hu1)).keep hB)) (fun e w3 hR => ?_)
   obtain ⟨nc1, rfl, hbl1, hna1, hnb1⟩ := hR
   refine ⟨_, rfl, ?_⟩
   replace hb1 := Below.old hbl1 hb1
   replace hB := Below.andThen hB hbl1
   refine At.addI rfl rfl rfl (by omega) ?_
   refine At.assign rfl rfl ?_
   refine At.ops0 ?_
   refine At.inN ?_
   refine At.thenN ?_
   refine At.region ?_
   refine At.move rfl rfl ?_
   refine At.addI rfl rfl rfl (by omega) ?_
   refine At.assign rfl rfl ?_
   refine At.ops0 ?_
   refine At.thenN ?_
   exact fun act_ hact_ => ⟨((k + 1), (n + nc1)), hact_.sub (Sub.cons rfl (Sub.cons rfl (Sub.cons rfl Sub.nil))), ⟨hB, hb1, (by omega), (by omega), (by omega)⟩, by first | omega | (dsimp only; omega)⟩
  ·skip
   have hc1' := of_decide_eq_false hc1
   refine At.exit ?_
   refine At.thenE ?_
   refine At.thenE ?_
   refine At.inE ?_
   refine At.thenN ?_
   refine At.seq ?_
   refine At.seq ?_
   refine At.region ?_
   refine At.assign rfl rfl ?_
   refine At.ops0 ?_
   refine At.thenN ?_
   refine At.block ?_
   refine At.loop (Nat × Nat) (fun (j, q) => [(1, .pointer (some ⟨b1, 0, none⟩)), (3, .int .i64 (q : Int)), (5, .int .i64 (j : Int))]) (fun (j, q) w4 => Below w.heap.size w w4 ∧ w4.heap[b1]? = some (.cells t.cs 33) ∧ (j ≤ t.arms.length) ∧ (1 ≤ q) ∧ (q ≤ 6002)) (fun (j, q) => t.arms.length - j) (0, n) (Sub.cons rfl (Sub.cons rfl (Sub.cons rfl Sub.nil))) ⟨hB, hb1, (Nat.zero_le _), (by omega), (by omega)⟩ (fun gh w4 hI => ?_)
   obtain ⟨j, q⟩ := gh
   clear hB hb1
   obtain ⟨hB, hb1, hjb, hq1, hq2⟩ := hI
   show At _ _ [(1, .pointer (some ⟨b1, 0, none⟩)), (3, .int .i64 (q : Int)), (5, .int .i64 (j : Int))] _ _
   have hal := ht.armsAt.lenL
   refine At.seq ?_
   refine At.seq ?_
   refine At.region ?_
   refine At.move rfl rfl ?_
   refine At.fieldAddr rfl fo33_6 rfl ?_
   refine At.load rfl (Ld.ownCell ag25 hb1 (ht).c6) rfl ?_
   refine At.lenSl rfl ((ht).armsAt).okL el25 rfl ?_
   refine At.lss rfl rfl rfl ?_
   refine At.move rfl rfl ?_
   refine At.cases (decide ((j : Int) < (t.arms.length : Int))) (fun hg2 => ?_) (fun hg2 => ?_)
   ·skip
    refine At.set (d := 30) (u := .bool true) rfl (congrArg Value.bool hg2) ?_
    have hg2' := of_decide_eq_true hg2
    refine At.yes rfl rfl rfl rfl ?_
    refine At.move rfl rfl ?_
    refine At.yes rfl rfl rfl rfl ?_
    refine At.leq rfl rfl rfl ?_
    refine At.pickT rfl rfl rfl ?_
    refine At.ops0 ?_
    refine At.thenN ?_
    refine At.cond (b := decide ((q : Int) ≤ 2000)) rfl (fun hc2 => ?_) (fun hc2 => ?_)
    ·skip
     have hc2' := of_decide_eq_true hc2
     refine At.skip ?_
     refine At.thenN ?_
     refine At.seq ?_
     refine At.block ?_
     obtain ⟨u2, hu2⟩ := some_of_lt (l := t.arms) (i := j) (by omega)
     refine At.drawG (n := 19) mixed (by kernel_rfl) rfl (PanicOk.block (PanicOk.then (PanicOk.then (PanicOk.block (PanicOk.then PanicOk.body))))) ?_
     have hB := Below.drewB hB
     have hb1 : _ := (show w4.drew.heap[b1]? = _ from hb1)
     refine At.wpcS (i := 0) (d := 36) (.int .i64 (q : Int)) (by kernel_rfl) rfl rfl rfl (fun Lx => ?_) ?_
     ·skip
      refine At.move rfl rfl ?_
      refine At.ops0 ?_
      exact fun a ha => ⟨ha, rfl⟩
     refine At.wpcS (i := 1) (d := 37) (.pointer (some ⟨b1, 0 + 6, none⟩)) (by kernel_rfl) rfl rfl rfl (fun Lx => ?_) ?_
     ·skip
      refine At.fieldAddr rfl fo33_6 rfl ?_
      refine At.ops0 ?_
      exact fun a ha => ⟨ha, rfl⟩
     refine At.wpcS (i := 2) (d := 38) (t.av) (by kernel_rfl) rfl rfl rfl (fun Lx => ?_) ?_
     ·skip
      refine At.load rfl (Ld.ownCell ag25 hb1 (ht).c6) rfl ?_
      refine At.ops0 ?_
      exact fun a ha => ⟨ha, rfl⟩
     refine At.wpcS (i := 3) (d := 39) (.int .i64 (j : Int)) (by kernel_rfl) rfl rfl rfl (fun Lx => ?_) ?_
     ·skip
      refine At.move rfl rfl ?_
      refine At.ops0 ?_
      exact fun a ha => ⟨ha, rfl⟩
     refine At.wpcS (i := 4) (d := 40) (.pointer (some ⟨vBlock t.av, vOff t.av + j * 23, none⟩)) (by kernel_rfl) rfl rfl rfl (fun Lx => ?_) ?_
     ·skip
      refine At.indexAddr (i := j) rfl rfl ((ht).armsAt).okL (lt_of_some hu2) el25 sz48 rfl ?_
      refine At.ops0 ?_
      exact fun a ha => ⟨ha, rfl⟩
     refine At.wpcS (i := 5) (d := 41) (.pointer (some ⟨vBlock t.av, vOff t.av + j * 23 + 1, none⟩)) (by kernel_rfl) rfl rfl rfl (fun Lx => ?_) ?_
     ·skip
      refine At.fieldAddr rfl fo48_1 rfl ?_
      refine At.ops0 ?_
      exact fun a ha => ⟨ha, rfl⟩
     refine At.wpcS (i := 6) (d := 42) (u2.vv) (by kernel_rfl) rfl rfl rfl (fun Lx => ?_) ?_
     ·skip
      refine At.load rfl (Ld.cell ag27 (cell_keep ((((ht).armsAt).row hu2).get (((ht).arm hu2)).c1) hB)) rfl ?_
      refine At.ops0 ?_
      exact fun a ha => ⟨ha, rfl⟩
     refine At.wpcS (i := 7) (d := 43) (.int .i64 (u2.vars.length : Int)) (by kernel_rfl) rfl rfl rfl (fun Lx => ?_) ?_
     ·skip
      refine At.lenSl rfl ((((ht).arm hu2)).varsAt).ok el27 rfl ?_
      refine At.ops0 ?_
      exact fun a ha => ⟨ha, rfl⟩
     refine At.wpcS (i := 8) (d := 44) (.int .i64 (((min u2.vars.length 2000) : Nat) : Int)) (by kernel_rfl) rfl rfl rfl (fun Lx => ?_) ?_
     ·skip
      refine At.minI rfl rfl rfl ?_
      refine At.set (d := 44) (u := .int .i64 (((min u2.vars.length 2000) : Nat) : Int)) rfl (congrArg (Value.int .i64) (min_lit' _ _)) ?_
      refine At.ops0 ?_
      exact fun a ha => ⟨Is.dup ha, rfl⟩
     refine At.wpcS (i := 9) (d := 45) (.int .i64 ((q : Int) + (((min u2.vars.length 2000) : Nat) : Int))) (by kernel_rfl) rfl rfl rfl (fun Lx => ?_) ?_
     ·skip
      refine At.addI rfl rfl rfl (by omega) ?_
      refine At.ops0 ?_
      exact fun a ha => ⟨ha, rfl⟩
     refine At.wpcS (i := 10) (d := 46) (.pointer (some ⟨b1, 0 + 6, none⟩)) (by kernel_rfl) rfl rfl rfl (fun Lx => ?_) ?_
     ·skip
      refine At.fieldAddr rfl fo33_6 rfl ?_
      refine At.ops0 ?_
      exact fun a ha => ⟨ha, rfl⟩
     refine At.wpcS (i := 11) (d := 47) (t.av) (by kernel_rfl) rfl rfl rfl (fun Lx => ?_) ?_
     ·skip
      refine At.load rfl (Ld.ownCell ag25 hb1 (ht).c6) rfl ?_
      refine At.ops0 ?_
      exact fun a ha => ⟨ha, rfl⟩
     refine At.wpcS (i := 12) (d := 48) (.int .i64 (j : Int)) (by kernel_rfl) rfl rfl rfl (fun Lx => ?_) ?_
     ·skip
      refine At.move rfl rfl ?_
      refine At.ops0 ?_
      exact fun a ha => ⟨ha, rfl⟩
     refine At.wpcS (i := 13) (d := 49) (.pointer (some ⟨vBlock t.av, vOff t.av + j * 23, none⟩)) (by kernel_rfl) rfl rfl rfl (fun Lx => ?_) ?_
     ·skip
      refine At.indexAddr (i := j) rfl rfl ((ht).armsAt).okL (lt_of_some hu2) el25 sz48 rfl ?_
      refine At.ops0 ?_
      exact fun a ha => ⟨ha, rfl⟩
     refine At.wpcS (i := 14) (d := 50) (.pointer (some ⟨vBlock t.av, vOff t.av + j * 23 + 2, none⟩)) (by kernel_rfl) rfl rfl rfl (fun Lx => ?_) ?_
     ·skip
      refine At.fieldAddr rfl fo48_2 rfl ?_
      refine At.ops0 ?_
      exact fun a ha => ⟨ha, rfl⟩
     refine At.wpcS (i := 15) (d := 51) (.agg u2.body.cs) (by kernel_rfl) rfl rfl rfl (fun Lx => ?_) ?_
     ·skip
      refine At.load rfl (Ld.row ag33 (sz33.trans (congrArg some ((((ht).arm hu2)).body).size.symm)) (((((ht).armsAt).row hu2).part 2 (((ht).arm hu2)).bodyCs).keep hB)) rfl ?_
      refine At.ops0 ?_
      exact fun a ha => ⟨ha, rfl⟩
     refine At.wpcE [16] (by kernel_rfl) (by kernel_rfl) (.cons [0, 1, 2, 3, 4, 5, 6, 7, 8, 9] rfl (by kernel_rfl) ?_ .nil)
     refine At.call en19 rfl rfl (ih u2.body (by have := wt_arm (List.mem_of_getElem? hu2); omega) _ (((((ht).arm hu2)).body).keep hB)) (fun e w5 hR => ?_)
     obtain ⟨nc2, rfl, hbl2, hna2, hnb2⟩ := hR
     refine ⟨_, rfl, ?_⟩
     replace hb1 := Below.old hbl2 hb1
     replace hB := Below.andThen hB hbl2
     refine At.ops0 ?_
     refine At.wpcN (.cons rfl rfl rfl rfl (fun Lx => ?_) (.cons rfl rfl rfl rfl (fun Lx => ?_) (.cons rfl rfl rfl rfl (fun Lx => ?_) (.cons rfl rfl rfl rfl (fun Lx => ?_) (.cons rfl rfl rfl rfl (fun Lx => ?_) (.cons rfl rfl rfl rfl (fun Lx => ?_) (.cons rfl rfl rfl rfl (fun Lx => ?_) (.cons rfl rfl rfl rfl (fun Lx => ?_) (.cons rfl rfl rfl rfl (fun Lx => ?_) (.cons rfl rfl rfl rfl (fun Lx => ?_) .nil)))))))))) ?_
     ·skip
      refine At.move rfl rfl ?_
      refine At.ops0 ?_
      exact fun a ha => ⟨ha, rfl⟩
     ·skip
      refine At.fieldAddr rfl fo33_6 rfl ?_
      refine At.ops0 ?_
      exact fun a ha => ⟨ha, rfl⟩
     ·skip
      refine At.load rfl (Ld.ownCell ag25 hb1 (ht).c6) rfl ?_
      refine At.ops0 ?_
      exact fun a ha => ⟨ha, rfl⟩
     ·skip
      refine At.move rfl rfl ?_
      refine At.ops0 ?_
      exact fun a ha => ⟨ha, rfl⟩
     ·skip
      refine At.indexAddr (i := j) rfl rfl ((ht).armsAt).okL (lt_of_some hu2) el25 sz48 rfl ?_
      refine At.ops0 ?_
      exact fun a ha => ⟨ha, rfl⟩
     ·skip
      refine At.fieldAddr rfl fo48_1 rfl ?_
      refine At.ops0 ?_
      exact fun a ha => ⟨ha, rfl⟩
     ·skip
      refine At.load rfl (Ld.cell ag27 (cell_keep ((((ht).armsAt).row hu2).get (((ht).arm hu2)).c1) hB)) rfl ?_
      refine At.ops0 ?_
      exact fun a ha => ⟨ha, rfl⟩
     ·skip
      refine At.lenSl rfl ((((ht).arm hu2)).varsAt).ok el27 rfl ?_
      refine At.ops0 ?_
      exact fun a ha => ⟨ha, rfl⟩
     ·skip
      refine At.minI rfl rfl rfl ?_
      refine At.set (d := 44) (u := .int .i64 (((min u2.vars.length 2000) : Nat) : Int)) rfl (congrArg (Value.int .i64) (min_lit' _ _)) ?_
      refine At.ops0 ?_
      exact fun a ha => ⟨Is.dup ha, rfl⟩
     ·skip
      refine At.addI rfl rfl rfl (by omega) ?_
      refine At.ops0 ?_
      exact fun a ha => ⟨ha, rfl⟩
     refine At.wpcS (i := 17) (d := 53) (.int .i64 (((q : Int) + (((min u2.vars.length 2000) : Nat) : Int)) + (nc2 : Int))) (by kernel_rfl) rfl rfl rfl (fun Lx => ?_) ?_
     ·skip
      refine At.addI rfl rfl rfl (by omega) ?_
      refine At.ops0 ?_
      exact fun a ha => ⟨ha, rfl⟩
     refine At.wpcE [18] (by kernel_rfl) (by kernel_rfl) (.cons [] rfl (by kernel_rfl) ?_ .nil)
     refine At.assign rfl rfl ?_
     refine At.ops0 ?_
     refine At.wpcN .nil ?_
     refine At.wpcZ ?_
     refine At.inN ?_
     refine At.thenN ?_
     refine At.region ?_
     refine At.move rfl rfl ?_
     refine At.addI rfl rfl rfl (by omega) ?_
     refine At.assign rfl rfl ?_
     refine At.ops0 ?_
     refine At.thenN ?_
     exact fun act_ hact_ => ⟨((j + 1), ((q + (min u2.vars.length 2000)) + nc2)), hact_.sub (Sub.cons rfl (Sub.cons rfl (Sub.cons rfl Sub.nil))), ⟨hB, hb1, (by omega), (by omega), (by omega)⟩, by first | omega | (dsimp only; omega)⟩
    ·skip
     have hc2' := of_decide_eq_false hc2
     refine At.exit ?_
     refine At.thenE ?_
     refine At.thenE ?_
     refine At.inE ?_
     refine At.thenN ?_
     refine At.seq ?_
     refine At.region ?_
     refine At.move rfl rfl ?_
     refine At.minI rfl rfl rfl ?_
     refine At.set (d := 55) (u := .int .i64 (((min q 2001) : Nat) : Int)) rfl (congrArg (Value.int .i64) (min_lit' _ _)) ?_
     refine At.assign rfl rfl ?_
     refine At.ops0 ?_
     refine At.thenN ?_
     refine At.retc ?_
     refine At.doneR (ResV.tmp rfl ResV.nil) ?_
     exact ⟨_, rfl, hB, by omega, by omega⟩
   ·skip
    refine At.set (d := 30) (u := .bool false) rfl (congrArg Value.bool hg2) ?_
    have hg2' := of_decide_eq_false hg2
    refine At.no rfl rfl rfl rfl rfl rfl rfl ?_
    refine At.no rfl rfl rfl rfl rfl rfl rfl ?_
    refine At.pickF rfl rfl rfl ?_
    refine At.ops0 ?_
    refine At.thenN ?_
    refine At.condF rfl ?_
    refine At.exit ?_
    refine At.thenE ?_
    refine At.thenE ?_
    refine At.inE ?_
    refine At.thenN ?_
    refine At.seq ?_
    refine At.region ?_
    refine At.move rfl rfl ?_
    refine At.minI rfl rfl rfl ?_
    refine At.set (d := 55) (u := .int .i64 (((min q 2001) : Nat) : Int)) rfl (congrArg (Value.int .i64) (min_lit' _ _)) ?_
    refine At.assign rfl rfl ?_
    refine At.ops0 ?_
    refine At.thenN ?_
    refine At.retc ?_
    refine At.doneR (ResV.tmp rfl ResV.nil) ?_
    exact ⟨_, rfl, hB, by omega, by omega⟩
 ·skip
  refine At.set (d := 11) (u := .bool false) rfl (congrArg Value.bool hg1) ?_
  have hg1' := of_decide_eq_false hg1
  refine At.no rfl rfl rfl rfl rfl rfl rfl ?_
  refine At.no rfl rfl rfl rfl rfl rfl rfl ?_
  refine At.pickF rfl rfl rfl ?_
  refine At.ops0 ?_
  refine At.thenN ?_
  refine At.condF rfl ?_
  refine At.exit ?_
  refine At.thenE ?_
  refine At.thenE ?_
  refine At.inE ?_
  refine At.thenN ?_
  refine At.seq ?_
  refine At.seq ?_
  refine At.region ?_
  refine At.assign rfl rfl ?_
  refine At.ops0 ?_
  refine At.thenN ?_
  refine At.block ?_
  refine At.loop (Nat × Nat) (fun (j, q) => [(1, .pointer (some ⟨b1, 0, none⟩)), (3, .int .i64 (q : Int)), (5, .int .i64 (j : Int))]) (fun (j, q) w6 => Below w.heap.size w w6 ∧ w6.heap[b1]? = some (.cells t.cs 33) ∧ (j ≤ t.arms.length) ∧ (1 ≤ q) ∧ (q ≤ 6002)) (fun (j, q) => t.arms.length - j) (0, n) (Sub.cons rfl (Sub.cons rfl (Sub.cons rfl Sub.nil))) ⟨hB, hb1, (Nat.zero_le _), (by omega), (by omega)⟩ (fun gh w6 hI => ?_)
  obtain ⟨j, q⟩ := gh
  clear hB hb1
  obtain ⟨hB, hb1, hjb, hq1, hq2⟩ := hI
  show At _ _ [(1, .pointer (some ⟨b1, 0, none⟩)), (3, .int .i64 (q : Int)), (5, .int .i64 (j : Int))] _ _
  have hal := ht.armsAt.lenL
  refine At.seq ?_
  refine At.seq ?_
  refine At.region ?_
  refine At.move rfl rfl ?_
  refine At.fieldAddr rfl fo33_6 rfl ?_
  refine At.load rfl (Ld.ownCell ag25 hb1 (ht).c6) rfl ?_
  refine At.lenSl rfl ((ht).armsAt).okL el25 rfl ?_
  refine At.lss rfl rfl rfl ?_
  refine At.move rfl rfl ?_
  refine At.cases (decide ((j : Int) < (t.arms.length : Int))) (fun hg3 => ?_) (fun hg3 => ?_)
  ·skip
   refine At.set (d := 30) (u := .bool true) rfl (congrArg Value.bool hg3) ?_
   have hg3' := of_decide_eq_true hg3
   refine At.yes rfl rfl rfl rfl ?_
   refine At.move rfl rfl ?_
   refine At.yes rfl rfl rfl rfl ?_
   refine At.leq rfl rfl rfl ?_
   refine At.pickT rfl rfl rfl ?_
   refine At.ops0 ?_
   refine At.thenN ?_
   refine At.cond (b := decide ((q : Int) ≤ 2000)) rfl (fun hc3 => ?_) (fun hc3 => ?_)
   ·skip
    have hc3' := of_decide_eq_true hc3
    refine At.skip ?_
    refine At.thenN ?_
    refine At.seq ?_
    refine At.block ?_
    obtain ⟨u2, hu2⟩ := some_of_lt (l := t.arms) (i := j) (by omega)
    refine At.drawG (n := 19) mixed (by kernel_rfl) rfl (PanicOk.block (PanicOk.then (PanicOk.then (PanicOk.block (PanicOk.then PanicOk.body))))) ?_
    have hB := Below.drewB hB
    have hb1 : _ := (show w6.drew.heap[b1]? = _ from hb1)
    refine At.wpcS (i := 0) (d := 36) (.int .i64 (q : Int)) (by kernel_rfl) rfl rfl rfl (fun Lx => ?_) ?_
    ·skip
     refine At.move rfl rfl ?_
     refine At.ops0 ?_
     exact fun a ha => ⟨ha, rfl⟩
    refine At.wpcS (i := 1) (d := 37) (.pointer (some ⟨b1, 0 + 6, none⟩)) (by kernel_rfl) rfl rfl rfl (fun Lx => ?_) ?_
    ·skip
     refine At.fieldAddr rfl fo33_6 rfl ?_
     refine At.ops0 ?_
     exact fun a ha => ⟨ha, rfl⟩
    refine At.wpcS (i := 2) (d := 38) (t.av) (by kernel_rfl) rfl rfl rfl (fun Lx => ?_) ?_
    ·skip
     refine At.load rfl (Ld.ownCell ag25 hb1 (ht).c6) rfl ?_
     refine At.ops0 ?_
     exact fun a ha => ⟨ha, rfl⟩
    refine At.wpcS (i := 3) (d := 39) (.int .i64 (j : Int)) (by kernel_rfl) rfl rfl rfl (fun Lx => ?_) ?_
    ·skip
     refine At.move rfl rfl ?_
     refine At.ops0 ?_
     exact fun a ha => ⟨ha, rfl⟩
    refine At.wpcS (i := 4) (d := 40) (.pointer (some ⟨vBlock t.av, vOff t.av + j * 23, none⟩)) (by kernel_rfl) rfl rfl rfl (fun Lx => ?_) ?_
    ·skip
     refine At.indexAddr (i := j) rfl rfl ((ht).armsAt).okL (lt_of_some hu2) el25 sz48 rfl ?_
     refine At.ops0 ?_
     exact fun a ha => ⟨ha, rfl⟩
    refine At.wpcS (i := 5) (d := 41) (.pointer (some ⟨vBlock t.av, vOff t.av + j * 23 + 1, none⟩)) (by kernel_rfl) rfl rfl rfl (fun Lx => ?_) ?_
    ·skip
     refine At.fieldAddr rfl fo48_1 rfl ?_
     refine At.ops0 ?_
     exact fun a ha => ⟨ha, rfl⟩
    refine At.wpcS (i := 6) (d := 42) (u2.vv) (by kernel_rfl) rfl rfl rfl (fun Lx => ?_) ?_
    ·skip
     refine At.load rfl (Ld.cell ag27 (cell_keep ((((ht).armsAt).row hu2).get (((ht).arm hu2)).c1) hB)) rfl ?_
     refine At.ops0 ?_
     exact fun a ha => ⟨ha, rfl⟩
    refine At.wpcS (i := 7) (d := 43) (.int .i64 (u2.vars.length : Int)) (by kernel_rfl) rfl rfl rfl (fun Lx => ?_) ?_
    ·skip
     refine At.lenSl rfl ((((ht).arm hu2)).varsAt).ok el27 rfl ?_
     refine At.ops0 ?_
     exact fun a ha => ⟨ha, rfl⟩
    refine At.wpcS (i := 8) (d := 44) (.int .i64 (((min u2.vars.length 2000) : Nat) : Int)) (by kernel_rfl) rfl rfl rfl (fun Lx => ?_) ?_
    ·skip
     refine At.minI rfl rfl rfl ?_
     refine At.set (d := 44) (u := .int .i64 (((min u2.vars.length 2000) : Nat) : Int)) rfl (congrArg (Value.int .i64) (min_lit' _ _)) ?_
     refine At.ops0 ?_
     exact fun a ha => ⟨Is.dup ha, rfl⟩
    refine At.wpcS (i := 9) (d := 45) (.int .i64 ((q : Int) + (((min u2.vars.length 2000) : Nat) : Int))) (by kernel_rfl) rfl rfl rfl (fun Lx => ?_) ?_
    ·skip
     refine At.addI rfl rfl rfl (by omega) ?_
     refine At.ops0 ?_
     exact fun a ha => ⟨ha, rfl⟩
    refine At.wpcS (i := 10) (d := 46) (.pointer (some ⟨b1, 0 + 6, none⟩)) (by kernel_rfl) rfl rfl rfl (fun Lx => ?_) ?_
    ·skip
     refine At.fieldAddr rfl fo33_6 rfl ?_
     refine At.ops0 ?_
     exact fun a ha => ⟨ha, rfl⟩
    refine At.wpcS (i := 11) (d := 47) (t.av) (by kernel_rfl) rfl rfl rfl (fun Lx => ?_) ?_
    ·skip
     refine At.load rfl (Ld.ownCell ag25 hb1 (ht).c6) rfl ?_
     refine At.ops0 ?_
     exact fun a ha => ⟨ha, rfl⟩
    refine At.wpcS (i := 12) (d := 48) (.int .i64 (j : Int)) (by kernel_rfl) rfl rfl rfl (fun Lx => ?_) ?_
    ·skip
     refine At.move rfl rfl ?_
     refine At.ops0 ?_
     exact fun a ha => ⟨ha, rfl⟩
    refine At.wpcS (i := 13) (d := 49) (.pointer (some ⟨vBlock t.av, vOff t.av + j * 23, none⟩)) (by kernel_rfl) rfl rfl rfl (fun Lx => ?_) ?_
    ·skip
     refine At.indexAddr (i := j) rfl rfl ((ht).armsAt).okL (lt_of_some hu2) el25 sz48 rfl ?_
     refine At.ops0 ?_
     exact fun a ha => ⟨ha, rfl⟩
    refine At.wpcS (i := 14) (d := 50) (.pointer (some ⟨vBlock t.av, vOff t.av + j * 23 + 2, none⟩)) (by kernel_rfl) rfl rfl rfl (fun Lx => ?_) ?_
    ·skip
     refine At.fieldAddr rfl fo48_2 rfl ?_
     refine At.ops0 ?_
     exact fun a ha => ⟨ha, rfl⟩
    refine At.wpcS (i := 15) (d := 51) (.agg u2.body.cs) (by kernel_rfl) rfl rfl rfl (fun Lx => ?_) ?_
    ·skip
     refine At.load rfl (Ld.row ag33 (sz33.trans (congrArg some ((((ht).arm hu2)).body).size.symm)) (((((ht).armsAt).row hu2).part 2 (((ht).arm hu2)).bodyCs).keep hB)) rfl ?_
     refine At.ops0 ?_
     exact fun a ha => ⟨ha, rfl⟩
    refine At.wpcE [16] (by kernel_rfl) (by kernel_rfl) (.cons [0, 1, 2, 3, 4, 5, 6, 7, 8, 9] rfl (by kernel_rfl) ?_ .nil)
    refine At.call en19 rfl rfl (ih u2.body (by have := wt_arm (List.mem_of_getElem? hu2); omega) _ (((((ht).arm hu2)).body).keep hB)) (fun e w7 hR => ?_)
    obtain ⟨nc3, rfl, hbl3, hna3, hnb3⟩ := hR
    refine ⟨_, rfl, ?_⟩
    replace hb1 := Below.old hbl3 hb1
    replace hB := Below.andThen hB hbl3
    refine At.ops0 ?_
    refine At.wpcN (.cons rfl rfl rfl rfl (fun Lx => ?_) (.cons rfl rfl rfl rfl (fun Lx => ?_) (.cons rfl rfl rfl rfl (fun Lx => ?_) (.cons rfl rfl rfl rfl (fun Lx => ?_) (.cons rfl rfl rfl rfl (fun Lx => ?_) (.cons rfl rfl rfl rfl (fun Lx => ?_) (.cons rfl rfl rfl rfl (fun Lx => ?_) (.cons rfl rfl rfl rfl (fun Lx => ?_) (.cons rfl rfl rfl rfl (fun Lx => ?_) (.cons rfl rfl rfl rfl (fun Lx => ?_) .nil)))))))))) ?_
    ·skip
     refine At.move rfl rfl ?_
     refine At.ops0 ?_
     exact fun a ha => ⟨ha, rfl⟩
    ·skip
     refine At.fieldAddr rfl fo33_6 rfl ?_
     refine At.ops0 ?_
     exact fun a ha => ⟨ha, rfl⟩
    ·skip
     refine At.load rfl (Ld.ownCell ag25 hb1 (ht).c6) rfl ?_
     refine At.ops0 ?_
     exact fun a ha => ⟨ha, rfl⟩
    ·skip
     refine At.move rfl rfl ?_
     refine At.ops0 ?_
     exact fun a ha => ⟨ha, rfl⟩
    ·skip
     refine At.indexAddr (i := j) rfl rfl ((ht).armsAt).okL (lt_of_some hu2) el25 sz48 rfl ?_
     refine At.ops0 ?_
     exact fun a ha => ⟨ha, rfl⟩
    ·skip
     refine At.fieldAddr rfl fo48_1 rfl ?_
     refine At.ops0 ?_
     exact fun a ha => ⟨ha, rfl⟩
    ·skip
     refine At.load rfl (Ld.cell ag27 (cell_keep ((((ht).armsAt).row hu2).get (((ht).arm hu2)).c1) hB)) rfl ?_
     refine At.ops0 ?_
     exact fun a ha => ⟨ha, rfl⟩
    ·skip
     refine At.lenSl rfl ((((ht).arm hu2)).varsAt).ok el27 rfl ?_
     refine At.ops0 ?_
     exact fun a ha => ⟨ha, rfl⟩
    ·skip
     refine At.minI rfl rfl rfl ?_
     refine At.set (d := 44) (u := .int .i64 (((min u2.vars.length 2000) : Nat) : Int)) rfl (congrArg (Value.int .i64) (min_lit' _ _)) ?_
     refine At.ops0 ?_
     exact fun a ha => ⟨Is.dup ha, rfl⟩
    ·skip
     refine At.addI rfl rfl rfl (by omega) ?_
     refine At.ops0 ?_
     exact fun a ha => ⟨ha, rfl⟩
    refine At.wpcS (i := 17) (d := 53) (.int .i64 (((q : Int) + (((min u2.vars.length 2000) : Nat) : Int)) + (nc3 : Int))) (by kernel_rfl) rfl rfl rfl (fun Lx => ?_) ?_
    ·skip
     refine At.addI rfl rfl rfl (by omega) ?_
     refine At.ops0 ?_
     exact fun a ha => ⟨ha, rfl⟩
    refine At.wpcE [18] (by kernel_rfl) (by kernel_rfl) (.cons [] rfl (by kernel_rfl) ?_ .nil)
    refine At.assign rfl rfl ?_
    refine At.ops0 ?_
    refine At.wpcN .nil ?_
    refine At.wpcZ ?_
    refine At.inN ?_
    refine At.thenN ?_
    refine At.region ?_
    refine At.move rfl rfl ?_
    refine At.addI rfl rfl rfl (by omega) ?_
    refine At.assign rfl rfl ?_
    refine At.ops0 ?_
    refine At.thenN ?_
    exact fun act_ hact_ => ⟨((j + 1), ((q + (min u2.vars.length 2000)) + nc3)), hact_.sub (Sub.cons rfl (Sub.cons rfl (Sub.cons rfl Sub.nil))), ⟨hB, hb1, (by omega), (by omega), (by omega)⟩, by first | omega | (dsimp only; omega)⟩
   ·skip
    have hc3' := of_decide_eq_false hc3
    refine At.exit ?_
    refine At.thenE ?_
    refine At.thenE ?_
    refine At.inE ?_
    refine At.thenN ?_
    refine At.seq ?_
    refine At.region ?_
    refine At.move rfl rfl ?_
    refine At.minI rfl rfl rfl ?_
    refine At.set (d := 55) (u := .int .i64 (((min q 2001) : Nat) : Int)) rfl (congrArg (Value.int .i64) (min_lit' _ _)) ?_
    refine At.assign rfl rfl ?_
    refine At.ops0 ?_
    refine At.thenN ?_
    refine At.retc ?_
    refine At.doneR (ResV.tmp rfl ResV.nil) ?_
    exact ⟨_, rfl, hB, by omega, by omega⟩
  ·skip
   refine At.set (d := 30) (u := .bool false) rfl (congrArg Value.bool hg3) ?_
   have hg3' := of_decide_eq_false hg3
   refine At.no rfl rfl rfl rfl rfl rfl rfl ?_
   refine At.no rfl rfl rfl rfl rfl rfl rfl ?_
   refine At.pickF rfl rfl rfl ?_
   refine At.ops0 ?_
   refine At.thenN ?_
   refine At.condF rfl ?_
   refine At.exit ?_
   refine At.thenE ?_
   refine At.thenE ?_
   refine At.inE ?_
   refine At.thenN ?_
   refine At.seq ?_
   refine At.region ?_
   refine At.move rfl rfl ?_
   refine At.minI rfl rfl rfl ?_
   refine At.set (d := 55) (u := .int .i64 (((min q 2001) : Nat) : Int)) rfl (congrArg (Value.int .i64) (min_lit' _ _)) ?_
   refine At.assign rfl rfl ?_
   refine At.ops0 ?_
   refine At.thenN ?_
   refine At.retc ?_
   refine At.doneR (ResV.tmp rfl ResV.nil) ?_
   exact ⟨_, rfl, hB, by omega, by omega⟩
theorem count_any (t : Tm) (w : World) (ht : TmOk w t) : Calls Tryz.prog 19 ([.agg t.cs] : List Value).toArray w fun e w' => ∃ n : Nat, e = .returned (.int .i64 (n : Int)) ∧ Below w.heap.size w w' ∧ 1 ≤ n ∧ n ≤ 2001 := by
 have key : ∀ (n : Nat) (t : Tm), wtT t = n → ∀ (w : World), TmOk w t → Calls Tryz.prog 19 ([.agg t.cs] : List Value).toArray w fun e w' => ∃ n : Nat, e = .returned (.int .i64 (n : Int)) ∧ Below w.heap.size w w' ∧ 1 ≤ n ∧ n ≤ 2001 := by
  intro n
  induction n using Nat.strongRecOn with
  | _ n ih => intro t hn w h; exact count_step t w h (fun u hu => ih (wtT u) (hn ▸ hu) u rfl)
 exact key _ t rfl w ht
theorem largeP_any (p : Pr) (w : World) (hp : PrOk w p) :
  Calls Tryz.prog 8 ([.agg p.cs] : List Value).toArray w fun e w' => ∃ b : Bool, e = .returned (.bool b) ∧ Below w.heap.size w w' := by
 have hlp := hp.effsAt.lenL; have hlq := hp.datsAt.lenL
 have hB := Below.refl w.heap.size w
 refine At.enter (N := 81) Tryz.func8 rfl rfl (by simp) [(0, .agg p.cs)] (by simp) ?_
 refine At.seq ?_
 refine At.region ?_
 refine At.box rfl rfl (fun b1 w1 F1 => ?_)
 have gb1 := F1.ge hB
 have hb1 : w1.heap[b1]? = some (.cells p.cs 35) := F1.new
 replace hB := F1.below' hB
 refine At.assign rfl rfl ?_
 refine At.ops0 ?_
 refine At.thenN ?_
 refine At.seq ?_
 refine At.seq ?_
 refine At.region ?_
 refine At.fieldAddr rfl fo35_0 rfl ?_
 refine At.load rfl (Ld.ownCell ag22 hb1 (hp).c0) rfl ?_
 refine At.lenSl rfl ((hp).effsAt).okL el22 rfl ?_
 refine At.gtr rfl rfl rfl ?_
 refine At.move rfl rfl ?_
 refine At.cases (decide (20 < (p.effs.length : Int))) (fun hg1 => ?_) (fun hg1 => ?_)
 ·skip
  refine At.set (d := 10) (u := .bool true) rfl (congrArg Value.bool hg1) ?_
  have hg1' := of_decide_eq_true hg1
  refine At.no rfl rfl rfl rfl rfl rfl rfl ?_
  refine At.no rfl rfl rfl rfl rfl rfl rfl ?_
  refine At.no rfl rfl rfl rfl rfl rfl rfl ?_
  refine At.no rfl rfl rfl rfl rfl rfl rfl ?_
  refine At.pickT rfl rfl rfl ?_
  refine At.move rfl rfl ?_
  refine At.no rfl rfl rfl rfl rfl rfl rfl ?_
  refine At.no rfl rfl rfl rfl rfl rfl rfl ?_
  refine At.no rfl rfl rfl rfl rfl rfl rfl ?_
  refine At.no rfl rfl rfl rfl rfl rfl rfl ?_
  refine At.pickT rfl rfl rfl ?_
  refine At.move rfl rfl ?_
  refine At.no rfl rfl rfl rfl rfl rfl rfl ?_
  refine At.no rfl rfl rfl rfl rfl rfl rfl ?_
  refine At.no rfl rfl rfl rfl rfl rfl rfl ?_
  refine At.no rfl rfl rfl rfl rfl rfl rfl ?_
  refine At.pickT rfl rfl rfl ?_
  refine At.ops0 ?_
  refine At.thenN ?_
  refine At.condT rfl ?_
  refine At.seq ?_
  refine At.region ?_
  refine At.assign rfl rfl ?_
  refine At.ops0 ?_
  refine At.thenN ?_
  refine At.retc ?_
  refine At.thenR ?_
  refine At.doneR (ResV.tmp rfl ResV.nil) ?_
  exact ⟨_, rfl, hB⟩
 ·skip
  refine At.set (d := 10) (u := .bool false) rfl (congrArg Value.bool hg1) ?_
  have hg1' := of_decide_eq_false hg1
  refine At.yes rfl rfl rfl rfl ?_
  refine At.fieldAddr rfl fo35_1 rfl ?_
  refine At.yes rfl rfl rfl rfl ?_
  refine At.load rfl (Ld.ownCell ag23 hb1 (hp).c1) rfl ?_
  refine At.yes rfl rfl rfl rfl ?_
  refine At.lenSl rfl ((hp).datsAt).okL el23 rfl ?_
  refine At.yes rfl rfl rfl rfl ?_
  refine At.gtr rfl rfl rfl ?_
  refine At.pickF rfl rfl rfl ?_
  refine At.move rfl rfl ?_
  refine At.cases (decide (20 < (p.dats.length : Int))) (fun hg2 => ?_) (fun hg2 => ?_)
  ·skip
   refine At.set (d := 16) (u := .bool true) rfl (congrArg Value.bool hg2) ?_
   have hg2' := of_decide_eq_true hg2
   refine At.no rfl rfl rfl rfl rfl rfl rfl ?_
   refine At.no rfl rfl rfl rfl rfl rfl rfl ?_
   refine At.no rfl rfl rfl rfl rfl rfl rfl ?_
   refine At.no rfl rfl rfl rfl rfl rfl rfl ?_
   refine At.pickT rfl rfl rfl ?_
   refine At.move rfl rfl ?_
   refine At.no rfl rfl rfl rfl rfl rfl rfl ?_
   refine At.no rfl rfl rfl rfl rfl rfl rfl ?_
   refine At.no rfl rfl rfl rfl rfl rfl rfl ?_
   refine At.no rfl rfl rfl rfl rfl rfl rfl ?_
   refine At.pickT rfl rfl rfl ?_
   refine At.ops0 ?_
   refine At.thenN ?_
   refine At.condT rfl ?_
   refine At.seq ?_
   refine At.region ?_
   refine At.assign rfl rfl ?_
   refine At.ops0 ?_
   refine At.thenN ?_
   refine At.retc ?_
   refine At.thenR ?_
   refine At.doneR (ResV.tmp rfl ResV.nil) ?_
   exact ⟨_, rfl, hB⟩
  ·skip
   refine At.set (d := 16) (u := .bool false) rfl (congrArg Value.bool hg2) ?_
   have hg2' := of_decide_eq_false hg2
   refine At.yes rfl rfl rfl rfl ?_
   refine At.fieldAddr rfl fo35_2 rfl ?_
   refine At.yes rfl rfl rfl rfl ?_
   refine At.load rfl (Ld.ownPart ag33 (sz33.trans (congrArg some ((hp).bodyOk).size.symm)) hb1 (hp).bodyCs) rfl ?_
   refine At.yes rfl rfl rfl rfl ?_
   refine At.call en18 rfl rfl (RefDepth_any p.body _ (((hp).bodyOk).keep hB)) (fun e w2 hR => ?_)
   obtain ⟨rfl, hbl1⟩ := hR
   refine ⟨_, rfl, ?_⟩
   replace hb1 := Below.old hbl1 hb1
   replace hB := Below.andThen hB hbl1
   refine At.yes rfl rfl rfl rfl ?_
   refine At.gtr rfl rfl rfl ?_
   refine At.pickF rfl rfl rfl ?_
   refine At.move rfl rfl ?_
   refine At.cases (decide (300 < ((min (dpT p.body) 1000 : Nat) : Int))) (fun hg3 => ?_) (fun hg3 => ?_)
   ·skip
    refine At.set (d := 22) (u := .bool true) rfl (congrArg Value.bool hg3) ?_
    have hg3' := of_decide_eq_true hg3
    refine At.no rfl rfl rfl rfl rfl rfl rfl ?_
    refine At.no rfl rfl rfl rfl rfl rfl rfl ?_
    refine At.no rfl rfl rfl rfl rfl rfl rfl ?_
    refine At.no rfl rfl rfl rfl rfl rfl rfl ?_
    refine At.pickT rfl rfl rfl ?_
    refine At.ops0 ?_
    refine At.thenN ?_
    refine At.condT rfl ?_
    refine At.seq ?_
    refine At.region ?_
    refine At.assign rfl rfl ?_
    refine At.ops0 ?_
    refine At.thenN ?_
    refine At.retc ?_
    refine At.thenR ?_
    refine At.doneR (ResV.tmp rfl ResV.nil) ?_
    exact ⟨_, rfl, hB⟩
   ·skip
    refine At.set (d := 22) (u := .bool false) rfl (congrArg Value.bool hg3) ?_
    have hg3' := of_decide_eq_false hg3
    refine At.yes rfl rfl rfl rfl ?_
    refine At.fieldAddr rfl fo35_2 rfl ?_
    refine At.yes rfl rfl rfl rfl ?_
    refine At.load rfl (Ld.ownPart ag33 (sz33.trans (congrArg some ((hp).bodyOk).size.symm)) hb1 (hp).bodyCs) rfl ?_
    refine At.yes rfl rfl rfl rfl ?_
    refine At.call en19 rfl rfl (count_any p.body _ (((hp).bodyOk).keep hB)) (fun e w3 hR => ?_)
    obtain ⟨nc1, rfl, hbl2, hna1, hnb1⟩ := hR
    refine ⟨_, rfl, ?_⟩
    replace hb1 := Below.old hbl2 hb1
    replace hB := Below.andThen hB hbl2
    refine At.yes rfl rfl rfl rfl ?_
    refine At.gtr rfl rfl rfl ?_
    refine At.pickF rfl rfl rfl ?_
    refine At.ops0 ?_
    refine At.thenN ?_
    refine At.cond (b := decide (2000 < (nc1 : Int))) rfl (fun hc1 => ?_) (fun hc1 => ?_)
    ·skip
     have hc1' := of_decide_eq_true hc1
     refine At.seq ?_
     refine At.region ?_
     refine At.assign rfl rfl ?_
     refine At.ops0 ?_
     refine At.thenN ?_
     refine At.retc ?_
     refine At.thenR ?_
     refine At.doneR (ResV.tmp rfl ResV.nil) ?_
     exact ⟨_, rfl, hB⟩
    ·skip
     have hc1' := of_decide_eq_false hc1
     refine At.skip ?_
     refine At.thenN ?_
     refine At.seq ?_
     refine At.seq ?_
     refine At.region ?_
     refine At.assign rfl rfl ?_
     refine At.ops0 ?_
     refine At.thenN ?_
     refine At.block ?_
     refine At.loop (Nat) (fun k => [(1, .pointer (some ⟨b1, 0, none⟩)), (3, .int .i64 (k : Int))]) (fun k w4 => Below w.heap.size w w4 ∧ w4.heap[b1]? = some (.cells p.cs 35) ∧ (k ≤ p.effs.length)) (fun k => p.effs.length - k) (0 : Nat) (Sub.cons rfl (Sub.cons rfl Sub.nil)) ⟨hB, hb1, (Nat.zero_le _)⟩ (fun k w4 hI => ?_)
     clear hB hb1
     obtain ⟨hB, hb1, hk⟩ := hI
     show At _ _ [(1, .pointer (some ⟨b1, 0, none⟩)), (3, .int .i64 (k : Int))] _ _
     have hlp := hp.effsAt.lenL; have hlq := hp.datsAt.lenL
     refine At.seq ?_
     refine At.seq ?_
     refine At.region ?_
     refine At.move rfl rfl ?_
     refine At.fieldAddr rfl fo35_0 rfl ?_
     refine At.load rfl (Ld.ownCell ag22 hb1 (hp).c0) rfl ?_
     refine At.lenSl rfl ((hp).effsAt).okL el22 rfl ?_
     refine At.lss rfl rfl rfl ?_
     refine At.ops0 ?_
     refine At.thenN ?_
     refine At.cond (b := decide ((k : Int) < (p.effs.length : Int))) rfl (fun hc2 => ?_) (fun hc2 => ?_)
     ·skip
      have hc2' := of_decide_eq_true hc2
      refine At.skip ?_
      refine At.thenN ?_
      refine At.seq ?_
      refine At.block ?_
      refine At.seq ?_
      obtain ⟨x1, hx1⟩ := some_of_lt (l := p.effs) (i := k) (by omega)
      have hl1 := (hp.effOk x1 (List.mem_of_getElem? hx1)).opsAt.lenL
      refine At.region ?_
      refine At.fieldAddr rfl fo35_0 rfl ?_
      refine At.load rfl (Ld.ownCell ag22 hb1 (hp).c0) rfl ?_
      refine At.move rfl rfl ?_
      refine At.indexAddr (i := k) rfl rfl ((hp).effsAt).okL (lt_of_some hx1) el22 sz58 rfl ?_
      refine At.fieldAddr rfl fo58_1 rfl ?_
      refine At.load rfl (Ld.cell ag56 (cell_keep ((((hp).effsAt).row hx1).get (((hp).eff hx1)).c1) hB)) rfl ?_
      refine At.lenSl rfl ((((hp).eff hx1)).opsAt).okL el56 rfl ?_
      refine At.gtr rfl rfl rfl ?_
      refine At.ops0 ?_
      refine At.thenN ?_
      refine At.cond (b := decide (20 < (x1.ops.length : Int))) rfl (fun hc3 => ?_) (fun hc3 => ?_)
      ·skip
       have hc3' := of_decide_eq_true hc3
       refine At.seq ?_
       refine At.region ?_
       refine At.assign rfl rfl ?_
       refine At.ops0 ?_
       refine At.thenN ?_
       refine At.retc ?_
       refine At.inR ?_
       refine At.thenR ?_
       refine At.thenR ?_
       refine At.inR ?_
       refine At.thenR ?_
       refine At.doneR (ResV.tmp rfl ResV.nil) ?_
       exact ⟨_, rfl, hB⟩
      ·skip
       have hc3' := of_decide_eq_false hc3
       refine At.skip ?_
       refine At.inN ?_
       refine At.thenN ?_
       refine At.region ?_
       refine At.move rfl rfl ?_
       refine At.addI rfl rfl rfl (by omega) ?_
       refine At.assign rfl rfl ?_
       refine At.ops0 ?_
       refine At.thenN ?_
       exact fun act_ hact_ => ⟨(k + 1), hact_.sub (Sub.cons rfl (Sub.cons rfl Sub.nil)), ⟨hB, hb1, (by omega)⟩, by first | omega | (dsimp only; omega)⟩
     ·skip
      have hc2' := of_decide_eq_false hc2
      refine At.exit ?_
      refine At.thenE ?_
      refine At.thenE ?_
      refine At.inE ?_
      refine At.thenN ?_
      refine At.seq ?_
      refine At.seq ?_
      refine At.region ?_
      refine At.assign rfl rfl ?_
      refine At.ops0 ?_
      refine At.thenN ?_
      refine At.block ?_
      refine At.loop (Nat) (fun q => [(1, .pointer (some ⟨b1, 0, none⟩)), (4, .int .i64 (q : Int))]) (fun q w5 => Below w.heap.size w w5 ∧ w5.heap[b1]? = some (.cells p.cs 35) ∧ (q ≤ p.dats.length)) (fun q => p.dats.length - q) (0 : Nat) (Sub.cons rfl (Sub.cons rfl Sub.nil)) ⟨hB, hb1, (Nat.zero_le _)⟩ (fun q w5 hI => ?_)
      clear hB hb1
      obtain ⟨hB, hb1, hq⟩ := hI
      show At _ _ [(1, .pointer (some ⟨b1, 0, none⟩)), (4, .int .i64 (q : Int))] _ _
      have hlp := hp.effsAt.lenL; have hlq := hp.datsAt.lenL
      refine At.seq ?_
      refine At.seq ?_
      refine At.region ?_
      refine At.move rfl rfl ?_
      refine At.fieldAddr rfl fo35_1 rfl ?_
      refine At.load rfl (Ld.ownCell ag23 hb1 (hp).c1) rfl ?_
      refine At.lenSl rfl ((hp).datsAt).okL el23 rfl ?_
      refine At.lss rfl rfl rfl ?_
      refine At.ops0 ?_
      refine At.thenN ?_
      refine At.cond (b := decide ((q : Int) < (p.dats.length : Int))) rfl (fun hc4 => ?_) (fun hc4 => ?_)
      ·skip
       have hc4' := of_decide_eq_true hc4
       refine At.skip ?_
       refine At.thenN ?_
       refine At.seq ?_
       refine At.block ?_
       refine At.seq ?_
       refine At.seq ?_
       obtain ⟨y1, hy1⟩ := some_of_lt (l := p.dats) (i := q) (by omega)
       have hl1 := (hp.datOk y1 (List.mem_of_getElem? hy1)).consAt.lenL
       refine At.region ?_
       refine At.fieldAddr rfl fo35_1 rfl ?_
       refine At.load rfl (Ld.ownCell ag23 hb1 (hp).c1) rfl ?_
       refine At.move rfl rfl ?_
       refine At.indexAddr (i := q) rfl rfl ((hp).datsAt).okL (lt_of_some hy1) el23 sz61 rfl ?_
       refine At.fieldAddr rfl fo61_1 rfl ?_
       refine At.load rfl (Ld.cell ag59 (cell_keep ((((hp).datsAt).row hy1).get (((hp).dat hy1)).c1) hB)) rfl ?_
       refine At.lenSl rfl ((((hp).dat hy1)).consAt).okL el59 rfl ?_
       refine At.gtr rfl rfl rfl ?_
       refine At.ops0 ?_
       refine At.thenN ?_
       refine At.cond (b := decide (20 < (y1.cons.length : Int))) rfl (fun hc5 => ?_) (fun hc5 => ?_)
       ·skip
        have hc5' := of_decide_eq_true hc5
        refine At.seq ?_
        refine At.region ?_
        refine At.assign rfl rfl ?_
        refine At.ops0 ?_
        refine At.thenN ?_
        refine At.retc ?_
        refine At.thenR ?_
        refine At.inR ?_
        refine At.thenR ?_
        refine At.thenR ?_
        refine At.inR ?_
        refine At.thenR ?_
        refine At.doneR (ResV.tmp rfl ResV.nil) ?_
        exact ⟨_, rfl, hB⟩
       ·skip
        have hc5' := of_decide_eq_false hc5
        refine At.skip ?_
        refine At.thenN ?_
        refine At.seq ?_
        refine At.region ?_
        refine At.assign rfl rfl ?_
        refine At.ops0 ?_
        refine At.thenN ?_
        refine At.block ?_
        refine At.loop (Nat) (fun r => [(1, .pointer (some ⟨b1, 0, none⟩)), (4, .int .i64 (q : Int)), (5, .int .i64 (r : Int))]) (fun r w6 => Below w.heap.size w w6 ∧ w6.heap[b1]? = some (.cells p.cs 35) ∧ (r ≤ y1.cons.length)) (fun r => y1.cons.length - r) (0 : Nat) (Sub.cons rfl (Sub.cons rfl (Sub.cons rfl Sub.nil))) ⟨hB, hb1, (Nat.zero_le _)⟩ (fun r w6 hI => ?_)
        clear hB hb1
        obtain ⟨hB, hb1, hr⟩ := hI
        show At _ _ [(1, .pointer (some ⟨b1, 0, none⟩)), (4, .int .i64 (q : Int)), (5, .int .i64 (r : Int))] _ _
        have hlp := hp.effsAt.lenL; have hlq := hp.datsAt.lenL
        refine At.seq ?_
        refine At.seq ?_
        refine At.region ?_
        refine At.move rfl rfl ?_
        refine At.fieldAddr rfl fo35_1 rfl ?_
        refine At.load rfl (Ld.ownCell ag23 hb1 (hp).c1) rfl ?_
        refine At.move rfl rfl ?_
        refine At.indexAddr (i := q) rfl rfl ((hp).datsAt).okL (lt_of_some hy1) el23 sz61 rfl ?_
        refine At.fieldAddr rfl fo61_1 rfl ?_
        refine At.load rfl (Ld.cell ag59 (cell_keep ((((hp).datsAt).row hy1).get (((hp).dat hy1)).c1) hB)) rfl ?_
        refine At.lenSl rfl ((((hp).dat hy1)).consAt).okL el59 rfl ?_
        refine At.lss rfl rfl rfl ?_
        refine At.ops0 ?_
        refine At.thenN ?_
        refine At.cond (b := decide ((r : Int) < (y1.cons.length : Int))) rfl (fun hc6 => ?_) (fun hc6 => ?_)
        ·skip
         have hc6' := of_decide_eq_true hc6
         refine At.skip ?_
         refine At.thenN ?_
         refine At.seq ?_
         refine At.block ?_
         refine At.seq ?_
         obtain ⟨y2, hy2⟩ := some_of_lt (l := y1.cons) (i := r) (by omega)
         have hl2 := ((hp.datOk y1 (List.mem_of_getElem? hy1)).conOk y2 (List.mem_of_getElem? hy2)).fieldsAt.lenL
         refine At.region ?_
         refine At.fieldAddr rfl fo35_1 rfl ?_
         refine At.load rfl (Ld.ownCell ag23 hb1 (hp).c1) rfl ?_
         refine At.move rfl rfl ?_
         refine At.indexAddr (i := q) rfl rfl ((hp).datsAt).okL (lt_of_some hy1) el23 sz61 rfl ?_
         refine At.fieldAddr rfl fo61_1 rfl ?_
         refine At.load rfl (Ld.cell ag59 (cell_keep ((((hp).datsAt).row hy1).get (((hp).dat hy1)).c1) hB)) rfl ?_
         refine At.move rfl rfl ?_
         refine At.indexAddr (i := r) rfl rfl ((((hp).dat hy1)).consAt).okL (lt_of_some hy2) el59 sz63 rfl ?_
         refine At.fieldAddr rfl fo63_1 rfl ?_
         refine At.load rfl (Ld.cell ag26 (cell_keep ((((((hp).dat hy1)).consAt).row hy2).get (((((hp).dat hy1)).con hy2)).c1) hB)) rfl ?_
         refine At.lenSl rfl ((((((hp).dat hy1)).con hy2)).fieldsAt).okL el26 rfl ?_
         refine At.gtr rfl rfl rfl ?_
         refine At.ops0 ?_
         refine At.thenN ?_
         refine At.cond (b := decide (20 < (y2.fields.length : Int))) rfl (fun hc7 => ?_) (fun hc7 => ?_)
         ·skip
          have hc7' := of_decide_eq_true hc7
          refine At.seq ?_
          refine At.region ?_
          refine At.assign rfl rfl ?_
          refine At.ops0 ?_
          refine At.thenN ?_
          refine At.retc ?_
          refine At.inR ?_
          refine At.thenR ?_
          refine At.thenR ?_
          refine At.inR ?_
          refine At.inR ?_
          refine At.thenR ?_
          refine At.thenR ?_
          refine At.inR ?_
          refine At.thenR ?_
          refine At.doneR (ResV.tmp rfl ResV.nil) ?_
          exact ⟨_, rfl, hB⟩
         ·skip
          have hc7' := of_decide_eq_false hc7
          refine At.skip ?_
          refine At.inN ?_
          refine At.thenN ?_
          refine At.region ?_
          refine At.move rfl rfl ?_
          refine At.addI rfl rfl rfl (by omega) ?_
          refine At.assign rfl rfl ?_
          refine At.ops0 ?_
          refine At.thenN ?_
          exact fun act_ hact_ => ⟨(r + 1), hact_.sub (Sub.cons rfl (Sub.cons rfl (Sub.cons rfl Sub.nil))), ⟨hB, hb1, (by omega)⟩, by first | omega | (dsimp only; omega)⟩
        ·skip
         have hc6' := of_decide_eq_false hc6
         refine At.exit ?_
         refine At.thenE ?_
         refine At.thenE ?_
         refine At.inE ?_
         refine At.inN ?_
         refine At.thenN ?_
         refine At.region ?_
         refine At.move rfl rfl ?_
         refine At.addI rfl rfl rfl (by omega) ?_
         refine At.assign rfl rfl ?_
         refine At.ops0 ?_
         refine At.thenN ?_
         exact fun act_ hact_ => ⟨(q + 1), hact_.sub (Sub.cons rfl (Sub.cons rfl Sub.nil)), ⟨hB, hb1, (by omega)⟩, by first | omega | (dsimp only; omega)⟩
      ·skip
       have hc4' := of_decide_eq_false hc4
       refine At.exit ?_
       refine At.thenE ?_
       refine At.thenE ?_
       refine At.inE ?_
       refine At.thenN ?_
       refine At.seq ?_
       refine At.region ?_
       refine At.assign rfl rfl ?_
       refine At.ops0 ?_
       refine At.thenN ?_
       refine At.retc ?_
       refine At.doneR (ResV.tmp rfl ResV.nil) ?_
       exact ⟨_, rfl, hB⟩
end Go.Proofs.YtkclecfbjfdfkaaGreatDoor
