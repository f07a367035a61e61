/-
  The walks of right and of ScopeArms: what each call does, for every argument that lies so in memory. Written by a program of ours.
-/
import Derived.Test.YtkclfcdppnlkbaaW6
import Derived.Test.YtkclfcdppnlkbaaS15
set_option linter.unusedVariables false
set_option linter.unusedSimpArgs false
namespace Go.Proofs.Ytkclfcdppnlkbaa
open Go.RowKit
theorem by31 : bytesB Try.prog 31 = some 88 := by kernel_rfl
theorem by33 : bytesB Try.prog 33 = some 312 := by kernel_rfl
theorem by54 : bytesB Try.prog 54 = some 40 := by kernel_rfl
theorem by71 : bytesB Try.prog 71 = some 352 := by kernel_rfl
theorem el68 : elemB Try.prog 68 = some 3 := by kernel_rfl
theorem el69 : elemB Try.prog 69 = some 5 := by kernel_rfl
theorem en25 : entB Try.prog 25 = true := by kernel_rfl
theorem ik3 : intKB Try.prog 3 = some .i64 := by kernel_rfl
theorem ik5 : intKB Try.prog 5 = some .u8 := by kernel_rfl
theorem sd31 : sizedB Try.prog 31 = true := by kernel_rfl
theorem sd71 : sizedB Try.prog 71 = true := by kernel_rfl
theorem st9 : strB Try.prog 9 = true := by kernel_rfl
theorem sz26 : sizeB Try.prog 26 = some 1 := by kernel_rfl
theorem sz3 : sizeB Try.prog 3 = some 1 := by kernel_rfl
theorem sz5 : sizeB Try.prog 5 = some 1 := by kernel_rfl
theorem sz50 : sizeB Try.prog 50 = some 1 := by kernel_rfl
theorem ze5 : zeroB Try.prog 5 = some (.int .u8 0) := by kernel_rfl
theorem right_any (d : Dat) (on : Tm) (v : Value) (ls : List Am) (w : World) (hd : DatOk w d) (ho : TmOk w on) (hv : RowsAt w v 23 (ls.map Am.cs)) (hA : ∀ u ∈ ls, AmOk w u) (hsz : PrSz (rightP d on ls)) (hwt : wtT (rightP d on ls).body ≤ 4398046511104) :
    Calls Try.prog 25 ([.agg d.cs, .agg on.cs, v] : List Value).toArray w fun e w' => e = .returned (.bool (rightB d on ls)) ∧ Below w.heap.size w w' := by
  have hB := Below.refl w.heap.size w
  refine At.enter (N := 22) Try.func25 rfl rfl (by simp) [(0, .agg d.cs), (1, .agg on.cs), (2, v)] (by simp) ?_
  refine At.seq ?_
  refine At.region ?_
  refine At.box rfl rfl (fun b1 w1 F1 => ?_)
  have gb1 := F1.ge hB
  have hb1 : w1.heap[b1]? = some (.cells d.cs 52) := F1.new
  replace hB := F1.below' hB
  refine At.box rfl rfl (fun b2 w2 F2 => ?_)
  have n_b1_b2 : b1 ≠ b2 := Nat.ne_of_lt (F2.lt hb1)
  have gb2 := F2.ge hB
  replace hb1 := F2.old hb1
  have hb2 : w2.heap[b2]? = some (.cells on.cs 33) := F2.new
  replace hB := F2.below' hB
  refine At.assign rfl rfl ?_
  refine At.ops0 ?_
  refine At.thenN ?_
  refine At.seq ?_
  refine At.region ?_
  refine At.load rfl (Ld.own ag52 (sz52.trans (congrArg some (hd).size.symm)) hb1) rfl ?_
  refine At.buildSlice (xs := [.tmp 10]) rfl rfl el23 sz52 ze52 (by intro v hv; simp only [List.mem_cons, List.not_mem_nil, or_false] at hv; rcases hv with rfl <;> first | rfl | simp [Value.cells, (hd).size]) rfl (by decide) rfl (fun b3 w3 F3 => ?_)
  have n_b1_b3 : b1 ≠ b3 := Nat.ne_of_lt (F3.lt hb1)
  have n_b2_b3 : b2 ≠ b3 := Nat.ne_of_lt (F3.lt hb2)
  have gb3 := F3.ge hB
  replace hb1 := F3.old hb1
  replace hb2 := F3.old hb2
  have hb3 : w3.heap[b3]? = some (.cells (([d].map Dat.cs).flatMap (·.toList)).toArray 52) := F3.new
  replace hB := F3.below' hB
  refine At.load rfl (Ld.own ag33 (sz33.trans (congrArg some (ho).size.symm)) hb2) rfl ?_
  refine At.buildSlice (xs := [.tmp 12]) rfl rfl el24 sz33 ze33 (by intro v hv; simp only [List.mem_cons, List.not_mem_nil, or_false] at hv; rcases hv with rfl <;> first | rfl | simp [Value.cells, (ho).size]) rfl (by decide) rfl (fun b4 w4 F4 => ?_)
  have n_b1_b4 : b1 ≠ b4 := Nat.ne_of_lt (F4.lt hb1)
  have n_b2_b4 : b2 ≠ b4 := Nat.ne_of_lt (F4.lt hb2)
  have n_b3_b4 : b3 ≠ b4 := Nat.ne_of_lt (F4.lt hb3)
  have gb4 := F4.ge hB
  replace hb1 := F4.old hb1
  replace hb2 := F4.old hb2
  replace hb3 := F4.old hb3
  have hb4 : w4.heap[b4]? = some (.cells (([on].map Tm.cs).flatMap (·.toList)).toArray 33) := F4.new
  replace hB := F4.below' hB
  refine At.move rfl rfl ?_
  refine At.build (C := #[.int .i64 12, .int .i64 0, .string (⟨#[]⟩ : ByteArray), .string (⟨#[]⟩ : ByteArray), .int .i64 0, (.slice (some ⟨b4, 0, none⟩) 1 1), v, .int .i64 0, .string (⟨#[]⟩ : ByteArray), .int .i64 0, (.slice none 0 0), (.slice none 0 0), .int .i64 0, (.slice none 0 0), .int .i64 0, .int .i64 0, .string (⟨#[]⟩ : ByteArray), .int .i64 0, (.slice none 0 0), (.slice none 0 0), .int .i64 0]) sd33 ze33 rfl (Bld.cons fo33_0 rfl (by first | decide | exact Nat.le_of_ble_eq_true rfl) (Bld.cons fo33_5 rfl (by first | decide | exact Nat.le_of_ble_eq_true rfl) (Bld.one fo33_6 (hv.okL).one (by first | decide | exact Nat.le_of_ble_eq_true rfl | simp [Value.cells]) (Bld.nil _)))) rfl ?_
  refine At.build (C := #[(.slice none 0 0), (.slice (some ⟨b3, 0, none⟩) 1 1), .int .i64 12, .int .i64 0, .string (⟨#[]⟩ : ByteArray), .string (⟨#[]⟩ : ByteArray), .int .i64 0, (.slice (some ⟨b4, 0, none⟩) 1 1), v, .int .i64 0, .string (⟨#[]⟩ : ByteArray), .int .i64 0, (.slice none 0 0), (.slice none 0 0), .int .i64 0, (.slice none 0 0), .int .i64 0, .int .i64 0, .string (⟨#[]⟩ : ByteArray), .int .i64 0, (.slice none 0 0), (.slice none 0 0), .int .i64 0]) sd35 ze35 rfl (Bld.cons fo35_1 rfl (by first | decide | exact Nat.le_of_ble_eq_true rfl) (Bld.cons fo35_2 rfl (by first | decide | exact Nat.le_of_ble_eq_true rfl) (Bld.nil _))) rfl ?_
  refine At.call en12 rfl rfl (check_any (armPr (.slice (some ⟨b3, 0, none⟩) 1 1) [d] (.slice (some ⟨b4, 0, none⟩) 1 1) [on] v ls) _ (((armPr_ok (rows_own (f := Dat.cs) (m := 1) hb3 (fun u hu => ((mem1 (Q := fun u => DatOk w4 u) ((hd).keep hB)) u hu).size) rfl (by decide)) (mem1 (Q := fun u => DatOk w4 u) ((hd).keep hB)) (rows_tm (m := 1) hb4 (mem1 (Q := fun u => TmOk w4 u) ((ho).keep hB)) rfl (by decide)) (mem1 (Q := fun u => TmOk w4 u) ((ho).keep hB)) ((hv).keep hB) (fun u hu => (hA u hu).keep hB))).keep (Below.refl _ _)) (PrSz.of_eq (p := rightP d on ls) rfl rfl hsz) (by rw [armPr_wt]; exact hwt)) (fun e w5 hR => ?_)
  obtain ⟨rfl, hbl1⟩ := hR
  refine ⟨_, rfl, ?_⟩
  replace hb1 := Below.old hbl1 hb1
  replace hb2 := Below.old hbl1 hb2
  replace hb3 := Below.old hbl1 hb3
  replace hb4 := Below.old hbl1 hb4
  replace hB := Below.andThen hB hbl1
  refine At.move rfl rfl ?_
  refine At.extract rfl rfl rfl ?_
  refine At.extract rfl rfl rfl ?_
  refine At.assign rfl rfl ?_
  refine At.assign rfl rfl ?_
  refine At.ops0 ?_
  refine At.thenN ?_
  refine At.seq ?_
  refine At.region ?_
  refine At.move rfl rfl ?_
  refine At.eqI rfl rfl rfl ?_
  refine At.assign rfl rfl ?_
  refine At.ops0 ?_
  refine At.thenN ?_
  refine At.retc ?_
  refine At.doneR (ResV.tmp rfl ResV.nil) ?_
  exact ⟨congrArg Ending.returned (congrArg Value.bool (armPr_right _ _ _ _ _ _)), hB⟩
set_option maxRecDepth 100000 in
set_option maxHeartbeats 4000000 in
theorem scopeArms_any (v : Value) (l : List Int) (i k : Int) (w : World) (hv : IntsAt w v l) :
    Calls Try.prog 9 ([v, .int .i64 i, .int .i64 k] : List Value).toArray w fun e w' => e = .returned (.bool true) ∧ Below w.heap.size w w' := by
  have hll := hv.len
  have hB := Below.refl w.heap.size w
  refine At.enter (N := 198) Try.func9 rfl rfl (by simp) [(0, v), (1, .int .i64 i), (2, .int .i64 k)] (by simp) ?_
  refine At.seq ?_
  refine At.region ?_
  refine At.assign rfl rfl ?_
  refine At.ops0 ?_
  refine At.thenN ?_
  refine At.seq ?_
  refine At.region ?_
  refine At.call en10 rfl rfl (shown_any _) (fun e w1 hR => ?_)
  obtain ⟨rfl, hbl1⟩ := hR
  refine ⟨_, rfl, ?_⟩
  replace hB := Below.andThen hB hbl1
  refine At.assign rfl rfl ?_
  refine At.ops0 ?_
  refine At.thenN ?_
  refine At.seq ?_
  refine At.region ?_
  refine At.move rfl rfl ?_
  refine At.lenSl rfl hv.ok el68 rfl ?_
  refine At.minI rfl rfl rfl ?_
  refine At.assign rfl rfl ?_
  refine At.ops0 ?_
  refine At.thenN ?_
  refine At.seq ?_
  refine At.seq ?_
  obtain ⟨n, hn, hn9, hnl⟩ := min_nat l
  refine At.set (d := 8) (u := .int .i64 (n : Int)) rfl (congrArg (Value.int .i64) hn) ?_
  refine At.region ?_
  refine At.move rfl rfl ?_
  refine At.lss rfl rfl rfl ?_
  refine At.ops0 ?_
  refine At.thenN ?_
  refine At.cond (b := decide ((n : Int) < 2)) rfl (fun hc1 => ?_) (fun hc1 => ?_)
  · skip
    have hc1' := of_decide_eq_true hc1
    refine At.seq ?_
    refine At.region ?_
    refine At.move rfl rfl ?_
    refine At.assign rfl rfl ?_
    refine At.ops0 ?_
    refine At.thenN ?_
    refine At.retc ?_
    refine At.thenR ?_
    refine At.doneR (ResV.tmp rfl ResV.nil) ?_
    exact ⟨rfl, hB⟩
  · skip
    have hc1' := of_decide_eq_false hc1
    refine At.skip ?_
    refine At.thenN ?_
    refine At.seq ?_
    refine At.region ?_
    refine At.build (C := #[.int .i64 1, .string (⟨#[]⟩ : ByteArray), .int .i64 0, (.slice none 0 0), (.slice none 0 0), .int .i64 0]) sd31 ze31 rfl (Bld.cons fo31_0 rfl (by first | decide | exact Nat.le_of_ble_eq_true rfl) (Bld.nil _)) rfl ?_
    refine At.alloc ze31 rfl (fun b1 w2 F1 => ?_)
    have gb1 := F1.ge hB
    have hb1 : w2.heap[b1]? = some (.cells #[.int .i64 0, .string (⟨#[]⟩ : ByteArray), .int .i64 0, (.slice none 0 0), (.slice none 0 0), .int .i64 0] 31) := F1.new
    replace hB := F1.below' hB
    refine At.storeAll rfl rfl hb1 sz31 rfl (by first | (simp [Value.oneCell', ((SlOk.nil)).one, ((SlOk.nil)).one]; done) | (simp only [List.all_toArray, List.all_cons, List.all_nil, ((SlOk.nil)).one, ((SlOk.nil)).one, Bool.and_true, Bool.true_and]; rfl)) (fun w3 S1 => ?_)
    replace hb1 : w3.heap[b1]? = some (.cells #[.int .i64 1, .string (⟨#[]⟩ : ByteArray), .int .i64 0, (.slice none 0 0), (.slice none 0 0), .int .i64 0] 31) := S1.new
    replace hB := S1.below' hB gb1
    refine At.ops0 ?_
    refine At.thenN ?_
    refine At.seq ?_
    refine At.region ?_
    refine At.build (C := #[.string (⟨#[68]⟩ : ByteArray), (.slice none 0 0)]) sd52 ze52 rfl (Bld.cons fo52_0 rfl (by first | decide | exact Nat.le_of_ble_eq_true rfl) (Bld.nil _)) rfl ?_
    refine At.alloc ze52 rfl (fun b2 w4 F2 => ?_)
    have n_b1_b2 : b1 ≠ b2 := Nat.ne_of_lt (F2.lt hb1)
    have gb2 := F2.ge hB
    replace hb1 := F2.old hb1
    have hb2 : w4.heap[b2]? = some (.cells #[.string (⟨#[]⟩ : ByteArray), (.slice none 0 0)] 52) := F2.new
    replace hB := F2.below' hB
    refine At.storeAll rfl rfl hb2 sz52 rfl (by first | (simp [Value.oneCell', ((SlOk.nil)).one]; done) | (simp only [List.all_toArray, List.all_cons, List.all_nil, ((SlOk.nil)).one, Bool.and_true, Bool.true_and]; rfl)) (fun w5 S2 => ?_)
    replace hb1 := S2.other hb1 n_b1_b2
    replace hb2 : w5.heap[b2]? = some (.cells #[.string (⟨#[68]⟩ : ByteArray), (.slice none 0 0)] 52) := S2.new
    replace hB := S2.below' hB gb2
    refine At.ops0 ?_
    refine At.thenN ?_
    refine At.seq ?_
    refine At.region ?_
    refine At.assign rfl rfl ?_
    refine At.ops0 ?_
    refine At.thenN ?_
    refine At.seq ?_
    refine At.region ?_
    refine At.assign rfl rfl ?_
    refine At.ops0 ?_
    refine At.thenN ?_
    refine At.seq ?_
    refine At.seq ?_
    refine At.region ?_
    refine At.assign rfl rfl ?_
    refine At.ops0 ?_
    refine At.thenN ?_
    refine At.block ?_
    refine At.loop (Nat × Value × List Cn × Value × List Am × Value × List Tm) (fun (a, vC, lC, vA, lA, vF, lF) => [(0, v), (1, .int .i64 i), (2, .int .i64 k), (7, .bool true), (8, .int .i64 (n : Int)), (9, .pointer (some ⟨b1, 0, none⟩)), (10, .pointer (some ⟨b2, 0, none⟩)), (11, vA), (12, vF), (13, .int .i64 (a : Int))]) (fun (a, vC, lC, vA, lA, vF, lF) w6 => Below w.heap.size w w6 ∧ w6.heap[b1]? = some (.cells #[.int .i64 1, .string (⟨#[]⟩ : ByteArray), .int .i64 0, (.slice none 0 0), (.slice none 0 0), .int .i64 0] 31) ∧ w6.heap[b2]? = some (.cells #[.string (⟨#[68]⟩ : ByteArray), vC] 52) ∧ OwnR 54 2 Cn.cs w6 vC lC ∧ OwnR 71 23 Am.cs w6 vA lA ∧ OwnR 33 21 Tm.cs w6 vF lF ∧ Xs kCn [some b1, some b2, Value.ownBlock vC, Value.ownBlock vA, Value.ownBlock vF] w6 lC ∧ Xs kAm [some b1, some b2, Value.ownBlock vC, Value.ownBlock vA, Value.ownBlock vF] w6 lA ∧ (∀ g, vC.ownBlock = some g → w.heap.size ≤ g) ∧ (∀ g, vA.ownBlock = some g → w.heap.size ≤ g) ∧ (∀ g, vF.ownBlock = some g → w.heap.size ≤ g) ∧ (a ≤ n) ∧ (CnsOk l a lC) ∧ (ArmsOk l a lA) ∧ (lF = List.replicate (if a = 0 then 0 else cntN l 0) intLeaf)) (fun (a, vC, lC, vA, lA, vF, lF) => n - a) (0, .slice none 0 0, [], .slice none 0 0, [], .slice none 0 0, []) (Sub.cons rfl (Sub.cons rfl (Sub.cons rfl (Sub.cons rfl (Sub.cons rfl (Sub.cons rfl (Sub.cons rfl (Sub.cons rfl (Sub.cons rfl (Sub.cons rfl Sub.nil)))))))))) ⟨hB, hb1, hb2, OwnR.nil _ _ _ _, OwnR.nil _ _ _ _, OwnR.nil _ _ _ _, Xs.nil _ _ _, Xs.nil _ _ _, (fun g h => by cases h), (fun g h => by cases h), (fun g h => by cases h), (Nat.zero_le _), (⟨rfl, fun j c h => by simp at h⟩), (⟨rfl, fun j c h => by simp at h⟩), (rfl)⟩ (fun gh w6 hI => ?_)
    obtain ⟨a, vC, lC, vA, lA, vF, lF⟩ := gh
    clear hB hb1 hb2
    obtain ⟨hB, hb1, hb2, hrC, hrA, hrF, hxC, hxA, gC, gA, gF, hab, hCn, hAr, hFl⟩ := hI
    show At _ _ [(0, v), (1, .int .i64 i), (2, .int .i64 k), (7, .bool true), (8, .int .i64 (n : Int)), (9, .pointer (some ⟨b1, 0, none⟩)), (10, .pointer (some ⟨b2, 0, none⟩)), (11, vA), (12, vF), (13, .int .i64 (a : Int))] _ _
    refine At.seq ?_
    refine At.seq ?_
    refine At.region ?_
    refine At.move rfl rfl ?_
    refine At.move rfl rfl ?_
    refine At.lss rfl rfl rfl ?_
    refine At.ops0 ?_
    refine At.thenN ?_
    refine At.cond (b := decide ((a : Int) < (n : Int))) rfl (fun hc2 => ?_) (fun hc2 => ?_)
    · skip
      have hc2' := of_decide_eq_true hc2
      refine At.skip ?_
      refine At.thenN ?_
      refine At.seq ?_
      refine At.block ?_
      refine At.seq ?_
      refine At.region ?_
      refine At.move rfl rfl ?_
      refine At.convI rfl ik3 ik5 rfl ?_
      refine At.add rfl rfl rfl ?_
      refine At.buildSlice (xs := [.tmp 37]) rfl rfl el69 sz5 ze5 (by intro v hv; simp only [List.mem_cons, List.not_mem_nil, or_false] at hv; rcases hv with rfl <;> first | rfl | simp [Value.cells, Value.cells]) rfl (by decide) rfl (fun b3 w7 F3 => ?_)
      have n_b1_b3 : b1 ≠ b3 := Nat.ne_of_lt (F3.lt hb1)
      have n_b2_b3 : b2 ≠ b3 := Nat.ne_of_lt (F3.lt hb2)
      have gb3 := F3.ge hB
      replace hb1 := F3.old hb1
      replace hb2 := F3.old hb2
      replace hrC := hrC.fresh F3
      replace hrA := hrA.fresh F3
      replace hrF := hrF.fresh F3
      replace hxC := Xs.fresh hxC F3
      replace hxA := Xs.fresh hxA F3
      have hb3 : w7.heap[b3]? = some (.cells #[.int .u8 (IntKind.u8.wrap (65 + IntKind.u8.wrap (a : Int)))] 5) := F3.new
      replace hB := F3.below' hB
      refine At.convB (xs := [IntKind.u8.wrap (65 + IntKind.u8.wrap (a : Int))]) rfl hb3 rfl el69 ik5 st9 rfl ?_
      refine At.set (d := 39) (u := .string (conNm a)) rfl (congrArg Value.string (conNm_of (by omega))) ?_
      refine At.build (C := #[.string (conNm a), (.slice none 0 0)]) sd54 ze54 rfl (Bld.cons fo54_0 rfl (by first | decide | exact Nat.le_of_ble_eq_true rfl) (Bld.nil _)) rfl ?_
      refine At.alloc ze54 rfl (fun b4 w8 F4 => ?_)
      have q_hrC_b4 : some b4 ≠ Value.ownBlock vC := Own.neFresh hrC F4
      have n_b1_b4 : b1 ≠ b4 := Nat.ne_of_lt (F4.lt hb1)
      have n_b2_b4 : b2 ≠ b4 := Nat.ne_of_lt (F4.lt hb2)
      have n_b3_b4 : b3 ≠ b4 := Nat.ne_of_lt (F4.lt hb3)
      have gb4 := F4.ge hB
      replace hb1 := F4.old hb1
      replace hb2 := F4.old hb2
      replace hb3 := F4.old hb3
      replace hrC := hrC.fresh F4
      replace hrA := hrA.fresh F4
      replace hrF := hrF.fresh F4
      replace hxC := Xs.fresh hxC F4
      replace hxA := Xs.fresh hxA F4
      have hb4 : w8.heap[b4]? = some (.cells #[.string (⟨#[]⟩ : ByteArray), (.slice none 0 0)] 54) := F4.new
      replace hB := F4.below' hB
      refine At.storeAll rfl rfl hb4 sz54 rfl (by first | (simp [Value.oneCell', ((SlOk.nil)).one]; done) | (simp only [List.all_toArray, List.all_cons, List.all_nil, ((SlOk.nil)).one, Bool.and_true, Bool.true_and]; rfl)) (fun w9 S3 => ?_)
      replace hb1 := S3.other hb1 n_b1_b4
      replace hb2 := S3.other hb2 n_b2_b4
      replace hb3 := S3.other hb3 n_b3_b4
      replace hrC := hrC.set S3 q_hrC_b4
      replace hrA := hrA.set S3 (hrA.neT hb4 rfl)
      replace hrF := hrF.set S3 (hrF.neT hb4 rfl)
      replace hxC := Xs.set hxC S3 (by simp)
      replace hxA := Xs.set hxA S3 (by simp)
      replace hb4 : w9.heap[b4]? = some (.cells #[.string (conNm a), (.slice none 0 0)] 54) := S3.new
      replace hB := S3.below' hB gb4
      refine At.ops0 ?_
      refine At.thenN ?_
      refine At.seq ?_
      refine At.region ?_
      refine At.fieldAddr rfl fo54_0 rfl ?_
      refine At.load rfl (Ld.ownCell ag9 hb4 rfl) rfl ?_
      refine At.build (C := #[.int .i64 4, .int .i64 0, .string (⟨#[]⟩ : ByteArray), .string (⟨#[]⟩ : ByteArray), .int .i64 0, (.slice none 0 0), (.slice none 0 0), .int .i64 0, .string (⟨#[]⟩ : ByteArray), .int .i64 0, (.slice none 0 0), (.slice none 0 0), .int .i64 0, (.slice none 0 0), .int .i64 0, .int .i64 0, .string (⟨#[]⟩ : ByteArray), .int .i64 0, (.slice none 0 0), (.slice none 0 0), .int .i64 0]) sd33 ze33 rfl (Bld.cons fo33_0 rfl (by first | decide | exact Nat.le_of_ble_eq_true rfl) (Bld.nil _)) rfl ?_
      refine At.build (C := #[.string (conNm a), (.slice none 0 0), .int .i64 4, .int .i64 0, .string (⟨#[]⟩ : ByteArray), .string (⟨#[]⟩ : ByteArray), .int .i64 0, (.slice none 0 0), (.slice none 0 0), .int .i64 0, .string (⟨#[]⟩ : ByteArray), .int .i64 0, (.slice none 0 0), (.slice none 0 0), .int .i64 0, (.slice none 0 0), .int .i64 0, .int .i64 0, .string (⟨#[]⟩ : ByteArray), .int .i64 0, (.slice none 0 0), (.slice none 0 0), .int .i64 0]) sd71 ze71 rfl (Bld.cons fo71_0 rfl (by first | decide | exact Nat.le_of_ble_eq_true rfl) (Bld.cons fo71_2 rfl (by first | decide | exact Nat.le_of_ble_eq_true rfl) (Bld.nil _))) rfl ?_
      refine At.alloc ze71 rfl (fun b5 w10 F5 => ?_)
      have q_hrA_b5 : some b5 ≠ Value.ownBlock vA := Own.neFresh hrA F5
      have n_b1_b5 : b1 ≠ b5 := Nat.ne_of_lt (F5.lt hb1)
      have n_b2_b5 : b2 ≠ b5 := Nat.ne_of_lt (F5.lt hb2)
      have n_b3_b5 : b3 ≠ b5 := Nat.ne_of_lt (F5.lt hb3)
      have n_b4_b5 : b4 ≠ b5 := Nat.ne_of_lt (F5.lt hb4)
      have gb5 := F5.ge hB
      replace hb1 := F5.old hb1
      replace hb2 := F5.old hb2
      replace hb3 := F5.old hb3
      replace hb4 := F5.old hb4
      replace hrC := hrC.fresh F5
      replace hrA := hrA.fresh F5
      replace hrF := hrF.fresh F5
      replace hxC := Xs.fresh hxC F5
      replace hxA := Xs.fresh hxA F5
      have hb5 : w10.heap[b5]? = some (.cells #[.string (⟨#[]⟩ : ByteArray), (.slice none 0 0), .int .i64 0, .int .i64 0, .string (⟨#[]⟩ : ByteArray), .string (⟨#[]⟩ : ByteArray), .int .i64 0, (.slice none 0 0), (.slice none 0 0), .int .i64 0, .string (⟨#[]⟩ : ByteArray), .int .i64 0, (.slice none 0 0), (.slice none 0 0), .int .i64 0, (.slice none 0 0), .int .i64 0, .int .i64 0, .string (⟨#[]⟩ : ByteArray), .int .i64 0, (.slice none 0 0), (.slice none 0 0), .int .i64 0] 71) := F5.new
      replace hB := F5.below' hB
      refine At.storeAll rfl rfl hb5 sz71 rfl (by first | (simp [Value.oneCell', ((SlOk.nil)).one, ((SlOk.nil)).one, ((SlOk.nil)).one, ((SlOk.nil)).one, ((SlOk.nil)).one, ((SlOk.nil)).one, ((SlOk.nil)).one, ((SlOk.nil)).one]; done) | (simp only [List.all_toArray, List.all_cons, List.all_nil, ((SlOk.nil)).one, ((SlOk.nil)).one, ((SlOk.nil)).one, ((SlOk.nil)).one, ((SlOk.nil)).one, ((SlOk.nil)).one, ((SlOk.nil)).one, ((SlOk.nil)).one, Bool.and_true, Bool.true_and]; rfl)) (fun w11 S4 => ?_)
      replace hb1 := S4.other hb1 n_b1_b5
      replace hb2 := S4.other hb2 n_b2_b5
      replace hb3 := S4.other hb3 n_b3_b5
      replace hb4 := S4.other hb4 n_b4_b5
      replace hrC := hrC.set S4 (hrC.neT hb5 rfl)
      replace hrA := hrA.set S4 q_hrA_b5
      replace hrF := hrF.set S4 (hrF.neT hb5 rfl)
      replace hxC := Xs.set hxC S4 (by simp)
      replace hxA := Xs.set hxA S4 (by simp)
      replace hb5 : w11.heap[b5]? = some (.cells #[.string (conNm a), (.slice none 0 0), .int .i64 4, .int .i64 0, .string (⟨#[]⟩ : ByteArray), .string (⟨#[]⟩ : ByteArray), .int .i64 0, (.slice none 0 0), (.slice none 0 0), .int .i64 0, .string (⟨#[]⟩ : ByteArray), .int .i64 0, (.slice none 0 0), (.slice none 0 0), .int .i64 0, (.slice none 0 0), .int .i64 0, .int .i64 0, .string (⟨#[]⟩ : ByteArray), .int .i64 0, (.slice none 0 0), (.slice none 0 0), .int .i64 0] 71) := S4.new
      replace hB := S4.below' hB gb5
      refine At.ops0 ?_
      refine At.thenN ?_
      refine At.seq ?_
      refine At.seq ?_
      refine At.region ?_
      refine At.assign rfl rfl ?_
      refine At.ops0 ?_
      refine At.thenN ?_
      refine At.block ?_
      obtain ⟨uA, huA⟩ := some_of_lt (l := l) (i := a) (by omega)
      have hcnt := cnt_eq huA
      have hcr := cnt_range l a
      refine At.loop (Nat × Value × List Ty × Value × List ByteArray × Value × List Tm) (fun (f, vT, lT, vV, lV, vG, lG) => [(0, v), (1, .int .i64 i), (2, .int .i64 k), (7, .bool true), (8, .int .i64 (n : Int)), (9, .pointer (some ⟨b1, 0, none⟩)), (10, .pointer (some ⟨b2, 0, none⟩)), (11, vA), (12, vG), (13, .int .i64 (a : Int)), (14, .pointer (some ⟨b4, 0, none⟩)), (15, .pointer (some ⟨b5, 0, none⟩)), (16, .int .i64 (f : Int))]) (fun (f, vT, lT, vV, lV, vG, lG) w12 => Below w.heap.size w w12 ∧ w12.heap[b1]? = some (.cells #[.int .i64 1, .string (⟨#[]⟩ : ByteArray), .int .i64 0, (.slice none 0 0), (.slice none 0 0), .int .i64 0] 31) ∧ w12.heap[b2]? = some (.cells #[.string (⟨#[68]⟩ : ByteArray), vC] 52) ∧ w12.heap[b4]? = some (.cells #[.string (conNm a), vT] 54) ∧ w12.heap[b5]? = some (.cells #[.string (conNm a), vV, .int .i64 4, .int .i64 0, .string (⟨#[]⟩ : ByteArray), .string (⟨#[]⟩ : ByteArray), .int .i64 0, (.slice none 0 0), (.slice none 0 0), .int .i64 0, .string (⟨#[]⟩ : ByteArray), .int .i64 0, (.slice none 0 0), (.slice none 0 0), .int .i64 0, (.slice none 0 0), .int .i64 0, .int .i64 0, .string (⟨#[]⟩ : ByteArray), .int .i64 0, (.slice none 0 0), (.slice none 0 0), .int .i64 0] 71) ∧ OwnR 54 2 Cn.cs w12 vC lC ∧ OwnR 71 23 Am.cs w12 vA lA ∧ OwnR 31 6 Ty.cs w12 vT lT ∧ OwnS 9 w12 vV lV ∧ OwnR 33 21 Tm.cs w12 vG lG ∧ Xs kCn [some b1, some b2, some b4, some b5, Value.ownBlock vC, Value.ownBlock vA, Value.ownBlock vT, Value.ownBlock vV, Value.ownBlock vG] w12 lC ∧ Xs kAm [some b1, some b2, some b4, some b5, Value.ownBlock vC, Value.ownBlock vA, Value.ownBlock vT, Value.ownBlock vV, Value.ownBlock vG] w12 lA ∧ (some b1 ≠ Value.ownBlock vT) ∧ (∀ g, vT.ownBlock = some g → w.heap.size ≤ g) ∧ (∀ g, vV.ownBlock = some g → w.heap.size ≤ g) ∧ (∀ g, vG.ownBlock = some g → w.heap.size ≤ g) ∧ (f ≤ cntN l a) ∧ (lT = List.replicate f intTy) ∧ (lV = abc.take f) ∧ (lG = List.replicate (if a = 0 then f else cntN l 0) intLeaf)) (fun (f, vT, lT, vV, lV, vG, lG) => cntN l a - f) (0, .slice none 0 0, [], .slice none 0 0, [], vF, lF) (Sub.cons rfl (Sub.cons rfl (Sub.cons rfl (Sub.cons rfl (Sub.cons rfl (Sub.cons rfl (Sub.cons rfl (Sub.cons rfl (Sub.cons rfl (Sub.cons rfl (Sub.cons rfl (Sub.cons rfl (Sub.cons rfl Sub.nil))))))))))))) ⟨hB, hb1, hb2, hb4, hb5, hrC, hrA, OwnR.nil _ _ _ _, OwnS.nil _ _, hrF, (Xs.weakenNone (v := .slice none 0 0) hxC (by intro o ho; simp only [List.mem_cons, List.not_mem_nil, or_false] at ho ⊢; rcases ho with rfl | rfl | rfl | rfl | rfl | rfl | rfl | rfl | rfl <;> simp [Value.ownBlock])), (Xs.weakenNone (v := .slice none 0 0) hxA (by intro o ho; simp only [List.mem_cons, List.not_mem_nil, or_false] at ho ⊢; rcases ho with rfl | rfl | rfl | rfl | rfl | rfl | rfl | rfl | rfl <;> simp [Value.ownBlock])), (by simp [Value.ownBlock]), (fun g h => by cases h), (fun g h => by cases h), (gF), (Nat.zero_le _), (rfl), (rfl), (hFl)⟩ (fun gh w12 hI => ?_)
      obtain ⟨f, vT, lT, vV, lV, vG, lG⟩ := gh
      clear hB hb1 hb2 hb3 hb4 hb5 hrC hrA hrF hxC hxA
      obtain ⟨hB, hb1, hb2, hb4, hb5, hrC, hrA, hrT, hrV, hrG, hxC, hxA, hneW, gT, gV, gG, hfb, hTl, hVl, hGl⟩ := hI
      show At _ _ [(0, v), (1, .int .i64 i), (2, .int .i64 k), (7, .bool true), (8, .int .i64 (n : Int)), (9, .pointer (some ⟨b1, 0, none⟩)), (10, .pointer (some ⟨b2, 0, none⟩)), (11, vA), (12, vG), (13, .int .i64 (a : Int)), (14, .pointer (some ⟨b4, 0, none⟩)), (15, .pointer (some ⟨b5, 0, none⟩)), (16, .int .i64 (f : Int))] _ _
      refine At.seq ?_
      refine At.seq ?_
      refine At.region ?_
      refine At.move rfl rfl ?_
      refine At.move rfl rfl ?_
      refine At.move rfl rfl ?_
      refine At.indexAddr (i := a) rfl rfl hv.ok (lt_of_some huA) el68 sz3 rfl ?_
      refine At.load rfl (Ld.cell ag3 (cell_keep ((hv).get huA) hB)) rfl ?_
      refine At.andI rfl rfl rfl ?_
      refine At.lss rfl rfl rfl ?_
      refine At.ops0 ?_
      refine At.thenN ?_
      refine At.cond (b := decide ((f : Int) < (bits .and .i64 uA 3))) rfl (fun hc3 => ?_) (fun hc3 => ?_)
      · skip
        have hc3' := of_decide_eq_true hc3
        refine At.skip ?_
        refine At.thenN ?_
        refine At.seq ?_
        refine At.block ?_
        refine At.seq ?_
        refine At.region ?_
        refine At.fieldAddr rfl fo54_1 rfl ?_
        refine At.load rfl (Ld.ownCell ag26 hb4 rfl) rfl ?_
        refine At.load rfl (Ld.own (C := #[.int .i64 1, .string (⟨#[]⟩ : ByteArray), .int .i64 0, (.slice none 0 0), (.slice none 0 0), .int .i64 0]) ag31 sz31 hb1) rfl ?_
        refine At.buildSlice (xs := [.tmp 56]) rfl rfl el26 sz31 ze31 (by intro v hv; simp only [List.mem_cons, List.not_mem_nil, or_false] at hv; rcases hv with rfl <;> first | rfl | simp [Value.cells, (intTy_ok).size]) rfl (by decide) rfl (fun b6 w13 F6 => ?_)
        have q_hrT_b6 : some b6 ≠ Value.ownBlock vT := Own.neFresh hrT F6
        have n_b1_b6 : b1 ≠ b6 := Nat.ne_of_lt (F6.lt hb1)
        have n_b2_b6 : b2 ≠ b6 := Nat.ne_of_lt (F6.lt hb2)
        have n_b4_b6 : b4 ≠ b6 := Nat.ne_of_lt (F6.lt hb4)
        have n_b5_b6 : b5 ≠ b6 := Nat.ne_of_lt (F6.lt hb5)
        have gb6 := F6.ge hB
        replace hb1 := F6.old hb1
        replace hb2 := F6.old hb2
        replace hb4 := F6.old hb4
        replace hb5 := F6.old hb5
        replace hrC := hrC.fresh F6
        replace hrA := hrA.fresh F6
        replace hrT := hrT.fresh F6
        replace hrV := hrV.fresh F6
        replace hrG := hrG.fresh F6
        replace hxC := Xs.fresh hxC F6
        replace hxA := Xs.fresh hxA F6
        have hb6 : w13.heap[b6]? = some (.cells (([intTy].map Ty.cs).flatMap (·.toList)).toArray 31) := F6.new
        replace hB := F6.below' hB
        refine At.appendR (f := Ty.cs) rfl rfl el26 el26 sz31 by31 ze31 rfl hrT (rows_own (f := Ty.cs) (m := 1) hb6 (fun u hu => ((mem1 (Q := fun u => TyOk u) intTy_ok) u hu).size) rfl (by decide)) (by decide) (fun u hu => (((mem1 (Q := fun u => TyOk u) intTy_ok)) u hu).one) (by first | (simp only [List.length_cons, List.length_nil]; omega) | (rw [hTl]; simp only [List.length_replicate, List.length_cons, List.length_nil]; omega) | (rw [hGl]; simp only [List.length_replicate, List.length_cons, List.length_nil]; have := cnt_range l 0; split <;> omega) | (have := hCn.1; simp only [List.length_cons, List.length_nil]; omega) | (have := hAr.1; simp only [List.length_cons, List.length_nil]; omega)) (by first | (simp only [List.length_cons, List.length_nil]; omega) | (rw [hTl]; simp only [List.length_replicate, List.length_cons, List.length_nil]; omega) | (rw [hGl]; simp only [List.length_replicate, List.length_cons, List.length_nil]; have := cnt_range l 0; split <;> omega) | (have := hCn.1; simp only [List.length_cons, List.length_nil]; omega) | (have := hAr.1; simp only [List.length_cons, List.length_nil]; omega)) rfl (fun va1 w14 hO1 hA1 => ?_)
        replace hO1 : OwnR 31 6 Ty.cs w14 va1 (lT ++ [intTy]) := hO1
        have q_hO1_b1 : some b1 ≠ Value.ownBlock va1 := Moved.ne hA1.blk (Array.getElem?_eq_some_iff.1 hb1).1 hneW
        replace hb1 := hA1.old hb1 hneW
        replace hb2 := hA1.old hb2 (hrT.neT hb2 rfl)
        replace hb4 := hA1.old hb4 (hrT.neT hb4 rfl)
        replace hb5 := hA1.old hb5 (hrT.neT hb5 rfl)
        clear hb6
        replace hrC := OwnR.keepT hA1 hrT hrC rfl
        replace hrA := OwnR.keepT hA1 hrT hrA rfl
        replace hrV := OwnS.keepT hA1 hrT hrV rfl
        replace hrG := OwnR.keepT hA1 hrT hrG rfl
        replace hxC := Xs.app hxC hA1 (.inr (by simp))
        replace hxA := Xs.app hxA hA1 (.inr (by simp))
        have ghO1 := hA1.ge hB.size gT
        replace hB := hA1.below hB hB.size gT
        refine At.fieldAddr rfl fo54_1 rfl ?_
        refine At.store1 rfl rfl hb4 sz26 (by simp) (hO1).one (fun w15 S5 => ?_)
        replace hb1 := S5.other hb1 n_b1_b4
        replace hb2 := S5.other hb2 n_b2_b4
        replace hb5 := S5.other hb5 n_b4_b5.symm
        replace hrC := hrC.set S5 q_hrC_b4
        replace hrA := hrA.set S5 (hrA.neT hb4 rfl)
        replace hrV := hrV.set S5 (hrV.neT hb4 rfl)
        replace hrG := hrG.set S5 (hrG.neT hb4 rfl)
        replace hO1 := hO1.set S5 (hO1.neT hb4 rfl)
        replace hxC := Xs.set hxC S5 (by simp)
        replace hxA := Xs.set hxA S5 (by simp)
        replace hb4 : w15.heap[b4]? = some (.cells #[.string (conNm a), va1] 54) := S5.new
        replace hB := S5.below' hB gb4
        refine At.ops0 ?_
        refine At.thenN ?_
        refine At.seq ?_
        refine At.region ?_
        refine At.fieldAddr rfl fo71_1 rfl ?_
        refine At.load rfl (Ld.ownCell ag27 hb5 rfl) rfl ?_
        refine At.move rfl rfl ?_
        refine At.convI rfl ik3 ik5 rfl ?_
        refine At.add rfl rfl rfl ?_
        refine At.buildSlice (xs := [.tmp 64]) rfl rfl el69 sz5 ze5 (by intro v hv; simp only [List.mem_cons, List.not_mem_nil, or_false] at hv; rcases hv with rfl <;> first | rfl | simp [Value.cells, Value.cells]) rfl (by decide) rfl (fun b7 w16 F7 => ?_)
        have n_b1_b7 : b1 ≠ b7 := Nat.ne_of_lt (F7.lt hb1)
        have n_b2_b7 : b2 ≠ b7 := Nat.ne_of_lt (F7.lt hb2)
        have n_b4_b7 : b4 ≠ b7 := Nat.ne_of_lt (F7.lt hb4)
        have n_b5_b7 : b5 ≠ b7 := Nat.ne_of_lt (F7.lt hb5)
        have gb7 := F7.ge hB
        replace hb1 := F7.old hb1
        replace hb2 := F7.old hb2
        replace hb4 := F7.old hb4
        replace hb5 := F7.old hb5
        replace hrC := hrC.fresh F7
        replace hrA := hrA.fresh F7
        replace hrV := hrV.fresh F7
        replace hrG := hrG.fresh F7
        replace hO1 := hO1.fresh F7
        replace hxC := Xs.fresh hxC F7
        replace hxA := Xs.fresh hxA F7
        have hb7 : w16.heap[b7]? = some (.cells #[.int .u8 (IntKind.u8.wrap (97 + IntKind.u8.wrap (f : Int)))] 5) := F7.new
        replace hB := F7.below' hB
        refine At.convB (xs := [IntKind.u8.wrap (97 + IntKind.u8.wrap (f : Int))]) rfl hb7 rfl el69 ik5 st9 rfl ?_
        refine At.buildSlice (xs := [.tmp 66]) rfl rfl el27 sz9 ze9 (by intro v hv; simp only [List.mem_cons, List.not_mem_nil, or_false] at hv; rcases hv with rfl <;> first | rfl | simp [Value.cells, Value.cells]) rfl (by decide) rfl (fun b8 w17 F8 => ?_)
        have q_hrV_b8 : some b8 ≠ Value.ownBlock vV := Own.neFresh hrV F8
        have n_b1_b8 : b1 ≠ b8 := Nat.ne_of_lt (F8.lt hb1)
        have n_b2_b8 : b2 ≠ b8 := Nat.ne_of_lt (F8.lt hb2)
        have n_b4_b8 : b4 ≠ b8 := Nat.ne_of_lt (F8.lt hb4)
        have n_b5_b8 : b5 ≠ b8 := Nat.ne_of_lt (F8.lt hb5)
        have n_b7_b8 : b7 ≠ b8 := Nat.ne_of_lt (F8.lt hb7)
        have gb8 := F8.ge hB
        replace hb1 := F8.old hb1
        replace hb2 := F8.old hb2
        replace hb4 := F8.old hb4
        replace hb5 := F8.old hb5
        replace hb7 := F8.old hb7
        replace hrC := hrC.fresh F8
        replace hrA := hrA.fresh F8
        replace hrV := hrV.fresh F8
        replace hrG := hrG.fresh F8
        replace hO1 := hO1.fresh F8
        replace hxC := Xs.fresh hxC F8
        replace hxA := Xs.fresh hxA F8
        have hb8 : w17.heap[b8]? = some (.cells #[.string (strOfNums [IntKind.u8.wrap (97 + IntKind.u8.wrap (f : Int))])] 9) := F8.new
        replace hB := F8.below' hB
        refine At.appendS (ss := lV) rfl rfl el27 el27 sz9 by9 ze9 rfl hrV ((StrsAt.own (ss := [(strOfNums [IntKind.u8.wrap (97 + IntKind.u8.wrap (f : Int))])]) hb8 rfl (by decide) : StrsAt _ (.slice (some ⟨b8, 0, none⟩) 1 1) [(strOfNums [IntKind.u8.wrap (97 + IntKind.u8.wrap (f : Int))])])) (by first | omega | (simp only [List.length_set]; omega) | (rw [hVl]; have := abc_len (show f ≤ 3 by omega); simp only [List.length_cons, List.length_nil]; omega) | (simp only [List.length_append, List.length_cons, List.length_nil]; omega)) rfl (fun va2 w18 hO2 hA2 => ?_)
        replace hb1 := hA2.old hb1 (hrV.neT hb1 rfl)
        replace hb2 := hA2.old hb2 (hrV.neT hb2 rfl)
        replace hb4 := hA2.old hb4 (hrV.neT hb4 rfl)
        replace hb5 := hA2.old hb5 (hrV.neT hb5 rfl)
        replace hb7 := hA2.old hb7 (hrV.neT hb7 rfl)
        clear hb8
        replace hrC := OwnR.keepT hA2 hrV hrC rfl
        replace hrA := OwnR.keepT hA2 hrV hrA rfl
        replace hrG := OwnR.keepT hA2 hrV hrG rfl
        replace hO1 := OwnR.keepT hA2 hrV hO1 rfl
        replace hxC := Xs.app hxC hA2 (.inr (by simp))
        replace hxA := Xs.app hxA hA2 (.inr (by simp))
        have ghO2 := hA2.ge hB.size gV
        replace hB := hA2.below hB hB.size gV
        refine At.fieldAddr rfl fo71_1 rfl ?_
        refine At.store1 rfl rfl hb5 sz27 (by simp) ((hO2.strs).ok).one (fun w19 S6 => ?_)
        replace hb1 := S6.other hb1 n_b1_b5
        replace hb2 := S6.other hb2 n_b2_b5
        replace hb4 := S6.other hb4 n_b4_b5
        replace hb7 := S6.other hb7 n_b5_b7.symm
        replace hrC := hrC.set S6 (hrC.neT hb5 rfl)
        replace hrA := hrA.set S6 q_hrA_b5
        replace hrG := hrG.set S6 (hrG.neT hb5 rfl)
        replace hO1 := hO1.set S6 (hO1.neT hb5 rfl)
        replace hO2 := hO2.set S6 (hO2.neT hb5 rfl)
        replace hxC := Xs.set hxC S6 (by simp)
        replace hxA := Xs.set hxA S6 (by simp)
        replace hb5 : w19.heap[b5]? = some (.cells #[.string (conNm a), va2, .int .i64 4, .int .i64 0, .string (⟨#[]⟩ : ByteArray), .string (⟨#[]⟩ : ByteArray), .int .i64 0, (.slice none 0 0), (.slice none 0 0), .int .i64 0, .string (⟨#[]⟩ : ByteArray), .int .i64 0, (.slice none 0 0), (.slice none 0 0), .int .i64 0, (.slice none 0 0), .int .i64 0, .int .i64 0, .string (⟨#[]⟩ : ByteArray), .int .i64 0, (.slice none 0 0), (.slice none 0 0), .int .i64 0] 71) := S6.new
        replace hB := S6.below' hB gb5
        refine At.ops0 ?_
        refine At.thenN ?_
        refine At.seq ?_
        refine At.region ?_
        refine At.move rfl rfl ?_
        refine At.eqI rfl rfl rfl ?_
        refine At.ops0 ?_
        refine At.thenN ?_
        refine At.cond (b := decide ((a : Int) = 0)) rfl (fun hc4 => ?_) (fun hc4 => ?_)
        · skip
          have hc4' := of_decide_eq_true hc4
          refine At.region ?_
          refine At.move rfl rfl ?_
          refine At.build (C := #[.int .i64 2, .int .i64 0, .string (⟨#[]⟩ : ByteArray), .string (⟨#[]⟩ : ByteArray), .int .i64 0, (.slice none 0 0), (.slice none 0 0), .int .i64 0, .string (⟨#[]⟩ : ByteArray), .int .i64 0, (.slice none 0 0), (.slice none 0 0), .int .i64 0, (.slice none 0 0), .int .i64 0, .int .i64 0, .string (⟨#[]⟩ : ByteArray), .int .i64 0, (.slice none 0 0), (.slice none 0 0), .int .i64 0]) sd33 ze33 rfl (Bld.cons fo33_0 rfl (by first | decide | exact Nat.le_of_ble_eq_true rfl) (Bld.nil _)) rfl ?_
          refine At.buildSlice (xs := [.tmp 73]) rfl rfl el24 sz33 ze33 (by intro v hv; simp only [List.mem_cons, List.not_mem_nil, or_false] at hv; rcases hv with rfl <;> first | rfl | simp [Value.cells, ((ownTm_leaf _ 2 0 (⟨#[]⟩ : ByteArray) (⟨#[]⟩ : ByteArray) 0)).size]) rfl (by decide) rfl (fun b9 w20 F9 => ?_)
          have q_hrG_b9 : some b9 ≠ Value.ownBlock vG := Own.neFresh hrG F9
          have n_b1_b9 : b1 ≠ b9 := Nat.ne_of_lt (F9.lt hb1)
          have n_b2_b9 : b2 ≠ b9 := Nat.ne_of_lt (F9.lt hb2)
          have n_b4_b9 : b4 ≠ b9 := Nat.ne_of_lt (F9.lt hb4)
          have n_b5_b9 : b5 ≠ b9 := Nat.ne_of_lt (F9.lt hb5)
          have n_b7_b9 : b7 ≠ b9 := Nat.ne_of_lt (F9.lt hb7)
          have gb9 := F9.ge hB
          replace hb1 := F9.old hb1
          replace hb2 := F9.old hb2
          replace hb4 := F9.old hb4
          replace hb5 := F9.old hb5
          replace hb7 := F9.old hb7
          replace hrC := hrC.fresh F9
          replace hrA := hrA.fresh F9
          replace hrG := hrG.fresh F9
          replace hO1 := hO1.fresh F9
          replace hO2 := hO2.fresh F9
          replace hxC := Xs.fresh hxC F9
          replace hxA := Xs.fresh hxA F9
          have hb9 : w20.heap[b9]? = some (.cells (([(ownTm 2 0 (⟨#[]⟩ : ByteArray) (⟨#[]⟩ : ByteArray) 0 (.slice none 0 0) [])].map Tm.cs).flatMap (·.toList)).toArray 33) := F9.new
          replace hB := F9.below' hB
          refine At.appendR (f := Tm.cs) rfl rfl el24 el24 sz33 by33 ze33 rfl hrG (rows_tm (m := 1) hb9 (mem1 (Q := fun u => TmOk w20 u) (((ownTm_leaf _ 2 0 (⟨#[]⟩ : ByteArray) (⟨#[]⟩ : ByteArray) 0)).keep (Below.refl _ _))) rfl (by decide)) (by decide) (fun u hu => (((mem1 (Q := fun u => TmOk w20 u) (((ownTm_leaf _ 2 0 (⟨#[]⟩ : ByteArray) (⟨#[]⟩ : ByteArray) 0)).keep (Below.refl _ _)))) u hu).one) (by first | (simp only [List.length_cons, List.length_nil]; omega) | (rw [hTl]; simp only [List.length_replicate, List.length_cons, List.length_nil]; omega) | (rw [hGl]; simp only [List.length_replicate, List.length_cons, List.length_nil]; have := cnt_range l 0; split <;> omega) | (have := hCn.1; simp only [List.length_cons, List.length_nil]; omega) | (have := hAr.1; simp only [List.length_cons, List.length_nil]; omega)) (by first | (simp only [List.length_cons, List.length_nil]; omega) | (rw [hTl]; simp only [List.length_replicate, List.length_cons, List.length_nil]; omega) | (rw [hGl]; simp only [List.length_replicate, List.length_cons, List.length_nil]; have := cnt_range l 0; split <;> omega) | (have := hCn.1; simp only [List.length_cons, List.length_nil]; omega) | (have := hAr.1; simp only [List.length_cons, List.length_nil]; omega)) rfl (fun va3 w21 hO3 hA3 => ?_)
          replace hO3 : OwnR 33 21 Tm.cs w21 va3 (lG ++ [(ownTm 2 0 (⟨#[]⟩ : ByteArray) (⟨#[]⟩ : ByteArray) 0 (.slice none 0 0) [])]) := hO3
          replace hb1 := hA3.old hb1 (hrG.neT hb1 rfl)
          replace hb2 := hA3.old hb2 (hrG.neT hb2 rfl)
          replace hb4 := hA3.old hb4 (hrG.neT hb4 rfl)
          replace hb5 := hA3.old hb5 (hrG.neT hb5 rfl)
          replace hb7 := hA3.old hb7 (hrG.neT hb7 rfl)
          clear hb9
          replace hrC := OwnR.keepT hA3 hrG hrC rfl
          replace hrA := OwnR.keepT hA3 hrG hrA rfl
          replace hO1 := OwnR.keepT hA3 hrG hO1 rfl
          replace hO2 := OwnS.keepT hA3 hrG hO2 rfl
          replace hxC := Xs.app hxC hA3 (.inr (by simp))
          replace hxA := Xs.app hxA hA3 (.inr (by simp))
          have ghO3 := hA3.ge hB.size gG
          replace hB := hA3.below hB hB.size gG
          refine At.assign rfl rfl ?_
          refine At.ops0 ?_
          refine At.inN ?_
          refine At.thenN ?_
          refine At.region ?_
          refine At.move rfl rfl ?_
          refine At.addI rfl rfl rfl (by first | omega | (simp only [List.length_set]; omega) | (rw [hVl]; have := abc_len (show f ≤ 3 by omega); simp only [List.length_cons, List.length_nil]; omega) | (simp only [List.length_append, List.length_cons, List.length_nil]; omega)) ?_
          refine At.assign rfl rfl ?_
          refine At.ops0 ?_
          refine At.thenN ?_
          have hxCN2 : Xs kCn [some b1, some b2, some b4, some b5, Value.ownBlock vC, Value.ownBlock vA, Value.ownBlock va1, Value.ownBlock va2, Value.ownBlock va3] w21 lC := Xs.weaken hxC (by intro o ho; simp only [List.mem_cons, List.not_mem_nil, or_false] at ho ⊢; rcases ho with rfl | rfl | rfl | rfl | rfl | rfl | rfl | rfl | rfl <;> simp)
          have hxAN2 : Xs kAm [some b1, some b2, some b4, some b5, Value.ownBlock vC, Value.ownBlock vA, Value.ownBlock va1, Value.ownBlock va2, Value.ownBlock va3] w21 lA := Xs.weaken hxA (by intro o ho; simp only [List.mem_cons, List.not_mem_nil, or_false] at ho ⊢; rcases ho with rfl | rfl | rfl | rfl | rfl | rfl | rfl | rfl | rfl <;> simp)
          exact fun act_ hact_ => ⟨((f + 1), va1, (lT ++ [intTy]), va2, (lV ++ [(strOfNums [IntKind.u8.wrap (97 + IntKind.u8.wrap (f : Int))])]), va3, (lG ++ [(ownTm 2 0 (⟨#[]⟩ : ByteArray) (⟨#[]⟩ : ByteArray) 0 (.slice none 0 0) [])])), hact_.sub (Sub.cons rfl (Sub.cons rfl (Sub.cons rfl (Sub.cons rfl (Sub.cons rfl (Sub.cons rfl (Sub.cons rfl (Sub.cons rfl (Sub.cons rfl (Sub.cons rfl (Sub.cons rfl (Sub.cons rfl (Sub.cons rfl Sub.nil))))))))))))), ⟨hB, hb1, hb2, hb4, hb5, hrC, hrA, hO1, hO2, hO3, hxCN2, hxAN2, (q_hO1_b1), (ghO1), (ghO2), (ghO3), (by omega), (by rw [hTl]; exact rep_snoc _ _), (by rw [hVl]; exact abc_snoc (by omega)), (by have h0 : a = 0 := (by omega); rw [hGl, if_pos h0, if_pos h0]; exact rep_snoc _ _)⟩, by first | omega | (dsimp only; omega)⟩
        · skip
          have hc4' := of_decide_eq_false hc4
          refine At.skip ?_
          refine At.inN ?_
          refine At.thenN ?_
          refine At.region ?_
          refine At.move rfl rfl ?_
          refine At.addI rfl rfl rfl (by first | omega | (simp only [List.length_set]; omega) | (rw [hVl]; have := abc_len (show f ≤ 3 by omega); simp only [List.length_cons, List.length_nil]; omega) | (simp only [List.length_append, List.length_cons, List.length_nil]; omega)) ?_
          refine At.assign rfl rfl ?_
          refine At.ops0 ?_
          refine At.thenN ?_
          have hxCN2 : Xs kCn [some b1, some b2, some b4, some b5, Value.ownBlock vC, Value.ownBlock vA, Value.ownBlock va1, Value.ownBlock va2, Value.ownBlock vG] w19 lC := Xs.weaken hxC (by intro o ho; simp only [List.mem_cons, List.not_mem_nil, or_false] at ho ⊢; rcases ho with rfl | rfl | rfl | rfl | rfl | rfl | rfl | rfl | rfl <;> simp)
          have hxAN2 : Xs kAm [some b1, some b2, some b4, some b5, Value.ownBlock vC, Value.ownBlock vA, Value.ownBlock va1, Value.ownBlock va2, Value.ownBlock vG] w19 lA := Xs.weaken hxA (by intro o ho; simp only [List.mem_cons, List.not_mem_nil, or_false] at ho ⊢; rcases ho with rfl | rfl | rfl | rfl | rfl | rfl | rfl | rfl | rfl <;> simp)
          exact fun act_ hact_ => ⟨((f + 1), va1, (lT ++ [intTy]), va2, (lV ++ [(strOfNums [IntKind.u8.wrap (97 + IntKind.u8.wrap (f : Int))])]), vG, lG), hact_.sub (Sub.cons rfl (Sub.cons rfl (Sub.cons rfl (Sub.cons rfl (Sub.cons rfl (Sub.cons rfl (Sub.cons rfl (Sub.cons rfl (Sub.cons rfl (Sub.cons rfl (Sub.cons rfl (Sub.cons rfl (Sub.cons rfl Sub.nil))))))))))))), ⟨hB, hb1, hb2, hb4, hb5, hrC, hrA, hO1, hO2, hrG, hxCN2, hxAN2, (q_hO1_b1), (ghO1), (ghO2), (gG), (by omega), (by rw [hTl]; exact rep_snoc _ _), (by rw [hVl]; exact abc_snoc (by omega)), (by have h0 : ¬ a = 0 := (by omega); rw [hGl, if_neg h0, if_neg h0])⟩, by first | omega | (dsimp only; omega)⟩
      · skip
        have hc3' := of_decide_eq_false hc3
        refine At.exit ?_
        refine At.thenE ?_
        refine At.thenE ?_
        refine At.inE ?_
        refine At.thenN ?_
        refine At.seq ?_
        refine At.region ?_
        refine At.fieldAddr rfl fo52_1 rfl ?_
        refine At.load rfl (Ld.ownCell ag50 hb2 rfl) rfl ?_
        refine At.load rfl (Ld.own (C := #[.string (conNm a), vT]) ag54 sz54 hb4) rfl ?_
        refine At.buildSlice (xs := [.tmp 78]) rfl rfl el50 sz54 ze54 (by intro v hv; simp only [List.mem_cons, List.not_mem_nil, or_false] at hv; rcases hv with rfl <;> first | rfl | simp [Value.cells, ((ownCn_ok (OwnR.rows hrT (fun u hu => (((intTys_ok hTl)) u hu).size)) ((intTys_ok hTl)))).size]) rfl (by decide) rfl (fun b10 w22 F10 => ?_)
        have q_hrC_b10 : some b10 ≠ Value.ownBlock vC := Own.neFresh hrC F10
        have n_b1_b10 : b1 ≠ b10 := Nat.ne_of_lt (F10.lt hb1)
        have n_b2_b10 : b2 ≠ b10 := Nat.ne_of_lt (F10.lt hb2)
        have n_b4_b10 : b4 ≠ b10 := Nat.ne_of_lt (F10.lt hb4)
        have n_b5_b10 : b5 ≠ b10 := Nat.ne_of_lt (F10.lt hb5)
        have gb10 := F10.ge hB
        replace hb1 := F10.old hb1
        replace hb2 := F10.old hb2
        replace hb4 := F10.old hb4
        replace hb5 := F10.old hb5
        replace hrC := hrC.fresh F10
        replace hrA := hrA.fresh F10
        replace hrT := hrT.fresh F10
        replace hrV := hrV.fresh F10
        replace hrG := hrG.fresh F10
        replace hxC := Xs.fresh hxC F10
        replace hxA := Xs.fresh hxA F10
        have hb10 : w22.heap[b10]? = some (.cells (([(ownCn (conNm a) vT lT)].map Cn.cs).flatMap (·.toList)).toArray 54) := F10.new
        replace hB := F10.below' hB
        refine At.appendR (f := Cn.cs) rfl rfl el50 el50 sz54 by54 ze54 rfl hrC (rows_own (f := Cn.cs) (m := 1) hb10 (fun u hu => ((mem1 (Q := fun u => CnOk w22 u) (((ownCn_ok (OwnR.rows hrT (fun u hu => (((intTys_ok hTl)) u hu).size)) ((intTys_ok hTl)))).keep (Below.refl _ _))) u hu).size) rfl (by decide)) (by decide) (fun u hu => (((mem1 (Q := fun u => CnOk w22 u) (((ownCn_ok (OwnR.rows hrT (fun u hu => (((intTys_ok hTl)) u hu).size)) ((intTys_ok hTl)))).keep (Below.refl _ _)))) u hu).one) (by first | (simp only [List.length_cons, List.length_nil]; omega) | (rw [hTl]; simp only [List.length_replicate, List.length_cons, List.length_nil]; omega) | (rw [hGl]; simp only [List.length_replicate, List.length_cons, List.length_nil]; have := cnt_range l 0; split <;> omega) | (have := hCn.1; simp only [List.length_cons, List.length_nil]; omega) | (have := hAr.1; simp only [List.length_cons, List.length_nil]; omega)) (by first | (simp only [List.length_cons, List.length_nil]; omega) | (rw [hTl]; simp only [List.length_replicate, List.length_cons, List.length_nil]; omega) | (rw [hGl]; simp only [List.length_replicate, List.length_cons, List.length_nil]; have := cnt_range l 0; split <;> omega) | (have := hCn.1; simp only [List.length_cons, List.length_nil]; omega) | (have := hAr.1; simp only [List.length_cons, List.length_nil]; omega)) rfl (fun va4 w23 hO4 hA4 => ?_)
        replace hO4 : OwnR 54 2 Cn.cs w23 va4 (lC ++ [(ownCn (conNm a) vT lT)]) := hO4
        replace hb1 := hA4.old hb1 (hrC.neT hb1 rfl)
        replace hb2 := hA4.old hb2 (hrC.neT hb2 rfl)
        have q_hO4_b4 : some b4 ≠ Value.ownBlock va4 := Moved.ne hA4.blk (Array.getElem?_eq_some_iff.1 hb4).1 q_hrC_b4
        replace hb4 := hA4.old hb4 q_hrC_b4
        replace hb5 := hA4.old hb5 (hrC.neT hb5 rfl)
        clear hb10
        replace hrA := OwnR.keepT hA4 hrC hrA rfl
        replace hrT := OwnR.keepT hA4 hrC hrT rfl
        replace hrV := OwnS.keepT hA4 hrC hrV rfl
        replace hrG := OwnR.keepT hA4 hrC hrG rfl
        replace hxC := Xs.app hxC hA4 (.inr (by simp))
        replace hxA := Xs.app hxA hA4 (.inr (by simp))
        have ghO4 := hA4.ge hB.size gC
        replace hB := hA4.below hB hB.size gC
        refine At.fieldAddr rfl fo52_1 rfl ?_
        refine At.store1 rfl rfl hb2 sz50 (by simp) (hO4).one (fun w24 S7 => ?_)
        replace hb1 := S7.other hb1 n_b1_b2
        replace hb4 := S7.other hb4 n_b2_b4.symm
        replace hb5 := S7.other hb5 n_b2_b5.symm
        replace hrA := hrA.set S7 (hrA.neT hb2 rfl)
        replace hrT := hrT.set S7 (hrT.neT hb2 rfl)
        replace hrV := hrV.set S7 (hrV.neT hb2 rfl)
        replace hrG := hrG.set S7 (hrG.neT hb2 rfl)
        replace hO4 := hO4.set S7 (hO4.neT hb2 rfl)
        replace hxC := Xs.set hxC S7 (by simp)
        replace hxA := Xs.set hxA S7 (by simp)
        replace hb2 : w24.heap[b2]? = some (.cells #[.string (⟨#[68]⟩ : ByteArray), va4] 52) := S7.new
        replace hB := S7.below' hB gb2
        refine At.ops0 ?_
        refine At.thenN ?_
        refine At.region ?_
        refine At.move rfl rfl ?_
        refine At.load rfl (Ld.own (C := #[.string (conNm a), vV, .int .i64 4, .int .i64 0, .string (⟨#[]⟩ : ByteArray), .string (⟨#[]⟩ : ByteArray), .int .i64 0, (.slice none 0 0), (.slice none 0 0), .int .i64 0, .string (⟨#[]⟩ : ByteArray), .int .i64 0, (.slice none 0 0), (.slice none 0 0), .int .i64 0, (.slice none 0 0), .int .i64 0, .int .i64 0, .string (⟨#[]⟩ : ByteArray), .int .i64 0, (.slice none 0 0), (.slice none 0 0), .int .i64 0]) ag71 sz71 hb5) rfl ?_
        refine At.buildSlice (xs := [.tmp 83]) rfl rfl el25 sz71 ze71 (by intro v hv; simp only [List.mem_cons, List.not_mem_nil, or_false] at hv; rcases hv with rfl <;> first | rfl | simp [Value.cells, ((unitArm_ok (hrV).strs)).size]) rfl (by decide) rfl (fun b11 w25 F11 => ?_)
        have q_hrA_b11 : some b11 ≠ Value.ownBlock vA := Own.neFresh hrA F11
        have n_b1_b11 : b1 ≠ b11 := Nat.ne_of_lt (F11.lt hb1)
        have n_b2_b11 : b2 ≠ b11 := Nat.ne_of_lt (F11.lt hb2)
        have n_b4_b11 : b4 ≠ b11 := Nat.ne_of_lt (F11.lt hb4)
        have n_b5_b11 : b5 ≠ b11 := Nat.ne_of_lt (F11.lt hb5)
        have gb11 := F11.ge hB
        replace hb1 := F11.old hb1
        replace hb2 := F11.old hb2
        replace hb4 := F11.old hb4
        replace hb5 := F11.old hb5
        replace hrA := hrA.fresh F11
        replace hrT := hrT.fresh F11
        replace hrV := hrV.fresh F11
        replace hrG := hrG.fresh F11
        replace hO4 := hO4.fresh F11
        replace hxC := Xs.fresh hxC F11
        replace hxA := Xs.fresh hxA F11
        have hb11 : w25.heap[b11]? = some (.cells (([(unitArm (conNm a) vV lV)].map Am.cs).flatMap (·.toList)).toArray 71) := F11.new
        replace hB := F11.below' hB
        refine At.appendR (f := Am.cs) rfl rfl el25 el25 sz71 by71 ze71 rfl hrA (rows_own (f := Am.cs) (m := 1) hb11 (fun u hu => ((mem1 (Q := fun u => AmOk w25 u) (((unitArm_ok (hrV).strs)).keep (Below.refl _ _))) u hu).size) rfl (by decide)) (by decide) (fun u hu => (((mem1 (Q := fun u => AmOk w25 u) (((unitArm_ok (hrV).strs)).keep (Below.refl _ _)))) u hu).one) (by first | (simp only [List.length_cons, List.length_nil]; omega) | (rw [hTl]; simp only [List.length_replicate, List.length_cons, List.length_nil]; omega) | (rw [hGl]; simp only [List.length_replicate, List.length_cons, List.length_nil]; have := cnt_range l 0; split <;> omega) | (have := hCn.1; simp only [List.length_cons, List.length_nil]; omega) | (have := hAr.1; simp only [List.length_cons, List.length_nil]; omega)) (by first | (simp only [List.length_cons, List.length_nil]; omega) | (rw [hTl]; simp only [List.length_replicate, List.length_cons, List.length_nil]; omega) | (rw [hGl]; simp only [List.length_replicate, List.length_cons, List.length_nil]; have := cnt_range l 0; split <;> omega) | (have := hCn.1; simp only [List.length_cons, List.length_nil]; omega) | (have := hAr.1; simp only [List.length_cons, List.length_nil]; omega)) rfl (fun va5 w26 hO5 hA5 => ?_)
        replace hO5 : OwnR 71 23 Am.cs w26 va5 (lA ++ [(unitArm (conNm a) vV lV)]) := hO5
        replace hb1 := hA5.old hb1 (hrA.neT hb1 rfl)
        replace hb2 := hA5.old hb2 (hrA.neT hb2 rfl)
        replace hb4 := hA5.old hb4 (hrA.neT hb4 rfl)
        have q_hO5_b5 : some b5 ≠ Value.ownBlock va5 := Moved.ne hA5.blk (Array.getElem?_eq_some_iff.1 hb5).1 q_hrA_b5
        replace hb5 := hA5.old hb5 q_hrA_b5
        clear hb11
        replace hrT := OwnR.keepT hA5 hrA hrT rfl
        replace hrV := OwnS.keepT hA5 hrA hrV rfl
        replace hrG := OwnR.keepT hA5 hrA hrG rfl
        replace hO4 := OwnR.keepT hA5 hrA hO4 rfl
        replace hxC := Xs.app hxC hA5 (.inr (by simp))
        replace hxA := Xs.app hxA hA5 (.inr (by simp))
        have ghO5 := hA5.ge hB.size gA
        replace hB := hA5.below hB hB.size gA
        refine At.assign rfl rfl ?_
        refine At.ops0 ?_
        refine At.inN ?_
        refine At.thenN ?_
        refine At.region ?_
        refine At.move rfl rfl ?_
        refine At.addI rfl rfl rfl (by first | omega | (simp only [List.length_set]; omega) | (rw [hVl]; have := abc_len (show f ≤ 3 by omega); simp only [List.length_cons, List.length_nil]; omega) | (simp only [List.length_append, List.length_cons, List.length_nil]; omega)) ?_
        refine At.assign rfl rfl ?_
        refine At.ops0 ?_
        refine At.thenN ?_
        have hfe : f = cntN l a := by omega
        have hxCN : Xs kCn [some b1, some b2, Value.ownBlock va4, Value.ownBlock va5, Value.ownBlock vG] w26 (lC ++ [(ownCn (conNm a) vT lT)]) := Xs.append (Xs.weaken hxC (by intro o ho; simp only [List.mem_cons, List.not_mem_nil, or_false] at ho ⊢; rcases ho with rfl | rfl | rfl | rfl | rfl <;> simp)) (Xs.ofCn hrT (ownCn_ok (OwnR.rows hrT (fun u hu => (((intTys_ok hTl)) u hu).size)) ((intTys_ok hTl))) rfl rfl (Nin.blk hneW (Nin.blk (hrT.neT hb2 rfl) (Nin.own (Own.neOwn hO4 hrT rfl) (Nin.own (Own.neOwn hO5 hrT rfl) (Nin.own (Own.neOwn hrG hrT rfl) (Nin.nil _)))))))
        have hxAN : Xs kAm [some b1, some b2, Value.ownBlock va4, Value.ownBlock va5, Value.ownBlock vG] w26 (lA ++ [(unitArm (conNm a) vV lV)]) := Xs.append (Xs.weaken hxA (by intro o ho; simp only [List.mem_cons, List.not_mem_nil, or_false] at ho ⊢; rcases ho with rfl | rfl | rfl | rfl | rfl <;> simp)) (Xs.ofAm hrV (unitArm_ok (hrV).strs) rfl rfl leaf_blk (Nin.blk (hrV.neT hb1 rfl) (Nin.blk (hrV.neT hb2 rfl) (Nin.own (Own.neOwn hO4 hrV rfl) (Nin.own (Own.neOwn hO5 hrV rfl) (Nin.own (Own.neOwn hrG hrV rfl) (Nin.nil _)))))))
        exact fun act_ hact_ => ⟨((a + 1), va4, (lC ++ [(ownCn (conNm a) vT lT)]), va5, (lA ++ [(unitArm (conNm a) vV lV)]), vG, lG), hact_.sub (Sub.cons rfl (Sub.cons rfl (Sub.cons rfl (Sub.cons rfl (Sub.cons rfl (Sub.cons rfl (Sub.cons rfl (Sub.cons rfl (Sub.cons rfl (Sub.cons rfl Sub.nil)))))))))), ⟨hB, hb1, hb2, hO4, hO5, hrG, hxCN, hxAN, (ghO4), (ghO5), (gG), (by omega), (CnsOk.snoc hCn rfl (by show lT = _; rw [hTl, hfe])), (ArmsOk.snoc hAr rfl (by show lV = _; rw [hVl, hfe]) rfl), (by rw [hGl]; by_cases h0 : a = 0; rw [if_pos h0, if_neg (by omega), hfe, h0]; rw [if_neg h0, if_neg (by omega)])⟩, by first | omega | (dsimp only; omega)⟩
    · skip
      have hc2' := of_decide_eq_false hc2
      refine At.exit ?_
      refine At.thenE ?_
      refine At.thenE ?_
      refine At.inE ?_
      refine At.thenN ?_
      refine At.seq ?_
      have han : a = n := by omega
      have hlF : lF = List.replicate (cntN l 0) intLeaf := by rw [hFl, if_neg (by omega)]
      rw [han] at hCn hAr
      have hlA := hAr.1
      have hgA := good_of hAr
      refine At.region ?_
      refine At.move rfl rfl ?_
      refine At.build (C := #[.int .i64 11, .int .i64 0, .string (⟨#[65]⟩ : ByteArray), .string (⟨#[]⟩ : ByteArray), .int .i64 0, vF, (.slice none 0 0), .int .i64 0, .string (⟨#[]⟩ : ByteArray), .int .i64 0, (.slice none 0 0), (.slice none 0 0), .int .i64 0, (.slice none 0 0), .int .i64 0, .int .i64 0, .string (⟨#[]⟩ : ByteArray), .int .i64 0, (.slice none 0 0), (.slice none 0 0), .int .i64 0]) sd33 ze33 rfl (Bld.cons fo33_0 rfl (by first | decide | exact Nat.le_of_ble_eq_true rfl) (Bld.cons fo33_2 rfl (by first | decide | exact Nat.le_of_ble_eq_true rfl) (Bld.one fo33_5 (hrF).one (by first | decide | exact Nat.le_of_ble_eq_true rfl | simp [Value.cells]) (Bld.nil _)))) rfl ?_
      refine At.alloc ze33 rfl (fun b12 w27 F12 => ?_)
      have q_hrF_b12 : some b12 ≠ Value.ownBlock vF := Own.neFresh hrF F12
      have n_b1_b12 : b1 ≠ b12 := Nat.ne_of_lt (F12.lt hb1)
      have n_b2_b12 : b2 ≠ b12 := Nat.ne_of_lt (F12.lt hb2)
      have gb12 := F12.ge hB
      replace hb1 := F12.old hb1
      replace hb2 := F12.old hb2
      replace hrC := hrC.fresh F12
      replace hrA := hrA.fresh F12
      replace hrF := hrF.fresh F12
      replace hxC := Xs.fresh hxC F12
      replace hxA := Xs.fresh hxA F12
      have hb12 : w27.heap[b12]? = some (.cells #[.int .i64 0, .int .i64 0, .string (⟨#[]⟩ : ByteArray), .string (⟨#[]⟩ : ByteArray), .int .i64 0, (.slice none 0 0), (.slice none 0 0), .int .i64 0, .string (⟨#[]⟩ : ByteArray), .int .i64 0, (.slice none 0 0), (.slice none 0 0), .int .i64 0, (.slice none 0 0), .int .i64 0, .int .i64 0, .string (⟨#[]⟩ : ByteArray), .int .i64 0, (.slice none 0 0), (.slice none 0 0), .int .i64 0] 33) := F12.new
      replace hB := F12.below' hB
      refine At.storeAll rfl rfl hb12 sz33 rfl (by first | (simp [Value.oneCell', (hrF).one, ((SlOk.nil)).one, ((SlOk.nil)).one, ((SlOk.nil)).one, ((SlOk.nil)).one, ((SlOk.nil)).one, ((SlOk.nil)).one]; done) | (simp only [List.all_toArray, List.all_cons, List.all_nil, (hrF).one, ((SlOk.nil)).one, ((SlOk.nil)).one, ((SlOk.nil)).one, ((SlOk.nil)).one, ((SlOk.nil)).one, ((SlOk.nil)).one, Bool.and_true, Bool.true_and]; rfl)) (fun w28 S8 => ?_)
      replace hb1 := S8.other hb1 n_b1_b12
      replace hb2 := S8.other hb2 n_b2_b12
      replace hrC := hrC.set S8 (hrC.neT hb12 rfl)
      replace hrA := hrA.set S8 (hrA.neT hb12 rfl)
      replace hrF := hrF.set S8 q_hrF_b12
      replace hxC := Xs.set hxC S8 (by simp)
      replace hxA := Xs.set hxA S8 (by simp)
      replace hb12 : w28.heap[b12]? = some (.cells #[.int .i64 11, .int .i64 0, .string (⟨#[65]⟩ : ByteArray), .string (⟨#[]⟩ : ByteArray), .int .i64 0, vF, (.slice none 0 0), .int .i64 0, .string (⟨#[]⟩ : ByteArray), .int .i64 0, (.slice none 0 0), (.slice none 0 0), .int .i64 0, (.slice none 0 0), .int .i64 0, .int .i64 0, .string (⟨#[]⟩ : ByteArray), .int .i64 0, (.slice none 0 0), (.slice none 0 0), .int .i64 0] 33) := S8.new
      replace hB := S8.below' hB gb12
      refine At.ops0 ?_
      refine At.thenN ?_
      refine At.seq ?_
      refine At.region ?_
      refine At.move rfl rfl ?_
      refine At.andI rfl rfl rfl ?_
      refine At.move rfl rfl ?_
      refine At.remI rfl rfl (by first | omega | (simp only [List.length_set]; omega) | (rw [hVl]; have := abc_len (show f ≤ 3 by omega); simp only [List.length_cons, List.length_nil]; omega) | (simp only [List.length_append, List.length_cons, List.length_nil]; omega)) rfl ?_
      refine At.assign rfl rfl ?_
      refine At.ops0 ?_
      refine At.thenN ?_
      refine At.seq ?_
      refine At.region ?_
      refine At.move rfl rfl ?_
      refine At.andI rfl rfl rfl ?_
      refine At.move rfl rfl ?_
      refine At.remI rfl rfl (by first | omega | (simp only [List.length_set]; omega) | (rw [hVl]; have := abc_len (show f ≤ 3 by omega); simp only [List.length_cons, List.length_nil]; omega) | (simp only [List.length_append, List.length_cons, List.length_nil]; omega)) rfl ?_
      refine At.assign rfl rfl ?_
      refine At.ops0 ?_
      refine At.thenN ?_
      refine At.seq ?_
      obtain ⟨i', hi', hin⟩ := mod_nat (and_range i (n := 255) (by decide)).1 (show 0 < n by omega)
      obtain ⟨k', hk', hkn⟩ := mod_nat (and_range k (n := 255) (by decide)).1 (show 0 < n by omega)
      refine At.set (d := 1) (u := .int .i64 (i' : Int)) rfl (congrArg (Value.int .i64) hi') ?_
      refine At.set (d := 2) (u := .int .i64 (k' : Int)) rfl (congrArg (Value.int .i64) hk') ?_
      refine At.region ?_
      refine At.buildSlice (xs := []) rfl rfl el25 sz71 ze71 (by simp) rfl (by decide) rfl (fun b13 w29 F13 => ?_)
      have q_hrA_b13 : some b13 ≠ Value.ownBlock vA := Own.neFresh hrA F13
      have n_b1_b13 : b1 ≠ b13 := Nat.ne_of_lt (F13.lt hb1)
      have n_b2_b13 : b2 ≠ b13 := Nat.ne_of_lt (F13.lt hb2)
      have n_b12_b13 : b12 ≠ b13 := Nat.ne_of_lt (F13.lt hb12)
      have gb13 := F13.ge hB
      replace hb1 := F13.old hb1
      replace hb2 := F13.old hb2
      replace hb12 := F13.old hb12
      replace hrC := hrC.fresh F13
      replace hrA := hrA.fresh F13
      replace hrF := hrF.fresh F13
      replace hxC := Xs.fresh hxC F13
      replace hxA := Xs.fresh hxA F13
      have hb13 : w29.heap[b13]? = some (.cells #[] 71) := F13.new
      replace hB := F13.below' hB
      have hO6 : OwnR 71 23 Am.cs w29 (.slice (some ⟨b13, 0, none⟩) 0 0) [] := OwnR.made hb13
      have ghO6 : ∀ g, Value.ownBlock (.slice (some ⟨b13, 0, none⟩) 0 0) = some g → w.heap.size ≤ g := fun g h => by cases h; exact gb13
      have qhO6_b1 : some b1 ≠ Value.ownBlock (.slice (some ⟨b13, 0, none⟩) 0 0) := fun e => n_b1_b13 (Option.some.inj e)
      have qhO6_b2 : some b2 ≠ Value.ownBlock (.slice (some ⟨b13, 0, none⟩) 0 0) := fun e => n_b2_b13 (Option.some.inj e)
      have qhO6_b12 : some b12 ≠ Value.ownBlock (.slice (some ⟨b13, 0, none⟩) 0 0) := fun e => n_b12_b13 (Option.some.inj e)
      have ap_hO6_hrA : Apart (.slice (some ⟨b13, 0, none⟩) 0 0) vA := fun g hg e => by cases hg; exact q_hrA_b13 e.symm
      clear hb13
      refine At.move rfl rfl ?_
      refine At.appendR (f := Am.cs) rfl rfl el25 el25 sz71 by71 ze71 rfl hO6 (OwnR.rows hrA (fun u hu => (((Xs.ok hxA)) u hu).size)) (by decide) (fun u hu => (((Xs.ok hxA)) u hu).one) (by first | (simp only [List.length_cons, List.length_nil]; omega) | (rw [hTl]; simp only [List.length_replicate, List.length_cons, List.length_nil]; omega) | (rw [hGl]; simp only [List.length_replicate, List.length_cons, List.length_nil]; have := cnt_range l 0; split <;> omega) | (have := hCn.1; simp only [List.length_cons, List.length_nil]; omega) | (have := hAr.1; simp only [List.length_cons, List.length_nil]; omega)) (by first | (simp only [List.length_cons, List.length_nil]; omega) | (rw [hTl]; simp only [List.length_replicate, List.length_cons, List.length_nil]; omega) | (rw [hGl]; simp only [List.length_replicate, List.length_cons, List.length_nil]; have := cnt_range l 0; split <;> omega) | (have := hCn.1; simp only [List.length_cons, List.length_nil]; omega) | (have := hAr.1; simp only [List.length_cons, List.length_nil]; omega)) rfl (fun va6 w30 hO7 hA6 => ?_)
      replace hO7 : OwnR 71 23 Am.cs w30 va6 lA := hO7
      replace hb1 := hA6.old hb1 (hO6.neT hb1 rfl)
      replace hb2 := hA6.old hb2 (hO6.neT hb2 rfl)
      replace hb12 := hA6.old hb12 (hO6.neT hb12 rfl)
      replace hrC := OwnR.keepT hA6 hO6 hrC rfl
      have ap_hO7_hrA := Apart.appR (ap_hO6_hrA) hA6 hrA
      replace hrA := AppR.apartR hA6 hrA (Apart.symm ap_hO6_hrA)
      replace hrF := OwnR.keepT hA6 hO6 hrF rfl
      replace hxC := Xs.app hxC hA6 (.inr (show some b13 ∈ _ by simp))
      replace hxA := Xs.app hxA hA6 (.inr (show some b13 ∈ _ by simp))
      have ghO7 := hA6.ge hB.size ghO6
      replace hB := hA6.below hB hB.size ghO6
      refine At.assign rfl rfl ?_
      refine At.ops0 ?_
      refine At.thenN ?_
      refine At.seq ?_
      refine At.drawG (n := 16) mixed (by kernel_rfl) rfl (PanicOk.then PanicOk.body) ?_
      have hB := Below.drewB hB
      have hb1 : _ := (show w30.drew.heap[b1]? = _ from hb1)
      have hb2 : _ := (show w30.drew.heap[b2]? = _ from hb2)
      have hb12 : _ := (show w30.drew.heap[b12]? = _ from hb12)
      have hrC := hrC.drew
      have hrA := hrA.drew
      have hrF := hrF.drew
      have hO7 := hO7.drew
      have hxC := Xs.drew hxC
      have hxA := Xs.drew hxA
      refine At.wpcS (i := 0) (d := 99) (va6) (by kernel_rfl) rfl rfl rfl (fun Lx => ?_) ?_
      · skip
        refine At.move rfl rfl ?_
        refine At.ops0 ?_
        exact fun a ha => ⟨ha, rfl⟩
      refine At.wpcS (i := 1) (d := 100) (.int .i64 (i' : Int)) (by kernel_rfl) rfl rfl rfl (fun Lx => ?_) ?_
      · skip
        refine At.move rfl rfl ?_
        refine At.ops0 ?_
        exact fun a ha => ⟨ha, rfl⟩
      refine At.wpcS (i := 2) (d := 101) (va6) (by kernel_rfl) rfl rfl rfl (fun Lx => ?_) ?_
      · skip
        refine At.move rfl rfl ?_
        refine At.ops0 ?_
        exact fun a ha => ⟨ha, rfl⟩
      refine At.wpcS (i := 3) (d := 102) (.int .i64 (k' : Int)) (by kernel_rfl) rfl rfl rfl (fun Lx => ?_) ?_
      · skip
        refine At.move rfl rfl ?_
        refine At.ops0 ?_
        exact fun a ha => ⟨ha, rfl⟩
      refine At.wpcS (i := 4) (d := 103) (va6) (by kernel_rfl) rfl rfl rfl (fun Lx => ?_) ?_
      · skip
        refine At.move rfl rfl ?_
        refine At.ops0 ?_
        exact fun a ha => ⟨ha, rfl⟩
      refine At.wpcS (i := 5) (d := 104) (.int .i64 (k' : Int)) (by kernel_rfl) rfl rfl rfl (fun Lx => ?_) ?_
      · skip
        refine At.move rfl rfl ?_
        refine At.ops0 ?_
        exact fun a ha => ⟨ha, rfl⟩
      obtain ⟨u1, hu1⟩ := some_of_lt (l := lA) (i := k') (by first | omega | (simp only [List.length_set]; omega) | (rw [hVl]; have := abc_len (show f ≤ 3 by omega); simp only [List.length_cons, List.length_nil]; omega) | (simp only [List.length_append, List.length_cons, List.length_nil]; omega))
      refine At.wpcS (i := 6) (d := 105) (.pointer (some ⟨vBlock va6, vOff va6 + k' * 23, none⟩)) (by kernel_rfl) rfl rfl rfl (fun Lx => ?_) ?_
      · skip
        refine At.indexAddr (i := k') rfl rfl (Own.slOk hO7) (lt_of_some hu1) el25 sz71 rfl ?_
        refine At.ops0 ?_
        exact fun a ha => ⟨ha, rfl⟩
      refine At.wpcS (i := 7) (d := 106) (.agg u1.cs) (by kernel_rfl) rfl rfl rfl (fun Lx => ?_) ?_
      · skip
        refine At.load rfl (Ld.row ag71 (sz71.trans (congrArg some ((((Xs.ok hxA)) u1 (List.mem_of_getElem? hu1))).size.symm)) ((((OwnR.rows hO7 (fun u hu => (((Xs.ok hxA)) u hu).size))).row hu1).keep (Below.refl _ _))) rfl ?_
        refine At.ops0 ?_
        exact fun a ha => ⟨ha, rfl⟩
      refine At.wpcS (i := 8) (d := 107) (va6) (by kernel_rfl) rfl rfl rfl (fun Lx => ?_) ?_
      · skip
        refine At.move rfl rfl ?_
        refine At.ops0 ?_
        exact fun a ha => ⟨ha, rfl⟩
      refine At.wpcS (i := 9) (d := 108) (.int .i64 (i' : Int)) (by kernel_rfl) rfl rfl rfl (fun Lx => ?_) ?_
      · skip
        refine At.move rfl rfl ?_
        refine At.ops0 ?_
        exact fun a ha => ⟨ha, rfl⟩
      obtain ⟨u2, hu2⟩ := some_of_lt (l := lA) (i := i') (by first | omega | (simp only [List.length_set]; omega) | (rw [hVl]; have := abc_len (show f ≤ 3 by omega); simp only [List.length_cons, List.length_nil]; omega) | (simp only [List.length_append, List.length_cons, List.length_nil]; omega))
      refine At.wpcS (i := 10) (d := 109) (.pointer (some ⟨vBlock va6, vOff va6 + i' * 23, none⟩)) (by kernel_rfl) rfl rfl rfl (fun Lx => ?_) ?_
      · skip
        refine At.indexAddr (i := i') rfl rfl (Own.slOk hO7) (lt_of_some hu2) el25 sz71 rfl ?_
        refine At.ops0 ?_
        exact fun a ha => ⟨ha, rfl⟩
      refine At.wpcS (i := 11) (d := 110) (.agg u2.cs) (by kernel_rfl) rfl rfl rfl (fun Lx => ?_) ?_
      · skip
        refine At.load rfl (Ld.row ag71 (sz71.trans (congrArg some ((((Xs.ok hxA)) u2 (List.mem_of_getElem? hu2))).size.symm)) ((((OwnR.rows hO7 (fun u hu => (((Xs.ok hxA)) u hu).size))).row hu2).keep (Below.refl _ _))) rfl ?_
        refine At.ops0 ?_
        exact fun a ha => ⟨ha, rfl⟩
      refine At.wpcS (i := 12) (d := 111) (.pointer (some ⟨vBlock va6, vOff va6 + i' * 23, none⟩)) (by kernel_rfl) rfl rfl rfl (fun Lx => ?_) ?_
      · skip
        refine At.indexAddr (i := i') rfl rfl (Own.slOk hO7) (lt_of_some hu2) el25 sz71 rfl ?_
        refine At.ops0 ?_
        exact fun a ha => ⟨ha, rfl⟩
      refine At.wpcE [13] (by kernel_rfl) (by kernel_rfl) (.cons [2, 3] rfl (by kernel_rfl) ?_ .nil)
      refine At.storeRow (f := Am.cs) (i := i') (off := 0) u1 rfl rfl hO7 hu2 (fun u hu => (((Xs.ok hxA)) u hu).size) (by omega) (sz71.trans (congrArg some ((((Xs.ok hxA)) u1 (List.mem_of_getElem? hu1))).size.symm)) (splice_all (((((Xs.ok hxA)) u2 (List.mem_of_getElem? hu2))).size.trans ((((Xs.ok hxA)) u1 (List.mem_of_getElem? hu1))).size.symm)).symm (by show 0 + u1.cs.size ≤ 23; rw [((((Xs.ok hxA)) u1 (List.mem_of_getElem? hu1))).size]; decide) ((((Xs.ok hxA)) u1 (List.mem_of_getElem? hu1))).one (fun w31 hO8 hA7 => ?_)
      replace hb1 := hA7.old hb1 (hO7.neT hb1 rfl)
      replace hb2 := hA7.old hb2 (hO7.neT hb2 rfl)
      replace hb12 := hA7.old hb12 (hO7.neT hb12 rfl)
      replace hrC := OwnR.keepT hA7 hO7 hrC rfl
      replace hrA := AppR.apartR hA7 hrA (Apart.symm ap_hO7_hrA)
      replace hrF := OwnR.keepT hA7 hO7 hrF rfl
      replace hxC := Xs.app hxC hA7 (.inr (by simp))
      replace hxA := Xs.app hxA hA7 (.inr (by simp))
      replace hB := hA7.below hB hB.size ghO7
      refine At.ops0 ?_
      refine At.wpcN (.cons rfl rfl rfl rfl (fun Lx => ?_) (.cons rfl rfl rfl rfl (fun Lx => ?_) .nil)) ?_
      · skip
        refine At.move rfl rfl ?_
        refine At.ops0 ?_
        exact fun a ha => ⟨ha, rfl⟩
      · skip
        refine At.move rfl rfl ?_
        refine At.ops0 ?_
        exact fun a ha => ⟨ha, rfl⟩
      obtain ⟨u3, hu3⟩ := some_of_lt (l := (lA.set i' u1)) (i := k') (by first | omega | (simp only [List.length_set]; omega) | (rw [hVl]; have := abc_len (show f ≤ 3 by omega); simp only [List.length_cons, List.length_nil]; omega) | (simp only [List.length_append, List.length_cons, List.length_nil]; omega))
      refine At.wpcS (i := 14) (d := 112) (.pointer (some ⟨vBlock va6, vOff va6 + k' * 23, none⟩)) (by kernel_rfl) rfl rfl rfl (fun Lx => ?_) ?_
      · skip
        refine At.indexAddr (i := k') rfl rfl (Own.slOk hO8) (lt_of_some hu3) el25 sz71 rfl ?_
        refine At.ops0 ?_
        exact fun a ha => ⟨ha, rfl⟩
      refine At.wpcE [15] (by kernel_rfl) (by kernel_rfl) (.cons [] rfl (by kernel_rfl) ?_ .nil)
      refine At.storeRow (f := Am.cs) (i := k') (off := 0) u2 rfl rfl hO8 hu3 (fun u hu => (((all_setl (Q := fun u => AmOk w31 u) (Xs.ok hxA) (((((Xs.ok hxA)) u1 (List.mem_of_getElem? hu1))).keep (Below.refl _ _)))) u hu).size) (by omega) (sz71.trans (congrArg some ((((Xs.ok hxA)) u2 (List.mem_of_getElem? hu2))).size.symm)) (splice_all (((((all_setl (Q := fun u => AmOk w31 u) (Xs.ok hxA) (((((Xs.ok hxA)) u1 (List.mem_of_getElem? hu1))).keep (Below.refl _ _)))) u3 (List.mem_of_getElem? hu3))).size.trans ((((Xs.ok hxA)) u2 (List.mem_of_getElem? hu2))).size.symm)).symm (by show 0 + u2.cs.size ≤ 23; rw [((((Xs.ok hxA)) u2 (List.mem_of_getElem? hu2))).size]; decide) ((((Xs.ok hxA)) u2 (List.mem_of_getElem? hu2))).one (fun w32 hO9 hA8 => ?_)
      replace hb1 := hA8.old hb1 (hO8.neT hb1 rfl)
      replace hb2 := hA8.old hb2 (hO8.neT hb2 rfl)
      replace hb12 := hA8.old hb12 (hO8.neT hb12 rfl)
      replace hrC := OwnR.keepT hA8 hO8 hrC rfl
      replace hrA := AppR.apartR hA8 hrA (Apart.symm ap_hO7_hrA)
      replace hrF := OwnR.keepT hA8 hO8 hrF rfl
      replace hxC := Xs.app hxC hA8 (.inr (by simp))
      replace hxA := Xs.app hxA hA8 (.inr (by simp))
      replace hB := hA8.below hB hB.size ghO7
      refine At.ops0 ?_
      refine At.wpcN .nil ?_
      refine At.wpcZ ?_
      refine At.thenN ?_
      refine At.seq ?_
      refine At.region ?_
      refine At.buildSlice (xs := []) rfl rfl el25 sz71 ze71 (by simp) rfl (by decide) rfl (fun b14 w33 F14 => ?_)
      have q_hrA_b14 : some b14 ≠ Value.ownBlock vA := Own.neFresh hrA F14
      have q_hO9_b14 : some b14 ≠ Value.ownBlock va6 := Own.neFresh hO9 F14
      have n_b1_b14 : b1 ≠ b14 := Nat.ne_of_lt (F14.lt hb1)
      have n_b2_b14 : b2 ≠ b14 := Nat.ne_of_lt (F14.lt hb2)
      have n_b12_b14 : b12 ≠ b14 := Nat.ne_of_lt (F14.lt hb12)
      have gb14 := F14.ge hB
      replace hb1 := F14.old hb1
      replace hb2 := F14.old hb2
      replace hb12 := F14.old hb12
      replace hrC := hrC.fresh F14
      replace hrA := hrA.fresh F14
      replace hrF := hrF.fresh F14
      replace hO9 := hO9.fresh F14
      replace hxC := Xs.fresh hxC F14
      replace hxA := Xs.fresh hxA F14
      have hb14 : w33.heap[b14]? = some (.cells #[] 71) := F14.new
      replace hB := F14.below' hB
      have hO10 : OwnR 71 23 Am.cs w33 (.slice (some ⟨b14, 0, none⟩) 0 0) [] := OwnR.made hb14
      have ghO10 : ∀ g, Value.ownBlock (.slice (some ⟨b14, 0, none⟩) 0 0) = some g → w.heap.size ≤ g := fun g h => by cases h; exact gb14
      have qhO10_b1 : some b1 ≠ Value.ownBlock (.slice (some ⟨b14, 0, none⟩) 0 0) := fun e => n_b1_b14 (Option.some.inj e)
      have qhO10_b2 : some b2 ≠ Value.ownBlock (.slice (some ⟨b14, 0, none⟩) 0 0) := fun e => n_b2_b14 (Option.some.inj e)
      have qhO10_b12 : some b12 ≠ Value.ownBlock (.slice (some ⟨b14, 0, none⟩) 0 0) := fun e => n_b12_b14 (Option.some.inj e)
      have ap_hO10_hrA : Apart (.slice (some ⟨b14, 0, none⟩) 0 0) vA := fun g hg e => by cases hg; exact q_hrA_b14 e.symm
      have ap_hO10_hO9 : Apart (.slice (some ⟨b14, 0, none⟩) 0 0) va6 := fun g hg e => by cases hg; exact q_hO9_b14 e.symm
      clear hb14
      refine At.move rfl rfl ?_
      refine At.appendR (f := Am.cs) rfl rfl el25 el25 sz71 by71 ze71 rfl hO10 (OwnR.rows hrA (fun u hu => (((Xs.ok hxA)) u hu).size)) (by decide) (fun u hu => (((Xs.ok hxA)) u hu).one) (by first | (simp only [List.length_cons, List.length_nil]; omega) | (rw [hTl]; simp only [List.length_replicate, List.length_cons, List.length_nil]; omega) | (rw [hGl]; simp only [List.length_replicate, List.length_cons, List.length_nil]; have := cnt_range l 0; split <;> omega) | (have := hCn.1; simp only [List.length_cons, List.length_nil]; omega) | (have := hAr.1; simp only [List.length_cons, List.length_nil]; omega)) (by first | (simp only [List.length_cons, List.length_nil]; omega) | (rw [hTl]; simp only [List.length_replicate, List.length_cons, List.length_nil]; omega) | (rw [hGl]; simp only [List.length_replicate, List.length_cons, List.length_nil]; have := cnt_range l 0; split <;> omega) | (have := hCn.1; simp only [List.length_cons, List.length_nil]; omega) | (have := hAr.1; simp only [List.length_cons, List.length_nil]; omega)) rfl (fun va7 w34 hO11 hA9 => ?_)
      replace hO11 : OwnR 71 23 Am.cs w34 va7 lA := hO11
      replace hb1 := hA9.old hb1 (hO10.neT hb1 rfl)
      replace hb2 := hA9.old hb2 (hO10.neT hb2 rfl)
      replace hb12 := hA9.old hb12 (hO10.neT hb12 rfl)
      replace hrC := OwnR.keepT hA9 hO10 hrC rfl
      have ap_hO11_hrA := Apart.appR (ap_hO10_hrA) hA9 hrA
      replace hrA := AppR.apartR hA9 hrA (Apart.symm ap_hO10_hrA)
      replace hrF := OwnR.keepT hA9 hO10 hrF rfl
      have ap_hO11_hO9 := Apart.appR (ap_hO10_hO9) hA9 hO9
      replace hO9 := AppR.apartR hA9 hO9 (Apart.symm ap_hO10_hO9)
      replace hxC := Xs.app hxC hA9 (.inr (show some b14 ∈ _ by simp))
      replace hxA := Xs.app hxA hA9 (.inr (show some b14 ∈ _ by simp))
      have ghO11 := hA9.ge hB.size ghO10
      replace hB := hA9.below hB hB.size ghO10
      refine At.assign rfl rfl ?_
      refine At.ops0 ?_
      refine At.thenN ?_
      refine At.seq ?_
      obtain ⟨uM, huM⟩ := some_of_lt (l := lA) (i := i') (by omega)
      have hML := (hgA uM (List.mem_of_getElem? huM)).2.1
      refine At.region ?_
      refine At.move rfl rfl ?_
      refine At.move rfl rfl ?_
      refine At.buildSlice (xs := []) rfl rfl el27 sz9 ze9 (by simp) rfl (by decide) rfl (fun b15 w35 F15 => ?_)
      have n_b1_b15 : b1 ≠ b15 := Nat.ne_of_lt (F15.lt hb1)
      have n_b2_b15 : b2 ≠ b15 := Nat.ne_of_lt (F15.lt hb2)
      have n_b12_b15 : b12 ≠ b15 := Nat.ne_of_lt (F15.lt hb12)
      have gb15 := F15.ge hB
      replace hb1 := F15.old hb1
      replace hb2 := F15.old hb2
      replace hb12 := F15.old hb12
      replace hrC := hrC.fresh F15
      replace hrA := hrA.fresh F15
      replace hrF := hrF.fresh F15
      replace hO9 := hO9.fresh F15
      replace hO11 := hO11.fresh F15
      replace hxC := Xs.fresh hxC F15
      replace hxA := Xs.fresh hxA F15
      have hb15 : w35.heap[b15]? = some (.cells #[] 9) := F15.new
      replace hB := F15.below' hB
      have hO12 : OwnS 9 w35 (.slice (some ⟨b15, 0, none⟩) 0 0) [] := OwnS.made (ss := []) hb15 rfl (by decide)
      have ghO12 : ∀ g, Value.ownBlock (.slice (some ⟨b15, 0, none⟩) 0 0) = some g → w.heap.size ≤ g := fun g h => by cases h; exact gb15
      clear hb15
      refine At.move rfl rfl ?_
      refine At.move rfl rfl ?_
      refine At.indexAddr (i := i') rfl rfl (Own.slOk hO11) (lt_of_some huM) el25 sz71 rfl ?_
      refine At.fieldAddr rfl fo71_1 rfl ?_
      refine At.load rfl (Ld.cell ag27 (cell_keep ((((OwnR.rows hO11 (fun u hu => (((Xs.ok hxA)) u hu).size))).row huM).get ((((Xs.ok hxA)) uM (List.mem_of_getElem? huM))).c1) (Below.refl _ _))) rfl ?_
      refine At.appendS (ss := []) rfl rfl el27 el27 sz9 by9 ze9 rfl hO12 ((((((Xs.ok hxA)) uM (List.mem_of_getElem? huM))).varsAt).keep (Below.refl _ _)) (by first | omega | (simp only [List.length_set]; omega) | (rw [hVl]; have := abc_len (show f ≤ 3 by omega); simp only [List.length_cons, List.length_nil]; omega) | (simp only [List.length_append, List.length_cons, List.length_nil]; omega)) rfl (fun va8 w36 hO13 hA10 => ?_)
      replace hb1 := hA10.old hb1 (hO12.neT hb1 rfl)
      replace hb2 := hA10.old hb2 (hO12.neT hb2 rfl)
      replace hb12 := hA10.old hb12 (hO12.neT hb12 rfl)
      replace hrC := OwnR.keepT hA10 hO12 hrC rfl
      replace hrA := OwnR.keepT hA10 hO12 hrA rfl
      replace hrF := OwnR.keepT hA10 hO12 hrF rfl
      replace hO9 := OwnR.keepT hA10 hO12 hO9 rfl
      replace hO11 := OwnR.keepT hA10 hO12 hO11 rfl
      replace hxC := Xs.app hxC hA10 (.inr (show some b15 ∈ _ by simp))
      replace hxA := Xs.app hxA hA10 (.inr (show some b15 ∈ _ by simp))
      have ghO13 := hA10.ge hB.size ghO12
      replace hB := hA10.below hB hB.size ghO12
      refine At.buildSlice (xs := [.const (.string (⟨#[122]⟩ : ByteArray))]) rfl rfl el27 sz9 ze9 (by intro v hv; simp only [List.mem_cons, List.not_mem_nil, or_false] at hv; rcases hv with rfl <;> first | rfl | simp [Value.cells, Value.cells]) rfl (by decide) rfl (fun b16 w37 F16 => ?_)
      have q_hO13_b16 : some b16 ≠ Value.ownBlock va8 := Own.neFresh hO13 F16
      have n_b1_b16 : b1 ≠ b16 := Nat.ne_of_lt (F16.lt hb1)
      have n_b2_b16 : b2 ≠ b16 := Nat.ne_of_lt (F16.lt hb2)
      have n_b12_b16 : b12 ≠ b16 := Nat.ne_of_lt (F16.lt hb12)
      have gb16 := F16.ge hB
      replace hb1 := F16.old hb1
      replace hb2 := F16.old hb2
      replace hb12 := F16.old hb12
      replace hrC := hrC.fresh F16
      replace hrA := hrA.fresh F16
      replace hrF := hrF.fresh F16
      replace hO9 := hO9.fresh F16
      replace hO11 := hO11.fresh F16
      replace hO13 := hO13.fresh F16
      replace hxC := Xs.fresh hxC F16
      replace hxA := Xs.fresh hxA F16
      have hb16 : w37.heap[b16]? = some (.cells #[.string (⟨#[122]⟩ : ByteArray)] 9) := F16.new
      replace hB := F16.below' hB
      refine At.appendS (ss := ([] ++ uM.vars)) rfl rfl el27 el27 sz9 by9 ze9 rfl hO13 ((StrsAt.own (ss := [(⟨#[122]⟩ : ByteArray)]) hb16 rfl (by decide) : StrsAt _ (.slice (some ⟨b16, 0, none⟩) 1 1) [(⟨#[122]⟩ : ByteArray)])) (by first | omega | (simp only [List.length_set]; omega) | (rw [hVl]; have := abc_len (show f ≤ 3 by omega); simp only [List.length_cons, List.length_nil]; omega) | (simp only [List.length_append, List.length_cons, List.length_nil]; omega)) rfl (fun va9 w38 hO14 hA11 => ?_)
      replace hb1 := hA11.old hb1 (hO13.neT hb1 rfl)
      replace hb2 := hA11.old hb2 (hO13.neT hb2 rfl)
      replace hb12 := hA11.old hb12 (hO13.neT hb12 rfl)
      clear hb16
      replace hrC := OwnR.keepT hA11 hO13 hrC rfl
      replace hrA := OwnR.keepT hA11 hO13 hrA rfl
      replace hrF := OwnR.keepT hA11 hO13 hrF rfl
      replace hO9 := OwnR.keepT hA11 hO13 hO9 rfl
      replace hO11 := OwnR.keepT hA11 hO13 hO11 rfl
      replace hxC := Xs.app hxC hA11 (.inr (by simp))
      replace hxA := Xs.app hxA hA11 (.inr (by simp))
      have ghO14 := hA11.ge hB.size ghO13
      replace hB := hA11.below hB hB.size ghO13
      refine At.indexAddr (i := i') rfl rfl (Own.slOk hO11) (lt_of_some huM) el25 sz71 rfl ?_
      refine At.fieldAddr rfl fo71_1 rfl ?_
      refine At.storeRow (f := Am.cs) (i := i') (off := 1) (Am.withVars uM va9 (([] ++ uM.vars) ++ [(⟨#[122]⟩ : ByteArray)])) rfl rfl hO11 huM (fun u hu => (((Xs.ok hxA)) u hu).size) (by omega) (sz27.trans (congrArg some (cells_size ((hO14.strs).ok).one).symm)) (withVars_splice (((((Xs.ok hxA)) uM (List.mem_of_getElem? huM))).size) (((hO14.strs).ok).one)) (by rw [cells_size ((hO14.strs).ok).one]; decide) (cells_all ((hO14.strs).ok).one) (fun w39 hO15 hA12 => ?_)
      replace hb1 := hA12.old hb1 (hO11.neT hb1 rfl)
      replace hb2 := hA12.old hb2 (hO11.neT hb2 rfl)
      replace hb12 := hA12.old hb12 (hO11.neT hb12 rfl)
      replace hrC := OwnR.keepT hA12 hO11 hrC rfl
      replace hrA := AppR.apartR hA12 hrA (Apart.symm ap_hO11_hrA)
      replace hrF := OwnR.keepT hA12 hO11 hrF rfl
      replace hO9 := AppR.apartR hA12 hO9 (Apart.symm ap_hO11_hO9)
      replace hO14 := OwnS.keepT hA12 hO11 hO14 rfl
      replace hxC := Xs.app hxC hA12 (.inr (by simp))
      replace hxA := Xs.app hxA hA12 (.inr (by simp))
      replace hB := hA12.below hB hB.size ghO11
      refine At.ops0 ?_
      refine At.thenN ?_
      refine At.seq ?_
      refine At.region ?_
      refine At.buildSlice (xs := []) rfl rfl el25 sz71 ze71 (by simp) rfl (by decide) rfl (fun b17 w40 F17 => ?_)
      have q_hrA_b17 : some b17 ≠ Value.ownBlock vA := Own.neFresh hrA F17
      have q_hO9_b17 : some b17 ≠ Value.ownBlock va6 := Own.neFresh hO9 F17
      have q_hO15_b17 : some b17 ≠ Value.ownBlock va7 := Own.neFresh hO15 F17
      have n_b1_b17 : b1 ≠ b17 := Nat.ne_of_lt (F17.lt hb1)
      have n_b2_b17 : b2 ≠ b17 := Nat.ne_of_lt (F17.lt hb2)
      have n_b12_b17 : b12 ≠ b17 := Nat.ne_of_lt (F17.lt hb12)
      have gb17 := F17.ge hB
      replace hb1 := F17.old hb1
      replace hb2 := F17.old hb2
      replace hb12 := F17.old hb12
      replace hrC := hrC.fresh F17
      replace hrA := hrA.fresh F17
      replace hrF := hrF.fresh F17
      replace hO9 := hO9.fresh F17
      replace hO14 := hO14.fresh F17
      replace hO15 := hO15.fresh F17
      replace hxC := Xs.fresh hxC F17
      replace hxA := Xs.fresh hxA F17
      have hb17 : w40.heap[b17]? = some (.cells #[] 71) := F17.new
      replace hB := F17.below' hB
      have hO16 : OwnR 71 23 Am.cs w40 (.slice (some ⟨b17, 0, none⟩) 0 0) [] := OwnR.made hb17
      have ghO16 : ∀ g, Value.ownBlock (.slice (some ⟨b17, 0, none⟩) 0 0) = some g → w.heap.size ≤ g := fun g h => by cases h; exact gb17
      have qhO16_b1 : some b1 ≠ Value.ownBlock (.slice (some ⟨b17, 0, none⟩) 0 0) := fun e => n_b1_b17 (Option.some.inj e)
      have qhO16_b2 : some b2 ≠ Value.ownBlock (.slice (some ⟨b17, 0, none⟩) 0 0) := fun e => n_b2_b17 (Option.some.inj e)
      have qhO16_b12 : some b12 ≠ Value.ownBlock (.slice (some ⟨b17, 0, none⟩) 0 0) := fun e => n_b12_b17 (Option.some.inj e)
      have ap_hO16_hrA : Apart (.slice (some ⟨b17, 0, none⟩) 0 0) vA := fun g hg e => by cases hg; exact q_hrA_b17 e.symm
      have ap_hO16_hO9 : Apart (.slice (some ⟨b17, 0, none⟩) 0 0) va6 := fun g hg e => by cases hg; exact q_hO9_b17 e.symm
      have ap_hO16_hO15 : Apart (.slice (some ⟨b17, 0, none⟩) 0 0) va7 := fun g hg e => by cases hg; exact q_hO15_b17 e.symm
      clear hb17
      refine At.move rfl rfl ?_
      refine At.appendR (f := Am.cs) rfl rfl el25 el25 sz71 by71 ze71 rfl hO16 (OwnR.rows hrA (fun u hu => (((Xs.ok hxA)) u hu).size)) (by decide) (fun u hu => (((Xs.ok hxA)) u hu).one) (by first | (simp only [List.length_cons, List.length_nil]; omega) | (rw [hTl]; simp only [List.length_replicate, List.length_cons, List.length_nil]; omega) | (rw [hGl]; simp only [List.length_replicate, List.length_cons, List.length_nil]; have := cnt_range l 0; split <;> omega) | (have := hCn.1; simp only [List.length_cons, List.length_nil]; omega) | (have := hAr.1; simp only [List.length_cons, List.length_nil]; omega)) (by first | (simp only [List.length_cons, List.length_nil]; omega) | (rw [hTl]; simp only [List.length_replicate, List.length_cons, List.length_nil]; omega) | (rw [hGl]; simp only [List.length_replicate, List.length_cons, List.length_nil]; have := cnt_range l 0; split <;> omega) | (have := hCn.1; simp only [List.length_cons, List.length_nil]; omega) | (have := hAr.1; simp only [List.length_cons, List.length_nil]; omega)) rfl (fun va10 w41 hO17 hA13 => ?_)
      replace hO17 : OwnR 71 23 Am.cs w41 va10 lA := hO17
      replace hb1 := hA13.old hb1 (hO16.neT hb1 rfl)
      replace hb2 := hA13.old hb2 (hO16.neT hb2 rfl)
      replace hb12 := hA13.old hb12 (hO16.neT hb12 rfl)
      replace hrC := OwnR.keepT hA13 hO16 hrC rfl
      have ap_hO17_hrA := Apart.appR (ap_hO16_hrA) hA13 hrA
      replace hrA := AppR.apartR hA13 hrA (Apart.symm ap_hO16_hrA)
      replace hrF := OwnR.keepT hA13 hO16 hrF rfl
      have ap_hO17_hO9 := Apart.appR (ap_hO16_hO9) hA13 hO9
      replace hO9 := AppR.apartR hA13 hO9 (Apart.symm ap_hO16_hO9)
      replace hO14 := OwnS.keepT hA13 hO16 hO14 rfl
      have ap_hO17_hO15 := Apart.appR (ap_hO16_hO15) hA13 hO15
      replace hO15 := AppR.apartR hA13 hO15 (Apart.symm ap_hO16_hO15)
      replace hxC := Xs.app hxC hA13 (.inr (show some b17 ∈ _ by simp))
      replace hxA := Xs.app hxA hA13 (.inr (show some b17 ∈ _ by simp))
      have ghO17 := hA13.ge hB.size ghO16
      replace hB := hA13.below hB hB.size ghO16
      refine At.assign rfl rfl ?_
      refine At.ops0 ?_
      refine At.thenN ?_
      refine At.seq ?_
      refine At.region ?_
      refine At.move rfl rfl ?_
      refine At.move rfl rfl ?_
      refine At.move rfl rfl ?_
      refine At.move rfl rfl ?_
      obtain ⟨u4, hu4⟩ := some_of_lt (l := lA) (i := k') (by first | omega | (simp only [List.length_set]; omega) | (rw [hVl]; have := abc_len (show f ≤ 3 by omega); simp only [List.length_cons, List.length_nil]; omega) | (simp only [List.length_append, List.length_cons, List.length_nil]; omega))
      refine At.indexAddr (i := k') rfl rfl (Own.slOk hO17) (lt_of_some hu4) el25 sz71 rfl ?_
      refine At.load rfl (Ld.row ag71 (sz71.trans (congrArg some ((((Xs.ok hxA)) u4 (List.mem_of_getElem? hu4))).size.symm)) ((((OwnR.rows hO17 (fun u hu => (((Xs.ok hxA)) u hu).size))).row hu4).keep (Below.refl _ _))) rfl ?_
      obtain ⟨u5, hu5⟩ := some_of_lt (l := lA) (i := i') (by first | omega | (simp only [List.length_set]; omega) | (rw [hVl]; have := abc_len (show f ≤ 3 by omega); simp only [List.length_cons, List.length_nil]; omega) | (simp only [List.length_append, List.length_cons, List.length_nil]; omega))
      refine At.indexAddr (i := i') rfl rfl (Own.slOk hO17) (lt_of_some hu5) el25 sz71 rfl ?_
      refine At.storeRow (f := Am.cs) (i := i') (off := 0) u4 rfl rfl hO17 hu5 (fun u hu => (((Xs.ok hxA)) u hu).size) (by omega) (sz71.trans (congrArg some ((((Xs.ok hxA)) u4 (List.mem_of_getElem? hu4))).size.symm)) (splice_all (((((Xs.ok hxA)) u5 (List.mem_of_getElem? hu5))).size.trans ((((Xs.ok hxA)) u4 (List.mem_of_getElem? hu4))).size.symm)).symm (by show 0 + u4.cs.size ≤ 23; rw [((((Xs.ok hxA)) u4 (List.mem_of_getElem? hu4))).size]; decide) ((((Xs.ok hxA)) u4 (List.mem_of_getElem? hu4))).one (fun w42 hO18 hA14 => ?_)
      replace hb1 := hA14.old hb1 (hO17.neT hb1 rfl)
      replace hb2 := hA14.old hb2 (hO17.neT hb2 rfl)
      replace hb12 := hA14.old hb12 (hO17.neT hb12 rfl)
      replace hrC := OwnR.keepT hA14 hO17 hrC rfl
      replace hrA := AppR.apartR hA14 hrA (Apart.symm ap_hO17_hrA)
      replace hrF := OwnR.keepT hA14 hO17 hrF rfl
      replace hO9 := AppR.apartR hA14 hO9 (Apart.symm ap_hO17_hO9)
      replace hO14 := OwnS.keepT hA14 hO17 hO14 rfl
      replace hO15 := AppR.apartR hA14 hO15 (Apart.symm ap_hO17_hO15)
      replace hxC := Xs.app hxC hA14 (.inr (by simp))
      replace hxA := Xs.app hxA hA14 (.inr (by simp))
      replace hB := hA14.below hB hB.size ghO17
      refine At.ops0 ?_
      refine At.thenN ?_
      refine At.seq ?_
      have hmd : Made l n lC (ownDat (⟨#[68]⟩ : ByteArray) vC lC) lF := ⟨hCn, by omega, hn9, rfl, rfl, hlF⟩
      have hkn1 : ((rightB (ownDat (⟨#[68]⟩ : ByteArray) vC lC) (ownTm 11 0 (⟨#[65]⟩ : ByteArray) (⟨#[]⟩ : ByteArray) 0 vF lF) lA)) = true := hmd.all hAr
      have hkn2 : (decide ((rightB (ownDat (⟨#[68]⟩ : ByteArray) vC lC) (ownTm 11 0 (⟨#[65]⟩ : ByteArray) (⟨#[]⟩ : ByteArray) 0 vF lF) ((lA.set i' u1).set k' u2)) = decide ((i' : Int) = (k' : Int)))) = true := hmd.swap hAr hu1 hu2
      have hkn3 : ((!(rightB (ownDat (⟨#[68]⟩ : ByteArray) vC lC) (ownTm 11 0 (⟨#[65]⟩ : ByteArray) (⟨#[]⟩ : ByteArray) 0 vF lF) (lA.take (n - 1))))) = true := hmd.less hAr rfl
      have hkn4 : ((!(rightB (ownDat (⟨#[68]⟩ : ByteArray) vC lC) (ownTm 11 0 (⟨#[65]⟩ : ByteArray) (⟨#[]⟩ : ByteArray) 0 vF lF) (lA.set i' (Am.withVars uM va9 (([] ++ uM.vars) ++ [(⟨#[122]⟩ : ByteArray)])))))) = true := hmd.more hAr huM rfl
      have hkn5 : (decide ((rightB (ownDat (⟨#[68]⟩ : ByteArray) vC lC) (ownTm 11 0 (⟨#[65]⟩ : ByteArray) (⟨#[]⟩ : ByteArray) 0 vF lF) (lA.set i' u4)) = decide ((i' : Int) = (k' : Int)))) = true := hmd.twice hAr hin hu4
      have hbb1 : ((rightB (ownDat (⟨#[68]⟩ : ByteArray) vC lC) (ownTm 11 0 (⟨#[65]⟩ : ByteArray) (⟨#[]⟩ : ByteArray) 0 vF lF) lA)) = true := hkn1
      have hbb2 : (decide ((rightB (ownDat (⟨#[68]⟩ : ByteArray) vC lC) (ownTm 11 0 (⟨#[65]⟩ : ByteArray) (⟨#[]⟩ : ByteArray) 0 vF lF) ((lA.set i' u1).set k' u2)) = decide ((i' : Int) = (k' : Int)))) = true := hkn2
      have hle1 : (n - 1) ≤ lA.length := by first | omega | (simp only [List.length_set]; omega) | (rw [hVl]; have := abc_len (show f ≤ 3 by omega); simp only [List.length_cons, List.length_nil]; omega) | (simp only [List.length_append, List.length_cons, List.length_nil]; omega)
      have hbb3 : ((!(rightB (ownDat (⟨#[68]⟩ : ByteArray) vC lC) (ownTm 11 0 (⟨#[65]⟩ : ByteArray) (⟨#[]⟩ : ByteArray) 0 vF lF) (lA.take (n - 1))))) = true := hkn3
      have hbb4 : ((!(rightB (ownDat (⟨#[68]⟩ : ByteArray) vC lC) (ownTm 11 0 (⟨#[65]⟩ : ByteArray) (⟨#[]⟩ : ByteArray) 0 vF lF) (lA.set i' (Am.withVars uM va9 (([] ++ uM.vars) ++ [(⟨#[122]⟩ : ByteArray)])))))) = true := hkn4
      have hbb5 : (decide ((rightB (ownDat (⟨#[68]⟩ : ByteArray) vC lC) (ownTm 11 0 (⟨#[65]⟩ : ByteArray) (⟨#[]⟩ : ByteArray) 0 vF lF) (lA.set i' u4)) = decide ((i' : Int) = (k' : Int)))) = true := hkn5
      obtain ⟨u6, hu6⟩ := some_of_lt (l := lA) (i := k') (by first | omega | (simp only [List.length_set]; omega) | (rw [hVl]; have := abc_len (show f ≤ 3 by omega); simp only [List.length_cons, List.length_nil]; omega) | (simp only [List.length_append, List.length_cons, List.length_nil]; omega))
      refine At.drawG (n := 60) mixed (by kernel_rfl) rfl (PanicOk.then PanicOk.body) ?_
      have hB := Below.drewB hB
      have hb1 : _ := (show w42.drew.heap[b1]? = _ from hb1)
      have hb2 : _ := (show w42.drew.heap[b2]? = _ from hb2)
      have hb12 : _ := (show w42.drew.heap[b12]? = _ from hb12)
      have hrC := hrC.drew
      have hrA := hrA.drew
      have hrF := hrF.drew
      have hO9 := hO9.drew
      have hO14 := hO14.drew
      have hO15 := hO15.drew
      have hO18 := hO18.drew
      have hxC := Xs.drew hxC
      have hxA := Xs.drew hxA
      refine At.wpcL #[false, false, false, false, false, false, false, false, false, false, false, false, false, false, false, false, false, false, false, false, false, false, false, false, false, false, false, false, false, false, false, false, false, false, false, false, false, false, false, false, false, false, false, false, false, false, false, false, false, false, false, false, false, false, false, false, false, false, false, false] (by kernel_rfl) ?_
      refine At.wpcS (i := 0) (d := 139) (.bool true) (by kernel_rfl) rfl rfl rfl (fun Lx => ?_) ?_
      · skip
        refine At.move rfl rfl ?_
        refine At.ops0 ?_
        exact fun a ha => ⟨ha, rfl⟩
      refine At.wpcL #[true, false, false, false, false, false, false, false, false, false, false, false, false, false, false, false, false, false, false, false, false, false, false, false, false, false, false, false, false, false, false, false, false, false, false, false, false, false, false, false, false, false, false, false, false, false, false, false, false, false, false, false, false, false, false, false, false, false, false, false] (by kernel_rfl) ?_
      refine At.wpcS (i := 1) (d := 140) (.bool true) (by kernel_rfl) rfl rfl rfl (fun Lx => ?_) ?_
      · skip
        refine At.move rfl rfl ?_
        refine At.ops0 ?_
        exact fun a ha => ⟨ha, rfl⟩
      refine At.wpcL #[true, true, false, false, false, false, false, false, false, false, false, false, false, false, false, false, false, false, false, false, false, false, false, false, false, false, false, false, false, false, false, false, false, false, false, false, false, false, false, false, false, false, false, false, false, false, false, false, false, false, false, false, false, false, false, false, false, false, false, false] (by kernel_rfl) ?_
      refine At.wpcS (i := 2) (d := 141) (.agg #[.string (⟨#[68]⟩ : ByteArray), vC]) (by kernel_rfl) rfl rfl rfl (fun Lx => ?_) ?_
      · skip
        refine At.yes rfl rfl rfl rfl ?_
        refine At.load rfl (Ld.own (C := #[.string (⟨#[68]⟩ : ByteArray), vC]) ag52 sz52 hb2) rfl ?_
        refine At.ops0 ?_
        exact fun a ha => ⟨ha, rfl⟩
      refine At.wpcL #[true, true, true, false, false, false, false, false, false, false, false, false, false, false, false, false, false, false, false, false, false, false, false, false, false, false, false, false, false, false, false, false, false, false, false, false, false, false, false, false, false, false, false, false, false, false, false, false, false, false, false, false, false, false, false, false, false, false, false, false] (by kernel_rfl) ?_
      refine At.wpcS (i := 3) (d := 142) (.agg #[.int .i64 11, .int .i64 0, .string (⟨#[65]⟩ : ByteArray), .string (⟨#[]⟩ : ByteArray), .int .i64 0, vF, (.slice none 0 0), .int .i64 0, .string (⟨#[]⟩ : ByteArray), .int .i64 0, (.slice none 0 0), (.slice none 0 0), .int .i64 0, (.slice none 0 0), .int .i64 0, .int .i64 0, .string (⟨#[]⟩ : ByteArray), .int .i64 0, (.slice none 0 0), (.slice none 0 0), .int .i64 0]) (by kernel_rfl) rfl rfl rfl (fun Lx => ?_) ?_
      · skip
        refine At.yes rfl rfl rfl rfl ?_
        refine At.load rfl (Ld.own (C := #[.int .i64 11, .int .i64 0, .string (⟨#[65]⟩ : ByteArray), .string (⟨#[]⟩ : ByteArray), .int .i64 0, vF, (.slice none 0 0), .int .i64 0, .string (⟨#[]⟩ : ByteArray), .int .i64 0, (.slice none 0 0), (.slice none 0 0), .int .i64 0, (.slice none 0 0), .int .i64 0, .int .i64 0, .string (⟨#[]⟩ : ByteArray), .int .i64 0, (.slice none 0 0), (.slice none 0 0), .int .i64 0]) ag33 sz33 hb12) rfl ?_
        refine At.ops0 ?_
        exact fun a ha => ⟨ha, rfl⟩
      refine At.wpcL #[true, true, true, true, false, false, false, false, false, false, false, false, false, false, false, false, false, false, false, false, false, false, false, false, false, false, false, false, false, false, false, false, false, false, false, false, false, false, false, false, false, false, false, false, false, false, false, false, false, false, false, false, false, false, false, false, false, false, false, false] (by kernel_rfl) ?_
      refine At.wpcS (i := 4) (d := 143) (vA) (by kernel_rfl) rfl rfl rfl (fun Lx => ?_) ?_
      · skip
        refine At.yes rfl rfl rfl rfl ?_
        refine At.move rfl rfl ?_
        refine At.ops0 ?_
        exact fun a ha => ⟨ha, rfl⟩
      refine At.wpcL #[true, true, true, true, true, false, false, false, false, false, false, false, false, false, false, false, false, false, false, false, false, false, false, false, false, false, false, false, false, false, false, false, false, false, false, false, false, false, false, false, false, false, false, false, false, false, false, false, false, false, false, false, false, false, false, false, false, false, false, false] (by kernel_rfl) ?_
      refine At.wpcF [5] (by kernel_rfl) (by kernel_rfl) (.cons [] [[5, 1, 0], [5, 1], [5, 2], [5, 3], [5, 4]] rfl (by kernel_rfl) ?_ .nil)
      refine At.yes rfl rfl rfl rfl ?_
      refine At.call en25 rfl rfl (right_any (ownDat (⟨#[68]⟩ : ByteArray) vC lC) (ownTm 11 0 (⟨#[65]⟩ : ByteArray) (⟨#[]⟩ : ByteArray) 0 vF lF) vA lA _ (((ownDat_ok (OwnR.rows hrC (fun u hu => (((Xs.ok hxC)) u hu).size)) ((Xs.ok hxC)))).keep (Below.refl _ _)) (((ownTm_rows 11 0 (⟨#[65]⟩ : ByteArray) (⟨#[]⟩ : ByteArray) 0 (OwnR.rows hrF (fun u hu => (((ints_ok (w := w42.drew) hFl)) u hu).size)) ((ints_ok (w := w42.drew) hFl)))).keep (Below.refl _ _)) (OwnR.rows hrA (fun u hu => (((Xs.ok hxA)) u hu).size)) ((Xs.ok hxA)) (hmd.sz _ _) (hmd.wt hgA (by first | omega | (simp only [List.length_append, List.length_set, List.length_take, List.length_cons, List.length_nil]; omega)))) (fun e w43 hR => ?_)
      obtain ⟨rfl, hbl2⟩ := hR
      refine ⟨_, rfl, ?_⟩
      replace hb1 := Below.old hbl2 hb1
      replace hb2 := Below.old hbl2 hb2
      replace hb12 := Below.old hbl2 hb12
      replace hrC := hrC.below hbl2
      replace hrA := hrA.below hbl2
      replace hrF := hrF.below hbl2
      replace hO9 := hO9.below hbl2
      replace hO14 := hO14.below hbl2
      replace hO15 := hO15.below hbl2
      replace hO18 := hO18.below hbl2
      replace hxC := Xs.below hxC hbl2
      replace hxA := Xs.below hxA hbl2
      replace hB := Below.andThen hB hbl2
      refine At.ops0 ?_
      refine At.wpcN .nil ?_
      refine At.wpcL #[true, true, true, true, true, true, false, false, false, false, false, false, false, false, false, false, false, false, false, false, false, false, false, false, false, false, false, false, false, false, false, false, false, false, false, false, false, false, false, false, false, false, false, false, false, false, false, false, false, false, false, false, false, false, false, false, false, false, false, false] (by kernel_rfl) ?_
      refine At.wpcS (i := 6) (d := 145) (.bool (rightB (ownDat (⟨#[68]⟩ : ByteArray) vC lC) (ownTm 11 0 (⟨#[65]⟩ : ByteArray) (⟨#[]⟩ : ByteArray) 0 vF lF) lA)) (by kernel_rfl) rfl rfl rfl (fun Lx => ?_) ?_
      · skip
        refine At.pickT rfl rfl rfl ?_
        refine At.ops0 ?_
        exact fun a ha => ⟨ha, rfl⟩
      refine At.set (d := 145) (u := .bool true) rfl (congrArg Value.bool hbb1) ?_
      refine At.wpcL #[true, true, true, true, true, true, true, false, false, false, false, false, false, false, false, false, false, false, false, false, false, false, false, false, false, false, false, false, false, false, false, false, false, false, false, false, false, false, false, false, false, false, false, false, false, false, false, false, false, false, false, false, false, false, false, false, false, false, false, false] (by kernel_rfl) ?_
      refine At.wpcS (i := 7) (d := 146) (.bool true) (by kernel_rfl) rfl rfl rfl (fun Lx => ?_) ?_
      · skip
        refine At.move rfl rfl ?_
        refine At.ops0 ?_
        exact fun a ha => ⟨ha, rfl⟩
      refine At.wpcL #[true, true, true, true, true, true, true, true, false, false, false, false, false, false, false, false, false, false, false, false, false, false, false, false, false, false, false, false, false, false, false, false, false, false, false, false, false, false, false, false, false, false, false, false, false, false, false, false, false, false, false, false, false, false, false, false, false, false, false, false] (by kernel_rfl) ?_
      refine At.wpcS (i := 8) (d := 147) (.agg #[.string (⟨#[68]⟩ : ByteArray), vC]) (by kernel_rfl) rfl rfl rfl (fun Lx => ?_) ?_
      · skip
        refine At.yes rfl rfl rfl rfl ?_
        refine At.load rfl (Ld.own (C := #[.string (⟨#[68]⟩ : ByteArray), vC]) ag52 sz52 hb2) rfl ?_
        refine At.ops0 ?_
        exact fun a ha => ⟨ha, rfl⟩
      refine At.wpcL #[true, true, true, true, true, true, true, true, true, false, false, false, false, false, false, false, false, false, false, false, false, false, false, false, false, false, false, false, false, false, false, false, false, false, false, false, false, false, false, false, false, false, false, false, false, false, false, false, false, false, false, false, false, false, false, false, false, false, false, false] (by kernel_rfl) ?_
      refine At.wpcS (i := 9) (d := 148) (.agg #[.int .i64 11, .int .i64 0, .string (⟨#[65]⟩ : ByteArray), .string (⟨#[]⟩ : ByteArray), .int .i64 0, vF, (.slice none 0 0), .int .i64 0, .string (⟨#[]⟩ : ByteArray), .int .i64 0, (.slice none 0 0), (.slice none 0 0), .int .i64 0, (.slice none 0 0), .int .i64 0, .int .i64 0, .string (⟨#[]⟩ : ByteArray), .int .i64 0, (.slice none 0 0), (.slice none 0 0), .int .i64 0]) (by kernel_rfl) rfl rfl rfl (fun Lx => ?_) ?_
      · skip
        refine At.yes rfl rfl rfl rfl ?_
        refine At.load rfl (Ld.own (C := #[.int .i64 11, .int .i64 0, .string (⟨#[65]⟩ : ByteArray), .string (⟨#[]⟩ : ByteArray), .int .i64 0, vF, (.slice none 0 0), .int .i64 0, .string (⟨#[]⟩ : ByteArray), .int .i64 0, (.slice none 0 0), (.slice none 0 0), .int .i64 0, (.slice none 0 0), .int .i64 0, .int .i64 0, .string (⟨#[]⟩ : ByteArray), .int .i64 0, (.slice none 0 0), (.slice none 0 0), .int .i64 0]) ag33 sz33 hb12) rfl ?_
        refine At.ops0 ?_
        exact fun a ha => ⟨ha, rfl⟩
      refine At.wpcL #[true, true, true, true, true, true, true, true, true, true, false, false, false, false, false, false, false, false, false, false, false, false, false, false, false, false, false, false, false, false, false, false, false, false, false, false, false, false, false, false, false, false, false, false, false, false, false, false, false, false, false, false, false, false, false, false, false, false, false, false] (by kernel_rfl) ?_
      refine At.wpcS (i := 10) (d := 149) (va6) (by kernel_rfl) rfl rfl rfl (fun Lx => ?_) ?_
      · skip
        refine At.yes rfl rfl rfl rfl ?_
        refine At.move rfl rfl ?_
        refine At.ops0 ?_
        exact fun a ha => ⟨ha, rfl⟩
      refine At.wpcL #[true, true, true, true, true, true, true, true, true, true, true, false, false, false, false, false, false, false, false, false, false, false, false, false, false, false, false, false, false, false, false, false, false, false, false, false, false, false, false, false, false, false, false, false, false, false, false, false, false, false, false, false, false, false, false, false, false, false, false, false] (by kernel_rfl) ?_
      refine At.wpcS (i := 12) (d := 151) (.int .i64 (i' : Int)) (by kernel_rfl) rfl rfl rfl (fun Lx => ?_) ?_
      · skip
        refine At.yes rfl rfl rfl rfl ?_
        refine At.move rfl rfl ?_
        refine At.ops0 ?_
        exact fun a ha => ⟨ha, rfl⟩
      refine At.wpcL #[true, true, true, true, true, true, true, true, true, true, true, false, true, false, false, false, false, false, false, false, false, false, false, false, false, false, false, false, false, false, false, false, false, false, false, false, false, false, false, false, false, false, false, false, false, false, false, false, false, false, false, false, false, false, false, false, false, false, false, false] (by kernel_rfl) ?_
      refine At.wpcS (i := 13) (d := 152) (.int .i64 (k' : Int)) (by kernel_rfl) rfl rfl rfl (fun Lx => ?_) ?_
      · skip
        refine At.yes rfl rfl rfl rfl ?_
        refine At.move rfl rfl ?_
        refine At.ops0 ?_
        exact fun a ha => ⟨ha, rfl⟩
      refine At.wpcL #[true, true, true, true, true, true, true, true, true, true, true, false, true, true, false, false, false, false, false, false, false, false, false, false, false, false, false, false, false, false, false, false, false, false, false, false, false, false, false, false, false, false, false, false, false, false, false, false, false, false, false, false, false, false, false, false, false, false, false, false] (by kernel_rfl) ?_
      refine At.wpcS (i := 14) (d := 153) (.bool (decide ((i' : Int) = (k' : Int)))) (by kernel_rfl) rfl rfl rfl (fun Lx => ?_) ?_
      · skip
        refine At.yes rfl rfl rfl rfl ?_
        refine At.eqI rfl rfl rfl ?_
        refine At.ops0 ?_
        exact fun a ha => ⟨ha, rfl⟩
      refine At.wpcL #[true, true, true, true, true, true, true, true, true, true, true, false, true, true, true, false, false, false, false, false, false, false, false, false, false, false, false, false, false, false, false, false, false, false, false, false, false, false, false, false, false, false, false, false, false, false, false, false, false, false, false, false, false, false, false, false, false, false, false, false] (by kernel_rfl) ?_
      refine At.wpcF [11] (by kernel_rfl) (by kernel_rfl) (.cons [12, 13, 14] [[5, 1, 0], [5, 1], [5, 2], [5, 3], [5, 4], [11, 7, 6], [11, 7], [11, 8], [11, 9], [11, 10]] rfl (by kernel_rfl) ?_ .nil)
      refine At.yes rfl rfl rfl rfl ?_
      refine At.call en25 rfl rfl (right_any (ownDat (⟨#[68]⟩ : ByteArray) vC lC) (ownTm 11 0 (⟨#[65]⟩ : ByteArray) (⟨#[]⟩ : ByteArray) 0 vF lF) va6 ((lA.set i' u1).set k' u2) _ (((ownDat_ok (OwnR.rows hrC (fun u hu => (((Xs.ok hxC)) u hu).size)) ((Xs.ok hxC)))).keep (Below.refl _ _)) (((ownTm_rows 11 0 (⟨#[65]⟩ : ByteArray) (⟨#[]⟩ : ByteArray) 0 (OwnR.rows hrF (fun u hu => (((ints_ok (w := w43) hFl)) u hu).size)) ((ints_ok (w := w43) hFl)))).keep (Below.refl _ _)) (OwnR.rows hO9 (fun u hu => (((all_setl (Q := fun u => AmOk w43 u) (all_setl (Q := fun u => AmOk w43 u) (Xs.ok hxA) (((((Xs.ok hxA)) u1 (List.mem_of_getElem? hu1))).keep (Below.refl _ _))) (((((Xs.ok hxA)) u2 (List.mem_of_getElem? hu2))).keep (Below.refl _ _)))) u hu).size)) ((all_setl (Q := fun u => AmOk w43 u) (all_setl (Q := fun u => AmOk w43 u) (Xs.ok hxA) (((((Xs.ok hxA)) u1 (List.mem_of_getElem? hu1))).keep (Below.refl _ _))) (((((Xs.ok hxA)) u2 (List.mem_of_getElem? hu2))).keep (Below.refl _ _)))) (hmd.sz _ _) (hmd.wt (all_setl (all_setl hgA (hgA _ (List.mem_of_getElem? hu1))) (hgA _ (List.mem_of_getElem? hu2))) (by first | omega | (simp only [List.length_append, List.length_set, List.length_take, List.length_cons, List.length_nil]; omega)))) (fun e w44 hR => ?_)
      obtain ⟨rfl, hbl3⟩ := hR
      refine ⟨_, rfl, ?_⟩
      replace hb1 := Below.old hbl3 hb1
      replace hb2 := Below.old hbl3 hb2
      replace hb12 := Below.old hbl3 hb12
      replace hrC := hrC.below hbl3
      replace hrA := hrA.below hbl3
      replace hrF := hrF.below hbl3
      replace hO9 := hO9.below hbl3
      replace hO14 := hO14.below hbl3
      replace hO15 := hO15.below hbl3
      replace hO18 := hO18.below hbl3
      replace hxC := Xs.below hxC hbl3
      replace hxA := Xs.below hxA hbl3
      replace hB := Below.andThen hB hbl3
      refine At.ops0 ?_
      refine At.wpcN (.cons rfl rfl rfl rfl (fun Lx => ?_) (.cons rfl rfl rfl rfl (fun Lx => ?_) (.cons rfl rfl rfl rfl (fun Lx => ?_) .nil))) ?_
      · skip
        refine At.yes rfl rfl rfl rfl ?_
        refine At.move rfl rfl ?_
        refine At.ops0 ?_
        exact fun a ha => ⟨ha, rfl⟩
      · skip
        refine At.yes rfl rfl rfl rfl ?_
        refine At.move rfl rfl ?_
        refine At.ops0 ?_
        exact fun a ha => ⟨ha, rfl⟩
      · skip
        refine At.yes rfl rfl rfl rfl ?_
        refine At.eqI rfl rfl rfl ?_
        refine At.ops0 ?_
        exact fun a ha => ⟨ha, rfl⟩
      refine At.wpcL #[true, true, true, true, true, true, true, true, true, true, true, true, true, true, true, false, false, false, false, false, false, false, false, false, false, false, false, false, false, false, false, false, false, false, false, false, false, false, false, false, false, false, false, false, false, false, false, false, false, false, false, false, false, false, false, false, false, false, false, false] (by kernel_rfl) ?_
      refine At.wpcS (i := 15) (d := 154) (.bool (decide ((rightB (ownDat (⟨#[68]⟩ : ByteArray) vC lC) (ownTm 11 0 (⟨#[65]⟩ : ByteArray) (⟨#[]⟩ : ByteArray) 0 vF lF) ((lA.set i' u1).set k' u2)) = decide ((i' : Int) = (k' : Int))))) (by kernel_rfl) rfl rfl rfl (fun Lx => ?_) ?_
      · skip
        refine At.yes rfl rfl rfl rfl ?_
        refine At.eqB rfl rfl bo4 rfl ?_
        refine At.ops0 ?_
        exact fun a ha => ⟨ha, rfl⟩
      refine At.set (d := 154) (u := .bool true) rfl (congrArg Value.bool hbb2) ?_
      refine At.wpcL #[true, true, true, true, true, true, true, true, true, true, true, true, true, true, true, true, false, false, false, false, false, false, false, false, false, false, false, false, false, false, false, false, false, false, false, false, false, false, false, false, false, false, false, false, false, false, false, false, false, false, false, false, false, false, false, false, false, false, false, false] (by kernel_rfl) ?_
      refine At.wpcS (i := 16) (d := 155) (.bool true) (by kernel_rfl) rfl rfl rfl (fun Lx => ?_) ?_
      · skip
        refine At.pickT rfl rfl rfl ?_
        refine At.ops0 ?_
        exact fun a ha => ⟨ha, rfl⟩
      refine At.wpcL #[true, true, true, true, true, true, true, true, true, true, true, true, true, true, true, true, true, false, false, false, false, false, false, false, false, false, false, false, false, false, false, false, false, false, false, false, false, false, false, false, false, false, false, false, false, false, false, false, false, false, false, false, false, false, false, false, false, false, false, false] (by kernel_rfl) ?_
      refine At.wpcS (i := 17) (d := 156) (.bool true) (by kernel_rfl) rfl rfl rfl (fun Lx => ?_) ?_
      · skip
        refine At.move rfl rfl ?_
        refine At.ops0 ?_
        exact fun a ha => ⟨ha, rfl⟩
      refine At.wpcL #[true, true, true, true, true, true, true, true, true, true, true, true, true, true, true, true, true, true, false, false, false, false, false, false, false, false, false, false, false, false, false, false, false, false, false, false, false, false, false, false, false, false, false, false, false, false, false, false, false, false, false, false, false, false, false, false, false, false, false, false] (by kernel_rfl) ?_
      refine At.wpcS (i := 18) (d := 157) (.agg #[.string (⟨#[68]⟩ : ByteArray), vC]) (by kernel_rfl) rfl rfl rfl (fun Lx => ?_) ?_
      · skip
        refine At.yes rfl rfl rfl rfl ?_
        refine At.load rfl (Ld.own (C := #[.string (⟨#[68]⟩ : ByteArray), vC]) ag52 sz52 hb2) rfl ?_
        refine At.ops0 ?_
        exact fun a ha => ⟨ha, rfl⟩
      refine At.wpcL #[true, true, true, true, true, true, true, true, true, true, true, true, true, true, true, true, true, true, true, false, false, false, false, false, false, false, false, false, false, false, false, false, false, false, false, false, false, false, false, false, false, false, false, false, false, false, false, false, false, false, false, false, false, false, false, false, false, false, false, false] (by kernel_rfl) ?_
      refine At.wpcS (i := 19) (d := 158) (.agg #[.int .i64 11, .int .i64 0, .string (⟨#[65]⟩ : ByteArray), .string (⟨#[]⟩ : ByteArray), .int .i64 0, vF, (.slice none 0 0), .int .i64 0, .string (⟨#[]⟩ : ByteArray), .int .i64 0, (.slice none 0 0), (.slice none 0 0), .int .i64 0, (.slice none 0 0), .int .i64 0, .int .i64 0, .string (⟨#[]⟩ : ByteArray), .int .i64 0, (.slice none 0 0), (.slice none 0 0), .int .i64 0]) (by kernel_rfl) rfl rfl rfl (fun Lx => ?_) ?_
      · skip
        refine At.yes rfl rfl rfl rfl ?_
        refine At.load rfl (Ld.own (C := #[.int .i64 11, .int .i64 0, .string (⟨#[65]⟩ : ByteArray), .string (⟨#[]⟩ : ByteArray), .int .i64 0, vF, (.slice none 0 0), .int .i64 0, .string (⟨#[]⟩ : ByteArray), .int .i64 0, (.slice none 0 0), (.slice none 0 0), .int .i64 0, (.slice none 0 0), .int .i64 0, .int .i64 0, .string (⟨#[]⟩ : ByteArray), .int .i64 0, (.slice none 0 0), (.slice none 0 0), .int .i64 0]) ag33 sz33 hb12) rfl ?_
        refine At.ops0 ?_
        exact fun a ha => ⟨ha, rfl⟩
      refine At.wpcL #[true, true, true, true, true, true, true, true, true, true, true, true, true, true, true, true, true, true, true, true, false, false, false, false, false, false, false, false, false, false, false, false, false, false, false, false, false, false, false, false, false, false, false, false, false, false, false, false, false, false, false, false, false, false, false, false, false, false, false, false] (by kernel_rfl) ?_
      refine At.wpcS (i := 20) (d := 159) (vA) (by kernel_rfl) rfl rfl rfl (fun Lx => ?_) ?_
      · skip
        refine At.yes rfl rfl rfl rfl ?_
        refine At.move rfl rfl ?_
        refine At.ops0 ?_
        exact fun a ha => ⟨ha, rfl⟩
      refine At.wpcL #[true, true, true, true, true, true, true, true, true, true, true, true, true, true, true, true, true, true, true, true, true, false, false, false, false, false, false, false, false, false, false, false, false, false, false, false, false, false, false, false, false, false, false, false, false, false, false, false, false, false, false, false, false, false, false, false, false, false, false, false] (by kernel_rfl) ?_
      refine At.wpcS (i := 21) (d := 160) (.int .i64 (n : Int)) (by kernel_rfl) rfl rfl rfl (fun Lx => ?_) ?_
      · skip
        refine At.yes rfl rfl rfl rfl ?_
        refine At.move rfl rfl ?_
        refine At.ops0 ?_
        exact fun a ha => ⟨ha, rfl⟩
      refine At.wpcL #[true, true, true, true, true, true, true, true, true, true, true, true, true, true, true, true, true, true, true, true, true, true, false, false, false, false, false, false, false, false, false, false, false, false, false, false, false, false, false, false, false, false, false, false, false, false, false, false, false, false, false, false, false, false, false, false, false, false, false, false] (by kernel_rfl) ?_
      refine At.wpcS (i := 22) (d := 161) (.int .i64 ((n : Int) - 1)) (by kernel_rfl) rfl rfl rfl (fun Lx => ?_) ?_
      · skip
        refine At.yes rfl rfl rfl rfl ?_
        refine At.subI rfl rfl rfl (by first | omega | (simp only [List.length_set]; omega) | (rw [hVl]; have := abc_len (show f ≤ 3 by omega); simp only [List.length_cons, List.length_nil]; omega) | (simp only [List.length_append, List.length_cons, List.length_nil]; omega)) ?_
        refine At.ops0 ?_
        exact fun a ha => ⟨ha, rfl⟩
      refine At.wpcL #[true, true, true, true, true, true, true, true, true, true, true, true, true, true, true, true, true, true, true, true, true, true, true, false, false, false, false, false, false, false, false, false, false, false, false, false, false, false, false, false, false, false, false, false, false, false, false, false, false, false, false, false, false, false, false, false, false, false, false, false] (by kernel_rfl) ?_
      refine At.wpcS (i := 23) (d := 162) ((takeV vA (n - 1))) (by kernel_rfl) rfl rfl rfl (fun Lx => ?_) ?_
      · skip
        refine At.yes rfl rfl rfl rfl ?_
        refine At.sliceToE (h := (n - 1)) rfl rfl (by omega) (Own.slOk hrA) el25 sz71 hle1 rfl ?_
        refine At.ops0 ?_
        exact fun a ha => ⟨ha, rfl⟩
      refine At.wpcL #[true, true, true, true, true, true, true, true, true, true, true, true, true, true, true, true, true, true, true, true, true, true, true, true, false, false, false, false, false, false, false, false, false, false, false, false, false, false, false, false, false, false, false, false, false, false, false, false, false, false, false, false, false, false, false, false, false, false, false, false] (by kernel_rfl) ?_
      refine At.wpcF [24] (by kernel_rfl) (by kernel_rfl) (.cons [] [[5, 1, 0], [5, 1], [5, 2], [5, 3], [5, 4], [11, 7, 6], [11, 7], [11, 8], [11, 9], [11, 10], [24, 17, 16, 15, 14, 12], [24, 17, 16, 15, 14, 13], [24, 17, 16, 15, 14], [24, 17, 16, 15], [24, 17, 16], [24, 17], [24, 18], [24, 19], [24, 23, 20], [24, 23, 22, 21], [24, 23, 22], [24, 23]] rfl (by kernel_rfl) ?_ .nil)
      refine At.yes rfl rfl rfl rfl ?_
      refine At.call en25 rfl rfl (right_any (ownDat (⟨#[68]⟩ : ByteArray) vC lC) (ownTm 11 0 (⟨#[65]⟩ : ByteArray) (⟨#[]⟩ : ByteArray) 0 vF lF) (takeV vA (n - 1)) (lA.take (n - 1)) _ (((ownDat_ok (OwnR.rows hrC (fun u hu => (((Xs.ok hxC)) u hu).size)) ((Xs.ok hxC)))).keep (Below.refl _ _)) (((ownTm_rows 11 0 (⟨#[65]⟩ : ByteArray) (⟨#[]⟩ : ByteArray) 0 (OwnR.rows hrF (fun u hu => (((ints_ok (w := w44) hFl)) u hu).size)) ((ints_ok (w := w44) hFl)))).keep (Below.refl _ _)) (rows_take (OwnR.rows hrA (fun u hu => (((Xs.ok hxA)) u hu).size)) hle1) ((all_takel ((Xs.ok hxA)))) (hmd.sz _ _) (hmd.wt (all_takel hgA) (by first | omega | (simp only [List.length_append, List.length_set, List.length_take, List.length_cons, List.length_nil]; omega)))) (fun e w45 hR => ?_)
      obtain ⟨rfl, hbl4⟩ := hR
      refine ⟨_, rfl, ?_⟩
      replace hb1 := Below.old hbl4 hb1
      replace hb2 := Below.old hbl4 hb2
      replace hb12 := Below.old hbl4 hb12
      replace hrC := hrC.below hbl4
      replace hrA := hrA.below hbl4
      replace hrF := hrF.below hbl4
      replace hO9 := hO9.below hbl4
      replace hO14 := hO14.below hbl4
      replace hO15 := hO15.below hbl4
      replace hO18 := hO18.below hbl4
      replace hxC := Xs.below hxC hbl4
      replace hxA := Xs.below hxA hbl4
      replace hB := Below.andThen hB hbl4
      refine At.ops0 ?_
      refine At.wpcN .nil ?_
      refine At.wpcL #[true, true, true, true, true, true, true, true, true, true, true, true, true, true, true, true, true, true, true, true, true, true, true, true, true, false, false, false, false, false, false, false, false, false, false, false, false, false, false, false, false, false, false, false, false, false, false, false, false, false, false, false, false, false, false, false, false, false, false, false] (by kernel_rfl) ?_
      refine At.wpcS (i := 25) (d := 164) (.bool (!(rightB (ownDat (⟨#[68]⟩ : ByteArray) vC lC) (ownTm 11 0 (⟨#[65]⟩ : ByteArray) (⟨#[]⟩ : ByteArray) 0 vF lF) (lA.take (n - 1))))) (by kernel_rfl) rfl rfl rfl (fun Lx => ?_) ?_
      · skip
        refine At.yes rfl rfl rfl rfl ?_
        refine At.not rfl rfl ?_
        refine At.ops0 ?_
        exact fun a ha => ⟨ha, rfl⟩
      refine At.set (d := 164) (u := .bool true) rfl (congrArg Value.bool hbb3) ?_
      refine At.wpcL #[true, true, true, true, true, true, true, true, true, true, true, true, true, true, true, true, true, true, true, true, true, true, true, true, true, true, false, false, false, false, false, false, false, false, false, false, false, false, false, false, false, false, false, false, false, false, false, false, false, false, false, false, false, false, false, false, false, false, false, false] (by kernel_rfl) ?_
      refine At.wpcS (i := 26) (d := 165) (.bool true) (by kernel_rfl) rfl rfl rfl (fun Lx => ?_) ?_
      · skip
        refine At.pickT rfl rfl rfl ?_
        refine At.ops0 ?_
        exact fun a ha => ⟨ha, rfl⟩
      refine At.wpcL #[true, true, true, true, true, true, true, true, true, true, true, true, true, true, true, true, true, true, true, true, true, true, true, true, true, true, true, false, false, false, false, false, false, false, false, false, false, false, false, false, false, false, false, false, false, false, false, false, false, false, false, false, false, false, false, false, false, false, false, false] (by kernel_rfl) ?_
      refine At.wpcS (i := 27) (d := 166) (.bool true) (by kernel_rfl) rfl rfl rfl (fun Lx => ?_) ?_
      · skip
        refine At.move rfl rfl ?_
        refine At.ops0 ?_
        exact fun a ha => ⟨ha, rfl⟩
      refine At.wpcL #[true, true, true, true, true, true, true, true, true, true, true, true, true, true, true, true, true, true, true, true, true, true, true, true, true, true, true, true, false, false, false, false, false, false, false, false, false, false, false, false, false, false, false, false, false, false, false, false, false, false, false, false, false, false, false, false, false, false, false, false] (by kernel_rfl) ?_
      refine At.wpcS (i := 28) (d := 167) (.agg #[.string (⟨#[68]⟩ : ByteArray), vC]) (by kernel_rfl) rfl rfl rfl (fun Lx => ?_) ?_
      · skip
        refine At.yes rfl rfl rfl rfl ?_
        refine At.load rfl (Ld.own (C := #[.string (⟨#[68]⟩ : ByteArray), vC]) ag52 sz52 hb2) rfl ?_
        refine At.ops0 ?_
        exact fun a ha => ⟨ha, rfl⟩
      refine At.wpcL #[true, true, true, true, true, true, true, true, true, true, true, true, true, true, true, true, true, true, true, true, true, true, true, true, true, true, true, true, true, false, false, false, false, false, false, false, false, false, false, false, false, false, false, false, false, false, false, false, false, false, false, false, false, false, false, false, false, false, false, false] (by kernel_rfl) ?_
      refine At.wpcS (i := 29) (d := 168) (.agg #[.int .i64 11, .int .i64 0, .string (⟨#[65]⟩ : ByteArray), .string (⟨#[]⟩ : ByteArray), .int .i64 0, vF, (.slice none 0 0), .int .i64 0, .string (⟨#[]⟩ : ByteArray), .int .i64 0, (.slice none 0 0), (.slice none 0 0), .int .i64 0, (.slice none 0 0), .int .i64 0, .int .i64 0, .string (⟨#[]⟩ : ByteArray), .int .i64 0, (.slice none 0 0), (.slice none 0 0), .int .i64 0]) (by kernel_rfl) rfl rfl rfl (fun Lx => ?_) ?_
      · skip
        refine At.yes rfl rfl rfl rfl ?_
        refine At.load rfl (Ld.own (C := #[.int .i64 11, .int .i64 0, .string (⟨#[65]⟩ : ByteArray), .string (⟨#[]⟩ : ByteArray), .int .i64 0, vF, (.slice none 0 0), .int .i64 0, .string (⟨#[]⟩ : ByteArray), .int .i64 0, (.slice none 0 0), (.slice none 0 0), .int .i64 0, (.slice none 0 0), .int .i64 0, .int .i64 0, .string (⟨#[]⟩ : ByteArray), .int .i64 0, (.slice none 0 0), (.slice none 0 0), .int .i64 0]) ag33 sz33 hb12) rfl ?_
        refine At.ops0 ?_
        exact fun a ha => ⟨ha, rfl⟩
      refine At.wpcL #[true, true, true, true, true, true, true, true, true, true, true, true, true, true, true, true, true, true, true, true, true, true, true, true, true, true, true, true, true, true, false, false, false, false, false, false, false, false, false, false, false, false, false, false, false, false, false, false, false, false, false, false, false, false, false, false, false, false, false, false] (by kernel_rfl) ?_
      refine At.wpcS (i := 30) (d := 169) (va7) (by kernel_rfl) rfl rfl rfl (fun Lx => ?_) ?_
      · skip
        refine At.yes rfl rfl rfl rfl ?_
        refine At.move rfl rfl ?_
        refine At.ops0 ?_
        exact fun a ha => ⟨ha, rfl⟩
      refine At.wpcL #[true, true, true, true, true, true, true, true, true, true, true, true, true, true, true, true, true, true, true, true, true, true, true, true, true, true, true, true, true, true, true, false, false, false, false, false, false, false, false, false, false, false, false, false, false, false, false, false, false, false, false, false, false, false, false, false, false, false, false, false] (by kernel_rfl) ?_
      refine At.wpcF [31] (by kernel_rfl) (by kernel_rfl) (.cons [] [[5, 1, 0], [5, 1], [5, 2], [5, 3], [5, 4], [11, 7, 6], [11, 7], [11, 8], [11, 9], [11, 10], [24, 17, 16, 15, 14, 12], [24, 17, 16, 15, 14, 13], [24, 17, 16, 15, 14], [24, 17, 16, 15], [24, 17, 16], [24, 17], [24, 18], [24, 19], [24, 23, 20], [24, 23, 22, 21], [24, 23, 22], [24, 23], [31, 27, 26, 25], [31, 27, 26], [31, 27], [31, 28], [31, 29], [31, 30]] rfl (by kernel_rfl) ?_ .nil)
      refine At.yes rfl rfl rfl rfl ?_
      refine At.call en25 rfl rfl (right_any (ownDat (⟨#[68]⟩ : ByteArray) vC lC) (ownTm 11 0 (⟨#[65]⟩ : ByteArray) (⟨#[]⟩ : ByteArray) 0 vF lF) va7 (lA.set i' (Am.withVars uM va9 (([] ++ uM.vars) ++ [(⟨#[122]⟩ : ByteArray)]))) _ (((ownDat_ok (OwnR.rows hrC (fun u hu => (((Xs.ok hxC)) u hu).size)) ((Xs.ok hxC)))).keep (Below.refl _ _)) (((ownTm_rows 11 0 (⟨#[65]⟩ : ByteArray) (⟨#[]⟩ : ByteArray) 0 (OwnR.rows hrF (fun u hu => (((ints_ok (w := w45) hFl)) u hu).size)) ((ints_ok (w := w45) hFl)))).keep (Below.refl _ _)) (OwnR.rows hO15 (fun u hu => (((all_setl (Q := fun u => AmOk w45 u) (Xs.ok hxA) (AmOk.withVars (((((Xs.ok hxA)) uM (List.mem_of_getElem? huM))).keep (Below.refl _ _)) (hO14).strs))) u hu).size)) ((all_setl (Q := fun u => AmOk w45 u) (Xs.ok hxA) (AmOk.withVars (((((Xs.ok hxA)) uM (List.mem_of_getElem? huM))).keep (Below.refl _ _)) (hO14).strs))) (hmd.sz _ _) (hmd.wt (all_setl hgA (good_more hAr huM rfl)) (by first | omega | (simp only [List.length_append, List.length_set, List.length_take, List.length_cons, List.length_nil]; omega)))) (fun e w46 hR => ?_)
      obtain ⟨rfl, hbl5⟩ := hR
      refine ⟨_, rfl, ?_⟩
      replace hb1 := Below.old hbl5 hb1
      replace hb2 := Below.old hbl5 hb2
      replace hb12 := Below.old hbl5 hb12
      replace hrC := hrC.below hbl5
      replace hrA := hrA.below hbl5
      replace hrF := hrF.below hbl5
      replace hO9 := hO9.below hbl5
      replace hO14 := hO14.below hbl5
      replace hO15 := hO15.below hbl5
      replace hO18 := hO18.below hbl5
      replace hxC := Xs.below hxC hbl5
      replace hxA := Xs.below hxA hbl5
      replace hB := Below.andThen hB hbl5
      refine At.ops0 ?_
      refine At.wpcN .nil ?_
      refine At.wpcL #[true, true, true, true, true, true, true, true, true, true, true, true, true, true, true, true, true, true, true, true, true, true, true, true, true, true, true, true, true, true, true, true, false, false, false, false, false, false, false, false, false, false, false, false, false, false, false, false, false, false, false, false, false, false, false, false, false, false, false, false] (by kernel_rfl) ?_
      refine At.wpcS (i := 32) (d := 171) (.bool (!(rightB (ownDat (⟨#[68]⟩ : ByteArray) vC lC) (ownTm 11 0 (⟨#[65]⟩ : ByteArray) (⟨#[]⟩ : ByteArray) 0 vF lF) (lA.set i' (Am.withVars uM va9 (([] ++ uM.vars) ++ [(⟨#[122]⟩ : ByteArray)])))))) (by kernel_rfl) rfl rfl rfl (fun Lx => ?_) ?_
      · skip
        refine At.yes rfl rfl rfl rfl ?_
        refine At.not rfl rfl ?_
        refine At.ops0 ?_
        exact fun a ha => ⟨ha, rfl⟩
      refine At.set (d := 171) (u := .bool true) rfl (congrArg Value.bool hbb4) ?_
      refine At.wpcL #[true, true, true, true, true, true, true, true, true, true, true, true, true, true, true, true, true, true, true, true, true, true, true, true, true, true, true, true, true, true, true, true, true, false, false, false, false, false, false, false, false, false, false, false, false, false, false, false, false, false, false, false, false, false, false, false, false, false, false, false] (by kernel_rfl) ?_
      refine At.wpcS (i := 33) (d := 172) (.bool true) (by kernel_rfl) rfl rfl rfl (fun Lx => ?_) ?_
      · skip
        refine At.pickT rfl rfl rfl ?_
        refine At.ops0 ?_
        exact fun a ha => ⟨ha, rfl⟩
      refine At.wpcL #[true, true, true, true, true, true, true, true, true, true, true, true, true, true, true, true, true, true, true, true, true, true, true, true, true, true, true, true, true, true, true, true, true, true, false, false, false, false, false, false, false, false, false, false, false, false, false, false, false, false, false, false, false, false, false, false, false, false, false, false] (by kernel_rfl) ?_
      refine At.wpcS (i := 34) (d := 173) (.bool true) (by kernel_rfl) rfl rfl rfl (fun Lx => ?_) ?_
      · skip
        refine At.move rfl rfl ?_
        refine At.ops0 ?_
        exact fun a ha => ⟨ha, rfl⟩
      refine At.wpcL #[true, true, true, true, true, true, true, true, true, true, true, true, true, true, true, true, true, true, true, true, true, true, true, true, true, true, true, true, true, true, true, true, true, true, true, false, false, false, false, false, false, false, false, false, false, false, false, false, false, false, false, false, false, false, false, false, false, false, false, false] (by kernel_rfl) ?_
      refine At.wpcS (i := 35) (d := 174) (.agg #[.string (⟨#[68]⟩ : ByteArray), vC]) (by kernel_rfl) rfl rfl rfl (fun Lx => ?_) ?_
      · skip
        refine At.yes rfl rfl rfl rfl ?_
        refine At.load rfl (Ld.own (C := #[.string (⟨#[68]⟩ : ByteArray), vC]) ag52 sz52 hb2) rfl ?_
        refine At.ops0 ?_
        exact fun a ha => ⟨ha, rfl⟩
      refine At.wpcL #[true, true, true, true, true, true, true, true, true, true, true, true, true, true, true, true, true, true, true, true, true, true, true, true, true, true, true, true, true, true, true, true, true, true, true, true, false, false, false, false, false, false, false, false, false, false, false, false, false, false, false, false, false, false, false, false, false, false, false, false] (by kernel_rfl) ?_
      refine At.wpcS (i := 36) (d := 175) (.agg #[.int .i64 11, .int .i64 0, .string (⟨#[65]⟩ : ByteArray), .string (⟨#[]⟩ : ByteArray), .int .i64 0, vF, (.slice none 0 0), .int .i64 0, .string (⟨#[]⟩ : ByteArray), .int .i64 0, (.slice none 0 0), (.slice none 0 0), .int .i64 0, (.slice none 0 0), .int .i64 0, .int .i64 0, .string (⟨#[]⟩ : ByteArray), .int .i64 0, (.slice none 0 0), (.slice none 0 0), .int .i64 0]) (by kernel_rfl) rfl rfl rfl (fun Lx => ?_) ?_
      · skip
        refine At.yes rfl rfl rfl rfl ?_
        refine At.load rfl (Ld.own (C := #[.int .i64 11, .int .i64 0, .string (⟨#[65]⟩ : ByteArray), .string (⟨#[]⟩ : ByteArray), .int .i64 0, vF, (.slice none 0 0), .int .i64 0, .string (⟨#[]⟩ : ByteArray), .int .i64 0, (.slice none 0 0), (.slice none 0 0), .int .i64 0, (.slice none 0 0), .int .i64 0, .int .i64 0, .string (⟨#[]⟩ : ByteArray), .int .i64 0, (.slice none 0 0), (.slice none 0 0), .int .i64 0]) ag33 sz33 hb12) rfl ?_
        refine At.ops0 ?_
        exact fun a ha => ⟨ha, rfl⟩
      refine At.wpcL #[true, true, true, true, true, true, true, true, true, true, true, true, true, true, true, true, true, true, true, true, true, true, true, true, true, true, true, true, true, true, true, true, true, true, true, true, true, false, false, false, false, false, false, false, false, false, false, false, false, false, false, false, false, false, false, false, false, false, false, false] (by kernel_rfl) ?_
      refine At.wpcS (i := 37) (d := 176) (va10) (by kernel_rfl) rfl rfl rfl (fun Lx => ?_) ?_
      · skip
        refine At.yes rfl rfl rfl rfl ?_
        refine At.move rfl rfl ?_
        refine At.ops0 ?_
        exact fun a ha => ⟨ha, rfl⟩
      refine At.wpcL #[true, true, true, true, true, true, true, true, true, true, true, true, true, true, true, true, true, true, true, true, true, true, true, true, true, true, true, true, true, true, true, true, true, true, true, true, true, true, false, false, false, false, false, false, false, false, false, false, false, false, false, false, false, false, false, false, false, false, false, false] (by kernel_rfl) ?_
      refine At.wpcS (i := 39) (d := 178) (.int .i64 (i' : Int)) (by kernel_rfl) rfl rfl rfl (fun Lx => ?_) ?_
      · skip
        refine At.yes rfl rfl rfl rfl ?_
        refine At.move rfl rfl ?_
        refine At.ops0 ?_
        exact fun a ha => ⟨ha, rfl⟩
      refine At.wpcL #[true, true, true, true, true, true, true, true, true, true, true, true, true, true, true, true, true, true, true, true, true, true, true, true, true, true, true, true, true, true, true, true, true, true, true, true, true, true, false, true, false, false, false, false, false, false, false, false, false, false, false, false, false, false, false, false, false, false, false, false] (by kernel_rfl) ?_
      refine At.wpcS (i := 40) (d := 179) (.int .i64 (k' : Int)) (by kernel_rfl) rfl rfl rfl (fun Lx => ?_) ?_
      · skip
        refine At.yes rfl rfl rfl rfl ?_
        refine At.move rfl rfl ?_
        refine At.ops0 ?_
        exact fun a ha => ⟨ha, rfl⟩
      refine At.wpcL #[true, true, true, true, true, true, true, true, true, true, true, true, true, true, true, true, true, true, true, true, true, true, true, true, true, true, true, true, true, true, true, true, true, true, true, true, true, true, false, true, true, false, false, false, false, false, false, false, false, false, false, false, false, false, false, false, false, false, false, false] (by kernel_rfl) ?_
      refine At.wpcS (i := 41) (d := 180) (.bool (decide ((i' : Int) = (k' : Int)))) (by kernel_rfl) rfl rfl rfl (fun Lx => ?_) ?_
      · skip
        refine At.yes rfl rfl rfl rfl ?_
        refine At.eqI rfl rfl rfl ?_
        refine At.ops0 ?_
        exact fun a ha => ⟨ha, rfl⟩
      refine At.wpcL #[true, true, true, true, true, true, true, true, true, true, true, true, true, true, true, true, true, true, true, true, true, true, true, true, true, true, true, true, true, true, true, true, true, true, true, true, true, true, false, true, true, true, false, false, false, false, false, false, false, false, false, false, false, false, false, false, false, false, false, false] (by kernel_rfl) ?_
      refine At.wpcF [38] (by kernel_rfl) (by kernel_rfl) (.cons [39, 40, 41] [[5, 1, 0], [5, 1], [5, 2], [5, 3], [5, 4], [11, 7, 6], [11, 7], [11, 8], [11, 9], [11, 10], [24, 17, 16, 15, 14, 12], [24, 17, 16, 15, 14, 13], [24, 17, 16, 15, 14], [24, 17, 16, 15], [24, 17, 16], [24, 17], [24, 18], [24, 19], [24, 23, 20], [24, 23, 22, 21], [24, 23, 22], [24, 23], [31, 27, 26, 25], [31, 27, 26], [31, 27], [31, 28], [31, 29], [31, 30], [38, 34, 33, 32], [38, 34, 33], [38, 34], [38, 35], [38, 36], [38, 37]] rfl (by kernel_rfl) ?_ .nil)
      refine At.yes rfl rfl rfl rfl ?_
      refine At.call en25 rfl rfl (right_any (ownDat (⟨#[68]⟩ : ByteArray) vC lC) (ownTm 11 0 (⟨#[65]⟩ : ByteArray) (⟨#[]⟩ : ByteArray) 0 vF lF) va10 (lA.set i' u4) _ (((ownDat_ok (OwnR.rows hrC (fun u hu => (((Xs.ok hxC)) u hu).size)) ((Xs.ok hxC)))).keep (Below.refl _ _)) (((ownTm_rows 11 0 (⟨#[65]⟩ : ByteArray) (⟨#[]⟩ : ByteArray) 0 (OwnR.rows hrF (fun u hu => (((ints_ok (w := w46) hFl)) u hu).size)) ((ints_ok (w := w46) hFl)))).keep (Below.refl _ _)) (OwnR.rows hO18 (fun u hu => (((all_setl (Q := fun u => AmOk w46 u) (Xs.ok hxA) (((((Xs.ok hxA)) u4 (List.mem_of_getElem? hu4))).keep (Below.refl _ _)))) u hu).size)) ((all_setl (Q := fun u => AmOk w46 u) (Xs.ok hxA) (((((Xs.ok hxA)) u4 (List.mem_of_getElem? hu4))).keep (Below.refl _ _)))) (hmd.sz _ _) (hmd.wt (all_setl hgA (hgA _ (List.mem_of_getElem? hu4))) (by first | omega | (simp only [List.length_append, List.length_set, List.length_take, List.length_cons, List.length_nil]; omega)))) (fun e w47 hR => ?_)
      obtain ⟨rfl, hbl6⟩ := hR
      refine ⟨_, rfl, ?_⟩
      replace hb1 := Below.old hbl6 hb1
      replace hb2 := Below.old hbl6 hb2
      replace hb12 := Below.old hbl6 hb12
      replace hrC := hrC.below hbl6
      replace hrA := hrA.below hbl6
      replace hrF := hrF.below hbl6
      replace hO9 := hO9.below hbl6
      replace hO14 := hO14.below hbl6
      replace hO15 := hO15.below hbl6
      replace hO18 := hO18.below hbl6
      replace hxC := Xs.below hxC hbl6
      replace hxA := Xs.below hxA hbl6
      replace hB := Below.andThen hB hbl6
      refine At.ops0 ?_
      refine At.wpcN (.cons rfl rfl rfl rfl (fun Lx => ?_) (.cons rfl rfl rfl rfl (fun Lx => ?_) (.cons rfl rfl rfl rfl (fun Lx => ?_) .nil))) ?_
      · skip
        refine At.yes rfl rfl rfl rfl ?_
        refine At.move rfl rfl ?_
        refine At.ops0 ?_
        exact fun a ha => ⟨ha, rfl⟩
      · skip
        refine At.yes rfl rfl rfl rfl ?_
        refine At.move rfl rfl ?_
        refine At.ops0 ?_
        exact fun a ha => ⟨ha, rfl⟩
      · skip
        refine At.yes rfl rfl rfl rfl ?_
        refine At.eqI rfl rfl rfl ?_
        refine At.ops0 ?_
        exact fun a ha => ⟨ha, rfl⟩
      refine At.wpcL #[true, true, true, true, true, true, true, true, true, true, true, true, true, true, true, true, true, true, true, true, true, true, true, true, true, true, true, true, true, true, true, true, true, true, true, true, true, true, true, true, true, true, false, false, false, false, false, false, false, false, false, false, false, false, false, false, false, false, false, false] (by kernel_rfl) ?_
      refine At.wpcS (i := 42) (d := 181) (.bool (decide ((rightB (ownDat (⟨#[68]⟩ : ByteArray) vC lC) (ownTm 11 0 (⟨#[65]⟩ : ByteArray) (⟨#[]⟩ : ByteArray) 0 vF lF) (lA.set i' u4)) = decide ((i' : Int) = (k' : Int))))) (by kernel_rfl) rfl rfl rfl (fun Lx => ?_) ?_
      · skip
        refine At.yes rfl rfl rfl rfl ?_
        refine At.eqB rfl rfl bo4 rfl ?_
        refine At.ops0 ?_
        exact fun a ha => ⟨ha, rfl⟩
      refine At.set (d := 181) (u := .bool true) rfl (congrArg Value.bool hbb5) ?_
      refine At.wpcL #[true, true, true, true, true, true, true, true, true, true, true, true, true, true, true, true, true, true, true, true, true, true, true, true, true, true, true, true, true, true, true, true, true, true, true, true, true, true, true, true, true, true, true, false, false, false, false, false, false, false, false, false, false, false, false, false, false, false, false, false] (by kernel_rfl) ?_
      refine At.wpcS (i := 43) (d := 182) (.bool true) (by kernel_rfl) rfl rfl rfl (fun Lx => ?_) ?_
      · skip
        refine At.pickT rfl rfl rfl ?_
        refine At.ops0 ?_
        exact fun a ha => ⟨ha, rfl⟩
      refine At.wpcL #[true, true, true, true, true, true, true, true, true, true, true, true, true, true, true, true, true, true, true, true, true, true, true, true, true, true, true, true, true, true, true, true, true, true, true, true, true, true, true, true, true, true, true, true, false, false, false, false, false, false, false, false, false, false, false, false, false, false, false, false] (by kernel_rfl) ?_
      refine At.wpcS (i := 44) (d := 183) (.bool true) (by kernel_rfl) rfl rfl rfl (fun Lx => ?_) ?_
      · skip
        refine At.move rfl rfl ?_
        refine At.ops0 ?_
        exact fun a ha => ⟨ha, rfl⟩
      refine At.wpcL #[true, true, true, true, true, true, true, true, true, true, true, true, true, true, true, true, true, true, true, true, true, true, true, true, true, true, true, true, true, true, true, true, true, true, true, true, true, true, true, true, true, true, true, true, true, false, false, false, false, false, false, false, false, false, false, false, false, false, false, false] (by kernel_rfl) ?_
      refine At.wpcS (i := 45) (d := 184) (.agg #[.string (⟨#[68]⟩ : ByteArray), vC]) (by kernel_rfl) rfl rfl rfl (fun Lx => ?_) ?_
      · skip
        refine At.yes rfl rfl rfl rfl ?_
        refine At.load rfl (Ld.own (C := #[.string (⟨#[68]⟩ : ByteArray), vC]) ag52 sz52 hb2) rfl ?_
        refine At.ops0 ?_
        exact fun a ha => ⟨ha, rfl⟩
      refine At.wpcL #[true, true, true, true, true, true, true, true, true, true, true, true, true, true, true, true, true, true, true, true, true, true, true, true, true, true, true, true, true, true, true, true, true, true, true, true, true, true, true, true, true, true, true, true, true, true, false, false, false, false, false, false, false, false, false, false, false, false, false, false] (by kernel_rfl) ?_
      refine At.wpcS (i := 46) (d := 185) (.agg #[.int .i64 11, .int .i64 0, .string (⟨#[65]⟩ : ByteArray), .string (⟨#[]⟩ : ByteArray), .int .i64 0, vF, (.slice none 0 0), .int .i64 0, .string (⟨#[]⟩ : ByteArray), .int .i64 0, (.slice none 0 0), (.slice none 0 0), .int .i64 0, (.slice none 0 0), .int .i64 0, .int .i64 0, .string (⟨#[]⟩ : ByteArray), .int .i64 0, (.slice none 0 0), (.slice none 0 0), .int .i64 0]) (by kernel_rfl) rfl rfl rfl (fun Lx => ?_) ?_
      · skip
        refine At.yes rfl rfl rfl rfl ?_
        refine At.load rfl (Ld.own (C := #[.int .i64 11, .int .i64 0, .string (⟨#[65]⟩ : ByteArray), .string (⟨#[]⟩ : ByteArray), .int .i64 0, vF, (.slice none 0 0), .int .i64 0, .string (⟨#[]⟩ : ByteArray), .int .i64 0, (.slice none 0 0), (.slice none 0 0), .int .i64 0, (.slice none 0 0), .int .i64 0, .int .i64 0, .string (⟨#[]⟩ : ByteArray), .int .i64 0, (.slice none 0 0), (.slice none 0 0), .int .i64 0]) ag33 sz33 hb12) rfl ?_
        refine At.ops0 ?_
        exact fun a ha => ⟨ha, rfl⟩
      refine At.wpcL #[true, true, true, true, true, true, true, true, true, true, true, true, true, true, true, true, true, true, true, true, true, true, true, true, true, true, true, true, true, true, true, true, true, true, true, true, true, true, true, true, true, true, true, true, true, true, true, false, false, false, false, false, false, false, false, false, false, false, false, false] (by kernel_rfl) ?_
      refine At.wpcS (i := 48) (d := 187) (vA) (by kernel_rfl) rfl rfl rfl (fun Lx => ?_) ?_
      · skip
        refine At.yes rfl rfl rfl rfl ?_
        refine At.move rfl rfl ?_
        refine At.ops0 ?_
        exact fun a ha => ⟨ha, rfl⟩
      refine At.wpcL #[true, true, true, true, true, true, true, true, true, true, true, true, true, true, true, true, true, true, true, true, true, true, true, true, true, true, true, true, true, true, true, true, true, true, true, true, true, true, true, true, true, true, true, true, true, true, true, false, true, false, false, false, false, false, false, false, false, false, false, false] (by kernel_rfl) ?_
      refine At.wpcS (i := 50) (d := 189) (vA) (by kernel_rfl) rfl rfl rfl (fun Lx => ?_) ?_
      · skip
        refine At.yes rfl rfl rfl rfl ?_
        refine At.move rfl rfl ?_
        refine At.ops0 ?_
        exact fun a ha => ⟨ha, rfl⟩
      refine At.wpcL #[true, true, true, true, true, true, true, true, true, true, true, true, true, true, true, true, true, true, true, true, true, true, true, true, true, true, true, true, true, true, true, true, true, true, true, true, true, true, true, true, true, true, true, true, true, true, true, false, true, false, true, false, false, false, false, false, false, false, false, false] (by kernel_rfl) ?_
      refine At.wpcS (i := 51) (d := 190) (.int .i64 (k' : Int)) (by kernel_rfl) rfl rfl rfl (fun Lx => ?_) ?_
      · skip
        refine At.yes rfl rfl rfl rfl ?_
        refine At.move rfl rfl ?_
        refine At.ops0 ?_
        exact fun a ha => ⟨ha, rfl⟩
      refine At.wpcL #[true, true, true, true, true, true, true, true, true, true, true, true, true, true, true, true, true, true, true, true, true, true, true, true, true, true, true, true, true, true, true, true, true, true, true, true, true, true, true, true, true, true, true, true, true, true, true, false, true, false, true, true, false, false, false, false, false, false, false, false] (by kernel_rfl) ?_
      refine At.wpcS (i := 52) (d := 191) (.pointer (some ⟨vBlock vA, vOff vA + k' * 23, none⟩)) (by kernel_rfl) rfl rfl rfl (fun Lx => ?_) ?_
      · skip
        refine At.yes rfl rfl rfl rfl ?_
        refine At.indexAddr (i := k') rfl rfl (Own.slOk hrA) (lt_of_some hu6) el25 sz71 rfl ?_
        refine At.ops0 ?_
        exact fun a ha => ⟨ha, rfl⟩
      refine At.wpcL #[true, true, true, true, true, true, true, true, true, true, true, true, true, true, true, true, true, true, true, true, true, true, true, true, true, true, true, true, true, true, true, true, true, true, true, true, true, true, true, true, true, true, true, true, true, true, true, false, true, false, true, true, true, false, false, false, false, false, false, false] (by kernel_rfl) ?_
      refine At.wpcS (i := 53) (d := 192) (.agg u6.cs) (by kernel_rfl) rfl rfl rfl (fun Lx => ?_) ?_
      · skip
        refine At.yes rfl rfl rfl rfl ?_
        refine At.load rfl (Ld.row ag71 (sz71.trans (congrArg some ((((Xs.ok hxA)) u6 (List.mem_of_getElem? hu6))).size.symm)) ((((OwnR.rows hrA (fun u hu => (((Xs.ok hxA)) u hu).size))).row hu6).keep (Below.refl _ _))) rfl ?_
        refine At.ops0 ?_
        exact fun a ha => ⟨ha, rfl⟩
      refine At.wpcL #[true, true, true, true, true, true, true, true, true, true, true, true, true, true, true, true, true, true, true, true, true, true, true, true, true, true, true, true, true, true, true, true, true, true, true, true, true, true, true, true, true, true, true, true, true, true, true, false, true, false, true, true, true, true, false, false, false, false, false, false] (by kernel_rfl) ?_
      refine At.wpcF [47, 54] (by kernel_rfl) (by kernel_rfl) (.cons [45, 46, 48, 50, 51, 52, 53] [[5, 1, 0], [5, 1], [5, 2], [5, 3], [5, 4], [11, 7, 6], [11, 7], [11, 8], [11, 9], [11, 10], [24, 17, 16, 15, 14, 12], [24, 17, 16, 15, 14, 13], [24, 17, 16, 15, 14], [24, 17, 16, 15], [24, 17, 16], [24, 17], [24, 18], [24, 19], [24, 23, 20], [24, 23, 22, 21], [24, 23, 22], [24, 23], [31, 27, 26, 25], [31, 27, 26], [31, 27], [31, 28], [31, 29], [31, 30], [38, 34, 33, 32], [38, 34, 33], [38, 34], [38, 35], [38, 36], [38, 37], [47, 44, 43, 42, 41, 39], [47, 44, 43, 42, 41, 40], [47, 44, 43, 42, 41], [47, 44, 43, 42], [47, 44, 43], [47, 44]] rfl (by kernel_rfl) ?_ (.cons [45, 46, 48] [[5, 1, 0], [5, 1], [5, 2], [5, 3], [5, 4], [11, 7, 6], [11, 7], [11, 8], [11, 9], [11, 10], [24, 17, 16, 15, 14, 12], [24, 17, 16, 15, 14, 13], [24, 17, 16, 15, 14], [24, 17, 16, 15], [24, 17, 16], [24, 17], [24, 18], [24, 19], [24, 23, 20], [24, 23, 22, 21], [24, 23, 22], [24, 23], [31, 27, 26, 25], [31, 27, 26], [31, 27], [31, 28], [31, 29], [31, 30], [38, 34, 33, 32], [38, 34, 33], [38, 34], [38, 35], [38, 36], [38, 37], [54, 44, 43, 42, 41, 39], [54, 44, 43, 42, 41, 40], [54, 44, 43, 42, 41], [54, 44, 43, 42], [54, 44, 43], [54, 44], [54, 53, 52, 50], [54, 53, 52, 51], [54, 53, 52], [54, 53]] rfl (by kernel_rfl) ?_ .nil))
      · skip
        refine At.yes rfl rfl rfl rfl ?_
        refine At.buildSlice (xs := []) rfl rfl el25 sz71 ze71 (by simp) rfl (by decide) rfl (fun b18 w48 F18 => ?_)
        have q_hrA_b18 : some b18 ≠ Value.ownBlock vA := Own.neFresh hrA F18
        have q_hO9_b18 : some b18 ≠ Value.ownBlock va6 := Own.neFresh hO9 F18
        have q_hO15_b18 : some b18 ≠ Value.ownBlock va7 := Own.neFresh hO15 F18
        have q_hO18_b18 : some b18 ≠ Value.ownBlock va10 := Own.neFresh hO18 F18
        have n_b1_b18 : b1 ≠ b18 := Nat.ne_of_lt (F18.lt hb1)
        have n_b2_b18 : b2 ≠ b18 := Nat.ne_of_lt (F18.lt hb2)
        have n_b12_b18 : b12 ≠ b18 := Nat.ne_of_lt (F18.lt hb12)
        have gb18 := F18.ge hB
        replace hb1 := F18.old hb1
        replace hb2 := F18.old hb2
        replace hb12 := F18.old hb12
        replace hrC := hrC.fresh F18
        replace hrA := hrA.fresh F18
        replace hrF := hrF.fresh F18
        replace hO9 := hO9.fresh F18
        replace hO14 := hO14.fresh F18
        replace hO15 := hO15.fresh F18
        replace hO18 := hO18.fresh F18
        replace hxC := Xs.fresh hxC F18
        replace hxA := Xs.fresh hxA F18
        have hb18 : w48.heap[b18]? = some (.cells #[] 71) := F18.new
        replace hB := F18.below' hB
        have hO19 : OwnR 71 23 Am.cs w48 (.slice (some ⟨b18, 0, none⟩) 0 0) [] := OwnR.made hb18
        have ghO19 : ∀ g, Value.ownBlock (.slice (some ⟨b18, 0, none⟩) 0 0) = some g → w.heap.size ≤ g := fun g h => by cases h; exact gb18
        have qhO19_b1 : some b1 ≠ Value.ownBlock (.slice (some ⟨b18, 0, none⟩) 0 0) := fun e => n_b1_b18 (Option.some.inj e)
        have qhO19_b2 : some b2 ≠ Value.ownBlock (.slice (some ⟨b18, 0, none⟩) 0 0) := fun e => n_b2_b18 (Option.some.inj e)
        have qhO19_b12 : some b12 ≠ Value.ownBlock (.slice (some ⟨b18, 0, none⟩) 0 0) := fun e => n_b12_b18 (Option.some.inj e)
        have ap_hO19_hrA : Apart (.slice (some ⟨b18, 0, none⟩) 0 0) vA := fun g hg e => by cases hg; exact q_hrA_b18 e.symm
        have ap_hO19_hO9 : Apart (.slice (some ⟨b18, 0, none⟩) 0 0) va6 := fun g hg e => by cases hg; exact q_hO9_b18 e.symm
        have ap_hO19_hO15 : Apart (.slice (some ⟨b18, 0, none⟩) 0 0) va7 := fun g hg e => by cases hg; exact q_hO15_b18 e.symm
        have ap_hO19_hO18 : Apart (.slice (some ⟨b18, 0, none⟩) 0 0) va10 := fun g hg e => by cases hg; exact q_hO18_b18 e.symm
        clear hb18
        refine At.ops0 ?_
        refine At.wpcN (.cons rfl rfl rfl rfl (fun Lx => ?_) (.cons rfl rfl rfl rfl (fun Lx => ?_) (.cons rfl rfl rfl rfl (fun Lx => ?_) (.cons rfl rfl rfl rfl (fun Lx => ?_) (.cons rfl rfl rfl rfl (fun Lx => ?_) (.cons rfl rfl rfl rfl (fun Lx => ?_) (.cons rfl rfl rfl rfl (fun Lx => ?_) .nil))))))) ?_
        · skip
          refine At.yes rfl rfl rfl rfl ?_
          refine At.load rfl (Ld.own (C := #[.string (⟨#[68]⟩ : ByteArray), vC]) ag52 sz52 hb2) rfl ?_
          refine At.ops0 ?_
          exact fun a ha => ⟨ha, rfl⟩
        · skip
          refine At.yes rfl rfl rfl rfl ?_
          refine At.load rfl (Ld.own (C := #[.int .i64 11, .int .i64 0, .string (⟨#[65]⟩ : ByteArray), .string (⟨#[]⟩ : ByteArray), .int .i64 0, vF, (.slice none 0 0), .int .i64 0, .string (⟨#[]⟩ : ByteArray), .int .i64 0, (.slice none 0 0), (.slice none 0 0), .int .i64 0, (.slice none 0 0), .int .i64 0, .int .i64 0, .string (⟨#[]⟩ : ByteArray), .int .i64 0, (.slice none 0 0), (.slice none 0 0), .int .i64 0]) ag33 sz33 hb12) rfl ?_
          refine At.ops0 ?_
          exact fun a ha => ⟨ha, rfl⟩
        · skip
          refine At.yes rfl rfl rfl rfl ?_
          refine At.move rfl rfl ?_
          refine At.ops0 ?_
          exact fun a ha => ⟨ha, rfl⟩
        · skip
          refine At.yes rfl rfl rfl rfl ?_
          refine At.move rfl rfl ?_
          refine At.ops0 ?_
          exact fun a ha => ⟨ha, rfl⟩
        · skip
          refine At.yes rfl rfl rfl rfl ?_
          refine At.move rfl rfl ?_
          refine At.ops0 ?_
          exact fun a ha => ⟨ha, rfl⟩
        · skip
          refine At.yes rfl rfl rfl rfl ?_
          refine At.indexAddr (i := k') rfl rfl (Own.slOk hrA) (lt_of_some hu6) el25 sz71 rfl ?_
          refine At.ops0 ?_
          exact fun a ha => ⟨ha, rfl⟩
        · skip
          refine At.yes rfl rfl rfl rfl ?_
          refine At.load rfl (Ld.row ag71 (sz71.trans (congrArg some ((((Xs.ok hxA)) u6 (List.mem_of_getElem? hu6))).size.symm)) ((((OwnR.rows hrA (fun u hu => (((Xs.ok hxA)) u hu).size))).row hu6).keep (Below.refl _ _))) rfl ?_
          refine At.ops0 ?_
          exact fun a ha => ⟨ha, rfl⟩
        refine At.wpcL #[true, true, true, true, true, true, true, true, true, true, true, true, true, true, true, true, true, true, true, true, true, true, true, true, true, true, true, true, true, true, true, true, true, true, true, true, true, true, true, true, true, true, true, true, true, true, true, true, true, false, true, true, true, true, false, false, false, false, false, false] (by kernel_rfl) ?_
        refine At.wpcF [49, 54] (by kernel_rfl) (by kernel_rfl) (.cons [45, 46, 50, 51, 52, 53] [[5, 1, 0], [5, 1], [5, 2], [5, 3], [5, 4], [11, 7, 6], [11, 7], [11, 8], [11, 9], [11, 10], [24, 17, 16, 15, 14, 12], [24, 17, 16, 15, 14, 13], [24, 17, 16, 15, 14], [24, 17, 16, 15], [24, 17, 16], [24, 17], [24, 18], [24, 19], [24, 23, 20], [24, 23, 22, 21], [24, 23, 22], [24, 23], [31, 27, 26, 25], [31, 27, 26], [31, 27], [31, 28], [31, 29], [31, 30], [38, 34, 33, 32], [38, 34, 33], [38, 34], [38, 35], [38, 36], [38, 37], [47, 44, 43, 42, 41, 39], [47, 44, 43, 42, 41, 40], [47, 44, 43, 42, 41], [47, 44, 43, 42], [47, 44, 43], [47, 44], [49, 48]] rfl (by kernel_rfl) ?_ (.cons [45, 46, 48] [[5, 1, 0], [5, 1], [5, 2], [5, 3], [5, 4], [11, 7, 6], [11, 7], [11, 8], [11, 9], [11, 10], [24, 17, 16, 15, 14, 12], [24, 17, 16, 15, 14, 13], [24, 17, 16, 15, 14], [24, 17, 16, 15], [24, 17, 16], [24, 17], [24, 18], [24, 19], [24, 23, 20], [24, 23, 22, 21], [24, 23, 22], [24, 23], [31, 27, 26, 25], [31, 27, 26], [31, 27], [31, 28], [31, 29], [31, 30], [38, 34, 33, 32], [38, 34, 33], [38, 34], [38, 35], [38, 36], [38, 37], [47, 44, 43, 42, 41, 39], [47, 44, 43, 42, 41, 40], [47, 44, 43, 42, 41], [47, 44, 43, 42], [47, 44, 43], [47, 44], [54, 53, 52, 50], [54, 53, 52, 51], [54, 53, 52], [54, 53]] rfl (by kernel_rfl) ?_ .nil))
        · skip
          refine At.yes rfl rfl rfl rfl ?_
          refine At.appendR (f := Am.cs) rfl rfl el25 el25 sz71 by71 ze71 rfl hO19 (OwnR.rows hrA (fun u hu => (((Xs.ok hxA)) u hu).size)) (by decide) (fun u hu => (((Xs.ok hxA)) u hu).one) (by first | (simp only [List.length_cons, List.length_nil]; omega) | (rw [hTl]; simp only [List.length_replicate, List.length_cons, List.length_nil]; omega) | (rw [hGl]; simp only [List.length_replicate, List.length_cons, List.length_nil]; have := cnt_range l 0; split <;> omega) | (have := hCn.1; simp only [List.length_cons, List.length_nil]; omega) | (have := hAr.1; simp only [List.length_cons, List.length_nil]; omega)) (by first | (simp only [List.length_cons, List.length_nil]; omega) | (rw [hTl]; simp only [List.length_replicate, List.length_cons, List.length_nil]; omega) | (rw [hGl]; simp only [List.length_replicate, List.length_cons, List.length_nil]; have := cnt_range l 0; split <;> omega) | (have := hCn.1; simp only [List.length_cons, List.length_nil]; omega) | (have := hAr.1; simp only [List.length_cons, List.length_nil]; omega)) rfl (fun va11 w49 hO20 hA15 => ?_)
          replace hO20 : OwnR 71 23 Am.cs w49 va11 lA := hO20
          replace hb1 := hA15.old hb1 (hO19.neT hb1 rfl)
          replace hb2 := hA15.old hb2 (hO19.neT hb2 rfl)
          replace hb12 := hA15.old hb12 (hO19.neT hb12 rfl)
          replace hrC := OwnR.keepT hA15 hO19 hrC rfl
          have ap_hO20_hrA := Apart.appR (ap_hO19_hrA) hA15 hrA
          replace hrA := AppR.apartR hA15 hrA (Apart.symm ap_hO19_hrA)
          replace hrF := OwnR.keepT hA15 hO19 hrF rfl
          have ap_hO20_hO9 := Apart.appR (ap_hO19_hO9) hA15 hO9
          replace hO9 := AppR.apartR hA15 hO9 (Apart.symm ap_hO19_hO9)
          replace hO14 := OwnS.keepT hA15 hO19 hO14 rfl
          have ap_hO20_hO15 := Apart.appR (ap_hO19_hO15) hA15 hO15
          replace hO15 := AppR.apartR hA15 hO15 (Apart.symm ap_hO19_hO15)
          have ap_hO20_hO18 := Apart.appR (ap_hO19_hO18) hA15 hO18
          replace hO18 := AppR.apartR hA15 hO18 (Apart.symm ap_hO19_hO18)
          replace hxC := Xs.app hxC hA15 (.inr (show some b18 ∈ _ by simp))
          replace hxA := Xs.app hxA hA15 (.inr (show some b18 ∈ _ by simp))
          have ghO20 := hA15.ge hB.size ghO19
          replace hB := hA15.below hB hB.size ghO19
          refine At.ops0 ?_
          refine At.wpcN (.cons rfl rfl rfl rfl (fun Lx => ?_) (.cons rfl rfl rfl rfl (fun Lx => ?_) (.cons rfl rfl rfl rfl (fun Lx => ?_) (.cons rfl rfl rfl rfl (fun Lx => ?_) (.cons rfl rfl rfl rfl (fun Lx => ?_) (.cons rfl rfl rfl rfl (fun Lx => ?_) .nil)))))) ?_
          · skip
            refine At.yes rfl rfl rfl rfl ?_
            refine At.load rfl (Ld.own (C := #[.string (⟨#[68]⟩ : ByteArray), vC]) ag52 sz52 hb2) rfl ?_
            refine At.ops0 ?_
            exact fun a ha => ⟨ha, rfl⟩
          · skip
            refine At.yes rfl rfl rfl rfl ?_
            refine At.load rfl (Ld.own (C := #[.int .i64 11, .int .i64 0, .string (⟨#[65]⟩ : ByteArray), .string (⟨#[]⟩ : ByteArray), .int .i64 0, vF, (.slice none 0 0), .int .i64 0, .string (⟨#[]⟩ : ByteArray), .int .i64 0, (.slice none 0 0), (.slice none 0 0), .int .i64 0, (.slice none 0 0), .int .i64 0, .int .i64 0, .string (⟨#[]⟩ : ByteArray), .int .i64 0, (.slice none 0 0), (.slice none 0 0), .int .i64 0]) ag33 sz33 hb12) rfl ?_
            refine At.ops0 ?_
            exact fun a ha => ⟨ha, rfl⟩
          · skip
            refine At.yes rfl rfl rfl rfl ?_
            refine At.move rfl rfl ?_
            refine At.ops0 ?_
            exact fun a ha => ⟨ha, rfl⟩
          · skip
            refine At.yes rfl rfl rfl rfl ?_
            refine At.move rfl rfl ?_
            refine At.ops0 ?_
            exact fun a ha => ⟨ha, rfl⟩
          · skip
            refine At.yes rfl rfl rfl rfl ?_
            refine At.indexAddr (i := k') rfl rfl (Own.slOk hrA) (lt_of_some hu6) el25 sz71 rfl ?_
            refine At.ops0 ?_
            exact fun a ha => ⟨ha, rfl⟩
          · skip
            refine At.yes rfl rfl rfl rfl ?_
            refine At.load rfl (Ld.row ag71 (sz71.trans (congrArg some ((((Xs.ok hxA)) u6 (List.mem_of_getElem? hu6))).size.symm)) ((((OwnR.rows hrA (fun u hu => (((Xs.ok hxA)) u hu).size))).row hu6).keep (Below.refl _ _))) rfl ?_
            refine At.ops0 ?_
            exact fun a ha => ⟨ha, rfl⟩
          refine At.wpcL #[true, true, true, true, true, true, true, true, true, true, true, true, true, true, true, true, true, true, true, true, true, true, true, true, true, true, true, true, true, true, true, true, true, true, true, true, true, true, true, true, true, true, true, true, true, true, true, true, true, true, true, true, true, true, false, false, false, false, false, false] (by kernel_rfl) ?_
          refine At.wpcF [54] (by kernel_rfl) (by kernel_rfl) (.cons [45, 46] [[5, 1, 0], [5, 1], [5, 2], [5, 3], [5, 4], [11, 7, 6], [11, 7], [11, 8], [11, 9], [11, 10], [24, 17, 16, 15, 14, 12], [24, 17, 16, 15, 14, 13], [24, 17, 16, 15, 14], [24, 17, 16, 15], [24, 17, 16], [24, 17], [24, 18], [24, 19], [24, 23, 20], [24, 23, 22, 21], [24, 23, 22], [24, 23], [31, 27, 26, 25], [31, 27, 26], [31, 27], [31, 28], [31, 29], [31, 30], [38, 34, 33, 32], [38, 34, 33], [38, 34], [38, 35], [38, 36], [38, 37], [47, 44, 43, 42, 41, 39], [47, 44, 43, 42, 41, 40], [47, 44, 43, 42, 41], [47, 44, 43, 42], [47, 44, 43], [47, 44], [49, 48], [54, 53, 52, 50], [54, 53, 52, 51], [54, 53, 52], [54, 53]] rfl (by kernel_rfl) ?_ .nil)
          refine At.yes rfl rfl rfl rfl ?_
          refine At.buildSlice (xs := [.tmp 192]) rfl rfl el25 sz71 ze71 (by intro v hv; simp only [List.mem_cons, List.not_mem_nil, or_false] at hv; rcases hv with rfl <;> first | rfl | simp [Value.cells, ((((Xs.ok hxA)) u6 (List.mem_of_getElem? hu6))).size]) rfl (by decide) rfl (fun b19 w50 F19 => ?_)
          have q_hrA_b19 : some b19 ≠ Value.ownBlock vA := Own.neFresh hrA F19
          have q_hO9_b19 : some b19 ≠ Value.ownBlock va6 := Own.neFresh hO9 F19
          have q_hO15_b19 : some b19 ≠ Value.ownBlock va7 := Own.neFresh hO15 F19
          have q_hO18_b19 : some b19 ≠ Value.ownBlock va10 := Own.neFresh hO18 F19
          have q_hO20_b19 : some b19 ≠ Value.ownBlock va11 := Own.neFresh hO20 F19
          have n_b1_b19 : b1 ≠ b19 := Nat.ne_of_lt (F19.lt hb1)
          have n_b2_b19 : b2 ≠ b19 := Nat.ne_of_lt (F19.lt hb2)
          have n_b12_b19 : b12 ≠ b19 := Nat.ne_of_lt (F19.lt hb12)
          have gb19 := F19.ge hB
          replace hb1 := F19.old hb1
          replace hb2 := F19.old hb2
          replace hb12 := F19.old hb12
          replace hrC := hrC.fresh F19
          replace hrA := hrA.fresh F19
          replace hrF := hrF.fresh F19
          replace hO9 := hO9.fresh F19
          replace hO14 := hO14.fresh F19
          replace hO15 := hO15.fresh F19
          replace hO18 := hO18.fresh F19
          replace hO20 := hO20.fresh F19
          replace hxC := Xs.fresh hxC F19
          replace hxA := Xs.fresh hxA F19
          have hb19 : w50.heap[b19]? = some (.cells (([u6].map Am.cs).flatMap (·.toList)).toArray 71) := F19.new
          replace hB := F19.below' hB
          refine At.ops0 ?_
          refine At.wpcN (.cons rfl rfl rfl rfl (fun Lx => ?_) (.cons rfl rfl rfl rfl (fun Lx => ?_) .nil)) ?_
          · skip
            refine At.yes rfl rfl rfl rfl ?_
            refine At.load rfl (Ld.own (C := #[.string (⟨#[68]⟩ : ByteArray), vC]) ag52 sz52 hb2) rfl ?_
            refine At.ops0 ?_
            exact fun a ha => ⟨ha, rfl⟩
          · skip
            refine At.yes rfl rfl rfl rfl ?_
            refine At.load rfl (Ld.own (C := #[.int .i64 11, .int .i64 0, .string (⟨#[65]⟩ : ByteArray), .string (⟨#[]⟩ : ByteArray), .int .i64 0, vF, (.slice none 0 0), .int .i64 0, .string (⟨#[]⟩ : ByteArray), .int .i64 0, (.slice none 0 0), (.slice none 0 0), .int .i64 0, (.slice none 0 0), .int .i64 0, .int .i64 0, .string (⟨#[]⟩ : ByteArray), .int .i64 0, (.slice none 0 0), (.slice none 0 0), .int .i64 0]) ag33 sz33 hb12) rfl ?_
            refine At.ops0 ?_
            exact fun a ha => ⟨ha, rfl⟩
          refine At.wpcL #[true, true, true, true, true, true, true, true, true, true, true, true, true, true, true, true, true, true, true, true, true, true, true, true, true, true, true, true, true, true, true, true, true, true, true, true, true, true, true, true, true, true, true, true, true, true, true, true, true, true, true, true, true, true, true, false, false, false, false, false] (by kernel_rfl) ?_
          refine At.wpcF [55] (by kernel_rfl) (by kernel_rfl) (.cons [45, 46] [[5, 1, 0], [5, 1], [5, 2], [5, 3], [5, 4], [11, 7, 6], [11, 7], [11, 8], [11, 9], [11, 10], [24, 17, 16, 15, 14, 12], [24, 17, 16, 15, 14, 13], [24, 17, 16, 15, 14], [24, 17, 16, 15], [24, 17, 16], [24, 17], [24, 18], [24, 19], [24, 23, 20], [24, 23, 22, 21], [24, 23, 22], [24, 23], [31, 27, 26, 25], [31, 27, 26], [31, 27], [31, 28], [31, 29], [31, 30], [38, 34, 33, 32], [38, 34, 33], [38, 34], [38, 35], [38, 36], [38, 37], [47, 44, 43, 42, 41, 39], [47, 44, 43, 42, 41, 40], [47, 44, 43, 42, 41], [47, 44, 43, 42], [47, 44, 43], [47, 44], [49, 48], [54, 53, 52, 50], [54, 53, 52, 51], [54, 53, 52], [54, 53]] rfl (by kernel_rfl) ?_ .nil)
          refine At.yes rfl rfl rfl rfl ?_
          refine At.appendR (f := Am.cs) rfl rfl el25 el25 sz71 by71 ze71 rfl hO20 (rows_own (f := Am.cs) (m := 1) hb19 (fun u hu => ((mem1 (Q := fun u => AmOk w50 u) (((((Xs.ok hxA)) u6 (List.mem_of_getElem? hu6))).keep (Below.refl _ _))) u hu).size) rfl (by decide)) (by decide) (fun u hu => (((mem1 (Q := fun u => AmOk w50 u) (((((Xs.ok hxA)) u6 (List.mem_of_getElem? hu6))).keep (Below.refl _ _)))) u hu).one) (by first | (simp only [List.length_cons, List.length_nil]; omega) | (rw [hTl]; simp only [List.length_replicate, List.length_cons, List.length_nil]; omega) | (rw [hGl]; simp only [List.length_replicate, List.length_cons, List.length_nil]; have := cnt_range l 0; split <;> omega) | (have := hCn.1; simp only [List.length_cons, List.length_nil]; omega) | (have := hAr.1; simp only [List.length_cons, List.length_nil]; omega)) (by first | (simp only [List.length_cons, List.length_nil]; omega) | (rw [hTl]; simp only [List.length_replicate, List.length_cons, List.length_nil]; omega) | (rw [hGl]; simp only [List.length_replicate, List.length_cons, List.length_nil]; have := cnt_range l 0; split <;> omega) | (have := hCn.1; simp only [List.length_cons, List.length_nil]; omega) | (have := hAr.1; simp only [List.length_cons, List.length_nil]; omega)) rfl (fun va12 w51 hO21 hA16 => ?_)
          replace hO21 : OwnR 71 23 Am.cs w51 va12 (lA ++ [u6]) := hO21
          replace hb1 := hA16.old hb1 (hO20.neT hb1 rfl)
          replace hb2 := hA16.old hb2 (hO20.neT hb2 rfl)
          replace hb12 := hA16.old hb12 (hO20.neT hb12 rfl)
          clear hb19
          replace hrC := OwnR.keepT hA16 hO20 hrC rfl
          have ap_hO21_hrA := Apart.appR (ap_hO20_hrA) hA16 hrA
          replace hrA := AppR.apartR hA16 hrA (Apart.symm ap_hO20_hrA)
          replace hrF := OwnR.keepT hA16 hO20 hrF rfl
          have ap_hO21_hO9 := Apart.appR (ap_hO20_hO9) hA16 hO9
          replace hO9 := AppR.apartR hA16 hO9 (Apart.symm ap_hO20_hO9)
          replace hO14 := OwnS.keepT hA16 hO20 hO14 rfl
          have ap_hO21_hO15 := Apart.appR (ap_hO20_hO15) hA16 hO15
          replace hO15 := AppR.apartR hA16 hO15 (Apart.symm ap_hO20_hO15)
          have ap_hO21_hO18 := Apart.appR (ap_hO20_hO18) hA16 hO18
          replace hO18 := AppR.apartR hA16 hO18 (Apart.symm ap_hO20_hO18)
          replace hxC := Xs.app hxC hA16 (.inr (by simp))
          replace hxA := Xs.app hxA hA16 (.inr (by simp))
          have ghO21 := hA16.ge hB.size ghO20
          replace hB := hA16.below hB hB.size ghO20
          refine At.ops0 ?_
          refine At.wpcN (.cons rfl rfl rfl rfl (fun Lx => ?_) (.cons rfl rfl rfl rfl (fun Lx => ?_) .nil)) ?_
          · skip
            refine At.yes rfl rfl rfl rfl ?_
            refine At.load rfl (Ld.own (C := #[.string (⟨#[68]⟩ : ByteArray), vC]) ag52 sz52 hb2) rfl ?_
            refine At.ops0 ?_
            exact fun a ha => ⟨ha, rfl⟩
          · skip
            refine At.yes rfl rfl rfl rfl ?_
            refine At.load rfl (Ld.own (C := #[.int .i64 11, .int .i64 0, .string (⟨#[65]⟩ : ByteArray), .string (⟨#[]⟩ : ByteArray), .int .i64 0, vF, (.slice none 0 0), .int .i64 0, .string (⟨#[]⟩ : ByteArray), .int .i64 0, (.slice none 0 0), (.slice none 0 0), .int .i64 0, (.slice none 0 0), .int .i64 0, .int .i64 0, .string (⟨#[]⟩ : ByteArray), .int .i64 0, (.slice none 0 0), (.slice none 0 0), .int .i64 0]) ag33 sz33 hb12) rfl ?_
            refine At.ops0 ?_
            exact fun a ha => ⟨ha, rfl⟩
          refine At.wpcL #[true, true, true, true, true, true, true, true, true, true, true, true, true, true, true, true, true, true, true, true, true, true, true, true, true, true, true, true, true, true, true, true, true, true, true, true, true, true, true, true, true, true, true, true, true, true, true, true, true, true, true, true, true, true, true, true, false, false, false, false] (by kernel_rfl) ?_
          refine At.wpcF [56] (by kernel_rfl) (by kernel_rfl) (.cons [] [[5, 1, 0], [5, 1], [5, 2], [5, 3], [5, 4], [11, 7, 6], [11, 7], [11, 8], [11, 9], [11, 10], [24, 17, 16, 15, 14, 12], [24, 17, 16, 15, 14, 13], [24, 17, 16, 15, 14], [24, 17, 16, 15], [24, 17, 16], [24, 17], [24, 18], [24, 19], [24, 23, 20], [24, 23, 22, 21], [24, 23, 22], [24, 23], [31, 27, 26, 25], [31, 27, 26], [31, 27], [31, 28], [31, 29], [31, 30], [38, 34, 33, 32], [38, 34, 33], [38, 34], [38, 35], [38, 36], [38, 37], [47, 44, 43, 42, 41, 39], [47, 44, 43, 42, 41, 40], [47, 44, 43, 42, 41], [47, 44, 43, 42], [47, 44, 43], [47, 44], [56, 45], [56, 46], [49, 48], [54, 53, 52, 50], [54, 53, 52, 51], [54, 53, 52], [54, 53]] rfl (by kernel_rfl) ?_ .nil)
          refine At.yes rfl rfl rfl rfl ?_
          refine At.call en25 rfl rfl (right_any (ownDat (⟨#[68]⟩ : ByteArray) vC lC) (ownTm 11 0 (⟨#[65]⟩ : ByteArray) (⟨#[]⟩ : ByteArray) 0 vF lF) va12 (lA ++ [u6]) _ (((ownDat_ok (OwnR.rows hrC (fun u hu => (((Xs.ok hxC)) u hu).size)) ((Xs.ok hxC)))).keep (Below.refl _ _)) (((ownTm_rows 11 0 (⟨#[65]⟩ : ByteArray) (⟨#[]⟩ : ByteArray) 0 (OwnR.rows hrF (fun u hu => (((ints_ok (w := w51) hFl)) u hu).size)) ((ints_ok (w := w51) hFl)))).keep (Below.refl _ _)) (OwnR.rows hO21 (fun u hu => (((all_app (Q := fun u => AmOk w51 u) (Xs.ok hxA) (mem1 (Q := fun u => AmOk w51 u) (((((Xs.ok hxA)) u6 (List.mem_of_getElem? hu6))).keep (Below.refl _ _))))) u hu).size)) ((all_app (Q := fun u => AmOk w51 u) (Xs.ok hxA) (mem1 (Q := fun u => AmOk w51 u) (((((Xs.ok hxA)) u6 (List.mem_of_getElem? hu6))).keep (Below.refl _ _))))) (hmd.sz _ _) (hmd.wt (all_app hgA (mem1 (hgA _ (List.mem_of_getElem? hu6)))) (by first | omega | (simp only [List.length_append, List.length_set, List.length_take, List.length_cons, List.length_nil]; omega)))) (fun e w52 hR => ?_)
          obtain ⟨rfl, hbl7⟩ := hR
          refine ⟨_, rfl, ?_⟩
          replace hb1 := Below.old hbl7 hb1
          replace hb2 := Below.old hbl7 hb2
          replace hb12 := Below.old hbl7 hb12
          replace hrC := hrC.below hbl7
          replace hrA := hrA.below hbl7
          replace hrF := hrF.below hbl7
          replace hO9 := hO9.below hbl7
          replace hO14 := hO14.below hbl7
          replace hO15 := hO15.below hbl7
          replace hO18 := hO18.below hbl7
          replace hO21 := hO21.below hbl7
          replace hxC := Xs.below hxC hbl7
          replace hxA := Xs.below hxA hbl7
          replace hB := Below.andThen hB hbl7
          refine At.ops0 ?_
          refine At.wpcN .nil ?_
          refine At.wpcL #[true, true, true, true, true, true, true, true, true, true, true, true, true, true, true, true, true, true, true, true, true, true, true, true, true, true, true, true, true, true, true, true, true, true, true, true, true, true, true, true, true, true, true, true, true, true, true, true, true, true, true, true, true, true, true, true, true, false, false, false] (by kernel_rfl) ?_
          refine At.wpcS (i := 57) (d := 196) (.bool (!(rightB (ownDat (⟨#[68]⟩ : ByteArray) vC lC) (ownTm 11 0 (⟨#[65]⟩ : ByteArray) (⟨#[]⟩ : ByteArray) 0 vF lF) (lA ++ [u6])))) (by kernel_rfl) rfl rfl rfl (fun Lx => ?_) ?_
          · skip
            refine At.yes rfl rfl rfl rfl ?_
            refine At.not rfl rfl ?_
            refine At.ops0 ?_
            exact fun a ha => ⟨ha, rfl⟩
          refine At.wpcL #[true, true, true, true, true, true, true, true, true, true, true, true, true, true, true, true, true, true, true, true, true, true, true, true, true, true, true, true, true, true, true, true, true, true, true, true, true, true, true, true, true, true, true, true, true, true, true, true, true, true, true, true, true, true, true, true, true, true, false, false] (by kernel_rfl) ?_
          refine At.wpcS (i := 58) (d := 197) (.bool (!(rightB (ownDat (⟨#[68]⟩ : ByteArray) vC lC) (ownTm 11 0 (⟨#[65]⟩ : ByteArray) (⟨#[]⟩ : ByteArray) 0 vF lF) (lA ++ [u6])))) (by kernel_rfl) rfl rfl rfl (fun Lx => ?_) ?_
          · skip
            refine At.pickT rfl rfl rfl ?_
            refine At.ops0 ?_
            exact fun a ha => ⟨ha, rfl⟩
          refine At.wpcL #[true, true, true, true, true, true, true, true, true, true, true, true, true, true, true, true, true, true, true, true, true, true, true, true, true, true, true, true, true, true, true, true, true, true, true, true, true, true, true, true, true, true, true, true, true, true, true, true, true, true, true, true, true, true, true, true, true, true, true, false] (by kernel_rfl) ?_
          refine At.wpcF [59] (by kernel_rfl) (by kernel_rfl) (.cons [] [[59, 0], [5, 1], [5, 2], [5, 3], [5, 4], [59, 6], [11, 7], [11, 8], [11, 9], [11, 10], [59, 12], [59, 13], [59, 14], [59, 15], [59, 16], [24, 17], [24, 18], [24, 19], [59, 20], [59, 21], [59, 22], [24, 23], [59, 25], [59, 26], [31, 27], [31, 28], [31, 29], [31, 30], [59, 32], [59, 33], [38, 34], [38, 35], [38, 36], [38, 37], [59, 39], [59, 40], [59, 41], [59, 42], [59, 43], [47, 44], [56, 45], [56, 46], [49, 48], [59, 50], [59, 51], [59, 52], [54, 53], [59, 57], [59, 58]] rfl (by kernel_rfl) ?_ .nil)
          refine At.assign rfl rfl ?_
          refine At.ops0 ?_
          refine At.wpcN .nil ?_
          refine At.wpcZ ?_
          refine At.thenN ?_
          refine At.retc ?_
          refine At.doneR (ResV.tmp rfl ResV.nil) ?_
          exact ⟨congrArg Ending.returned (congrArg Value.bool (hmd.over hAr hu6)), hB⟩
        · skip
          refine At.yes rfl rfl rfl rfl ?_
          refine At.buildSlice (xs := [.tmp 192]) rfl rfl el25 sz71 ze71 (by intro v hv; simp only [List.mem_cons, List.not_mem_nil, or_false] at hv; rcases hv with rfl <;> first | rfl | simp [Value.cells, ((((Xs.ok hxA)) u6 (List.mem_of_getElem? hu6))).size]) rfl (by decide) rfl (fun b20 w53 F20 => ?_)
          have q_hrA_b20 : some b20 ≠ Value.ownBlock vA := Own.neFresh hrA F20
          have q_hO9_b20 : some b20 ≠ Value.ownBlock va6 := Own.neFresh hO9 F20
          have q_hO15_b20 : some b20 ≠ Value.ownBlock va7 := Own.neFresh hO15 F20
          have q_hO18_b20 : some b20 ≠ Value.ownBlock va10 := Own.neFresh hO18 F20
          have q_hO19_b20 : some b20 ≠ Value.ownBlock (.slice (some ⟨b18, 0, none⟩) 0 0) := Own.neFresh hO19 F20
          have n_b1_b20 : b1 ≠ b20 := Nat.ne_of_lt (F20.lt hb1)
          have n_b2_b20 : b2 ≠ b20 := Nat.ne_of_lt (F20.lt hb2)
          have n_b12_b20 : b12 ≠ b20 := Nat.ne_of_lt (F20.lt hb12)
          have gb20 := F20.ge hB
          replace hb1 := F20.old hb1
          replace hb2 := F20.old hb2
          replace hb12 := F20.old hb12
          replace hrC := hrC.fresh F20
          replace hrA := hrA.fresh F20
          replace hrF := hrF.fresh F20
          replace hO9 := hO9.fresh F20
          replace hO14 := hO14.fresh F20
          replace hO15 := hO15.fresh F20
          replace hO18 := hO18.fresh F20
          replace hO19 := hO19.fresh F20
          replace hxC := Xs.fresh hxC F20
          replace hxA := Xs.fresh hxA F20
          have hb20 : w53.heap[b20]? = some (.cells (([u6].map Am.cs).flatMap (·.toList)).toArray 71) := F20.new
          replace hB := F20.below' hB
          refine At.ops0 ?_
          refine At.wpcN (.cons rfl rfl rfl rfl (fun Lx => ?_) (.cons rfl rfl rfl rfl (fun Lx => ?_) (.cons rfl rfl rfl rfl (fun Lx => ?_) .nil))) ?_
          · skip
            refine At.yes rfl rfl rfl rfl ?_
            refine At.load rfl (Ld.own (C := #[.string (⟨#[68]⟩ : ByteArray), vC]) ag52 sz52 hb2) rfl ?_
            refine At.ops0 ?_
            exact fun a ha => ⟨ha, rfl⟩
          · skip
            refine At.yes rfl rfl rfl rfl ?_
            refine At.load rfl (Ld.own (C := #[.int .i64 11, .int .i64 0, .string (⟨#[65]⟩ : ByteArray), .string (⟨#[]⟩ : ByteArray), .int .i64 0, vF, (.slice none 0 0), .int .i64 0, .string (⟨#[]⟩ : ByteArray), .int .i64 0, (.slice none 0 0), (.slice none 0 0), .int .i64 0, (.slice none 0 0), .int .i64 0, .int .i64 0, .string (⟨#[]⟩ : ByteArray), .int .i64 0, (.slice none 0 0), (.slice none 0 0), .int .i64 0]) ag33 sz33 hb12) rfl ?_
            refine At.ops0 ?_
            exact fun a ha => ⟨ha, rfl⟩
          · skip
            refine At.yes rfl rfl rfl rfl ?_
            refine At.move rfl rfl ?_
            refine At.ops0 ?_
            exact fun a ha => ⟨ha, rfl⟩
          refine At.wpcL #[true, true, true, true, true, true, true, true, true, true, true, true, true, true, true, true, true, true, true, true, true, true, true, true, true, true, true, true, true, true, true, true, true, true, true, true, true, true, true, true, true, true, true, true, true, true, true, true, true, false, true, true, true, true, true, false, false, false, false, false] (by kernel_rfl) ?_
          refine At.wpcF [49] (by kernel_rfl) (by kernel_rfl) (.cons [45, 46] [[5, 1, 0], [5, 1], [5, 2], [5, 3], [5, 4], [11, 7, 6], [11, 7], [11, 8], [11, 9], [11, 10], [24, 17, 16, 15, 14, 12], [24, 17, 16, 15, 14, 13], [24, 17, 16, 15, 14], [24, 17, 16, 15], [24, 17, 16], [24, 17], [24, 18], [24, 19], [24, 23, 20], [24, 23, 22, 21], [24, 23, 22], [24, 23], [31, 27, 26, 25], [31, 27, 26], [31, 27], [31, 28], [31, 29], [31, 30], [38, 34, 33, 32], [38, 34, 33], [38, 34], [38, 35], [38, 36], [38, 37], [47, 44, 43, 42, 41, 39], [47, 44, 43, 42, 41, 40], [47, 44, 43, 42, 41], [47, 44, 43, 42], [47, 44, 43], [47, 44], [49, 48], [54, 53, 52, 50], [54, 53, 52, 51], [54, 53, 52], [54, 53]] rfl (by kernel_rfl) ?_ .nil)
          refine At.yes rfl rfl rfl rfl ?_
          refine At.appendR (f := Am.cs) rfl rfl el25 el25 sz71 by71 ze71 rfl hO19 (OwnR.rows hrA (fun u hu => (((Xs.ok hxA)) u hu).size)) (by decide) (fun u hu => (((Xs.ok hxA)) u hu).one) (by first | (simp only [List.length_cons, List.length_nil]; omega) | (rw [hTl]; simp only [List.length_replicate, List.length_cons, List.length_nil]; omega) | (rw [hGl]; simp only [List.length_replicate, List.length_cons, List.length_nil]; have := cnt_range l 0; split <;> omega) | (have := hCn.1; simp only [List.length_cons, List.length_nil]; omega) | (have := hAr.1; simp only [List.length_cons, List.length_nil]; omega)) (by first | (simp only [List.length_cons, List.length_nil]; omega) | (rw [hTl]; simp only [List.length_replicate, List.length_cons, List.length_nil]; omega) | (rw [hGl]; simp only [List.length_replicate, List.length_cons, List.length_nil]; have := cnt_range l 0; split <;> omega) | (have := hCn.1; simp only [List.length_cons, List.length_nil]; omega) | (have := hAr.1; simp only [List.length_cons, List.length_nil]; omega)) rfl (fun va13 w54 hO22 hA17 => ?_)
          replace hO22 : OwnR 71 23 Am.cs w54 va13 lA := hO22
          replace hb1 := hA17.old hb1 (hO19.neT hb1 rfl)
          replace hb2 := hA17.old hb2 (hO19.neT hb2 rfl)
          replace hb12 := hA17.old hb12 (hO19.neT hb12 rfl)
          have q_hO22_b20 : some b20 ≠ Value.ownBlock va13 := Moved.ne hA17.blk (Array.getElem?_eq_some_iff.1 hb20).1 q_hO19_b20
          replace hb20 := hA17.old hb20 q_hO19_b20
          replace hrC := OwnR.keepT hA17 hO19 hrC rfl
          have ap_hO22_hrA := Apart.appR (ap_hO19_hrA) hA17 hrA
          replace hrA := AppR.apartR hA17 hrA (Apart.symm ap_hO19_hrA)
          replace hrF := OwnR.keepT hA17 hO19 hrF rfl
          have ap_hO22_hO9 := Apart.appR (ap_hO19_hO9) hA17 hO9
          replace hO9 := AppR.apartR hA17 hO9 (Apart.symm ap_hO19_hO9)
          replace hO14 := OwnS.keepT hA17 hO19 hO14 rfl
          have ap_hO22_hO15 := Apart.appR (ap_hO19_hO15) hA17 hO15
          replace hO15 := AppR.apartR hA17 hO15 (Apart.symm ap_hO19_hO15)
          have ap_hO22_hO18 := Apart.appR (ap_hO19_hO18) hA17 hO18
          replace hO18 := AppR.apartR hA17 hO18 (Apart.symm ap_hO19_hO18)
          replace hxC := Xs.app hxC hA17 (.inr (show some b18 ∈ _ by simp))
          replace hxA := Xs.app hxA hA17 (.inr (show some b18 ∈ _ by simp))
          have ghO22 := hA17.ge hB.size ghO19
          replace hB := hA17.below hB hB.size ghO19
          refine At.ops0 ?_
          refine At.wpcN (.cons rfl rfl rfl rfl (fun Lx => ?_) (.cons rfl rfl rfl rfl (fun Lx => ?_) .nil)) ?_
          · skip
            refine At.yes rfl rfl rfl rfl ?_
            refine At.load rfl (Ld.own (C := #[.string (⟨#[68]⟩ : ByteArray), vC]) ag52 sz52 hb2) rfl ?_
            refine At.ops0 ?_
            exact fun a ha => ⟨ha, rfl⟩
          · skip
            refine At.yes rfl rfl rfl rfl ?_
            refine At.load rfl (Ld.own (C := #[.int .i64 11, .int .i64 0, .string (⟨#[65]⟩ : ByteArray), .string (⟨#[]⟩ : ByteArray), .int .i64 0, vF, (.slice none 0 0), .int .i64 0, .string (⟨#[]⟩ : ByteArray), .int .i64 0, (.slice none 0 0), (.slice none 0 0), .int .i64 0, (.slice none 0 0), .int .i64 0, .int .i64 0, .string (⟨#[]⟩ : ByteArray), .int .i64 0, (.slice none 0 0), (.slice none 0 0), .int .i64 0]) ag33 sz33 hb12) rfl ?_
            refine At.ops0 ?_
            exact fun a ha => ⟨ha, rfl⟩
          refine At.wpcL #[true, true, true, true, true, true, true, true, true, true, true, true, true, true, true, true, true, true, true, true, true, true, true, true, true, true, true, true, true, true, true, true, true, true, true, true, true, true, true, true, true, true, true, true, true, true, true, true, true, true, true, true, true, true, true, false, false, false, false, false] (by kernel_rfl) ?_
          refine At.wpcF [55] (by kernel_rfl) (by kernel_rfl) (.cons [45, 46] [[5, 1, 0], [5, 1], [5, 2], [5, 3], [5, 4], [11, 7, 6], [11, 7], [11, 8], [11, 9], [11, 10], [24, 17, 16, 15, 14, 12], [24, 17, 16, 15, 14, 13], [24, 17, 16, 15, 14], [24, 17, 16, 15], [24, 17, 16], [24, 17], [24, 18], [24, 19], [24, 23, 20], [24, 23, 22, 21], [24, 23, 22], [24, 23], [31, 27, 26, 25], [31, 27, 26], [31, 27], [31, 28], [31, 29], [31, 30], [38, 34, 33, 32], [38, 34, 33], [38, 34], [38, 35], [38, 36], [38, 37], [47, 44, 43, 42, 41, 39], [47, 44, 43, 42, 41, 40], [47, 44, 43, 42, 41], [47, 44, 43, 42], [47, 44, 43], [47, 44], [49, 48], [54, 53, 52, 50], [54, 53, 52, 51], [54, 53, 52], [54, 53]] rfl (by kernel_rfl) ?_ .nil)
          refine At.yes rfl rfl rfl rfl ?_
          refine At.appendR (f := Am.cs) rfl rfl el25 el25 sz71 by71 ze71 rfl hO22 (rows_own (f := Am.cs) (m := 1) hb20 (fun u hu => ((mem1 (Q := fun u => AmOk w54 u) (((((Xs.ok hxA)) u6 (List.mem_of_getElem? hu6))).keep (Below.refl _ _))) u hu).size) rfl (by decide)) (by decide) (fun u hu => (((mem1 (Q := fun u => AmOk w54 u) (((((Xs.ok hxA)) u6 (List.mem_of_getElem? hu6))).keep (Below.refl _ _)))) u hu).one) (by first | (simp only [List.length_cons, List.length_nil]; omega) | (rw [hTl]; simp only [List.length_replicate, List.length_cons, List.length_nil]; omega) | (rw [hGl]; simp only [List.length_replicate, List.length_cons, List.length_nil]; have := cnt_range l 0; split <;> omega) | (have := hCn.1; simp only [List.length_cons, List.length_nil]; omega) | (have := hAr.1; simp only [List.length_cons, List.length_nil]; omega)) (by first | (simp only [List.length_cons, List.length_nil]; omega) | (rw [hTl]; simp only [List.length_replicate, List.length_cons, List.length_nil]; omega) | (rw [hGl]; simp only [List.length_replicate, List.length_cons, List.length_nil]; have := cnt_range l 0; split <;> omega) | (have := hCn.1; simp only [List.length_cons, List.length_nil]; omega) | (have := hAr.1; simp only [List.length_cons, List.length_nil]; omega)) rfl (fun va14 w55 hO23 hA18 => ?_)
          replace hO23 : OwnR 71 23 Am.cs w55 va14 (lA ++ [u6]) := hO23
          replace hb1 := hA18.old hb1 (hO22.neT hb1 rfl)
          replace hb2 := hA18.old hb2 (hO22.neT hb2 rfl)
          replace hb12 := hA18.old hb12 (hO22.neT hb12 rfl)
          clear hb20
          replace hrC := OwnR.keepT hA18 hO22 hrC rfl
          have ap_hO23_hrA := Apart.appR (ap_hO22_hrA) hA18 hrA
          replace hrA := AppR.apartR hA18 hrA (Apart.symm ap_hO22_hrA)
          replace hrF := OwnR.keepT hA18 hO22 hrF rfl
          have ap_hO23_hO9 := Apart.appR (ap_hO22_hO9) hA18 hO9
          replace hO9 := AppR.apartR hA18 hO9 (Apart.symm ap_hO22_hO9)
          replace hO14 := OwnS.keepT hA18 hO22 hO14 rfl
          have ap_hO23_hO15 := Apart.appR (ap_hO22_hO15) hA18 hO15
          replace hO15 := AppR.apartR hA18 hO15 (Apart.symm ap_hO22_hO15)
          have ap_hO23_hO18 := Apart.appR (ap_hO22_hO18) hA18 hO18
          replace hO18 := AppR.apartR hA18 hO18 (Apart.symm ap_hO22_hO18)
          replace hxC := Xs.app hxC hA18 (.inr (by simp))
          replace hxA := Xs.app hxA hA18 (.inr (by simp))
          have ghO23 := hA18.ge hB.size ghO22
          replace hB := hA18.below hB hB.size ghO22
          refine At.ops0 ?_
          refine At.wpcN (.cons rfl rfl rfl rfl (fun Lx => ?_) (.cons rfl rfl rfl rfl (fun Lx => ?_) .nil)) ?_
          · skip
            refine At.yes rfl rfl rfl rfl ?_
            refine At.load rfl (Ld.own (C := #[.string (⟨#[68]⟩ : ByteArray), vC]) ag52 sz52 hb2) rfl ?_
            refine At.ops0 ?_
            exact fun a ha => ⟨ha, rfl⟩
          · skip
            refine At.yes rfl rfl rfl rfl ?_
            refine At.load rfl (Ld.own (C := #[.int .i64 11, .int .i64 0, .string (⟨#[65]⟩ : ByteArray), .string (⟨#[]⟩ : ByteArray), .int .i64 0, vF, (.slice none 0 0), .int .i64 0, .string (⟨#[]⟩ : ByteArray), .int .i64 0, (.slice none 0 0), (.slice none 0 0), .int .i64 0, (.slice none 0 0), .int .i64 0, .int .i64 0, .string (⟨#[]⟩ : ByteArray), .int .i64 0, (.slice none 0 0), (.slice none 0 0), .int .i64 0]) ag33 sz33 hb12) rfl ?_
            refine At.ops0 ?_
            exact fun a ha => ⟨ha, rfl⟩
          refine At.wpcL #[true, true, true, true, true, true, true, true, true, true, true, true, true, true, true, true, true, true, true, true, true, true, true, true, true, true, true, true, true, true, true, true, true, true, true, true, true, true, true, true, true, true, true, true, true, true, true, true, true, true, true, true, true, true, true, true, false, false, false, false] (by kernel_rfl) ?_
          refine At.wpcF [56] (by kernel_rfl) (by kernel_rfl) (.cons [] [[5, 1, 0], [5, 1], [5, 2], [5, 3], [5, 4], [11, 7, 6], [11, 7], [11, 8], [11, 9], [11, 10], [24, 17, 16, 15, 14, 12], [24, 17, 16, 15, 14, 13], [24, 17, 16, 15, 14], [24, 17, 16, 15], [24, 17, 16], [24, 17], [24, 18], [24, 19], [24, 23, 20], [24, 23, 22, 21], [24, 23, 22], [24, 23], [31, 27, 26, 25], [31, 27, 26], [31, 27], [31, 28], [31, 29], [31, 30], [38, 34, 33, 32], [38, 34, 33], [38, 34], [38, 35], [38, 36], [38, 37], [47, 44, 43, 42, 41, 39], [47, 44, 43, 42, 41, 40], [47, 44, 43, 42, 41], [47, 44, 43, 42], [47, 44, 43], [47, 44], [56, 45], [56, 46], [49, 48], [54, 53, 52, 50], [54, 53, 52, 51], [54, 53, 52], [54, 53]] rfl (by kernel_rfl) ?_ .nil)
          refine At.yes rfl rfl rfl rfl ?_
          refine At.call en25 rfl rfl (right_any (ownDat (⟨#[68]⟩ : ByteArray) vC lC) (ownTm 11 0 (⟨#[65]⟩ : ByteArray) (⟨#[]⟩ : ByteArray) 0 vF lF) va14 (lA ++ [u6]) _ (((ownDat_ok (OwnR.rows hrC (fun u hu => (((Xs.ok hxC)) u hu).size)) ((Xs.ok hxC)))).keep (Below.refl _ _)) (((ownTm_rows 11 0 (⟨#[65]⟩ : ByteArray) (⟨#[]⟩ : ByteArray) 0 (OwnR.rows hrF (fun u hu => (((ints_ok (w := w55) hFl)) u hu).size)) ((ints_ok (w := w55) hFl)))).keep (Below.refl _ _)) (OwnR.rows hO23 (fun u hu => (((all_app (Q := fun u => AmOk w55 u) (Xs.ok hxA) (mem1 (Q := fun u => AmOk w55 u) (((((Xs.ok hxA)) u6 (List.mem_of_getElem? hu6))).keep (Below.refl _ _))))) u hu).size)) ((all_app (Q := fun u => AmOk w55 u) (Xs.ok hxA) (mem1 (Q := fun u => AmOk w55 u) (((((Xs.ok hxA)) u6 (List.mem_of_getElem? hu6))).keep (Below.refl _ _))))) (hmd.sz _ _) (hmd.wt (all_app hgA (mem1 (hgA _ (List.mem_of_getElem? hu6)))) (by first | omega | (simp only [List.length_append, List.length_set, List.length_take, List.length_cons, List.length_nil]; omega)))) (fun e w56 hR => ?_)
          obtain ⟨rfl, hbl8⟩ := hR
          refine ⟨_, rfl, ?_⟩
          replace hb1 := Below.old hbl8 hb1
          replace hb2 := Below.old hbl8 hb2
          replace hb12 := Below.old hbl8 hb12
          replace hrC := hrC.below hbl8
          replace hrA := hrA.below hbl8
          replace hrF := hrF.below hbl8
          replace hO9 := hO9.below hbl8
          replace hO14 := hO14.below hbl8
          replace hO15 := hO15.below hbl8
          replace hO18 := hO18.below hbl8
          replace hO23 := hO23.below hbl8
          replace hxC := Xs.below hxC hbl8
          replace hxA := Xs.below hxA hbl8
          replace hB := Below.andThen hB hbl8
          refine At.ops0 ?_
          refine At.wpcN .nil ?_
          refine At.wpcL #[true, true, true, true, true, true, true, true, true, true, true, true, true, true, true, true, true, true, true, true, true, true, true, true, true, true, true, true, true, true, true, true, true, true, true, true, true, true, true, true, true, true, true, true, true, true, true, true, true, true, true, true, true, true, true, true, true, false, false, false] (by kernel_rfl) ?_
          refine At.wpcS (i := 57) (d := 196) (.bool (!(rightB (ownDat (⟨#[68]⟩ : ByteArray) vC lC) (ownTm 11 0 (⟨#[65]⟩ : ByteArray) (⟨#[]⟩ : ByteArray) 0 vF lF) (lA ++ [u6])))) (by kernel_rfl) rfl rfl rfl (fun Lx => ?_) ?_
          · skip
            refine At.yes rfl rfl rfl rfl ?_
            refine At.not rfl rfl ?_
            refine At.ops0 ?_
            exact fun a ha => ⟨ha, rfl⟩
          refine At.wpcL #[true, true, true, true, true, true, true, true, true, true, true, true, true, true, true, true, true, true, true, true, true, true, true, true, true, true, true, true, true, true, true, true, true, true, true, true, true, true, true, true, true, true, true, true, true, true, true, true, true, true, true, true, true, true, true, true, true, true, false, false] (by kernel_rfl) ?_
          refine At.wpcS (i := 58) (d := 197) (.bool (!(rightB (ownDat (⟨#[68]⟩ : ByteArray) vC lC) (ownTm 11 0 (⟨#[65]⟩ : ByteArray) (⟨#[]⟩ : ByteArray) 0 vF lF) (lA ++ [u6])))) (by kernel_rfl) rfl rfl rfl (fun Lx => ?_) ?_
          · skip
            refine At.pickT rfl rfl rfl ?_
            refine At.ops0 ?_
            exact fun a ha => ⟨ha, rfl⟩
          refine At.wpcL #[true, true, true, true, true, true, true, true, true, true, true, true, true, true, true, true, true, true, true, true, true, true, true, true, true, true, true, true, true, true, true, true, true, true, true, true, true, true, true, true, true, true, true, true, true, true, true, true, true, true, true, true, true, true, true, true, true, true, true, false] (by kernel_rfl) ?_
          refine At.wpcF [59] (by kernel_rfl) (by kernel_rfl) (.cons [] [[59, 0], [5, 1], [5, 2], [5, 3], [5, 4], [59, 6], [11, 7], [11, 8], [11, 9], [11, 10], [59, 12], [59, 13], [59, 14], [59, 15], [59, 16], [24, 17], [24, 18], [24, 19], [59, 20], [59, 21], [59, 22], [24, 23], [59, 25], [59, 26], [31, 27], [31, 28], [31, 29], [31, 30], [59, 32], [59, 33], [38, 34], [38, 35], [38, 36], [38, 37], [59, 39], [59, 40], [59, 41], [59, 42], [59, 43], [47, 44], [56, 45], [56, 46], [49, 48], [59, 50], [59, 51], [59, 52], [54, 53], [59, 57], [59, 58]] rfl (by kernel_rfl) ?_ .nil)
          refine At.assign rfl rfl ?_
          refine At.ops0 ?_
          refine At.wpcN .nil ?_
          refine At.wpcZ ?_
          refine At.thenN ?_
          refine At.retc ?_
          refine At.doneR (ResV.tmp rfl ResV.nil) ?_
          exact ⟨congrArg Ending.returned (congrArg Value.bool (hmd.over hAr hu6)), hB⟩
      · skip
        refine At.yes rfl rfl rfl rfl ?_
        refine At.buildSlice (xs := [.tmp 192]) rfl rfl el25 sz71 ze71 (by intro v hv; simp only [List.mem_cons, List.not_mem_nil, or_false] at hv; rcases hv with rfl <;> first | rfl | simp [Value.cells, ((((Xs.ok hxA)) u6 (List.mem_of_getElem? hu6))).size]) rfl (by decide) rfl (fun b21 w57 F21 => ?_)
        have q_hrA_b21 : some b21 ≠ Value.ownBlock vA := Own.neFresh hrA F21
        have q_hO9_b21 : some b21 ≠ Value.ownBlock va6 := Own.neFresh hO9 F21
        have q_hO15_b21 : some b21 ≠ Value.ownBlock va7 := Own.neFresh hO15 F21
        have q_hO18_b21 : some b21 ≠ Value.ownBlock va10 := Own.neFresh hO18 F21
        have n_b1_b21 : b1 ≠ b21 := Nat.ne_of_lt (F21.lt hb1)
        have n_b2_b21 : b2 ≠ b21 := Nat.ne_of_lt (F21.lt hb2)
        have n_b12_b21 : b12 ≠ b21 := Nat.ne_of_lt (F21.lt hb12)
        have gb21 := F21.ge hB
        replace hb1 := F21.old hb1
        replace hb2 := F21.old hb2
        replace hb12 := F21.old hb12
        replace hrC := hrC.fresh F21
        replace hrA := hrA.fresh F21
        replace hrF := hrF.fresh F21
        replace hO9 := hO9.fresh F21
        replace hO14 := hO14.fresh F21
        replace hO15 := hO15.fresh F21
        replace hO18 := hO18.fresh F21
        replace hxC := Xs.fresh hxC F21
        replace hxA := Xs.fresh hxA F21
        have hb21 : w57.heap[b21]? = some (.cells (([u6].map Am.cs).flatMap (·.toList)).toArray 71) := F21.new
        replace hB := F21.below' hB
        refine At.ops0 ?_
        refine At.wpcN (.cons rfl rfl rfl rfl (fun Lx => ?_) (.cons rfl rfl rfl rfl (fun Lx => ?_) (.cons rfl rfl rfl rfl (fun Lx => ?_) .nil))) ?_
        · skip
          refine At.yes rfl rfl rfl rfl ?_
          refine At.load rfl (Ld.own (C := #[.string (⟨#[68]⟩ : ByteArray), vC]) ag52 sz52 hb2) rfl ?_
          refine At.ops0 ?_
          exact fun a ha => ⟨ha, rfl⟩
        · skip
          refine At.yes rfl rfl rfl rfl ?_
          refine At.load rfl (Ld.own (C := #[.int .i64 11, .int .i64 0, .string (⟨#[65]⟩ : ByteArray), .string (⟨#[]⟩ : ByteArray), .int .i64 0, vF, (.slice none 0 0), .int .i64 0, .string (⟨#[]⟩ : ByteArray), .int .i64 0, (.slice none 0 0), (.slice none 0 0), .int .i64 0, (.slice none 0 0), .int .i64 0, .int .i64 0, .string (⟨#[]⟩ : ByteArray), .int .i64 0, (.slice none 0 0), (.slice none 0 0), .int .i64 0]) ag33 sz33 hb12) rfl ?_
          refine At.ops0 ?_
          exact fun a ha => ⟨ha, rfl⟩
        · skip
          refine At.yes rfl rfl rfl rfl ?_
          refine At.move rfl rfl ?_
          refine At.ops0 ?_
          exact fun a ha => ⟨ha, rfl⟩
        refine At.wpcL #[true, true, true, true, true, true, true, true, true, true, true, true, true, true, true, true, true, true, true, true, true, true, true, true, true, true, true, true, true, true, true, true, true, true, true, true, true, true, true, true, true, true, true, true, true, true, true, false, true, false, true, true, true, true, true, false, false, false, false, false] (by kernel_rfl) ?_
        refine At.wpcF [47] (by kernel_rfl) (by kernel_rfl) (.cons [45, 46, 48] [[5, 1, 0], [5, 1], [5, 2], [5, 3], [5, 4], [11, 7, 6], [11, 7], [11, 8], [11, 9], [11, 10], [24, 17, 16, 15, 14, 12], [24, 17, 16, 15, 14, 13], [24, 17, 16, 15, 14], [24, 17, 16, 15], [24, 17, 16], [24, 17], [24, 18], [24, 19], [24, 23, 20], [24, 23, 22, 21], [24, 23, 22], [24, 23], [31, 27, 26, 25], [31, 27, 26], [31, 27], [31, 28], [31, 29], [31, 30], [38, 34, 33, 32], [38, 34, 33], [38, 34], [38, 35], [38, 36], [38, 37], [47, 44, 43, 42, 41, 39], [47, 44, 43, 42, 41, 40], [47, 44, 43, 42, 41], [47, 44, 43, 42], [47, 44, 43], [47, 44], [54, 53, 52, 50], [54, 53, 52, 51], [54, 53, 52], [54, 53]] rfl (by kernel_rfl) ?_ .nil)
        refine At.yes rfl rfl rfl rfl ?_
        refine At.buildSlice (xs := []) rfl rfl el25 sz71 ze71 (by simp) rfl (by decide) rfl (fun b22 w58 F22 => ?_)
        have q_hrA_b22 : some b22 ≠ Value.ownBlock vA := Own.neFresh hrA F22
        have q_hO9_b22 : some b22 ≠ Value.ownBlock va6 := Own.neFresh hO9 F22
        have q_hO15_b22 : some b22 ≠ Value.ownBlock va7 := Own.neFresh hO15 F22
        have q_hO18_b22 : some b22 ≠ Value.ownBlock va10 := Own.neFresh hO18 F22
        have n_b1_b22 : b1 ≠ b22 := Nat.ne_of_lt (F22.lt hb1)
        have n_b2_b22 : b2 ≠ b22 := Nat.ne_of_lt (F22.lt hb2)
        have n_b12_b22 : b12 ≠ b22 := Nat.ne_of_lt (F22.lt hb12)
        have n_b21_b22 : b21 ≠ b22 := Nat.ne_of_lt (F22.lt hb21)
        have gb22 := F22.ge hB
        replace hb1 := F22.old hb1
        replace hb2 := F22.old hb2
        replace hb12 := F22.old hb12
        replace hb21 := F22.old hb21
        replace hrC := hrC.fresh F22
        replace hrA := hrA.fresh F22
        replace hrF := hrF.fresh F22
        replace hO9 := hO9.fresh F22
        replace hO14 := hO14.fresh F22
        replace hO15 := hO15.fresh F22
        replace hO18 := hO18.fresh F22
        replace hxC := Xs.fresh hxC F22
        replace hxA := Xs.fresh hxA F22
        have hb22 : w58.heap[b22]? = some (.cells #[] 71) := F22.new
        replace hB := F22.below' hB
        have hO24 : OwnR 71 23 Am.cs w58 (.slice (some ⟨b22, 0, none⟩) 0 0) [] := OwnR.made hb22
        have ghO24 : ∀ g, Value.ownBlock (.slice (some ⟨b22, 0, none⟩) 0 0) = some g → w.heap.size ≤ g := fun g h => by cases h; exact gb22
        have qhO24_b1 : some b1 ≠ Value.ownBlock (.slice (some ⟨b22, 0, none⟩) 0 0) := fun e => n_b1_b22 (Option.some.inj e)
        have qhO24_b2 : some b2 ≠ Value.ownBlock (.slice (some ⟨b22, 0, none⟩) 0 0) := fun e => n_b2_b22 (Option.some.inj e)
        have qhO24_b12 : some b12 ≠ Value.ownBlock (.slice (some ⟨b22, 0, none⟩) 0 0) := fun e => n_b12_b22 (Option.some.inj e)
        have qhO24_b21 : some b21 ≠ Value.ownBlock (.slice (some ⟨b22, 0, none⟩) 0 0) := fun e => n_b21_b22 (Option.some.inj e)
        have ap_hO24_hrA : Apart (.slice (some ⟨b22, 0, none⟩) 0 0) vA := fun g hg e => by cases hg; exact q_hrA_b22 e.symm
        have ap_hO24_hO9 : Apart (.slice (some ⟨b22, 0, none⟩) 0 0) va6 := fun g hg e => by cases hg; exact q_hO9_b22 e.symm
        have ap_hO24_hO15 : Apart (.slice (some ⟨b22, 0, none⟩) 0 0) va7 := fun g hg e => by cases hg; exact q_hO15_b22 e.symm
        have ap_hO24_hO18 : Apart (.slice (some ⟨b22, 0, none⟩) 0 0) va10 := fun g hg e => by cases hg; exact q_hO18_b22 e.symm
        clear hb22
        refine At.ops0 ?_
        refine At.wpcN (.cons rfl rfl rfl rfl (fun Lx => ?_) (.cons rfl rfl rfl rfl (fun Lx => ?_) (.cons rfl rfl rfl rfl (fun Lx => ?_) .nil))) ?_
        · skip
          refine At.yes rfl rfl rfl rfl ?_
          refine At.load rfl (Ld.own (C := #[.string (⟨#[68]⟩ : ByteArray), vC]) ag52 sz52 hb2) rfl ?_
          refine At.ops0 ?_
          exact fun a ha => ⟨ha, rfl⟩
        · skip
          refine At.yes rfl rfl rfl rfl ?_
          refine At.load rfl (Ld.own (C := #[.int .i64 11, .int .i64 0, .string (⟨#[65]⟩ : ByteArray), .string (⟨#[]⟩ : ByteArray), .int .i64 0, vF, (.slice none 0 0), .int .i64 0, .string (⟨#[]⟩ : ByteArray), .int .i64 0, (.slice none 0 0), (.slice none 0 0), .int .i64 0, (.slice none 0 0), .int .i64 0, .int .i64 0, .string (⟨#[]⟩ : ByteArray), .int .i64 0, (.slice none 0 0), (.slice none 0 0), .int .i64 0]) ag33 sz33 hb12) rfl ?_
          refine At.ops0 ?_
          exact fun a ha => ⟨ha, rfl⟩
        · skip
          refine At.yes rfl rfl rfl rfl ?_
          refine At.move rfl rfl ?_
          refine At.ops0 ?_
          exact fun a ha => ⟨ha, rfl⟩
        refine At.wpcL #[true, true, true, true, true, true, true, true, true, true, true, true, true, true, true, true, true, true, true, true, true, true, true, true, true, true, true, true, true, true, true, true, true, true, true, true, true, true, true, true, true, true, true, true, true, true, true, true, true, false, true, true, true, true, true, false, false, false, false, false] (by kernel_rfl) ?_
        refine At.wpcF [49] (by kernel_rfl) (by kernel_rfl) (.cons [45, 46] [[5, 1, 0], [5, 1], [5, 2], [5, 3], [5, 4], [11, 7, 6], [11, 7], [11, 8], [11, 9], [11, 10], [24, 17, 16, 15, 14, 12], [24, 17, 16, 15, 14, 13], [24, 17, 16, 15, 14], [24, 17, 16, 15], [24, 17, 16], [24, 17], [24, 18], [24, 19], [24, 23, 20], [24, 23, 22, 21], [24, 23, 22], [24, 23], [31, 27, 26, 25], [31, 27, 26], [31, 27], [31, 28], [31, 29], [31, 30], [38, 34, 33, 32], [38, 34, 33], [38, 34], [38, 35], [38, 36], [38, 37], [47, 44, 43, 42, 41, 39], [47, 44, 43, 42, 41, 40], [47, 44, 43, 42, 41], [47, 44, 43, 42], [47, 44, 43], [47, 44], [49, 48], [54, 53, 52, 50], [54, 53, 52, 51], [54, 53, 52], [54, 53]] rfl (by kernel_rfl) ?_ .nil)
        refine At.yes rfl rfl rfl rfl ?_
        refine At.appendR (f := Am.cs) rfl rfl el25 el25 sz71 by71 ze71 rfl hO24 (OwnR.rows hrA (fun u hu => (((Xs.ok hxA)) u hu).size)) (by decide) (fun u hu => (((Xs.ok hxA)) u hu).one) (by first | (simp only [List.length_cons, List.length_nil]; omega) | (rw [hTl]; simp only [List.length_replicate, List.length_cons, List.length_nil]; omega) | (rw [hGl]; simp only [List.length_replicate, List.length_cons, List.length_nil]; have := cnt_range l 0; split <;> omega) | (have := hCn.1; simp only [List.length_cons, List.length_nil]; omega) | (have := hAr.1; simp only [List.length_cons, List.length_nil]; omega)) (by first | (simp only [List.length_cons, List.length_nil]; omega) | (rw [hTl]; simp only [List.length_replicate, List.length_cons, List.length_nil]; omega) | (rw [hGl]; simp only [List.length_replicate, List.length_cons, List.length_nil]; have := cnt_range l 0; split <;> omega) | (have := hCn.1; simp only [List.length_cons, List.length_nil]; omega) | (have := hAr.1; simp only [List.length_cons, List.length_nil]; omega)) rfl (fun va15 w59 hO25 hA19 => ?_)
        replace hO25 : OwnR 71 23 Am.cs w59 va15 lA := hO25
        replace hb1 := hA19.old hb1 (hO24.neT hb1 rfl)
        replace hb2 := hA19.old hb2 (hO24.neT hb2 rfl)
        replace hb12 := hA19.old hb12 (hO24.neT hb12 rfl)
        have q_hO25_b21 : some b21 ≠ Value.ownBlock va15 := Moved.ne hA19.blk (Array.getElem?_eq_some_iff.1 hb21).1 qhO24_b21
        replace hb21 := hA19.old hb21 qhO24_b21
        replace hrC := OwnR.keepT hA19 hO24 hrC rfl
        have ap_hO25_hrA := Apart.appR (ap_hO24_hrA) hA19 hrA
        replace hrA := AppR.apartR hA19 hrA (Apart.symm ap_hO24_hrA)
        replace hrF := OwnR.keepT hA19 hO24 hrF rfl
        have ap_hO25_hO9 := Apart.appR (ap_hO24_hO9) hA19 hO9
        replace hO9 := AppR.apartR hA19 hO9 (Apart.symm ap_hO24_hO9)
        replace hO14 := OwnS.keepT hA19 hO24 hO14 rfl
        have ap_hO25_hO15 := Apart.appR (ap_hO24_hO15) hA19 hO15
        replace hO15 := AppR.apartR hA19 hO15 (Apart.symm ap_hO24_hO15)
        have ap_hO25_hO18 := Apart.appR (ap_hO24_hO18) hA19 hO18
        replace hO18 := AppR.apartR hA19 hO18 (Apart.symm ap_hO24_hO18)
        replace hxC := Xs.app hxC hA19 (.inr (show some b22 ∈ _ by simp))
        replace hxA := Xs.app hxA hA19 (.inr (show some b22 ∈ _ by simp))
        have ghO25 := hA19.ge hB.size ghO24
        replace hB := hA19.below hB hB.size ghO24
        refine At.ops0 ?_
        refine At.wpcN (.cons rfl rfl rfl rfl (fun Lx => ?_) (.cons rfl rfl rfl rfl (fun Lx => ?_) .nil)) ?_
        · skip
          refine At.yes rfl rfl rfl rfl ?_
          refine At.load rfl (Ld.own (C := #[.string (⟨#[68]⟩ : ByteArray), vC]) ag52 sz52 hb2) rfl ?_
          refine At.ops0 ?_
          exact fun a ha => ⟨ha, rfl⟩
        · skip
          refine At.yes rfl rfl rfl rfl ?_
          refine At.load rfl (Ld.own (C := #[.int .i64 11, .int .i64 0, .string (⟨#[65]⟩ : ByteArray), .string (⟨#[]⟩ : ByteArray), .int .i64 0, vF, (.slice none 0 0), .int .i64 0, .string (⟨#[]⟩ : ByteArray), .int .i64 0, (.slice none 0 0), (.slice none 0 0), .int .i64 0, (.slice none 0 0), .int .i64 0, .int .i64 0, .string (⟨#[]⟩ : ByteArray), .int .i64 0, (.slice none 0 0), (.slice none 0 0), .int .i64 0]) ag33 sz33 hb12) rfl ?_
          refine At.ops0 ?_
          exact fun a ha => ⟨ha, rfl⟩
        refine At.wpcL #[true, true, true, true, true, true, true, true, true, true, true, true, true, true, true, true, true, true, true, true, true, true, true, true, true, true, true, true, true, true, true, true, true, true, true, true, true, true, true, true, true, true, true, true, true, true, true, true, true, true, true, true, true, true, true, false, false, false, false, false] (by kernel_rfl) ?_
        refine At.wpcF [55] (by kernel_rfl) (by kernel_rfl) (.cons [45, 46] [[5, 1, 0], [5, 1], [5, 2], [5, 3], [5, 4], [11, 7, 6], [11, 7], [11, 8], [11, 9], [11, 10], [24, 17, 16, 15, 14, 12], [24, 17, 16, 15, 14, 13], [24, 17, 16, 15, 14], [24, 17, 16, 15], [24, 17, 16], [24, 17], [24, 18], [24, 19], [24, 23, 20], [24, 23, 22, 21], [24, 23, 22], [24, 23], [31, 27, 26, 25], [31, 27, 26], [31, 27], [31, 28], [31, 29], [31, 30], [38, 34, 33, 32], [38, 34, 33], [38, 34], [38, 35], [38, 36], [38, 37], [47, 44, 43, 42, 41, 39], [47, 44, 43, 42, 41, 40], [47, 44, 43, 42, 41], [47, 44, 43, 42], [47, 44, 43], [47, 44], [49, 48], [54, 53, 52, 50], [54, 53, 52, 51], [54, 53, 52], [54, 53]] rfl (by kernel_rfl) ?_ .nil)
        refine At.yes rfl rfl rfl rfl ?_
        refine At.appendR (f := Am.cs) rfl rfl el25 el25 sz71 by71 ze71 rfl hO25 (rows_own (f := Am.cs) (m := 1) hb21 (fun u hu => ((mem1 (Q := fun u => AmOk w59 u) (((((Xs.ok hxA)) u6 (List.mem_of_getElem? hu6))).keep (Below.refl _ _))) u hu).size) rfl (by decide)) (by decide) (fun u hu => (((mem1 (Q := fun u => AmOk w59 u) (((((Xs.ok hxA)) u6 (List.mem_of_getElem? hu6))).keep (Below.refl _ _)))) u hu).one) (by first | (simp only [List.length_cons, List.length_nil]; omega) | (rw [hTl]; simp only [List.length_replicate, List.length_cons, List.length_nil]; omega) | (rw [hGl]; simp only [List.length_replicate, List.length_cons, List.length_nil]; have := cnt_range l 0; split <;> omega) | (have := hCn.1; simp only [List.length_cons, List.length_nil]; omega) | (have := hAr.1; simp only [List.length_cons, List.length_nil]; omega)) (by first | (simp only [List.length_cons, List.length_nil]; omega) | (rw [hTl]; simp only [List.length_replicate, List.length_cons, List.length_nil]; omega) | (rw [hGl]; simp only [List.length_replicate, List.length_cons, List.length_nil]; have := cnt_range l 0; split <;> omega) | (have := hCn.1; simp only [List.length_cons, List.length_nil]; omega) | (have := hAr.1; simp only [List.length_cons, List.length_nil]; omega)) rfl (fun va16 w60 hO26 hA20 => ?_)
        replace hO26 : OwnR 71 23 Am.cs w60 va16 (lA ++ [u6]) := hO26
        replace hb1 := hA20.old hb1 (hO25.neT hb1 rfl)
        replace hb2 := hA20.old hb2 (hO25.neT hb2 rfl)
        replace hb12 := hA20.old hb12 (hO25.neT hb12 rfl)
        clear hb21
        replace hrC := OwnR.keepT hA20 hO25 hrC rfl
        have ap_hO26_hrA := Apart.appR (ap_hO25_hrA) hA20 hrA
        replace hrA := AppR.apartR hA20 hrA (Apart.symm ap_hO25_hrA)
        replace hrF := OwnR.keepT hA20 hO25 hrF rfl
        have ap_hO26_hO9 := Apart.appR (ap_hO25_hO9) hA20 hO9
        replace hO9 := AppR.apartR hA20 hO9 (Apart.symm ap_hO25_hO9)
        replace hO14 := OwnS.keepT hA20 hO25 hO14 rfl
        have ap_hO26_hO15 := Apart.appR (ap_hO25_hO15) hA20 hO15
        replace hO15 := AppR.apartR hA20 hO15 (Apart.symm ap_hO25_hO15)
        have ap_hO26_hO18 := Apart.appR (ap_hO25_hO18) hA20 hO18
        replace hO18 := AppR.apartR hA20 hO18 (Apart.symm ap_hO25_hO18)
        replace hxC := Xs.app hxC hA20 (.inr (by simp))
        replace hxA := Xs.app hxA hA20 (.inr (by simp))
        have ghO26 := hA20.ge hB.size ghO25
        replace hB := hA20.below hB hB.size ghO25
        refine At.ops0 ?_
        refine At.wpcN (.cons rfl rfl rfl rfl (fun Lx => ?_) (.cons rfl rfl rfl rfl (fun Lx => ?_) .nil)) ?_
        · skip
          refine At.yes rfl rfl rfl rfl ?_
          refine At.load rfl (Ld.own (C := #[.string (⟨#[68]⟩ : ByteArray), vC]) ag52 sz52 hb2) rfl ?_
          refine At.ops0 ?_
          exact fun a ha => ⟨ha, rfl⟩
        · skip
          refine At.yes rfl rfl rfl rfl ?_
          refine At.load rfl (Ld.own (C := #[.int .i64 11, .int .i64 0, .string (⟨#[65]⟩ : ByteArray), .string (⟨#[]⟩ : ByteArray), .int .i64 0, vF, (.slice none 0 0), .int .i64 0, .string (⟨#[]⟩ : ByteArray), .int .i64 0, (.slice none 0 0), (.slice none 0 0), .int .i64 0, (.slice none 0 0), .int .i64 0, .int .i64 0, .string (⟨#[]⟩ : ByteArray), .int .i64 0, (.slice none 0 0), (.slice none 0 0), .int .i64 0]) ag33 sz33 hb12) rfl ?_
          refine At.ops0 ?_
          exact fun a ha => ⟨ha, rfl⟩
        refine At.wpcL #[true, true, true, true, true, true, true, true, true, true, true, true, true, true, true, true, true, true, true, true, true, true, true, true, true, true, true, true, true, true, true, true, true, true, true, true, true, true, true, true, true, true, true, true, true, true, true, true, true, true, true, true, true, true, true, true, false, false, false, false] (by kernel_rfl) ?_
        refine At.wpcF [56] (by kernel_rfl) (by kernel_rfl) (.cons [] [[5, 1, 0], [5, 1], [5, 2], [5, 3], [5, 4], [11, 7, 6], [11, 7], [11, 8], [11, 9], [11, 10], [24, 17, 16, 15, 14, 12], [24, 17, 16, 15, 14, 13], [24, 17, 16, 15, 14], [24, 17, 16, 15], [24, 17, 16], [24, 17], [24, 18], [24, 19], [24, 23, 20], [24, 23, 22, 21], [24, 23, 22], [24, 23], [31, 27, 26, 25], [31, 27, 26], [31, 27], [31, 28], [31, 29], [31, 30], [38, 34, 33, 32], [38, 34, 33], [38, 34], [38, 35], [38, 36], [38, 37], [47, 44, 43, 42, 41, 39], [47, 44, 43, 42, 41, 40], [47, 44, 43, 42, 41], [47, 44, 43, 42], [47, 44, 43], [47, 44], [56, 45], [56, 46], [49, 48], [54, 53, 52, 50], [54, 53, 52, 51], [54, 53, 52], [54, 53]] rfl (by kernel_rfl) ?_ .nil)
        refine At.yes rfl rfl rfl rfl ?_
        refine At.call en25 rfl rfl (right_any (ownDat (⟨#[68]⟩ : ByteArray) vC lC) (ownTm 11 0 (⟨#[65]⟩ : ByteArray) (⟨#[]⟩ : ByteArray) 0 vF lF) va16 (lA ++ [u6]) _ (((ownDat_ok (OwnR.rows hrC (fun u hu => (((Xs.ok hxC)) u hu).size)) ((Xs.ok hxC)))).keep (Below.refl _ _)) (((ownTm_rows 11 0 (⟨#[65]⟩ : ByteArray) (⟨#[]⟩ : ByteArray) 0 (OwnR.rows hrF (fun u hu => (((ints_ok (w := w60) hFl)) u hu).size)) ((ints_ok (w := w60) hFl)))).keep (Below.refl _ _)) (OwnR.rows hO26 (fun u hu => (((all_app (Q := fun u => AmOk w60 u) (Xs.ok hxA) (mem1 (Q := fun u => AmOk w60 u) (((((Xs.ok hxA)) u6 (List.mem_of_getElem? hu6))).keep (Below.refl _ _))))) u hu).size)) ((all_app (Q := fun u => AmOk w60 u) (Xs.ok hxA) (mem1 (Q := fun u => AmOk w60 u) (((((Xs.ok hxA)) u6 (List.mem_of_getElem? hu6))).keep (Below.refl _ _))))) (hmd.sz _ _) (hmd.wt (all_app hgA (mem1 (hgA _ (List.mem_of_getElem? hu6)))) (by first | omega | (simp only [List.length_append, List.length_set, List.length_take, List.length_cons, List.length_nil]; omega)))) (fun e w61 hR => ?_)
        obtain ⟨rfl, hbl9⟩ := hR
        refine ⟨_, rfl, ?_⟩
        replace hb1 := Below.old hbl9 hb1
        replace hb2 := Below.old hbl9 hb2
        replace hb12 := Below.old hbl9 hb12
        replace hrC := hrC.below hbl9
        replace hrA := hrA.below hbl9
        replace hrF := hrF.below hbl9
        replace hO9 := hO9.below hbl9
        replace hO14 := hO14.below hbl9
        replace hO15 := hO15.below hbl9
        replace hO18 := hO18.below hbl9
        replace hO26 := hO26.below hbl9
        replace hxC := Xs.below hxC hbl9
        replace hxA := Xs.below hxA hbl9
        replace hB := Below.andThen hB hbl9
        refine At.ops0 ?_
        refine At.wpcN .nil ?_
        refine At.wpcL #[true, true, true, true, true, true, true, true, true, true, true, true, true, true, true, true, true, true, true, true, true, true, true, true, true, true, true, true, true, true, true, true, true, true, true, true, true, true, true, true, true, true, true, true, true, true, true, true, true, true, true, true, true, true, true, true, true, false, false, false] (by kernel_rfl) ?_
        refine At.wpcS (i := 57) (d := 196) (.bool (!(rightB (ownDat (⟨#[68]⟩ : ByteArray) vC lC) (ownTm 11 0 (⟨#[65]⟩ : ByteArray) (⟨#[]⟩ : ByteArray) 0 vF lF) (lA ++ [u6])))) (by kernel_rfl) rfl rfl rfl (fun Lx => ?_) ?_
        · skip
          refine At.yes rfl rfl rfl rfl ?_
          refine At.not rfl rfl ?_
          refine At.ops0 ?_
          exact fun a ha => ⟨ha, rfl⟩
        refine At.wpcL #[true, true, true, true, true, true, true, true, true, true, true, true, true, true, true, true, true, true, true, true, true, true, true, true, true, true, true, true, true, true, true, true, true, true, true, true, true, true, true, true, true, true, true, true, true, true, true, true, true, true, true, true, true, true, true, true, true, true, false, false] (by kernel_rfl) ?_
        refine At.wpcS (i := 58) (d := 197) (.bool (!(rightB (ownDat (⟨#[68]⟩ : ByteArray) vC lC) (ownTm 11 0 (⟨#[65]⟩ : ByteArray) (⟨#[]⟩ : ByteArray) 0 vF lF) (lA ++ [u6])))) (by kernel_rfl) rfl rfl rfl (fun Lx => ?_) ?_
        · skip
          refine At.pickT rfl rfl rfl ?_
          refine At.ops0 ?_
          exact fun a ha => ⟨ha, rfl⟩
        refine At.wpcL #[true, true, true, true, true, true, true, true, true, true, true, true, true, true, true, true, true, true, true, true, true, true, true, true, true, true, true, true, true, true, true, true, true, true, true, true, true, true, true, true, true, true, true, true, true, true, true, true, true, true, true, true, true, true, true, true, true, true, true, false] (by kernel_rfl) ?_
        refine At.wpcF [59] (by kernel_rfl) (by kernel_rfl) (.cons [] [[59, 0], [5, 1], [5, 2], [5, 3], [5, 4], [59, 6], [11, 7], [11, 8], [11, 9], [11, 10], [59, 12], [59, 13], [59, 14], [59, 15], [59, 16], [24, 17], [24, 18], [24, 19], [59, 20], [59, 21], [59, 22], [24, 23], [59, 25], [59, 26], [31, 27], [31, 28], [31, 29], [31, 30], [59, 32], [59, 33], [38, 34], [38, 35], [38, 36], [38, 37], [59, 39], [59, 40], [59, 41], [59, 42], [59, 43], [47, 44], [56, 45], [56, 46], [49, 48], [59, 50], [59, 51], [59, 52], [54, 53], [59, 57], [59, 58]] rfl (by kernel_rfl) ?_ .nil)
        refine At.assign rfl rfl ?_
        refine At.ops0 ?_
        refine At.wpcN .nil ?_
        refine At.wpcZ ?_
        refine At.thenN ?_
        refine At.retc ?_
        refine At.doneR (ResV.tmp rfl ResV.nil) ?_
        exact ⟨congrArg Ending.returned (congrArg Value.bool (hmd.over hAr hu6)), hB⟩
end Go.Proofs.Ytkclfcdppnlkbaa
