/-
 The walk of what every statement begins with. Written by a program of ours.
-/
import Derived.Test.YtkjmjnddanhapaaN10
set_option linter.unusedVariables false
set_option linter.unusedSimpArgs false
namespace Go.Proofs.Ytkjmjnddanhapaa
open Go.RowKit
theorem en13 : entB Try.prog 13 = true := by kernel_rfl
theorem ze5 : zeroB Try.prog 5 = some (.int .u8 0) := by kernel_rfl
theorem shown_any (m : Int) (w : World) (hm : w.cell? ⟨0, 0, none⟩ = some (.int .i64 m)) :
  Calls Try.prog 12 ([] : List Value).toArray w fun e w' => e = .returned (.bool true) ∧ Below w.heap.size w w' := by
 have hB := Below.refl w.heap.size w
 refine At.enter (N := 105) Try.func12 rfl rfl (by simp) [] (by simp) ?_
 refine .seq (.region (.assign rfl rfl (.ops0 (.thenN (.seq (.region ?_))))))
 refine At.buildSlice (xs := [.const (.int .u8 101), .const (.int .u8 102), .const (.int .u8 102), .const (.int .u8 101), .const (.int .u8 99), .const (.int .u8 116), .const (.int .u8 32), .const (.int .u8 69), .const (.int .u8 32), .const (.int .u8 123), .const (.int .u8 32), .const (.int .u8 103), .const (.int .u8 101), .const (.int .u8 116), .const (.int .u8 32), .const (.int .u8 58), .const (.int .u8 32), .const (.int .u8 117), .const (.int .u8 110), .const (.int .u8 105), .const (.int .u8 116), .const (.int .u8 32), .const (.int .u8 45), .const (.int .u8 62), .const (.int .u8 32), .const (.int .u8 105), .const (.int .u8 110), .const (.int .u8 116), .const (.int .u8 32), .const (.int .u8 125), .const (.int .u8 32), .const (.int .u8 102), .const (.int .u8 32), .const (.int .u8 120), .const (.int .u8 32), .const (.int .u8 43), .const (.int .u8 32), .const (.int .u8 49)]) rfl rfl el22 sz5 ze5 (by intro v hv; simp only [List.mem_cons, List.not_mem_nil, or_false] at hv; rcases hv with rfl | rfl | rfl | rfl | rfl | rfl | rfl | rfl | rfl | rfl | rfl | rfl | rfl | rfl | rfl | rfl | rfl | rfl | rfl | rfl | rfl | rfl | rfl | rfl | rfl | rfl | rfl | rfl | rfl | rfl | rfl | rfl | rfl | rfl | rfl | rfl | rfl | rfl <;> first | rfl | simp [Value.cells]) rfl (by decide) rfl (fun b1 w1 F1 => ?_)
 have gb1 := F1.ge hB
 have hb1 : w1.heap[b1]? = some (.cells #[.int .u8 101, .int .u8 102, .int .u8 102, .int .u8 101, .int .u8 99, .int .u8 116, .int .u8 32, .int .u8 69, .int .u8 32, .int .u8 123, .int .u8 32, .int .u8 103, .int .u8 101, .int .u8 116, .int .u8 32, .int .u8 58, .int .u8 32, .int .u8 117, .int .u8 110, .int .u8 105, .int .u8 116, .int .u8 32, .int .u8 45, .int .u8 62, .int .u8 32, .int .u8 105, .int .u8 110, .int .u8 116, .int .u8 32, .int .u8 125, .int .u8 32, .int .u8 102, .int .u8 32, .int .u8 120, .int .u8 32, .int .u8 43, .int .u8 32, .int .u8 49] 5) := F1.new
 replace hB := F1.below' hB
 refine At.markB (l := s1) rfl hb1 rfl (by decide) el22 ik5 rfl (fun w2 S1 hby1 => ?_)
 replace hB := S1.below' hB gb1
 clear hb1
 have hml1 : MLt w2.heap.size [] := (MLt.nil _)
 refine At.call en13 rfl rfl (parse_any (.slice (some ⟨b1, 0, none⟩) 38 38) s1 m _ (BytesAt.keep hby1 (Below.refl _ _)) (cell_keep hm hB)) (fun e w3 hR => ?_)
 obtain ⟨pr1, rfl, hbl1, hpk1, hsh1, hpl1, hpb1⟩ := hR
 refine ⟨_, rfl, ?_⟩
 replace hby1 := hby1.below hbl1
 replace hB := Below.andThen hB hbl1
 have hXp1 := Xs.of_new (B := 0) (M := []) (K := kPr) hpk1 (fun b hb => .inr (hpb1 b hb)) (fun _ _ => Nat.zero_le _) hml1
 clear hpk1 hpb1 hml1
 have hpr1 : parseR s1 = (some x1, 0, 0) := s1_parse
 refine .set (d := 11) (u := .tuple #[.agg pr1.cs, zI, zI]) rfl (by rw [hpr1]) ?_
 have hs1 := shown_facts (p := pr1) (by rw [hsh1, hpr1]; rfl)
 have hk1 := hs1.kids; have hk2 := hs1.effs; have hk3 := hs1.ops
 refine .move rfl rfl (.extract rfl rfl rfl (.extract rfl rfl rfl (.extract rfl rfl rfl ?_)))
 refine At.alloc ze37 rfl (fun b2 w4 F2 => ?_)
 have gb2 := F2.ge hB
 replace hby1 := hby1.fresh F2
 replace hXp1 := Xs.fresh hXp1 F2
 have hb2 : w4.heap[b2]? = some (.cells #[zN, zN, zI, zI, zS, zS, zI, zN, zN, zI, zS, zI, zN, zN, zI, zN, zI, zI, zS, zI, zN, zN, zI] 37) := F2.new
 replace hB := F2.below' hB
 refine At.storeAll rfl rfl hb2 (sz37.trans (congrArg some ((Xs.one hXp1)).size.symm)) ((Xs.one hXp1)).size.symm ((Xs.one hXp1)).one (fun w5 S2 => ?_)
 clear hby1
 replace hXp1 := Xs.set hXp1 S2 (by simp)
 replace hb2 : w5.heap[b2]? = some (.cells pr1.cs 37) := S2.new
 replace hB := S2.below' hB gb2
 refine .assign rfl rfl (.assign rfl rfl (.ops0 (.thenN (.seq (.region ?_)))))
 refine At.buildSlice (xs := [.const (.int .u8 102), .const (.int .u8 32), .const (.int .u8 120), .const (.int .u8 32), .const (.int .u8 43)]) rfl rfl el22 sz5 ze5 (by intro v hv; simp only [List.mem_cons, List.not_mem_nil, or_false] at hv; rcases hv with rfl | rfl | rfl | rfl | rfl <;> first | rfl | simp [Value.cells]) rfl (by decide) rfl (fun b3 w6 F3 => ?_)
 have n_b2_b3 : b2 ≠ b3 := Nat.ne_of_lt (F3.lt hb2)
 have gb3 := F3.ge hB
 replace hb2 := F3.old hb2
 replace hXp1 := Xs.fresh hXp1 F3
 have hb3 : w6.heap[b3]? = some (.cells #[.int .u8 102, .int .u8 32, .int .u8 120, .int .u8 32, .int .u8 43] 5) := F3.new
 replace hB := F3.below' hB
 refine At.markB (l := s2) rfl hb3 rfl (by decide) el22 ik5 rfl (fun w7 S3 hby2 => ?_)
 replace hb2 := S3.other hb2 n_b2_b3
 replace hXp1 := Xs.set hXp1 S3 (by simp)
 replace hB := S3.below' hB gb3
 clear hb3
 have hml2 : MLt w7.heap.size [some b2] := (MLt.blk hb2 (MLt.nil _))
 refine At.call en13 rfl rfl (parse_any (.slice (some ⟨b3, 0, none⟩) 5 5) s2 m _ (BytesAt.keep hby2 (Below.refl _ _)) (cell_keep hm hB)) (fun e w8 hR => ?_)
 obtain ⟨pr2, rfl, hbl2, hpk2, hsh2, hpl2, hpb2⟩ := hR
 refine ⟨_, rfl, ?_⟩
 replace hb2 := Below.old hbl2 hb2
 replace hby2 := hby2.below hbl2
 replace hXp1 := Xs.below hXp1 hbl2
 replace hB := Below.andThen hB hbl2
 have hXp2 := Xs.of_new (B := 0) (M := [some b2]) (K := kPr) hpk2 (fun b hb => .inr (hpb2 b hb)) (fun _ _ => Nat.zero_le _) hml2
 clear hpk2 hpb2 hml2
 have hpr2 : parseR s2 = (none, 5, 3) := s2_parse
 refine .set (d := 18) (u := .tuple #[.agg pr2.cs, .int .i64 5, .int .i64 3]) rfl (by rw [hpr2]) (.move rfl rfl (.extract rfl rfl rfl (.extract rfl rfl rfl (.extract rfl rfl rfl ?_))))
 refine At.alloc ze37 rfl (fun b4 w9 F4 => ?_)
 have n_b2_b4 : b2 ≠ b4 := Nat.ne_of_lt (F4.lt hb2)
 have gb4 := F4.ge hB
 replace hb2 := F4.old hb2
 replace hby2 := hby2.fresh F4
 replace hXp1 := Xs.fresh hXp1 F4
 replace hXp2 := Xs.fresh hXp2 F4
 have hb4 : w9.heap[b4]? = some (.cells #[zN, zN, zI, zI, zS, zS, zI, zN, zN, zI, zS, zI, zN, zN, zI, zN, zI, zI, zS, zI, zN, zN, zI] 37) := F4.new
 replace hB := F4.below' hB
 refine At.storeAll rfl rfl hb4 (sz37.trans (congrArg some ((Xs.one hXp2)).size.symm)) ((Xs.one hXp2)).size.symm ((Xs.one hXp2)).one (fun w10 S4 => ?_)
 replace hb2 := S4.other hb2 n_b2_b4
 clear hby2
 replace hXp1 := Xs.set hXp1 S4 (by simp)
 replace hXp2 := Xs.set hXp2 S4 (by simp)
 replace hb4 : w10.heap[b4]? = some (.cells pr2.cs 37) := S4.new
 replace hB := S4.below' hB gb4
 refine .assign rfl rfl (.assign rfl rfl (.ops0 (.thenN (.seq (.region (.fieldAddr rfl fo37_2 rfl (.load rfl (Ld.ownPart ag35 (sz35.trans (congrArg some (((Xs.one hXp1)).bodyOk).size.symm)) hb2 ((Xs.one hXp1)).bodyCs) rfl ?_)))))))
 refine At.alloc ze35 rfl (fun b5 w11 F5 => ?_)
 have n_b2_b5 : b2 ≠ b5 := Nat.ne_of_lt (F5.lt hb2)
 have n_b4_b5 : b4 ≠ b5 := Nat.ne_of_lt (F5.lt hb4)
 have gb5 := F5.ge hB
 replace hb2 := F5.old hb2
 replace hb4 := F5.old hb4
 replace hXp1 := Xs.fresh hXp1 F5
 replace hXp2 := Xs.fresh hXp2 F5
 have hb5 : w11.heap[b5]? = some (.cells #[zI, zI, zS, zS, zI, zN, zN, zI, zS, zI, zN, zN, zI, zN, zI, zI, zS, zI, zN, zN, zI] 35) := F5.new
 replace hB := F5.below' hB
 refine At.storeAll rfl rfl hb5 (sz35.trans (congrArg some (((Xs.one hXp1)).bodyOk).size.symm)) (((Xs.one hXp1)).bodyOk).size.symm (((Xs.one hXp1)).bodyOk).one (fun w12 S5 => ?_)
 replace hb2 := S5.other hb2 n_b2_b5
 replace hb4 := S5.other hb4 n_b4_b5
 replace hXp1 := Xs.set hXp1 S5 (by simp)
 replace hXp2 := Xs.set hXp2 S5 (by simp)
 replace hb5 : w12.heap[b5]? = some (.cells pr1.body.cs 35) := S5.new
 replace hB := S5.below' hB gb5
 refine .ops0 (.thenN (.seq (.seq (.region (.fieldAddr rfl fo35_5 rfl (.load rfl (Ld.ownCell ag26 hb5 (((Xs.one hXp1)).bodyOk).c5) rfl (.lenSl rfl ((((Xs.one hXp1)).bodyOk).kidsAt).okL el26 rfl (.neI rfl rfl rfl (.move rfl rfl ?_)))))))))
 have hbb1 : ((!decide ((pr1.body.kids.length : Int) = 2))) = false := by simp [hs1.kids, hs1.effs, hs1.k, hs1.nm, hs1.at_, hs1.d]
 refine .set (d := 28) (u := .bool false) rfl (congrArg Value.bool hbb1) (.yes rfl rfl rfl rfl (.fieldAddr rfl fo37_0 rfl (.yes rfl rfl rfl rfl (.load rfl (Ld.ownCell ag24 hb2 ((Xs.one hXp1)).c0) rfl (.yes rfl rfl rfl rfl (.lenSl rfl (((Xs.one hXp1)).effsAt).okL el24 rfl (.yes rfl rfl rfl rfl (.neI rfl rfl rfl (.pickF rfl rfl rfl (.move rfl rfl ?_))))))))))
 have hbb2 : ((!decide ((pr1.effs.length : Int) = 1))) = false := by simp [hs1.kids, hs1.effs, hs1.k, hs1.nm, hs1.at_, hs1.d]
 refine .set (d := 34) (u := .bool false) rfl (congrArg Value.bool hbb2) (.yes rfl rfl rfl rfl (.fieldAddr rfl fo37_0 rfl (.yes rfl rfl rfl rfl (.load rfl (Ld.ownCell ag24 hb2 ((Xs.one hXp1)).c0) rfl (.yes rfl rfl rfl rfl ?_)))))
 obtain ⟨u1, hu1⟩ := some_of_lt (l := pr1.effs) (i := 0) (by first | omega | (have q := hk3 _ ‹_›; omega))
 refine .indexAddr (i := 0) rfl rfl (((Xs.one hXp1)).effsAt).okL (lt_of_some hu1) el24 sz55 rfl (.yes rfl rfl rfl rfl (.fieldAddr rfl fo55_1 rfl (.yes rfl rfl rfl rfl (.load rfl (Ld.cell ag53 (cell_keep (((((Xs.one hXp1)).effsAt).row hu1).get ((((Xs.one hXp1)).eff hu1)).c1) (Below.refl _ _))) rfl (.yes rfl rfl rfl rfl (.lenSl rfl (((((Xs.one hXp1)).eff hu1)).opsAt).okL el53 rfl (.yes rfl rfl rfl rfl (.neI rfl rfl rfl (.pickF rfl rfl rfl (.ops0 (.thenN ?_)))))))))))
 have hb : ((!decide ((u1.ops.length : Int) = 1))) = false := by simp [hs1.kids, hs1.effs, hs1.k, hs1.nm, hs1.at_, hs1.d, hs1.ops _ hu1]
 refine .set (d := 42) (u := .bool false) rfl (congrArg Value.bool hb) (.condF rfl (.skip (.thenN (.seq (.region (.move rfl rfl (.eqI rfl rfl rfl (.set (d := 44) (u := .bool true) rfl (congrArg Value.bool (by simp)) (.move rfl rfl (.yes rfl rfl rfl rfl (.move rfl rfl (.yes rfl rfl rfl rfl (.eqI rfl rfl rfl (.set (d := 47) (u := .bool true) rfl (congrArg Value.bool (by simp)) (.pickT rfl rfl rfl (.move rfl rfl (.yes rfl rfl rfl rfl (.fieldAddr rfl fo35_0 rfl (.yes rfl rfl rfl rfl (.load rfl (Ld.ownCell ag3 hb5 (((Xs.one hXp1)).bodyOk).c0) rfl (.yes rfl rfl rfl rfl (.eqI rfl rfl rfl (.pickT rfl rfl rfl (.move rfl rfl ?_))))))))))))))))))))))))
 have hbb3 : (decide (pr1.body.k = 10)) = true := by simp [hs1.kids, hs1.effs, hs1.k, hs1.nm, hs1.at_, hs1.d, hs1.ops _ hu1]
 refine .set (d := 54) (u := .bool true) rfl (congrArg Value.bool hbb3) (.yes rfl rfl rfl rfl (.fieldAddr rfl fo35_2 rfl (.yes rfl rfl rfl rfl (.load rfl (Ld.ownCell ag9 hb5 (((Xs.one hXp1)).bodyOk).c2) rfl (.yes rfl rfl rfl rfl (.eqS rfl rfl rfl (.pickT rfl rfl rfl (.move rfl rfl ?_))))))))
 have hbb4 : (decide (pr1.body.nm = (⟨#[43]⟩ : ByteArray))) = true := by simp [hs1.kids, hs1.effs, hs1.k, hs1.nm, hs1.at_, hs1.d, hs1.ops _ hu1]
 refine .set (d := 59) (u := .bool true) rfl (congrArg Value.bool hbb4) (.yes rfl rfl rfl rfl (.fieldAddr rfl fo35_1 rfl (.yes rfl rfl rfl rfl (.load rfl (Ld.ownCell ag3 hb5 (((Xs.one hXp1)).bodyOk).c1) rfl (.yes rfl rfl rfl rfl (.eqI rfl rfl rfl (.pickT rfl rfl rfl (.move rfl rfl ?_))))))))
 have hbb5 : (decide (pr1.body.at_ = 31)) = true := by simp [hs1.kids, hs1.effs, hs1.k, hs1.nm, hs1.at_, hs1.d, hs1.ops _ hu1]
 refine .set (d := 64) (u := .bool true) rfl (congrArg Value.bool hbb5) (.yes rfl rfl rfl rfl (.fieldAddr rfl fo35_5 rfl (.yes rfl rfl rfl rfl (.load rfl (Ld.ownCell ag26 hb5 (((Xs.one hXp1)).bodyOk).c5) rfl (.yes rfl rfl rfl rfl ?_)))))
 obtain ⟨u2, hu2⟩ := some_of_lt (l := pr1.body.kids) (i := 0) (by first | omega | (have q := hk3 _ ‹_›; omega))
 refine .indexAddr (i := 0) rfl rfl ((((Xs.one hXp1)).bodyOk).kidsAt).okL (lt_of_some hu2) el26 sz35 rfl (.yes rfl rfl rfl rfl (.fieldAddr rfl fo35_0 rfl (.yes rfl rfl rfl rfl (.load rfl (Ld.cell ag3 (cell_keep ((((((Xs.one hXp1)).bodyOk).kidsAt).row hu2).get (((((Xs.one hXp1)).bodyOk).kid hu2)).c0) (Below.refl _ _))) rfl (.yes rfl rfl rfl rfl (.eqI rfl rfl rfl (.pickT rfl rfl rfl (.move rfl rfl ?_))))))))
 have hbb6 : (decide (u2.k = 6)) = true := by simp [hs1.kids, hs1.effs, hs1.k, hs1.nm, hs1.at_, hs1.d, hs1.ops _ hu1, hs1.k0 _ hu2]
 refine .set (d := 72) (u := .bool true) rfl (congrArg Value.bool hbb6) (.yes rfl rfl rfl rfl (.fieldAddr rfl fo35_5 rfl (.yes rfl rfl rfl rfl (.load rfl (Ld.ownCell ag26 hb5 (((Xs.one hXp1)).bodyOk).c5) rfl (.yes rfl rfl rfl rfl ?_)))))
 obtain ⟨u3, hu3⟩ := some_of_lt (l := pr1.body.kids) (i := 1) (by first | omega | (have q := hk3 _ ‹_›; omega))
 refine .indexAddr (i := 1) rfl rfl ((((Xs.one hXp1)).bodyOk).kidsAt).okL (lt_of_some hu3) el26 sz35 rfl (.yes rfl rfl rfl rfl (.fieldAddr rfl fo35_4 rfl (.yes rfl rfl rfl rfl (.load rfl (Ld.cell ag3 (cell_keep ((((((Xs.one hXp1)).bodyOk).kidsAt).row hu3).get (((((Xs.one hXp1)).bodyOk).kid hu3)).c4) (Below.refl _ _))) rfl (.yes rfl rfl rfl rfl (.eqI rfl rfl rfl (.pickT rfl rfl rfl (.move rfl rfl ?_))))))))
 have hbb7 : (decide (u3.n = 1)) = true := by simp [hs1.kids, hs1.effs, hs1.k, hs1.nm, hs1.at_, hs1.d, hs1.ops _ hu1, hs1.k0 _ hu2, hs1.k1 _ hu3]
 refine .set (d := 80) (u := .bool true) rfl (congrArg Value.bool hbb7) (.yes rfl rfl rfl rfl (.fieldAddr rfl fo37_0 rfl (.yes rfl rfl rfl rfl (.load rfl (Ld.ownCell ag24 hb2 ((Xs.one hXp1)).c0) rfl (.yes rfl rfl rfl rfl (.indexAddr (i := 0) rfl rfl (((Xs.one hXp1)).effsAt).okL (lt_of_some hu1) el24 sz55 rfl (.yes rfl rfl rfl rfl (.fieldAddr rfl fo55_1 rfl (.yes rfl rfl rfl rfl (.load rfl (Ld.cell ag53 (cell_keep (((((Xs.one hXp1)).effsAt).row hu1).get ((((Xs.one hXp1)).eff hu1)).c1) (Below.refl _ _))) rfl (.yes rfl rfl rfl rfl ?_)))))))))))
 obtain ⟨u4, hu4⟩ := some_of_lt (l := u1.ops) (i := 0) (by first | omega | (have q := hk3 _ ‹_›; omega))
 refine .indexAddr (i := 0) rfl rfl (((((Xs.one hXp1)).eff hu1)).opsAt).okL (lt_of_some hu4) el53 sz57 rfl (.yes rfl rfl rfl rfl (.fieldAddr rfl fo57_2 rfl (.yes rfl rfl rfl rfl (.fieldAddr rfl fo33_0 rfl (.yes rfl rfl rfl rfl (.load rfl (Ld.cell ag3 (cell_keep (((((((Xs.one hXp1)).eff hu1)).opsAt).row hu4).get (sub_cell ((((((Xs.one hXp1)).eff hu1)).op hu4)).resCs (((((((Xs.one hXp1)).eff hu1)).op hu4)).resOk).c0)) (Below.refl _ _))) rfl (.yes rfl rfl rfl rfl (.eqI rfl rfl rfl (.pickT rfl rfl rfl (.move rfl rfl ?_))))))))))
 have hbb8 : (decide (u4.res.k = 1)) = true := by simp [hs1.kids, hs1.effs, hs1.k, hs1.nm, hs1.at_, hs1.d, hs1.ops _ hu1, hs1.k0 _ hu2, hs1.k1 _ hu3, hs1.res _ hu1 _ hu4]
 refine .set (d := 92) (u := .bool true) rfl (congrArg Value.bool hbb8) (.yes rfl rfl rfl rfl (.move rfl rfl (.yes rfl rfl rfl rfl (.eqI rfl rfl rfl (.set (d := 94) (u := .bool true) rfl (congrArg Value.bool (by simp)) (.pickT rfl rfl rfl (.move rfl rfl (.yes rfl rfl rfl rfl (.move rfl rfl (.yes rfl rfl rfl rfl (.eqI rfl rfl rfl (.set (d := 98) (u := .bool true) rfl (congrArg Value.bool (by simp)) (.pickT rfl rfl rfl (.move rfl rfl (.yes rfl rfl rfl rfl (.load rfl (Ld.own ag35 (sz35.trans (congrArg some (((Xs.one hXp1)).bodyOk).size.symm)) hb5) rfl (.yes rfl rfl rfl rfl ?_)))))))))))))))))
 refine At.call en19 rfl rfl (Depth_any pr1.body _ ((Xs.one hXp1)).bodyOk) (fun e w13 hR => ?_)
 obtain ⟨rfl, hbl3⟩ := hR
 refine ⟨_, rfl, ?_⟩
 replace hb2 := Below.old hbl3 hb2
 replace hb4 := Below.old hbl3 hb4
 replace hb5 := Below.old hbl3 hb5
 replace hXp1 := Xs.below hXp1 hbl3
 replace hXp2 := Xs.below hXp2 hbl3
 replace hB := Below.andThen hB hbl3
 refine .yes rfl rfl rfl rfl (.eqI rfl rfl rfl (.pickT rfl rfl rfl (.assign rfl rfl (.ops0 (.thenN (.retc (.doneR (ResV.tmp rfl ResV.nil) ?_)))))))
 exact ⟨congrArg Ending.returned (congrArg Value.bool (by simp [hs1.kids, hs1.effs, hs1.k, hs1.nm, hs1.at_, hs1.d, hs1.ops _ hu1, hs1.k0 _ hu2, hs1.k1 _ hu3, hs1.res _ hu1 _ hu4])), hB⟩
end Go.Proofs.Ytkjmjnddanhapaa
