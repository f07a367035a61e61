/-
 The walks of what the Print statements begin with. Written by a program of ours.
-/
import Derived.Test.YtkclecfbjfdfkaaGreatDoorQ5
import Derived.Test.YtkclecfbjfdfkaaGreatDoorP6
set_option linter.unusedVariables false
set_option linter.unusedSimpArgs false
namespace Go.Proofs.YtkclecfbjfdfkaaGreatDoor
open Go.RowKit
theorem en13 : entB Tryz.prog 13 = true := by kernel_rfl
theorem en17 : entB Tryz.prog 17 = true := by kernel_rfl
theorem en9 : entB Tryz.prog 9 = true := by kernel_rfl
theorem sd33 : sizedB Tryz.prog 33 = true := by kernel_rfl
theorem sd35 : sizedB Tryz.prog 35 = true := by kernel_rfl
theorem ze35 : zeroB Tryz.prog 35 = some (.agg #[(.slice none 0 0), (.slice none 0 0), .int .i64 0, .int .i64 0, .string (⟨#[]⟩ : ByteArray), .string (⟨#[]⟩ : ByteArray), .int .i64 0, (.slice none 0 0), (.slice none 0 0), .int .i64 0, .string (⟨#[]⟩ : ByteArray), .int .i64 0, (.slice none 0 0), (.slice none 0 0), .int .i64 0, (.slice none 0 0), .int .i64 0, .int .i64 0, .string (⟨#[]⟩ : ByteArray), .int .i64 0, (.slice none 0 0), (.slice none 0 0), .int .i64 0]) := by kernel_rfl
theorem variable_any (s : ByteArray) (w : World)  :
  Calls Tryz.prog 17 ([.string s] : List Value).toArray w fun e w' => e = .returned (.agg (ownTm 1 0 s (⟨#[]⟩ : ByteArray) 0 (.slice none 0 0) []).cs) ∧ Below w.heap.size w w' := by
 have hB := Below.refl w.heap.size w
 refine At.enter (N := 5) Tryz.func17 rfl rfl (by simp) [(0, .string s)] (by simp) ?_
 refine At.seq ?_
 refine At.region ?_
 refine At.alloc ze33 rfl (fun b1 w1 F1 => ?_)
 have gb1 := F1.ge hB
 have hb1 : w1.heap[b1]? = some (.cells #[.int .i64 0, .int .i64 0, .string (⟨#[]⟩ : ByteArray), .string (⟨#[]⟩ : ByteArray), .int .i64 0, (.slice none 0 0), (.slice none 0 0), .int .i64 0, .string (⟨#[]⟩ : ByteArray), .int .i64 0, (.slice none 0 0), (.slice none 0 0), .int .i64 0, (.slice none 0 0), .int .i64 0, .int .i64 0, .string (⟨#[]⟩ : ByteArray), .int .i64 0, (.slice none 0 0), (.slice none 0 0), .int .i64 0] 33) := F1.new
 replace hB := F1.below' hB
 refine At.ops0 ?_
 refine At.thenN ?_
 refine At.seq ?_
 refine At.region ?_
 refine At.move rfl rfl ?_
 refine At.build (C := #[.int .i64 1, .int .i64 0, .string s, .string (⟨#[]⟩ : ByteArray), .int .i64 0, (.slice none 0 0), (.slice none 0 0), .int .i64 0, .string (⟨#[]⟩ : ByteArray), .int .i64 0, (.slice none 0 0), (.slice none 0 0), .int .i64 0, (.slice none 0 0), .int .i64 0, .int .i64 0, .string (⟨#[]⟩ : ByteArray), .int .i64 0, (.slice none 0 0), (.slice none 0 0), .int .i64 0]) sd33 ze33 rfl (Bld.cons fo33_0 rfl (by first | decide | exact Nat.le_of_ble_eq_true rfl) (Bld.cons fo33_2 rfl (by first | decide | exact Nat.le_of_ble_eq_true rfl) (Bld.nil _))) rfl ?_
 refine At.storeAll rfl rfl hb1 sz33 rfl (by first | (simp [Value.oneCell', ((SlOk.nil)).one, ((SlOk.nil)).one, ((SlOk.nil)).one, ((SlOk.nil)).one, ((SlOk.nil)).one, ((SlOk.nil)).one, ((SlOk.nil)).one]; done) | (simp only [List.all_toArray, List.all_cons, List.all_nil, ((SlOk.nil)).one, ((SlOk.nil)).one, ((SlOk.nil)).one, ((SlOk.nil)).one, ((SlOk.nil)).one, ((SlOk.nil)).one, ((SlOk.nil)).one, Bool.and_true, Bool.true_and]; rfl)) (fun w2 S1 => ?_)
 replace hb1 : w2.heap[b1]? = some (.cells #[.int .i64 1, .int .i64 0, .string s, .string (⟨#[]⟩ : ByteArray), .int .i64 0, (.slice none 0 0), (.slice none 0 0), .int .i64 0, .string (⟨#[]⟩ : ByteArray), .int .i64 0, (.slice none 0 0), (.slice none 0 0), .int .i64 0, (.slice none 0 0), .int .i64 0, .int .i64 0, .string (⟨#[]⟩ : ByteArray), .int .i64 0, (.slice none 0 0), (.slice none 0 0), .int .i64 0] 33) := S1.new
 replace hB := S1.below' hB gb1
 refine At.ops0 ?_
 refine At.thenN ?_
 refine At.retc ?_
 refine At.doneR (ResV.cell rfl (Ld.own (C := #[.int .i64 1, .int .i64 0, .string s, .string (⟨#[]⟩ : ByteArray), .int .i64 0, (.slice none 0 0), (.slice none 0 0), .int .i64 0, .string (⟨#[]⟩ : ByteArray), .int .i64 0, (.slice none 0 0), (.slice none 0 0), .int .i64 0, (.slice none 0 0), .int .i64 0, .int .i64 0, .string (⟨#[]⟩ : ByteArray), .int .i64 0, (.slice none 0 0), (.slice none 0 0), .int .i64 0]) ag33 sz33 hb1) ResV.nil) ?_
 exact ⟨rfl, hB⟩
theorem shown_any (m : Int) (w : World) (hm : w.cell? ⟨0, 0, none⟩ = some (.int .i64 m)) (htab : Tab w) :
  Calls Tryz.prog 7 ([] : List Value).toArray w fun e w' => e = .returned (.bool true) ∧ Below w.heap.size w w' := by
 have hB := Below.refl w.heap.size w
 refine At.enter (N := 72) Tryz.func7 rfl rfl (by simp) [] (by simp) ?_
 refine At.seq ?_
 refine At.region ?_
 refine At.assign rfl rfl ?_
 refine At.ops0 ?_
 refine At.thenN ?_
 refine At.seq ?_
 refine At.region ?_
 refine At.call en17 rfl rfl (variable_any (⟨#[102]⟩ : ByteArray) _) (fun e w1 hR => ?_)
 obtain ⟨rfl, hbl1⟩ := hR
 refine ⟨_, rfl, ?_⟩
 replace hB := Below.andThen hB hbl1
 refine At.call en17 rfl rfl (variable_any (⟨#[120]⟩ : ByteArray) _) (fun e w2 hR => ?_)
 obtain ⟨rfl, hbl2⟩ := hR
 refine ⟨_, rfl, ?_⟩
 replace hB := Below.andThen hB hbl2
 refine At.buildSlice (xs := [.tmp 10, .tmp 11]) rfl rfl el24 sz33 ze33 (by intro v hv; simp only [List.mem_cons, List.not_mem_nil, or_false] at hv; rcases hv with rfl | rfl <;> first | rfl | simp [Value.cells, ((ownTm_leaf _ 1 0 (⟨#[102]⟩ : ByteArray) (⟨#[]⟩ : ByteArray) 0)).size, ((ownTm_leaf _ 1 0 (⟨#[120]⟩ : ByteArray) (⟨#[]⟩ : ByteArray) 0)).size]) rfl (by decide) rfl (fun b1 w3 F1 => ?_)
 have gb1 := F1.ge hB
 have hb1 : w3.heap[b1]? = some (.cells (([(ownTm 1 0 (⟨#[102]⟩ : ByteArray) (⟨#[]⟩ : ByteArray) 0 (.slice none 0 0) []), (ownTm 1 0 (⟨#[120]⟩ : ByteArray) (⟨#[]⟩ : ByteArray) 0 (.slice none 0 0) [])].map Tm.cs).flatMap (·.toList)).toArray 33) := F1.new
 replace hB := F1.below' hB
 refine At.build (C := #[.int .i64 6, .int .i64 0, .string (⟨#[]⟩ : ByteArray), .string (⟨#[]⟩ : ByteArray), .int .i64 0, (.slice (some ⟨b1, 0, none⟩) 2 2), (.slice none 0 0), .int .i64 0, .string (⟨#[]⟩ : ByteArray), .int .i64 0, (.slice none 0 0), (.slice none 0 0), .int .i64 0, (.slice none 0 0), .int .i64 0, .int .i64 0, .string (⟨#[]⟩ : ByteArray), .int .i64 0, (.slice none 0 0), (.slice none 0 0), .int .i64 0]) sd33 ze33 rfl (Bld.cons fo33_0 rfl (by first | decide | exact Nat.le_of_ble_eq_true rfl) (Bld.cons fo33_5 rfl (by first | decide | exact Nat.le_of_ble_eq_true rfl) (Bld.nil _))) rfl ?_
 refine At.alloc ze33 rfl (fun b2 w4 F2 => ?_)
 have n_b1_b2 : b1 ≠ b2 := Nat.ne_of_lt (F2.lt hb1)
 have gb2 := F2.ge hB
 replace hb1 := F2.old hb1
 have hb2 : w4.heap[b2]? = some (.cells #[.int .i64 0, .int .i64 0, .string (⟨#[]⟩ : ByteArray), .string (⟨#[]⟩ : ByteArray), .int .i64 0, (.slice none 0 0), (.slice none 0 0), .int .i64 0, .string (⟨#[]⟩ : ByteArray), .int .i64 0, (.slice none 0 0), (.slice none 0 0), .int .i64 0, (.slice none 0 0), .int .i64 0, .int .i64 0, .string (⟨#[]⟩ : ByteArray), .int .i64 0, (.slice none 0 0), (.slice none 0 0), .int .i64 0] 33) := F2.new
 replace hB := F2.below' hB
 refine At.storeAll rfl rfl hb2 sz33 rfl (by first | (simp [Value.oneCell', ((SlOk.nil)).one, ((SlOk.nil)).one, ((SlOk.nil)).one, ((SlOk.nil)).one, ((SlOk.nil)).one, ((SlOk.nil)).one]; done) | (simp only [List.all_toArray, List.all_cons, List.all_nil, ((SlOk.nil)).one, ((SlOk.nil)).one, ((SlOk.nil)).one, ((SlOk.nil)).one, ((SlOk.nil)).one, ((SlOk.nil)).one, Bool.and_true, Bool.true_and]; rfl)) (fun w5 S1 => ?_)
 replace hb1 := S1.other hb1 n_b1_b2
 replace hb2 : w5.heap[b2]? = some (.cells #[.int .i64 6, .int .i64 0, .string (⟨#[]⟩ : ByteArray), .string (⟨#[]⟩ : ByteArray), .int .i64 0, (.slice (some ⟨b1, 0, none⟩) 2 2), (.slice none 0 0), .int .i64 0, .string (⟨#[]⟩ : ByteArray), .int .i64 0, (.slice none 0 0), (.slice none 0 0), .int .i64 0, (.slice none 0 0), .int .i64 0, .int .i64 0, .string (⟨#[]⟩ : ByteArray), .int .i64 0, (.slice none 0 0), (.slice none 0 0), .int .i64 0] 33) := S1.new
 replace hB := S1.below' hB gb2
 refine At.ops0 ?_
 refine At.thenN ?_
 refine At.seq ?_
 refine At.region ?_
 refine At.load rfl (Ld.own (C := #[.int .i64 6, .int .i64 0, .string (⟨#[]⟩ : ByteArray), .string (⟨#[]⟩ : ByteArray), .int .i64 0, (.slice (some ⟨b1, 0, none⟩) 2 2), (.slice none 0 0), .int .i64 0, .string (⟨#[]⟩ : ByteArray), .int .i64 0, (.slice none 0 0), (.slice none 0 0), .int .i64 0, (.slice none 0 0), .int .i64 0, .int .i64 0, .string (⟨#[]⟩ : ByteArray), .int .i64 0, (.slice none 0 0), (.slice none 0 0), .int .i64 0]) ag33 sz33 hb2) rfl ?_
 refine At.build (C := #[.int .i64 2, .int .i64 0, .string (⟨#[]⟩ : ByteArray), .string (⟨#[]⟩ : ByteArray), .int .i64 1, (.slice none 0 0), (.slice none 0 0), .int .i64 0, .string (⟨#[]⟩ : ByteArray), .int .i64 0, (.slice none 0 0), (.slice none 0 0), .int .i64 0, (.slice none 0 0), .int .i64 0, .int .i64 0, .string (⟨#[]⟩ : ByteArray), .int .i64 0, (.slice none 0 0), (.slice none 0 0), .int .i64 0]) sd33 ze33 rfl (Bld.cons fo33_0 rfl (by first | decide | exact Nat.le_of_ble_eq_true rfl) (Bld.cons fo33_4 rfl (by first | decide | exact Nat.le_of_ble_eq_true rfl) (Bld.nil _))) rfl ?_
 refine At.buildSlice (xs := [.tmp 15, .tmp 16]) rfl rfl el24 sz33 ze33 (by intro v hv; simp only [List.mem_cons, List.not_mem_nil, or_false] at hv; rcases hv with rfl | rfl <;> first | rfl | simp [Value.cells, ((ownTm_ok (m := 2) 6 0 (⟨#[]⟩ : ByteArray) (⟨#[]⟩ : ByteArray) 0 hb1 (mem2 (((ownTm_leaf _ 1 0 (⟨#[102]⟩ : ByteArray) (⟨#[]⟩ : ByteArray) 0)).keep (Below.refl _ _)) (((ownTm_leaf _ 1 0 (⟨#[120]⟩ : ByteArray) (⟨#[]⟩ : ByteArray) 0)).keep (Below.refl _ _))) rfl (by decide))).size, ((ownTm_leaf _ 2 0 (⟨#[]⟩ : ByteArray) (⟨#[]⟩ : ByteArray) 1)).size]) rfl (by decide) rfl (fun b3 w6 F3 => ?_)
 have n_b1_b3 : b1 ≠ b3 := Nat.ne_of_lt (F3.lt hb1)
 have n_b2_b3 : b2 ≠ b3 := Nat.ne_of_lt (F3.lt hb2)
 have gb3 := F3.ge hB
 replace hb1 := F3.old hb1
 replace hb2 := F3.old hb2
 have hb3 : w6.heap[b3]? = some (.cells (([(ownTm 6 0 (⟨#[]⟩ : ByteArray) (⟨#[]⟩ : ByteArray) 0 (.slice (some ⟨b1, 0, none⟩) 2 2) [(ownTm 1 0 (⟨#[102]⟩ : ByteArray) (⟨#[]⟩ : ByteArray) 0 (.slice none 0 0) []), (ownTm 1 0 (⟨#[120]⟩ : ByteArray) (⟨#[]⟩ : ByteArray) 0 (.slice none 0 0) [])]), (ownTm 2 0 (⟨#[]⟩ : ByteArray) (⟨#[]⟩ : ByteArray) 1 (.slice none 0 0) [])].map Tm.cs).flatMap (·.toList)).toArray 33) := F3.new
 replace hB := F3.below' hB
 refine At.build (C := #[.int .i64 10, .int .i64 0, .string (⟨#[43]⟩ : ByteArray), .string (⟨#[]⟩ : ByteArray), .int .i64 0, (.slice (some ⟨b3, 0, none⟩) 2 2), (.slice none 0 0), .int .i64 0, .string (⟨#[]⟩ : ByteArray), .int .i64 0, (.slice none 0 0), (.slice none 0 0), .int .i64 0, (.slice none 0 0), .int .i64 0, .int .i64 0, .string (⟨#[]⟩ : ByteArray), .int .i64 0, (.slice none 0 0), (.slice none 0 0), .int .i64 0]) sd33 ze33 rfl (Bld.cons fo33_0 rfl (by first | decide | exact Nat.le_of_ble_eq_true rfl) (Bld.cons fo33_2 rfl (by first | decide | exact Nat.le_of_ble_eq_true rfl) (Bld.cons fo33_5 rfl (by first | decide | exact Nat.le_of_ble_eq_true rfl) (Bld.nil _)))) rfl ?_
 refine At.call en13 rfl rfl (term_any (ownTm 10 0 (⟨#[43]⟩ : ByteArray) (⟨#[]⟩ : ByteArray) 0 (.slice (some ⟨b3, 0, none⟩) 2 2) [(ownTm 6 0 (⟨#[]⟩ : ByteArray) (⟨#[]⟩ : ByteArray) 0 (.slice (some ⟨b1, 0, none⟩) 2 2) [(ownTm 1 0 (⟨#[102]⟩ : ByteArray) (⟨#[]⟩ : ByteArray) 0 (.slice none 0 0) []), (ownTm 1 0 (⟨#[120]⟩ : ByteArray) (⟨#[]⟩ : ByteArray) 0 (.slice none 0 0) [])]), (ownTm 2 0 (⟨#[]⟩ : ByteArray) (⟨#[]⟩ : ByteArray) 1 (.slice none 0 0) [])]) m _ (((ownTm_ok (m := 2) 10 0 (⟨#[43]⟩ : ByteArray) (⟨#[]⟩ : ByteArray) 0 hb3 (mem2 (((ownTm_ok (m := 2) 6 0 (⟨#[]⟩ : ByteArray) (⟨#[]⟩ : ByteArray) 0 hb1 (mem2 (((ownTm_leaf _ 1 0 (⟨#[102]⟩ : ByteArray) (⟨#[]⟩ : ByteArray) 0)).keep (Below.refl _ _)) (((ownTm_leaf _ 1 0 (⟨#[120]⟩ : ByteArray) (⟨#[]⟩ : ByteArray) 0)).keep (Below.refl _ _))) rfl (by decide))).keep (Below.refl _ _)) (((ownTm_leaf _ 2 0 (⟨#[]⟩ : ByteArray) (⟨#[]⟩ : ByteArray) 1)).keep (Below.refl _ _))) rfl (by decide))).keep (Below.refl _ _)) (by refine sz_own _ _ _ _ _ _ _ (by decide) (by decide) (by decide) ?_; simp only [szL, szA, szT, ownTm] <;> decide) (cell_keep hm hB) (tab_keep htab hB) (fun _ => (sh_few _ _).1)) (fun e w7 hR => ?_)
 obtain ⟨rfl, hbl3⟩ := hR
 refine ⟨_, rfl, ?_⟩
 replace hb1 := Below.old hbl3 hb1
 replace hb2 := Below.old hbl3 hb2
 replace hb3 := Below.old hbl3 hb3
 replace hB := Below.andThen hB hbl3
 refine At.move rfl rfl ?_
 refine At.extract rfl rfl rfl ?_
 refine At.extract rfl rfl rfl ?_
 refine At.assign rfl rfl ?_
 refine At.assign rfl rfl ?_
 refine At.ops0 ?_
 refine At.thenN ?_
 refine At.seq ?_
 refine At.drawG (n := 10) mixed (by kernel_rfl) rfl (PanicOk.then PanicOk.body) ?_
 have hB := Below.drewB hB
 have hb1 : _ := (show w7.drew.heap[b1]? = _ from hb1)
 have hb2 : _ := (show w7.drew.heap[b2]? = _ from hb2)
 have hb3 : _ := (show w7.drew.heap[b3]? = _ from hb3)
 refine At.wpcS (i := 0) (d := 23) (.agg #[.int .i64 6, .int .i64 0, .string (⟨#[]⟩ : ByteArray), .string (⟨#[]⟩ : ByteArray), .int .i64 0, (.slice (some ⟨b1, 0, none⟩) 2 2), (.slice none 0 0), .int .i64 0, .string (⟨#[]⟩ : ByteArray), .int .i64 0, (.slice none 0 0), (.slice none 0 0), .int .i64 0, (.slice none 0 0), .int .i64 0, .int .i64 0, .string (⟨#[]⟩ : ByteArray), .int .i64 0, (.slice none 0 0), (.slice none 0 0), .int .i64 0]) (by kernel_rfl) rfl rfl rfl (fun Lx => ?_) ?_
 ·skip
  refine At.load rfl (Ld.own (C := #[.int .i64 6, .int .i64 0, .string (⟨#[]⟩ : ByteArray), .string (⟨#[]⟩ : ByteArray), .int .i64 0, (.slice (some ⟨b1, 0, none⟩) 2 2), (.slice none 0 0), .int .i64 0, .string (⟨#[]⟩ : ByteArray), .int .i64 0, (.slice none 0 0), (.slice none 0 0), .int .i64 0, (.slice none 0 0), .int .i64 0, .int .i64 0, .string (⟨#[]⟩ : ByteArray), .int .i64 0, (.slice none 0 0), (.slice none 0 0), .int .i64 0]) ag33 sz33 hb2) rfl ?_
  refine At.ops0 ?_
  exact fun a ha => ⟨ha, rfl⟩
 refine At.wpcE [1] (by kernel_rfl) (by kernel_rfl) (.cons [0] rfl (by kernel_rfl) ?_ .nil)
 refine At.call en17 rfl rfl (variable_any (⟨#[121]⟩ : ByteArray) _) (fun e w8 hR => ?_)
 obtain ⟨rfl, hbl4⟩ := hR
 refine ⟨_, rfl, ?_⟩
 replace hb1 := Below.old hbl4 hb1
 replace hb2 := Below.old hbl4 hb2
 replace hb3 := Below.old hbl4 hb3
 replace hB := Below.andThen hB hbl4
 refine At.ops0 ?_
 refine At.wpcN (.cons rfl rfl rfl rfl (fun Lx => ?_) .nil) ?_
 ·skip
  refine At.load rfl (Ld.own (C := #[.int .i64 6, .int .i64 0, .string (⟨#[]⟩ : ByteArray), .string (⟨#[]⟩ : ByteArray), .int .i64 0, (.slice (some ⟨b1, 0, none⟩) 2 2), (.slice none 0 0), .int .i64 0, .string (⟨#[]⟩ : ByteArray), .int .i64 0, (.slice none 0 0), (.slice none 0 0), .int .i64 0, (.slice none 0 0), .int .i64 0, .int .i64 0, .string (⟨#[]⟩ : ByteArray), .int .i64 0, (.slice none 0 0), (.slice none 0 0), .int .i64 0]) ag33 sz33 hb2) rfl ?_
  refine At.ops0 ?_
  exact fun a ha => ⟨ha, rfl⟩
 refine At.wpcE [2] (by kernel_rfl) (by kernel_rfl) (.cons [] rfl (by kernel_rfl) ?_ .nil)
 refine At.buildSlice (xs := [.tmp 23, .tmp 24]) rfl rfl el24 sz33 ze33 (by intro v hv; simp only [List.mem_cons, List.not_mem_nil, or_false] at hv; rcases hv with rfl | rfl <;> first | rfl | simp [Value.cells, ((ownTm_ok (m := 2) 6 0 (⟨#[]⟩ : ByteArray) (⟨#[]⟩ : ByteArray) 0 hb1 (mem2 (((ownTm_leaf _ 1 0 (⟨#[102]⟩ : ByteArray) (⟨#[]⟩ : ByteArray) 0)).keep (Below.refl _ _)) (((ownTm_leaf _ 1 0 (⟨#[120]⟩ : ByteArray) (⟨#[]⟩ : ByteArray) 0)).keep (Below.refl _ _))) rfl (by decide))).size, ((ownTm_leaf _ 1 0 (⟨#[121]⟩ : ByteArray) (⟨#[]⟩ : ByteArray) 0)).size]) rfl (by decide) rfl (fun b4 w9 F4 => ?_)
 have n_b1_b4 : b1 ≠ b4 := Nat.ne_of_lt (F4.lt hb1)
 have n_b2_b4 : b2 ≠ b4 := Nat.ne_of_lt (F4.lt hb2)
 have n_b3_b4 : b3 ≠ b4 := Nat.ne_of_lt (F4.lt hb3)
 have gb4 := F4.ge hB
 replace hb1 := F4.old hb1
 replace hb2 := F4.old hb2
 replace hb3 := F4.old hb3
 have hb4 : w9.heap[b4]? = some (.cells (([(ownTm 6 0 (⟨#[]⟩ : ByteArray) (⟨#[]⟩ : ByteArray) 0 (.slice (some ⟨b1, 0, none⟩) 2 2) [(ownTm 1 0 (⟨#[102]⟩ : ByteArray) (⟨#[]⟩ : ByteArray) 0 (.slice none 0 0) []), (ownTm 1 0 (⟨#[120]⟩ : ByteArray) (⟨#[]⟩ : ByteArray) 0 (.slice none 0 0) [])]), (ownTm 1 0 (⟨#[121]⟩ : ByteArray) (⟨#[]⟩ : ByteArray) 0 (.slice none 0 0) [])].map Tm.cs).flatMap (·.toList)).toArray 33) := F4.new
 replace hB := F4.below' hB
 refine At.ops0 ?_
 refine At.wpcN .nil ?_
 refine At.wpcS (i := 3) (d := 26) (.agg #[.int .i64 6, .int .i64 0, .string (⟨#[]⟩ : ByteArray), .string (⟨#[]⟩ : ByteArray), .int .i64 0, (.slice (some ⟨b4, 0, none⟩) 2 2), (.slice none 0 0), .int .i64 0, .string (⟨#[]⟩ : ByteArray), .int .i64 0, (.slice none 0 0), (.slice none 0 0), .int .i64 0, (.slice none 0 0), .int .i64 0, .int .i64 0, .string (⟨#[]⟩ : ByteArray), .int .i64 0, (.slice none 0 0), (.slice none 0 0), .int .i64 0]) (by kernel_rfl) rfl rfl rfl (fun Lx => ?_) ?_
 ·skip
  refine At.build (C := #[.int .i64 6, .int .i64 0, .string (⟨#[]⟩ : ByteArray), .string (⟨#[]⟩ : ByteArray), .int .i64 0, (.slice (some ⟨b4, 0, none⟩) 2 2), (.slice none 0 0), .int .i64 0, .string (⟨#[]⟩ : ByteArray), .int .i64 0, (.slice none 0 0), (.slice none 0 0), .int .i64 0, (.slice none 0 0), .int .i64 0, .int .i64 0, .string (⟨#[]⟩ : ByteArray), .int .i64 0, (.slice none 0 0), (.slice none 0 0), .int .i64 0]) sd33 ze33 rfl (Bld.cons fo33_0 rfl (by first | decide | exact Nat.le_of_ble_eq_true rfl) (Bld.cons fo33_5 rfl (by first | decide | exact Nat.le_of_ble_eq_true rfl) (Bld.nil _))) rfl ?_
  refine At.ops0 ?_
  exact fun a ha => ⟨ha, rfl⟩
 refine At.wpcE [4] (by kernel_rfl) (by kernel_rfl) (.cons [] rfl (by kernel_rfl) ?_ .nil)
 refine At.call en13 rfl rfl (term_any (ownTm 6 0 (⟨#[]⟩ : ByteArray) (⟨#[]⟩ : ByteArray) 0 (.slice (some ⟨b4, 0, none⟩) 2 2) [(ownTm 6 0 (⟨#[]⟩ : ByteArray) (⟨#[]⟩ : ByteArray) 0 (.slice (some ⟨b1, 0, none⟩) 2 2) [(ownTm 1 0 (⟨#[102]⟩ : ByteArray) (⟨#[]⟩ : ByteArray) 0 (.slice none 0 0) []), (ownTm 1 0 (⟨#[120]⟩ : ByteArray) (⟨#[]⟩ : ByteArray) 0 (.slice none 0 0) [])]), (ownTm 1 0 (⟨#[121]⟩ : ByteArray) (⟨#[]⟩ : ByteArray) 0 (.slice none 0 0) [])]) m _ (((ownTm_ok (m := 2) 6 0 (⟨#[]⟩ : ByteArray) (⟨#[]⟩ : ByteArray) 0 hb4 (mem2 (((ownTm_ok (m := 2) 6 0 (⟨#[]⟩ : ByteArray) (⟨#[]⟩ : ByteArray) 0 hb1 (mem2 (((ownTm_leaf _ 1 0 (⟨#[102]⟩ : ByteArray) (⟨#[]⟩ : ByteArray) 0)).keep (Below.refl _ _)) (((ownTm_leaf _ 1 0 (⟨#[120]⟩ : ByteArray) (⟨#[]⟩ : ByteArray) 0)).keep (Below.refl _ _))) rfl (by decide))).keep (Below.refl _ _)) (((ownTm_leaf _ 1 0 (⟨#[121]⟩ : ByteArray) (⟨#[]⟩ : ByteArray) 0)).keep (Below.refl _ _))) rfl (by decide))).keep (Below.refl _ _)) (by refine sz_own _ _ _ _ _ _ _ (by decide) (by decide) (by decide) ?_; simp only [szL, szA, szT, ownTm] <;> decide) (cell_keep hm hB) (tab_keep htab hB) (fun _ => (sh_few _ _).2.1)) (fun e w10 hR => ?_)
 obtain ⟨rfl, hbl5⟩ := hR
 refine ⟨_, rfl, ?_⟩
 replace hb1 := Below.old hbl5 hb1
 replace hb2 := Below.old hbl5 hb2
 replace hb3 := Below.old hbl5 hb3
 replace hb4 := Below.old hbl5 hb4
 replace hB := Below.andThen hB hbl5
 refine At.ops0 ?_
 refine At.wpcN .nil ?_
 refine At.wpcS (i := 5) (d := 22) (.tuple #[.string (bs (termL (ownTm 6 0 (⟨#[]⟩ : ByteArray) (⟨#[]⟩ : ByteArray) 0 (.slice (some ⟨b4, 0, none⟩) 2 2) [(ownTm 6 0 (⟨#[]⟩ : ByteArray) (⟨#[]⟩ : ByteArray) 0 (.slice (some ⟨b1, 0, none⟩) 2 2) [(ownTm 1 0 (⟨#[102]⟩ : ByteArray) (⟨#[]⟩ : ByteArray) 0 (.slice none 0 0) []), (ownTm 1 0 (⟨#[120]⟩ : ByteArray) (⟨#[]⟩ : ByteArray) 0 (.slice none 0 0) [])]), (ownTm 1 0 (⟨#[121]⟩ : ByteArray) (⟨#[]⟩ : ByteArray) 0 (.slice none 0 0) [])]))), .int .i64 (if writtenB (ownTm 6 0 (⟨#[]⟩ : ByteArray) (⟨#[]⟩ : ByteArray) 0 (.slice (some ⟨b4, 0, none⟩) 2 2) [(ownTm 6 0 (⟨#[]⟩ : ByteArray) (⟨#[]⟩ : ByteArray) 0 (.slice (some ⟨b1, 0, none⟩) 2 2) [(ownTm 1 0 (⟨#[102]⟩ : ByteArray) (⟨#[]⟩ : ByteArray) 0 (.slice none 0 0) []), (ownTm 1 0 (⟨#[120]⟩ : ByteArray) (⟨#[]⟩ : ByteArray) 0 (.slice none 0 0) [])]), (ownTm 1 0 (⟨#[121]⟩ : ByteArray) (⟨#[]⟩ : ByteArray) 0 (.slice none 0 0) [])]) then (0 : Int) else 1)]) (by kernel_rfl) rfl rfl rfl (fun Lx => ?_) ?_
 ·skip
  refine At.move rfl rfl ?_
  refine At.ops0 ?_
  exact fun a ha => ⟨ha, rfl⟩
 refine At.wpcS (i := 6) (d := 28) (.string (bs (termL (ownTm 6 0 (⟨#[]⟩ : ByteArray) (⟨#[]⟩ : ByteArray) 0 (.slice (some ⟨b4, 0, none⟩) 2 2) [(ownTm 6 0 (⟨#[]⟩ : ByteArray) (⟨#[]⟩ : ByteArray) 0 (.slice (some ⟨b1, 0, none⟩) 2 2) [(ownTm 1 0 (⟨#[102]⟩ : ByteArray) (⟨#[]⟩ : ByteArray) 0 (.slice none 0 0) []), (ownTm 1 0 (⟨#[120]⟩ : ByteArray) (⟨#[]⟩ : ByteArray) 0 (.slice none 0 0) [])]), (ownTm 1 0 (⟨#[121]⟩ : ByteArray) (⟨#[]⟩ : ByteArray) 0 (.slice none 0 0) [])])))) (by kernel_rfl) rfl rfl rfl (fun Lx => ?_) ?_
 ·skip
  refine At.extract rfl rfl rfl ?_
  refine At.ops0 ?_
  exact fun a ha => ⟨ha, rfl⟩
 refine At.wpcS (i := 7) (d := 29) (.int .i64 (if writtenB (ownTm 6 0 (⟨#[]⟩ : ByteArray) (⟨#[]⟩ : ByteArray) 0 (.slice (some ⟨b4, 0, none⟩) 2 2) [(ownTm 6 0 (⟨#[]⟩ : ByteArray) (⟨#[]⟩ : ByteArray) 0 (.slice (some ⟨b1, 0, none⟩) 2 2) [(ownTm 1 0 (⟨#[102]⟩ : ByteArray) (⟨#[]⟩ : ByteArray) 0 (.slice none 0 0) []), (ownTm 1 0 (⟨#[120]⟩ : ByteArray) (⟨#[]⟩ : ByteArray) 0 (.slice none 0 0) [])]), (ownTm 1 0 (⟨#[121]⟩ : ByteArray) (⟨#[]⟩ : ByteArray) 0 (.slice none 0 0) [])]) then (0 : Int) else 1)) (by kernel_rfl) rfl rfl rfl (fun Lx => ?_) ?_
 ·skip
  refine At.extract rfl rfl rfl ?_
  refine At.ops0 ?_
  exact fun a ha => ⟨ha, rfl⟩
 refine At.wpcE [8] (by kernel_rfl) (by kernel_rfl) (.cons [7] rfl (by kernel_rfl) ?_ .nil)
 refine At.assign rfl rfl ?_
 refine At.ops0 ?_
 refine At.wpcN (.cons rfl rfl rfl rfl (fun Lx => ?_) .nil) ?_
 ·skip
  refine At.extract rfl rfl rfl ?_
  refine At.ops0 ?_
  exact fun a ha => ⟨ha, rfl⟩
 refine At.wpcE [9] (by kernel_rfl) (by kernel_rfl) (.cons [] rfl (by kernel_rfl) ?_ .nil)
 refine At.assign rfl rfl ?_
 refine At.ops0 ?_
 refine At.wpcN .nil ?_
 refine At.wpcZ ?_
 refine At.thenN ?_
 refine At.seq ?_
 refine At.region ?_
 refine At.build (C := #[(.slice none 0 0), (.slice none 0 0), .int .i64 0, .int .i64 0, .string (⟨#[]⟩ : ByteArray), .string (⟨#[]⟩ : ByteArray), .int .i64 0, (.slice none 0 0), (.slice none 0 0), .int .i64 0, .string (⟨#[]⟩ : ByteArray), .int .i64 0, (.slice none 0 0), (.slice none 0 0), .int .i64 0, (.slice none 0 0), .int .i64 0, .int .i64 0, .string (⟨#[]⟩ : ByteArray), .int .i64 0, (.slice none 0 0), (.slice none 0 0), .int .i64 0]) sd35 ze35 rfl (Bld.nil _) rfl ?_
 refine At.set (d := 31) (u := .agg (mkPr (.slice none 0 0) (.slice none 0 0) [] [] (ownTm 0 0 (⟨#[]⟩ : ByteArray) (⟨#[]⟩ : ByteArray) 0 (.slice none 0 0) [])).cs) rfl (congrArg Value.agg rfl) ?_
 refine At.call en9 rfl rfl (print_any (mkPr (.slice none 0 0) (.slice none 0 0) [] [] (ownTm 0 0 (⟨#[]⟩ : ByteArray) (⟨#[]⟩ : ByteArray) 0 (.slice none 0 0) [])) m _ (((mkPr_ok (RowsAt.nil _ 2) (RowsAt.nil _ 2) (fun _ h => by cases h) (fun _ h => by cases h) (((ownTm_leaf _ 0 0 (⟨#[]⟩ : ByteArray) (⟨#[]⟩ : ByteArray) 0)).keep (Below.refl _ _)))).keep (Below.refl _ _)) (⟨(fun x h => by cases h), (fun x h => by cases h), (by refine sz_own _ _ _ _ _ _ _ (by decide) (by decide) (by decide) ?_; simp only [szL, szA, szT, ownTm] <;> decide)⟩) (cell_keep hm hB) (tab_keep htab hB) (fun h => by rw [right_bodyPr, zero_written] at h; cases h)) (fun e w11 hR => ?_)
 obtain ⟨rfl, hbl6⟩ := hR
 refine ⟨_, rfl, ?_⟩
 replace hb1 := Below.old hbl6 hb1
 replace hb2 := Below.old hbl6 hb2
 replace hb3 := Below.old hbl6 hb3
 replace hb4 := Below.old hbl6 hb4
 replace hB := Below.andThen hB hbl6
 refine At.move rfl rfl ?_
 refine At.extract rfl rfl rfl ?_
 refine At.extract rfl rfl rfl ?_
 refine At.assign rfl rfl ?_
 refine At.assign rfl rfl ?_
 refine At.ops0 ?_
 refine At.thenN ?_
 refine At.seq ?_
 refine At.region ?_
 refine At.load rfl (Ld.own (C := #[.int .i64 6, .int .i64 0, .string (⟨#[]⟩ : ByteArray), .string (⟨#[]⟩ : ByteArray), .int .i64 0, (.slice (some ⟨b1, 0, none⟩) 2 2), (.slice none 0 0), .int .i64 0, .string (⟨#[]⟩ : ByteArray), .int .i64 0, (.slice none 0 0), (.slice none 0 0), .int .i64 0, (.slice none 0 0), .int .i64 0, .int .i64 0, .string (⟨#[]⟩ : ByteArray), .int .i64 0, (.slice none 0 0), (.slice none 0 0), .int .i64 0]) ag33 sz33 hb2) rfl ?_
 refine At.build (C := splice #[(.slice none 0 0), (.slice none 0 0), .int .i64 0, .int .i64 0, .string (⟨#[]⟩ : ByteArray), .string (⟨#[]⟩ : ByteArray), .int .i64 0, (.slice none 0 0), (.slice none 0 0), .int .i64 0, .string (⟨#[]⟩ : ByteArray), .int .i64 0, (.slice none 0 0), (.slice none 0 0), .int .i64 0, (.slice none 0 0), .int .i64 0, .int .i64 0, .string (⟨#[]⟩ : ByteArray), .int .i64 0, (.slice none 0 0), (.slice none 0 0), .int .i64 0] 2 (ownTm 6 0 (⟨#[]⟩ : ByteArray) (⟨#[]⟩ : ByteArray) 0 (.slice (some ⟨b1, 0, none⟩) 2 2) [(ownTm 1 0 (⟨#[102]⟩ : ByteArray) (⟨#[]⟩ : ByteArray) 0 (.slice none 0 0) []), (ownTm 1 0 (⟨#[120]⟩ : ByteArray) (⟨#[]⟩ : ByteArray) 0 (.slice none 0 0) [])]).cs) sd35 ze35 rfl (Bld.cons fo35_2 ((ownTm_ok (m := 2) 6 0 (⟨#[]⟩ : ByteArray) (⟨#[]⟩ : ByteArray) 0 hb1 (mem2 (((ownTm_leaf _ 1 0 (⟨#[102]⟩ : ByteArray) (⟨#[]⟩ : ByteArray) 0)).keep (Below.refl _ _)) (((ownTm_leaf _ 1 0 (⟨#[120]⟩ : ByteArray) (⟨#[]⟩ : ByteArray) 0)).keep (Below.refl _ _))) rfl (by decide))).size (by decide) (Bld.nil _)) rfl ?_
 refine At.set (d := 37) (u := .agg (mkPr (.slice none 0 0) (.slice none 0 0) [] [] (ownTm 6 0 (⟨#[]⟩ : ByteArray) (⟨#[]⟩ : ByteArray) 0 (.slice (some ⟨b1, 0, none⟩) 2 2) [(ownTm 1 0 (⟨#[102]⟩ : ByteArray) (⟨#[]⟩ : ByteArray) 0 (.slice none 0 0) []), (ownTm 1 0 (⟨#[120]⟩ : ByteArray) (⟨#[]⟩ : ByteArray) 0 (.slice none 0 0) [])])).cs) rfl (congrArg Value.agg (splice_pr (by simp) ((ownTm_ok (m := 2) 6 0 (⟨#[]⟩ : ByteArray) (⟨#[]⟩ : ByteArray) 0 hb1 (mem2 (((ownTm_leaf _ 1 0 (⟨#[102]⟩ : ByteArray) (⟨#[]⟩ : ByteArray) 0)).keep (Below.refl _ _)) (((ownTm_leaf _ 1 0 (⟨#[120]⟩ : ByteArray) (⟨#[]⟩ : ByteArray) 0)).keep (Below.refl _ _))) rfl (by decide))).size rfl rfl)) ?_
 refine At.call en9 rfl rfl (print_any (mkPr (.slice none 0 0) (.slice none 0 0) [] [] (ownTm 6 0 (⟨#[]⟩ : ByteArray) (⟨#[]⟩ : ByteArray) 0 (.slice (some ⟨b1, 0, none⟩) 2 2) [(ownTm 1 0 (⟨#[102]⟩ : ByteArray) (⟨#[]⟩ : ByteArray) 0 (.slice none 0 0) []), (ownTm 1 0 (⟨#[120]⟩ : ByteArray) (⟨#[]⟩ : ByteArray) 0 (.slice none 0 0) [])])) m _ (((mkPr_ok (RowsAt.nil _ 2) (RowsAt.nil _ 2) (fun _ h => by cases h) (fun _ h => by cases h) (((ownTm_ok (m := 2) 6 0 (⟨#[]⟩ : ByteArray) (⟨#[]⟩ : ByteArray) 0 hb1 (mem2 (((ownTm_leaf _ 1 0 (⟨#[102]⟩ : ByteArray) (⟨#[]⟩ : ByteArray) 0)).keep (Below.refl _ _)) (((ownTm_leaf _ 1 0 (⟨#[120]⟩ : ByteArray) (⟨#[]⟩ : ByteArray) 0)).keep (Below.refl _ _))) rfl (by decide))).keep (Below.refl _ _)))).keep (Below.refl _ _)) (⟨(fun x h => by cases h), (fun x h => by cases h), (by refine sz_own _ _ _ _ _ _ _ (by decide) (by decide) (by decide) ?_; simp only [szL, szA, szT, ownTm] <;> decide)⟩) (cell_keep hm hB) (tab_keep htab hB) (fun _ => by rw [print_bodyPr]; exact (sh_few _ .nilFunc).2.2)) (fun e w12 hR => ?_)
 obtain ⟨rfl, hbl7⟩ := hR
 refine ⟨_, rfl, ?_⟩
 replace hb1 := Below.old hbl7 hb1
 replace hb2 := Below.old hbl7 hb2
 replace hb3 := Below.old hbl7 hb3
 replace hb4 := Below.old hbl7 hb4
 replace hB := Below.andThen hB hbl7
 refine At.move rfl rfl ?_
 refine At.extract rfl rfl rfl ?_
 refine At.extract rfl rfl rfl ?_
 refine At.assign rfl rfl ?_
 refine At.assign rfl rfl ?_
 refine At.ops0 ?_
 refine At.thenN ?_
 refine At.seq ?_
 refine At.region ?_
 refine At.move rfl rfl ?_
 refine At.eqB' (a := (termL (ownTm 10 0 (⟨#[43]⟩ : ByteArray) (⟨#[]⟩ : ByteArray) 0 (.slice (some ⟨b3, 0, none⟩) 2 2) [(ownTm 6 0 (⟨#[]⟩ : ByteArray) (⟨#[]⟩ : ByteArray) 0 (.slice (some ⟨b1, 0, none⟩) 2 2) [(ownTm 1 0 (⟨#[102]⟩ : ByteArray) (⟨#[]⟩ : ByteArray) 0 (.slice none 0 0) []), (ownTm 1 0 (⟨#[120]⟩ : ByteArray) (⟨#[]⟩ : ByteArray) 0 (.slice none 0 0) [])]), (ownTm 2 0 (⟨#[]⟩ : ByteArray) (⟨#[]⟩ : ByteArray) 1 (.slice none 0 0) [])]))) (b := ([40, 32, 102, 32, 120, 32, 41, 32, 43, 32, 49] : List UInt8)) rfl rfl rfl ?_
 refine At.move rfl rfl ?_
 have hbb1 : (decide ((termL (ownTm 10 0 (⟨#[43]⟩ : ByteArray) (⟨#[]⟩ : ByteArray) 0 (.slice (some ⟨b3, 0, none⟩) 2 2) [(ownTm 6 0 (⟨#[]⟩ : ByteArray) (⟨#[]⟩ : ByteArray) 0 (.slice (some ⟨b1, 0, none⟩) 2 2) [(ownTm 1 0 (⟨#[102]⟩ : ByteArray) (⟨#[]⟩ : ByteArray) 0 (.slice none 0 0) []), (ownTm 1 0 (⟨#[120]⟩ : ByteArray) (⟨#[]⟩ : ByteArray) 0 (.slice none 0 0) [])]), (ownTm 2 0 (⟨#[]⟩ : ByteArray) (⟨#[]⟩ : ByteArray) 1 (.slice none 0 0) [])])) = ([40, 32, 102, 32, 120, 32, 41, 32, 43, 32, 49] : List UInt8))) = true := decide_eq_true (sh_text _ _).1
 refine At.set (d := 43) (u := .bool true) rfl (congrArg Value.bool hbb1) ?_
 refine At.yes rfl rfl rfl rfl ?_
 refine At.move rfl rfl ?_
 refine At.yes rfl rfl rfl rfl ?_
 refine At.eqI rfl rfl rfl ?_
 refine At.pickT rfl rfl rfl ?_
 refine At.move rfl rfl ?_
 have hbb2 : (decide ((if writtenB (ownTm 10 0 (⟨#[43]⟩ : ByteArray) (⟨#[]⟩ : ByteArray) 0 (.slice (some ⟨b3, 0, none⟩) 2 2) [(ownTm 6 0 (⟨#[]⟩ : ByteArray) (⟨#[]⟩ : ByteArray) 0 (.slice (some ⟨b1, 0, none⟩) 2 2) [(ownTm 1 0 (⟨#[102]⟩ : ByteArray) (⟨#[]⟩ : ByteArray) 0 (.slice none 0 0) []), (ownTm 1 0 (⟨#[120]⟩ : ByteArray) (⟨#[]⟩ : ByteArray) 0 (.slice none 0 0) [])]), (ownTm 2 0 (⟨#[]⟩ : ByteArray) (⟨#[]⟩ : ByteArray) 1 (.slice none 0 0) [])]) then (0 : Int) else 1) = 0)) = true := decide_eq_true (by rw [(sh_written _ _).1]; rfl)
 refine At.set (d := 47) (u := .bool true) rfl (congrArg Value.bool hbb2) ?_
 refine At.yes rfl rfl rfl rfl ?_
 refine At.move rfl rfl ?_
 refine At.yes rfl rfl rfl rfl ?_
 refine At.eqB' (a := (termL (ownTm 6 0 (⟨#[]⟩ : ByteArray) (⟨#[]⟩ : ByteArray) 0 (.slice (some ⟨b4, 0, none⟩) 2 2) [(ownTm 6 0 (⟨#[]⟩ : ByteArray) (⟨#[]⟩ : ByteArray) 0 (.slice (some ⟨b1, 0, none⟩) 2 2) [(ownTm 1 0 (⟨#[102]⟩ : ByteArray) (⟨#[]⟩ : ByteArray) 0 (.slice none 0 0) []), (ownTm 1 0 (⟨#[120]⟩ : ByteArray) (⟨#[]⟩ : ByteArray) 0 (.slice none 0 0) [])]), (ownTm 1 0 (⟨#[121]⟩ : ByteArray) (⟨#[]⟩ : ByteArray) 0 (.slice none 0 0) [])]))) (b := ([102, 32, 120, 32, 121] : List UInt8)) rfl rfl rfl ?_
 refine At.pickT rfl rfl rfl ?_
 refine At.move rfl rfl ?_
 have hbb3 : (decide ((termL (ownTm 6 0 (⟨#[]⟩ : ByteArray) (⟨#[]⟩ : ByteArray) 0 (.slice (some ⟨b4, 0, none⟩) 2 2) [(ownTm 6 0 (⟨#[]⟩ : ByteArray) (⟨#[]⟩ : ByteArray) 0 (.slice (some ⟨b1, 0, none⟩) 2 2) [(ownTm 1 0 (⟨#[102]⟩ : ByteArray) (⟨#[]⟩ : ByteArray) 0 (.slice none 0 0) []), (ownTm 1 0 (⟨#[120]⟩ : ByteArray) (⟨#[]⟩ : ByteArray) 0 (.slice none 0 0) [])]), (ownTm 1 0 (⟨#[121]⟩ : ByteArray) (⟨#[]⟩ : ByteArray) 0 (.slice none 0 0) [])])) = ([102, 32, 120, 32, 121] : List UInt8))) = true := decide_eq_true (sh_text _ _).2.1
 refine At.set (d := 51) (u := .bool true) rfl (congrArg Value.bool hbb3) ?_
 refine At.yes rfl rfl rfl rfl ?_
 refine At.move rfl rfl ?_
 refine At.yes rfl rfl rfl rfl ?_
 refine At.eqI rfl rfl rfl ?_
 refine At.pickT rfl rfl rfl ?_
 refine At.move rfl rfl ?_
 have hbb4 : (decide ((if writtenB (ownTm 6 0 (⟨#[]⟩ : ByteArray) (⟨#[]⟩ : ByteArray) 0 (.slice (some ⟨b4, 0, none⟩) 2 2) [(ownTm 6 0 (⟨#[]⟩ : ByteArray) (⟨#[]⟩ : ByteArray) 0 (.slice (some ⟨b1, 0, none⟩) 2 2) [(ownTm 1 0 (⟨#[102]⟩ : ByteArray) (⟨#[]⟩ : ByteArray) 0 (.slice none 0 0) []), (ownTm 1 0 (⟨#[120]⟩ : ByteArray) (⟨#[]⟩ : ByteArray) 0 (.slice none 0 0) [])]), (ownTm 1 0 (⟨#[121]⟩ : ByteArray) (⟨#[]⟩ : ByteArray) 0 (.slice none 0 0) [])]) then (0 : Int) else 1) = 0)) = true := decide_eq_true (by rw [(sh_written _ _).2.1]; rfl)
 refine At.set (d := 55) (u := .bool true) rfl (congrArg Value.bool hbb4) ?_
 refine At.yes rfl rfl rfl rfl ?_
 refine At.move rfl rfl ?_
 refine At.yes rfl rfl rfl rfl ?_
 refine At.eqI rfl rfl rfl ?_
 refine At.pickT rfl rfl rfl ?_
 refine At.move rfl rfl ?_
 have hbb5 : (decide ((if RightB (mkPr (.slice none 0 0) (.slice none 0 0) [] [] (ownTm 0 0 (⟨#[]⟩ : ByteArray) (⟨#[]⟩ : ByteArray) 0 (.slice none 0 0) [])) then (0 : Int) else 1) = 1)) = true := decide_eq_true (by rw [right_bodyPr, zero_written]; rfl)
 refine At.set (d := 59) (u := .bool true) rfl (congrArg Value.bool hbb5) ?_
 refine At.yes rfl rfl rfl rfl ?_
 refine At.move rfl rfl ?_
 refine At.yes rfl rfl rfl rfl ?_
 refine At.eqB' (a := (printL (mkPr (.slice none 0 0) (.slice none 0 0) [] [] (ownTm 6 0 (⟨#[]⟩ : ByteArray) (⟨#[]⟩ : ByteArray) 0 (.slice (some ⟨b1, 0, none⟩) 2 2) [(ownTm 1 0 (⟨#[102]⟩ : ByteArray) (⟨#[]⟩ : ByteArray) 0 (.slice none 0 0) []), (ownTm 1 0 (⟨#[120]⟩ : ByteArray) (⟨#[]⟩ : ByteArray) 0 (.slice none 0 0) [])])))) (b := ([102, 32, 120] : List UInt8)) rfl rfl rfl ?_
 refine At.pickT rfl rfl rfl ?_
 refine At.move rfl rfl ?_
 have hbb6 : (decide ((printL (mkPr (.slice none 0 0) (.slice none 0 0) [] [] (ownTm 6 0 (⟨#[]⟩ : ByteArray) (⟨#[]⟩ : ByteArray) 0 (.slice (some ⟨b1, 0, none⟩) 2 2) [(ownTm 1 0 (⟨#[102]⟩ : ByteArray) (⟨#[]⟩ : ByteArray) 0 (.slice none 0 0) []), (ownTm 1 0 (⟨#[120]⟩ : ByteArray) (⟨#[]⟩ : ByteArray) 0 (.slice none 0 0) [])]))) = ([102, 32, 120] : List UInt8))) = true := decide_eq_true (by rw [text_bodyPr]; exact (sh_text _ .nilFunc).2.2)
 refine At.set (d := 63) (u := .bool true) rfl (congrArg Value.bool hbb6) ?_
 refine At.yes rfl rfl rfl rfl ?_
 refine At.move rfl rfl ?_
 refine At.yes rfl rfl rfl rfl ?_
 refine At.eqI rfl rfl rfl ?_
 refine At.pickT rfl rfl rfl ?_
 refine At.move rfl rfl ?_
 have hbb7 : (decide ((if RightB (mkPr (.slice none 0 0) (.slice none 0 0) [] [] (ownTm 6 0 (⟨#[]⟩ : ByteArray) (⟨#[]⟩ : ByteArray) 0 (.slice (some ⟨b1, 0, none⟩) 2 2) [(ownTm 1 0 (⟨#[102]⟩ : ByteArray) (⟨#[]⟩ : ByteArray) 0 (.slice none 0 0) []), (ownTm 1 0 (⟨#[120]⟩ : ByteArray) (⟨#[]⟩ : ByteArray) 0 (.slice none 0 0) [])])) then (0 : Int) else 1) = 0)) = true := decide_eq_true (by rw [right_bodyPr, (sh_written _ .nilFunc).2.2]; rfl)
 refine At.set (d := 67) (u := .bool true) rfl (congrArg Value.bool hbb7) ?_
 refine At.yes rfl rfl rfl rfl ?_
 refine At.load rfl (Ld.own (C := #[.int .i64 6, .int .i64 0, .string (⟨#[]⟩ : ByteArray), .string (⟨#[]⟩ : ByteArray), .int .i64 0, (.slice (some ⟨b1, 0, none⟩) 2 2), (.slice none 0 0), .int .i64 0, .string (⟨#[]⟩ : ByteArray), .int .i64 0, (.slice none 0 0), (.slice none 0 0), .int .i64 0, (.slice none 0 0), .int .i64 0, .int .i64 0, .string (⟨#[]⟩ : ByteArray), .int .i64 0, (.slice none 0 0), (.slice none 0 0), .int .i64 0]) ag33 sz33 hb2) rfl ?_
 refine At.yes rfl rfl rfl rfl ?_
 refine At.build (C := splice #[(.slice none 0 0), (.slice none 0 0), .int .i64 0, .int .i64 0, .string (⟨#[]⟩ : ByteArray), .string (⟨#[]⟩ : ByteArray), .int .i64 0, (.slice none 0 0), (.slice none 0 0), .int .i64 0, .string (⟨#[]⟩ : ByteArray), .int .i64 0, (.slice none 0 0), (.slice none 0 0), .int .i64 0, (.slice none 0 0), .int .i64 0, .int .i64 0, .string (⟨#[]⟩ : ByteArray), .int .i64 0, (.slice none 0 0), (.slice none 0 0), .int .i64 0] 2 (ownTm 6 0 (⟨#[]⟩ : ByteArray) (⟨#[]⟩ : ByteArray) 0 (.slice (some ⟨b1, 0, none⟩) 2 2) [(ownTm 1 0 (⟨#[102]⟩ : ByteArray) (⟨#[]⟩ : ByteArray) 0 (.slice none 0 0) []), (ownTm 1 0 (⟨#[120]⟩ : ByteArray) (⟨#[]⟩ : ByteArray) 0 (.slice none 0 0) [])]).cs) sd35 ze35 rfl (Bld.cons fo35_2 ((ownTm_ok (m := 2) 6 0 (⟨#[]⟩ : ByteArray) (⟨#[]⟩ : ByteArray) 0 hb1 (mem2 (((ownTm_leaf _ 1 0 (⟨#[102]⟩ : ByteArray) (⟨#[]⟩ : ByteArray) 0)).keep (Below.refl _ _)) (((ownTm_leaf _ 1 0 (⟨#[120]⟩ : ByteArray) (⟨#[]⟩ : ByteArray) 0)).keep (Below.refl _ _))) rfl (by decide))).size (by decide) (Bld.nil _)) rfl ?_
 refine At.set (d := 69) (u := .agg (mkPr (.slice none 0 0) (.slice none 0 0) [] [] (ownTm 6 0 (⟨#[]⟩ : ByteArray) (⟨#[]⟩ : ByteArray) 0 (.slice (some ⟨b1, 0, none⟩) 2 2) [(ownTm 1 0 (⟨#[102]⟩ : ByteArray) (⟨#[]⟩ : ByteArray) 0 (.slice none 0 0) []), (ownTm 1 0 (⟨#[120]⟩ : ByteArray) (⟨#[]⟩ : ByteArray) 0 (.slice none 0 0) [])])).cs) rfl (congrArg Value.agg (splice_pr (by simp) ((ownTm_ok (m := 2) 6 0 (⟨#[]⟩ : ByteArray) (⟨#[]⟩ : ByteArray) 0 hb1 (mem2 (((ownTm_leaf _ 1 0 (⟨#[102]⟩ : ByteArray) (⟨#[]⟩ : ByteArray) 0)).keep (Below.refl _ _)) (((ownTm_leaf _ 1 0 (⟨#[120]⟩ : ByteArray) (⟨#[]⟩ : ByteArray) 0)).keep (Below.refl _ _))) rfl (by decide))).size rfl rfl)) ?_
 refine At.yes rfl rfl rfl rfl ?_
 refine At.call en10 rfl rfl (Right_any (mkPr (.slice none 0 0) (.slice none 0 0) [] [] (ownTm 6 0 (⟨#[]⟩ : ByteArray) (⟨#[]⟩ : ByteArray) 0 (.slice (some ⟨b1, 0, none⟩) 2 2) [(ownTm 1 0 (⟨#[102]⟩ : ByteArray) (⟨#[]⟩ : ByteArray) 0 (.slice none 0 0) []), (ownTm 1 0 (⟨#[120]⟩ : ByteArray) (⟨#[]⟩ : ByteArray) 0 (.slice none 0 0) [])])) m _ (((mkPr_ok (RowsAt.nil _ 2) (RowsAt.nil _ 2) (fun _ h => by cases h) (fun _ h => by cases h) (((ownTm_ok (m := 2) 6 0 (⟨#[]⟩ : ByteArray) (⟨#[]⟩ : ByteArray) 0 hb1 (mem2 (((ownTm_leaf _ 1 0 (⟨#[102]⟩ : ByteArray) (⟨#[]⟩ : ByteArray) 0)).keep (Below.refl _ _)) (((ownTm_leaf _ 1 0 (⟨#[120]⟩ : ByteArray) (⟨#[]⟩ : ByteArray) 0)).keep (Below.refl _ _))) rfl (by decide))).keep (Below.refl _ _)))).keep (Below.refl _ _)) (⟨(fun x h => by cases h), (fun x h => by cases h), (by refine sz_own _ _ _ _ _ _ _ (by decide) (by decide) (by decide) ?_; simp only [szL, szA, szT, ownTm] <;> decide)⟩) (cell_keep hm hB)) (fun e w13 hR => ?_)
 obtain ⟨rfl, hbl8⟩ := hR
 refine ⟨_, rfl, ?_⟩
 replace hb1 := Below.old hbl8 hb1
 replace hb2 := Below.old hbl8 hb2
 replace hb3 := Below.old hbl8 hb3
 replace hb4 := Below.old hbl8 hb4
 replace hB := Below.andThen hB hbl8
 refine At.pickT rfl rfl rfl ?_
 refine At.assign rfl rfl ?_
 refine At.ops0 ?_
 refine At.thenN ?_
 refine At.retc ?_
 refine At.doneR (ResV.tmp rfl ResV.nil) ?_
 exact ⟨congrArg Ending.returned (congrArg Value.bool (show (RightB (mkPr (.slice none 0 0) (.slice none 0 0) [] [] (ownTm 6 0 (⟨#[]⟩ : ByteArray) (⟨#[]⟩ : ByteArray) 0 (.slice (some ⟨b1, 0, none⟩) 2 2) [(ownTm 1 0 (⟨#[102]⟩ : ByteArray) (⟨#[]⟩ : ByteArray) 0 (.slice none 0 0) []), (ownTm 1 0 (⟨#[120]⟩ : ByteArray) (⟨#[]⟩ : ByteArray) 0 (.slice none 0 0) [])]))) = true by rw [right_bodyPr]; exact (sh_written _ .nilFunc).2.2)), hB⟩
end Go.Proofs.YtkclecfbjfdfkaaGreatDoor
